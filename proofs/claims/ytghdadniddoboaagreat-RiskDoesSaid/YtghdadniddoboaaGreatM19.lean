import Derived.Test.YtghdadniddoboaaGreatM18
import Derived.Test.YtghdadniddoboaaGreatM14
/- The reference's ledger: swaps; made new; copied. -/
namespace Go.Proofs.YtghdadniddoboaaGreat
open Go Go.Sy Go.Value
set_option linter.unusedVariables false
set_option linter.unusedSimpArgs false

theorem S_turn2 {a b : Int} (ha : I64 a) (hb : I64 b) {h : Heap} {Q : Int → Int → Heap → Prop} (k : ∀ h', h.le h' → Q (fit (a - b)).1 (fit (a - b)).2 h') :
    CallA Tryz.prog fn_ref01_Of [.int .i64 a] h fun (v : Value) (h : Heap) => ∃ (b1 : Bool), ∃ (a1 : Option Addr), ∃ (n : Nat), ∃ (m : Nat), v = agg #[Value.bool b1, slice a1 n m] ∧
      CallA Tryz.prog fn_ref01_Of [.int .i64 b] h fun (v : Value) (h : Heap) => ∃ (b2 : Bool), ∃ (a2 : Option Addr), ∃ (n2 : Nat), ∃ (m2 : Nat), v = agg #[Value.bool b2, slice a2 n2 m2] ∧
        CallA Tryz.prog fn_ref01_Turned [agg #[Value.bool b2, slice a2 n2 m2]] h fun (v : Value) (h : Heap) => ∃ (b2 : Bool), ∃ (a2 : Option Addr), ∃ (n2 : Nat), ∃ (m2 : Nat), v = agg #[Value.bool b2, slice a2 n2 m2] ∧
        CallA Tryz.prog fn_ref01_Add [agg #[Value.bool b1, slice a1 n m], agg #[Value.bool b2, slice a2 n2 m2]] h fun (v : Value) (h : Heap) => ∃ (b3 : Bool), ∃ (a3 : Option Addr), ∃ (n3 : Nat), ∃ (m3 : Nat), v = agg #[Value.bool b3, slice a3 n3 m3] ∧
          CallA Tryz.prog fn_ref01_Fit [agg #[Value.bool b3, slice a3 n3 m3]] h fun (v : Value) (h : Heap) => ∃ (x : Int), ∃ (e : Int), v = tuple #[.int .i64 x, .int .i64 e] ∧ Q x e h := by
  refine S_Of ha fun v1 h1 l1 bn1 => ?_
  have br1 := bn1.raw
  obtain ⟨n1, p1, c1, d1, rfl, _⟩ := bn1
  refine ⟨_, _, _, _, rfl, S_Of hb fun v2 h2 l2 bn2 => ?_⟩
  have br2 := bn2.raw
  obtain ⟨n2, p2, c2, d2, rfl, _⟩ := bn2
  refine ⟨_, _, _, _, rfl, S_Turned br2 (by omega) fun v5 h5 l5 bn5 => ?_⟩
  have br5 := bn5.raw
  obtain ⟨n5, p5, c5, d5, rfl, _⟩ := bn5
  refine ⟨_, _, _, _, rfl, S_Add_Big (br1.le (Heap.le_trans l2 l5)) br5 (Nat.le_refl _) (Nat.le_refl _) (by omega) fun v3 h3 l3 bn3 => ?_⟩
  have br3 := bn3.raw
  obtain ⟨n3, p3, c3, d3, rfl, _⟩ := bn3
  exact ⟨_, _, _, _, rfl, S_Fit br3 (by omega) fun h4 l4 => ⟨_, _, rfl, k h4 (Heap.le_trans l1 (Heap.le_trans l2 (Heap.le_trans l5 (Heap.le_trans l3 l4))))⟩⟩
section
variable {h0 h : Heap} {K : Value → Heap → Prop} {g : XFr} {S : Lg}
theorem S_xSwap (l0 : h0.le h) (fr : ∀ x, g.D S.M.length x = true → h0 x = none) (A : XAt h g S) {m get give got given : Int} (ha : I64 got) (hb : I64 given) (k : ∀ h', h0.le h' → XAt h' g (swapG S m get give got given).2 → K (.int .i64 (swapG S m get give got given).1) h') :
    CallA Tryz.prog fn_pref08_Ledger_Swap [pointer (some ⟨g.p, 0, none⟩), .int .i64 m, .int .i64 get, .int .i64 give, .int .i64 got, .int .i64 given] h K := by
  refine F_pref08_Ledger_Swap _ _ _ _ _ _ _ _ ?_
  unfold F_pref08_Ledger_SwapT
  unfold swapG at k
  refine S_xHas A ⟨_, rfl, ?_⟩
  by_cases h1 : hasB S m get = false
  · rw [if_pos h1] at k
    rw [h1]
    exact Br.yes rfl (Ret.mk (k h l0 A))
  rw [if_neg h1] at k
  have h1 : hasB S m get = true := by simpa using h1
  rw [h1]
  refine Br.no rfl (S_xHas A ⟨_, rfl, ?_⟩)
  by_cases h2 : hasB S m give = false
  · rw [if_pos h2] at k
    rw [h2]
    exact Br.yes rfl (Ret.mk (k h l0 A))
  rw [if_neg h2] at k
  have h2 : hasB S m give = true := by simpa using h2
  rw [h2]
  by_cases h3 : get = give
  · rw [if_pos h3] at k
    exact Br.no rfl (Br.yes (by simpa using h3) (Ret.mk (k h l0 A)))
  rw [if_neg h3] at k
  refine Br.no rfl (Br.no (by simpa using h3) (Br.dec (fun h4 => ?_) fun h4 => Br.dec (fun h5 => ?_) fun h5 => ?_))
  · rw [if_pos h4] at k
    exact Ret.mk (k h l0 A)
  · rw [if_neg h4, if_pos h5] at k
    exact Ret.mk (k h l0 A)
  rw [if_neg h4, if_neg h5] at k
  obtain ⟨i, j, rfl, rfl, hi, hj⟩ := hasB_t h1
  obtain ⟨i', v, e, rfl, _, hv⟩ := hasB_t h2
  have hne : v ≠ j := fun e => h3 (by rw [e])
  simp only [Int.toNat_natCast] at k
  refine L_pref08_Ledger_Swap_1003r _ _ _ _ _ _ _ _ ?_
  unfold L_pref08_Ledger_Swap_1003T
  refine A.getN hv (Br.dec (fun h6 => ?_) fun h6 => ?_)
  · rw [if_pos h6] at k
    exact Ret.mk (k h l0 A)
  rw [if_neg h6] at k
  refine L_pref08_Ledger_Swap_1005r _ _ _ _ _ _ _ _ ?_
  unfold L_pref08_Ledger_Swap_1005T
  refine A.getM hi hj (S_fit2 (A.sz.i64 i j) ha fun h1' l1 => (A.le l1).getN hj (S_fit2 (A.sz.n64 j) ha fun h2' l2 => ((A.le l1).le l2).getM hi hv (S_turn2 (A.sz.i64 i v) hb fun h3' l3 => ?_)))
  have l13 := Heap.le_trans l1 (Heap.le_trans l2 l3)
  have l03 := Heap.le_trans l0 l13
  have A0 := A.le l13
  by_cases h7 : (fit (rdM S.M i j + got)).2 ≠ 0
  · rw [if_pos h7] at k
    exact Br.yes (by simpa using h7) (Ret.mk (k h3' l03 A0))
  rw [if_neg h7] at k
  by_cases h9 : (fit (S.N.getD j 0 + got)).2 ≠ 0
  · rw [if_pos h9] at k
    exact Br.no (by simpa using h7) (Br.yes (by simpa using h9) (Ret.mk (k h3' l03 A0)))
  rw [if_neg h9] at k
  by_cases h10 : (fit (rdM S.M i v - given)).2 ≠ 0
  · rw [if_pos h10] at k
    exact Br.no (by simpa using h7) (Br.no (by simpa using h9) (Br.yes (by simpa using h10) (Ret.mk (k h3' l03 A0))))
  rw [if_neg h10] at k
  rw [fit_e h7, fit_e h9, fit_e h10]
  refine Br.no (by simpa using h7) (Br.no (by simpa using h9) (Br.no (by simpa using h10) ?_))
  refine L_pref08_Ledger_Swap_1010r _ _ _ _ _ _ _ _ _ _ ?_
  unfold L_pref08_Ledger_Swap_1010T
  have g2 := A.sz.n64 v
  unfold I64 at g2 hb
  have e2 : IntKind.wrap IntKind.i64 (S.N.getD v 0 - given) = S.N.getD v 0 - given := wrap_i64_id (by omega) (by omega)
  have A1 := A0.wrR (v := rdM S.M i j + got) hi hj (fit_in h7)
  have A2 := A1.wrN (v := S.N.getD j 0 + got) hj (fit_in h9)
  have hl : (wnG (wrG S i j (rdM S.M i j + got)) j (S.N.getD j 0 + got)).M.length = S.M.length := (A.sz.sh.wr hi).1
  have hi2 : i < (wnG (wrG S i j (rdM S.M i j + got)) j (S.N.getD j 0 + got)).M.length := by rw [hl]; exact hi
  have A3 := A2.wrR (i := i) (c := v) (v := rdM S.M i v - given) hi2 hv (fit_in h10)
  have A4 := A3.wrN (c := v) (v := S.N.getD v 0 - given) hv (by unfold I64; omega)
  have hnos := A3.nat hv
  have e3 : (wrG (wnG (wrG S i j (rdM S.M i j + got)) j (S.N.getD j 0 + got)) i v (rdM S.M i v - given)).N.getD v 0 = S.N.getD v 0 := by
    show (S.N.set j _).getD v 0 = _
    rw [getD_set _ _ _ _ (by rw [A.sz.N8]; have := A.sz.c8; omega), if_neg hne]
  rw [e3] at hnos
  have r1 := fr _ (XFr.D_f (g.f.D_row hi))
  have r2 := fr _ (g.D_q S.M.length)
  refine A0.putM hi hj ⟨A0.stR hi hj, A1.putN hj ⟨A1.stN hj, A2.putM hi2 hv ⟨A2.stR hi2 hv, withAddr_intro rfl ⟨_, _, _, A3.nos, withAddr_intro rfl ⟨_, _, _, A3.nos, by omega, by (show (v : Int) < (S.cur : Int); omega), withAddr_intro rfl ⟨_, hnos, by omega, by (show (v : Int) < (S.cur : Int); omega), withAddr_intro rfl ⟨A3.stN hv, Ret.mk ?_⟩⟩⟩⟩⟩⟩⟩
  rw [e2]
  exact k _ (le_setN (le_setN (le_setN (le_setN l03 r1) r2) r1) r2) A4
end
/-! rows, one by one, behind a pointer -/
structure XNew (h0 h : Heap) (x B : Nat) (bs : List Value) (w bc : Nat) (a : Option Addr) (C : Nat) (R CC : Nat → Nat) (SP : Nat → List Value) (M : Mx) : Prop where
  rb : RwB h0 h a C R CC SP M w
  ax : At h x [.slice a M.length C, .slice (some ⟨B, 0, none⟩) w bc]
  ab : At h B bs
  nx : h0 x = none
  nB : h0 B = none
  xB : B ≠ x
  dx : a ≠ some ⟨x, 0, none⟩
  dB : a ≠ some ⟨B, 0, none⟩
  rx : ∀ i, i < M.length → R i ≠ x
  rB : ∀ i, i < M.length → R i ≠ B
section
variable {h0 h : Heap} {x B w bc : Nat} {bs : List Value} {a : Option Addr} {C : Nat} {R CC : Nat → Nat} {SP : Nat → List Value} {M : Mx}
theorem XNew.le {h' : Heap} (I : XNew h0 h x B bs w bc a C R CC SP M) (l : h.le h') : XNew h0 h' x B bs w bc a C R CC SP M := { I with rb := I.rb.le l, ax := I.ax.le l, ab := I.ab.le l }
theorem XNew.push {t T : TypeId} (I : XNew h0 h x B bs w bc a C R CC SP M) {r c : Nat} {row : List Int} {sp : List Value} (nr : h0 r = none) (ar : At h r (intsV .i64 row ++ sp)) (na : a ≠ some ⟨r, 0, none⟩) (nR : ∀ i, i < M.length → R i ≠ r) (rx' : r ≠ x) (rB' : r ≠ B) (hw : row.length = w) (hs : M.length ≤ 1000) {n : Nat} (hn : M.length = n) {Q : Heap → Prop}
    (k : ∀ h' a' C' R' CC' SP', XNew h0 h' x B bs w bc a' C' R' CC' SP' (M ++ [row]) → Q h') :
    newB h [.slice (some ⟨r, 0, none⟩) w c] T fun s h1 => AppA [.slice none 0 0] t h1 a n C 1 (some ⟨s, 0, none⟩) fun a' C' h' => h'.canSt x 0 1 ∧ Q (h'.setN x 0 [.slice a' (n + 1) C']) := by
  refine I.rb.push nr ar na nR hw (by omega) hn fun s3 h3 a3 C3 h4 hs3 l3 I4 keep4 how4 => ?_
  have Ax3 := I.ax.le l3
  have Ab3 := I.ab.le l3
  have Ax4 := keepAt keep4 Ax3 I.dx
  refine ⟨Ax4.canSt (by simp), ?_⟩
  have dx4 := push_ne how4 Ax3 I.dx
  have dB4 := push_ne how4 Ab3 I.dB
  have rx4 : ∀ i, i < (M ++ [row]).length → (if i = M.length then r else R i) ≠ x := fun i hi => by
    rw [List.length_append, List.length_singleton] at hi
    split
    · exact rx'
    · exact I.rx i (by omega)
  have rB4 : ∀ i, i < (M ++ [row]).length → (if i = M.length then r else R i) ≠ B := fun i hi => by
    rw [List.length_append, List.length_singleton] at hi
    split
    · exact rB'
    · exact I.rB i (by omega)
  have Ax5 := Ax4.set (o := 0) (ws := [.slice a3 (n + 1) C3])
  have Ab5 := (keepAt keep4 Ab3 I.dB).set_ne (o := 0) (ws := [.slice a3 (n + 1) C3]) I.xB
  have hl5 : (M ++ [row]).length = n + 1 := by rw [List.length_append, hn]; rfl
  exact k _ a3 C3 _ _ _ ⟨I4.set I.nx dx4 rx4, by rw [hl5]; exact Ax5, Ab5, I.nx, I.nB, I.xB, dx4, dB4, rx4, rB4⟩
theorem XNew.ne (I : XNew h0 h x B bs w bc a C R CC SP M) {r : Nat} (hr : h r = none) : r ≠ x ∧ r ≠ B := ⟨fun e => I.ax.ne hr e.symm, fun e => I.ab.ne hr e.symm⟩
theorem XNew.fin {S : Lg} {qs : List Value} (I : XNew h0 h x B (intsV .i64 (S.N.take S.cur) ++ qs) S.cur bc a C R CC SP (cutM S)) (o : S.Sz) : ∃ g : XFr, g.p = x ∧ XAt h g S ∧ ∀ y, g.D S.M.length y = true → h0 y = none := by
  obtain ⟨rs, A, hf⟩ := I.rb.fin
  have hl := cutM_len S
  have nD : ∀ y, a ≠ some ⟨y, 0, none⟩ → (∀ i, i < (cutM S).length → R i ≠ y) → (⟨a, C, rs, R, CC, SP⟩ : Rws).D S.M.length y = false := fun y h1 h2 => by
    cases hd : (⟨a, C, rs, R, CC, SP⟩ : Rws).D S.M.length y with
    | false => rfl
    | true =>
      rcases Rws.D_t hd with ⟨_, e⟩ | ⟨i, hi, e⟩
      · exact (h1 e).elim
      · exact (h2 i (by omega) e).elim
  refine ⟨⟨x, ⟨a, C, rs, R, CC, SP⟩, B, bc, qs⟩, rfl, ⟨by rw [← hl]; exact I.ax, A, I.ab, nD x I.dx I.rx, I.xB, nD B I.dB I.rB, o⟩, fun y hy => ?_⟩
  rcases XFr.D_t hy with rfl | rfl | e
  · exact I.nx
  · exact I.nB
  · exact hf y (by rw [hl]; exact e)
end
section
variable {h0 h : Heap} {K : Value → Heap → Prop} {g : XFr} {S : Lg}
theorem S_xCopy (A : XAt h g S) (k : ∀ h' g', h.le h' → XAt h' g' S → (∀ y, g'.D S.M.length y = true → h y = none) → K (pointer (some ⟨g'.p, 0, none⟩)) h') : CallA Tryz.prog fn_pref08_Ledger_Copy [pointer (some ⟨g.p, 0, none⟩)] h K := by
  refine F_pref08_Ledger_Copy _ _ _ ?_
  unfold F_pref08_Ledger_CopyT
  have n16 := A.sz.n16
  have c1 := A.sz.c1
  have c8 := A.sz.c8
  have N8 := A.sz.N8
  have hl := cutM_len S
  have hNl : (S.N.take S.cur).length = S.cur := by rw [List.length_take]; omega
  intro r hr
  refine withAddr_intro rfl ⟨_, _, _, (A.le (le_ins hr)).nos, ?_⟩
  refine (own_new hr).push2 (by decide) (le_ins hr) (by omega) (ws := intsV .i64 (S.N.take S.cur)) (by rw [intsV_length, hNl]; simp) ((A.le (le_ins hr)).nd.toRd) (allCells_ints _ _) rfl fun p' c' h1 l1 w1' keep1 how1 => ?_
  rw [List.nil_append] at w1'
  rcases w1' with ⟨e, _, _⟩ | ⟨B, sp, rfl, nB, AB, _⟩
  · have := congrArg List.length e
    rw [intsV_length, hNl, List.length_nil] at this
    omega
  refine newB_at fun x h2 hx l2 Ax => ?_
  rw [Nat.zero_add] at Ax
  have l12 := Heap.le_trans l1 l2
  have main : ∀ (m j : Nat) (h3 : Heap) (a : Option Addr) (C : Nat) (R CC : Nat → Nat) (SP : Nat → List Value), m + j = S.M.length → XNew h h3 x B (intsV .i64 (S.N.take S.cur) ++ sp) S.cur c' a C R CC SP ((cutM S).take j) → L_pref08_Ledger_Copy_0 (some ⟨g.p, 0, none⟩) x (j : Int) h3 K := by
    intro m
    induction m with
    | zero =>
      intro j h3 a C R CC SP hj I
      refine L_pref08_Ledger_Copy_0r _ _ _ _ _ ?_
      unfold L_pref08_Ledger_Copy_0T
      rw [show (cutM S).take j = cutM S from List.take_of_length_le (by omega)] at I
      obtain ⟨g', ep, A', hf⟩ := I.fin A.sz
      have := k h3 g' I.rb.base A' hf
      rw [ep] at this
      exact withAddr_intro rfl ⟨_, _, _, (A.le I.rb.base).rows, Br.no (by simp; omega) (Ret.mk this)⟩
    | succ m ih =>
      intro j h3 a C R CC SP hj I
      refine L_pref08_Ledger_Copy_0r _ _ _ _ _ ?_
      unfold L_pref08_Ledger_Copy_0T
      have base := I.rb.base
      have A3 := A.le base
      have hjl : j < S.M.length := by omega
      have hjc : j < (cutM S).length := by omega
      obtain ⟨B2, eB2, hcl⟩ := A3.rw.cl hjc
      have htl : ((cutM S).take j).length = j := by rw [List.length_take]; omega
      have hrow := A3.rw.sh.row hjc
      have htk : (cutM S).take (j + 1) = (cutM S).take j ++ [(cutM S).getD j []] := by rw [List.take_add_one, List.getD_eq_getElem?_getD, List.getElem?_eq_getElem hjc]; rfl
      have ax3 := I.ax
      rw [htl] at ax3
      refine withAddr_intro rfl ⟨_, _, _, A3.rows, Br.yes (by simp; omega) ⟨_, _, _, ax3.cell rfl, withAddr_intro rfl ⟨_, _, _, A3.rows, by omega, by omega, withAddr_intro eB2 ⟨_, _, _, hcl, fun s hs => ?_⟩⟩⟩⟩
      refine (own_new hs).push2 (by decide) (le_ins hs) (by omega) (ws := intsV .i64 ((cutM S).getD j [])) (by rw [intsV_length, hrow]; simp) ((A3.le (le_ins hs)).rw.row j hjc).toRd (allCells_ints _ _) rfl fun p5 c5 h5 l5 w5 keep5 how5 => ?_
      rw [List.nil_append] at w5
      rcases w5 with ⟨e, _, _⟩ | ⟨r5, sp5, rfl, nr5, A5, _⟩
      · have := congrArg List.length e
        rw [intsV_length, hrow, List.length_nil] at this
        omega
      refine ⟨.inr fun b hb yy hy => ?_, ?_⟩
      · rw [List.mem_singleton] at hb
        subst hb
        exact keep5 b yy hy fun e => by cases e; exact I.ax.ne hs rfl
      · rw [Nat.zero_add]
        have fr := I.rb.fresh nr5
        have ne5 := I.ne nr5
        refine (I.le l5).push (Q := fun h' => L_pref08_Ledger_Copy_0 (some ⟨g.p, 0, none⟩) x (IntKind.wrap .i64 ((j : Int) + 1)) h' K) (none_of_le base nr5) A5 fr.1 fr.2 ne5.1 ne5.2 hrow (by omega) htl fun h6 a6 C6 R6 CC6 SP6 I6 => ?_
        rw [w1 (by omega)]
        rw [← htk] at I6
        exact ih (j + 1) h6 a6 C6 R6 CC6 SP6 (by omega) I6
  exact main S.M.length 0 h2 none 0 (fun _ => 0) (fun _ => 0) (fun _ => []) (by omega) ⟨RwB.nil _ _ l12 _, Ax, AB.le l2, none_of_le l1 hx, nB, AB.ne hx, fun e => (by cases e), fun e => (by cases e), fun i hi => absurd hi (by simp), fun i hi => absurd hi (by simp)⟩
theorem newG_cut (n w : Nat) (hw : w ≤ 8) : cutM (newG n w) = List.replicate n (List.replicate w 0) ∧ (newG n w).N.take (newG n w).cur = List.replicate w 0 := by
  constructor
  · show (List.replicate n (List.replicate 8 (0 : Int))).map (·.take w) = _
    rw [List.map_replicate, List.take_replicate, Nat.min_eq_left hw]
  · show (List.replicate 8 (0 : Int)).take w = _
    rw [List.take_replicate, Nat.min_eq_left hw]
theorem repL_zero (n : Nat) : repL n [Value.int .i64 0] = intsV .i64 (List.replicate n 0) := by
  induction n with
  | zero => rfl
  | succ n ih => rw [List.replicate_succ, intsV, ← ih]; rfl
theorem S_xNew {m c : Int} (k1 : ¬ (1 ≤ m ∧ m ≤ 16 ∧ 1 ≤ c ∧ c ≤ 8) → K (tuple #[.pointer none, .int .i64 1]) h)
    (k2 : ∀ n w : Nat, m = (n : Int) → c = (w : Int) → 1 ≤ n → n ≤ 16 → 1 ≤ w → w ≤ 8 → ∀ h' g, h.le h' → XAt h' g (newG n w) → (∀ y, g.D n y = true → h y = none) → K (tuple #[.pointer (some ⟨g.p, 0, none⟩), .int .i64 0]) h') :
    CallA Tryz.prog fn_ref08_New [.int .i64 m, .int .i64 c] h K := by
  refine F_ref08_New _ _ _ _ ?_
  unfold F_ref08_NewT
  refine Br.dec (fun h1 => Ret.mk (k1 (by omega))) fun h1 => Br.dec (fun h2 => Ret.mk (k1 (by omega))) fun h2 => Br.dec (fun h3 => Ret.mk (k1 (by omega))) fun h3 => Br.dec (fun h4 => Ret.mk (k1 (by omega))) fun h4 => ?_
  obtain ⟨n, rfl⟩ : ∃ n : Nat, m = n := ⟨m.toNat, by omega⟩
  obtain ⟨w, rfl⟩ : ∃ w : Nat, c = w := ⟨c.toNat, by omega⟩
  have o := (newG_ok (n := n) (c := w) (by omega) (by omega) (by omega) (by omega)).toSz
  obtain ⟨ec, eN⟩ := newG_cut n w (by omega)
  refine ⟨by omega, by omega, by omega, by omega, newB_at fun B h1 hB l1 AB => newB_at fun x h2 hx l2 Ax => ?_⟩
  rw [Int.toNat_natCast, repL_zero] at AB
  rw [Int.toNat_natCast] at Ax
  have l12 := Heap.le_trans l1 l2
  have main : ∀ (m j : Nat) (h3 : Heap) (a : Option Addr) (C : Nat) (R CC : Nat → Nat) (SP : Nat → List Value), m + j = n → XNew h h3 x B (intsV .i64 (List.replicate w 0) ++ []) w w a C R CC SP (List.replicate j (List.replicate w 0)) → L_ref08_New_0 (n : Int) (w : Int) x (j : Int) h3 K := by
    intro m
    induction m with
    | zero =>
      intro j h3 a C R CC SP hj I
      refine L_ref08_New_0r _ _ _ _ _ _ ?_
      unfold L_ref08_New_0T
      have hjn : j = n := by omega
      subst hjn
      rw [← ec, ← eN] at I
      obtain ⟨g', ep, A', hf⟩ := I.fin o
      have := k2 j w rfl rfl (by omega) (by omega) (by omega) (by omega) h3 g' I.rb.base A' (fun y hy => hf y (by unfold newG; rw [List.length_replicate]; exact hy))
      rw [ep] at this
      exact Br.no (by simp) (Ret.mk this)
    | succ m ih =>
      intro j h3 a C R CC SP hj I
      refine L_ref08_New_0r _ _ _ _ _ _ ?_
      unfold L_ref08_New_0T
      have base := I.rb.base
      have htl : (List.replicate j (List.replicate w (0 : Int))).length = j := List.length_replicate
      have ax3 := I.ax
      rw [htl] at ax3
      refine Br.yes (by simp; omega) ⟨_, _, _, ax3.cell rfl, by omega, by omega, by omega, by omega, newB_at fun r5 h5 nr5 l5 A5 => ?_⟩
      rw [Int.toNat_natCast, repL_zero] at A5
      rw [Int.toNat_natCast]
      have fr := I.rb.fresh nr5
      have ne5 := I.ne nr5
      refine (I.le l5).push (Q := fun h' => L_ref08_New_0 (n : Int) (w : Int) x (IntKind.wrap .i64 ((j : Int) + 1)) h' K) (row := List.replicate w 0) (sp := []) (none_of_le base nr5) (by rw [List.append_nil]; exact A5) fr.1 fr.2 ne5.1 ne5.2 List.length_replicate (by omega) htl fun h6 a6 C6 R6 CC6 SP6 I6 => ?_
      rw [w1 (by omega)]
      rw [← List.replicate_succ'] at I6
      exact ih (j + 1) h6 a6 C6 R6 CC6 SP6 (by omega) I6
  exact main n 0 h2 none 0 (fun _ => 0) (fun _ => 0) (fun _ => []) (by omega) ⟨RwB.nil _ _ l12 _, Ax, by rw [List.append_nil]; exact AB.le l2, none_of_le l1 hx, hB, AB.ne hx, fun e => (by cases e), fun e => (by cases e), fun i hi => absurd hi (by simp), fun i hi => absurd hi (by simp)⟩
end
end Go.Proofs.YtghdadniddoboaaGreat

/- The reference's ledger as bytes; and batches. -/
namespace Go.Proofs.YtghdadniddoboaaGreat
open Go Go.Sy Go.Value
set_option linter.unusedVariables false
set_option linter.unusedSimpArgs false

theorem S_xeight {h : Heap} {K : Value → Heap → Prop} {n : Int} (k : ∀ h' s, h.le h' → bytesI s = be8 n → K (string s) h') : CallA Tryz.prog fn_ref08_eight [.int .i64 n] h K := by
  refine F_ref08_eight _ _ _ ?_
  unfold F_ref08_eightT
  generalize hu : IntKind.wrap .u64 n = u0
  have hu : u0 = n % 18446744073709551616 := by rw [← hu]; rfl
  have main : ∀ (m i : Nat) (h1 : Heap) (e : ByteArray), m + i = 8 → h.le h1 → bytesI e = beF n i → L_ref08_eight_0 (u0 / 2 ^ (8 * i)) e (i : Int) h1 K := by
    intro m
    induction m with
    | zero =>
      intro i h1 e hi l0 he
      refine L_ref08_eight_0r _ _ _ _ _ ?_
      unfold L_ref08_eight_0T
      have hi8 : i = 8 := by omega
      subst hi8
      exact Br.no rfl (Ret.mk (k h1 e l0 he))
    | succ m ih =>
      intro i h1 e hi l0 he
      refine L_ref08_eight_0r _ _ _ _ _ ?_
      unfold L_ref08_eight_0T
      have hes : e.size = i := by rw [← bytesI_length, he, beF_length]
      have hp : (0 : Int) < 2 ^ (8 * i) := Int.pow_pos (by decide)
      have hu0 : 0 ≤ u0 / 2 ^ (8 * i) := Int.ediv_nonneg (by omega) (Int.le_of_lt hp)
      have hu1 : u0 / 2 ^ (8 * i) ≤ u0 := Int.ediv_le_self _ (by omega)
      have e1 : IntKind.wrap .u8 ((u0 / 2 ^ (8 * i)).tmod 256) = byteAt n i := by
        rw [← byte_mod n i (by omega), ← hu, wrap_u8, Int.tmod_eq_emod_of_nonneg hu0]
        unfold byteAt
        omega
      have e2 : IntKind.wrap .u64 ((u0 / 2 ^ (8 * i)).tdiv 256) = u0 / 2 ^ (8 * (i + 1)) := by
        rw [Int.tdiv_eq_ediv_of_nonneg hu0, div_next]
        have h3 : u0 / 2 ^ (8 * (i + 1)) ≤ u0 := Int.ediv_le_self _ (by omega)
        have h4 : 0 ≤ u0 / 2 ^ (8 * (i + 1)) := Int.ediv_nonneg (by omega) (Int.le_of_lt (Int.pow_pos (by decide)))
        exact wrap_u64_id h4 (by omega)
      refine Br.yes (by simp; omega) (newB_at fun r h2 hr l1 Ar => ?_)
      rw [e1] at Ar
      rw [e2, w1 (by omega)]
      have hb := byteAt_r n i
      have hby : bytes [byteAt n i] := fun b hb2 => by rw [List.mem_singleton] at hb2; rw [hb2]; exact hb
      have hsz : (strOf [byteAt n i]).size = 1 := strOf_size hby
      exact ⟨[byteAt n i], rfl, At.toRd (ws := []) Ar, by omega, ih (i + 1) h2 _ (by omega) (Heap.le_trans l0 l1) (by rw [bytesI_append, bytesI_strOf hby, he]; rfl)⟩
  have := main 8 0 h ⟨#[]⟩ rfl h.le_refl rfl
  rw [Nat.mul_zero, Int.pow_zero, Int.ediv_one] at this
  exact this
section
variable {h0 h : Heap} {K : Value → Heap → Prop} {g : XFr} {S : Lg}
theorem rowT_snoc {w c : Nat} {row : List Int} (hc : c < w) (hr : c < row.length) : (row.take (c + 1)).flatMap be8 = (row.take c).flatMap be8 ++ be8 (row.getD c 0) := by
  rw [List.take_add_one, List.getElem?_eq_getElem hr, List.flatMap_append, List.getD_eq_getElem?_getD, List.getElem?_eq_getElem hr]
  simp
theorem rowsT_drop {w j : Nat} {M : Mx} (hj : j < M.length) : rowsT w (M.drop j) = rowT w (M.getD j []) ++ rowsT w (M.drop (j + 1)) := by
  rw [List.drop_eq_getElem_cons hj, rowsT, List.getD_eq_getElem?_getD, List.getElem?_eq_getElem hj]; rfl
theorem S_xText (A : XAt h g S) (k : ∀ h', h.le h' → K (string (strOf (textG S))) h') : CallA Tryz.prog fn_pref08_Ledger_Text [pointer (some ⟨g.p, 0, none⟩)] h K := by
  refine F_pref08_Ledger_Text _ _ _ ?_
  unfold F_pref08_Ledger_TextT
  have n16 := A.sz.n16
  have c8 := A.sz.c8
  have N8 := A.sz.N8
  have hsm := textG_small A.sz
  have szle : ∀ {s : ByteArray} {t : List Int}, bytesI s ++ t = textG S → s.size ≤ 2000 := fun {s t} e => by
    have := congrArg List.length e
    rw [List.length_append, bytesI_length] at this; omega
  have m1 : ∀ (m j : Nat) (h1 : Heap) (s : ByteArray), m + j = S.M.length → h.le h1 → bytesI s ++ rowsT S.cur (S.M.drop j) = textG S → L_pref08_Ledger_Text_1 (some ⟨g.p, 0, none⟩) s (j : Int) h1 K := by
    intro m
    induction m with
    | zero =>
      intro j h1 s hj l1 e
      refine L_pref08_Ledger_Text_1r _ _ _ _ _ ?_
      unfold L_pref08_Ledger_Text_1T
      rw [List.drop_eq_nil_of_le (by omega), rowsT, List.append_nil] at e
      refine withAddr_intro rfl ⟨_, _, _, (A.le l1).rows, Br.no (by simp; omega) (Ret.mk ?_)⟩
      have := k h1 l1
      rw [← e, strOf_bytesI] at this
      exact this
    | succ m ih =>
      intro j h1 s hj l1 e
      refine L_pref08_Ledger_Text_1r _ _ _ _ _ ?_
      unfold L_pref08_Ledger_Text_1T
      have hjl : j < S.M.length := by omega
      have hrow := A.sz.sh.row hjl
      rw [rowsT_drop hjl] at e
      have ssz := szle e
      have m2 : ∀ (m c : Nat) (h2 : Heap) (s2 : ByteArray), m + c = S.cur → h.le h2 → bytesI s2 = bytesI s ++ ((S.M.getD j []).take c).flatMap be8 → L_pref08_Ledger_Text_2 (some ⟨g.p, 0, none⟩) s2 (j : Int) (c : Int) h2 K := by
        intro m
        induction m with
        | zero =>
          intro c h2 s2 hc l2 e2
          refine L_pref08_Ledger_Text_2r _ _ _ _ _ _ ?_
          unfold L_pref08_Ledger_Text_2T
          refine withAddr_intro rfl ⟨_, _, _, (A.le l2).nos, Br.no (by simp; omega) ?_⟩
          rw [w1 (by omega)]
          refine ih (j + 1) h2 s2 (by omega) l2 ?_
          have hcw : c = S.cur := by omega
          rw [e2, hcw, ← e, List.append_assoc]; rfl
        | succ m ih2 =>
          intro c h2 s2 hc l2 e2
          refine L_pref08_Ledger_Text_2r _ _ _ _ _ _ ?_
          unfold L_pref08_Ledger_Text_2T
          have A2 := A.le l2
          have hcc : c < S.cur := by omega
          have hs2 : s2.size ≤ 3000 := by
            rw [← bytesI_length, e2, List.length_append, be8_flat, bytesI_length]
            have : ((S.M.getD j []).take c).length ≤ 8 := by rw [List.length_take]; omega
            omega
          refine withAddr_intro rfl ⟨_, _, _, A2.nos, Br.yes (by simp; omega) (A2.getM hjl hcc (S_xeight fun h3 s3 l3 e3 => ⟨_, rfl, ?_, ?_⟩))⟩
          · have : s3.size = 8 := by rw [← bytesI_length, e3, be8_length]
            omega
          · rw [w1 (by omega)]
            refine ih2 (c + 1) h3 _ (by omega) (Heap.le_trans l2 l3) ?_
            rw [bytesI_append, e2, e3, rowT_snoc hcc (by omega), List.append_assoc]; rfl
      exact withAddr_intro rfl ⟨_, _, _, (A.le l1).rows, Br.yes (by simp; omega) (m2 S.cur 0 h1 s (by omega) l1 (by rw [List.take_zero]; simp))⟩
  have m0 : ∀ (m c : Nat) (h1 : Heap) (s : ByteArray), m + c = S.cur → h.le h1 → bytesI s = (S.M.length : Int) :: (S.cur : Int) :: (S.N.take c).flatMap be8 → L_pref08_Ledger_Text_0 (some ⟨g.p, 0, none⟩) s (c : Int) h1 K := by
    intro m
    induction m with
    | zero =>
      intro c h1 s hc l1 e
      refine L_pref08_Ledger_Text_0r _ _ _ _ _ ?_
      unfold L_pref08_Ledger_Text_0T
      have hcw : c = S.cur := by omega
      exact withAddr_intro rfl ⟨_, _, _, (A.le l1).nos, Br.no (by simp; omega) (m1 S.M.length 0 h1 s (by omega) l1 (by rw [e, hcw, List.drop_zero]; rfl))⟩
    | succ m ih =>
      intro c h1 s hc l1 e
      refine L_pref08_Ledger_Text_0r _ _ _ _ _ ?_
      unfold L_pref08_Ledger_Text_0T
      have A1 := A.le l1
      have hcc : c < S.cur := by omega
      have hs2 : s.size ≤ 3000 := by
        rw [← bytesI_length, e, List.length_cons, List.length_cons, be8_flat]
        have : (S.N.take c).length ≤ 8 := by rw [List.length_take]; omega
        omega
      refine withAddr_intro rfl ⟨_, _, _, A1.nos, Br.yes (by simp; omega) (A1.getN hcc (S_xeight fun h3 s3 l3 e3 => ⟨_, rfl, ?_, ?_⟩))⟩
      · have : s3.size = 8 := by rw [← bytesI_length, e3, be8_length]
        omega
      · rw [w1 (by omega)]
        refine ih (c + 1) h3 _ (by omega) (Heap.le_trans l1 l3) ?_
        rw [bytesI_append, e, e3, rowT_snoc hcc (by omega)]; rfl
  refine withAddr_intro rfl ⟨_, _, _, A.rows, withAddr_intro rfl ⟨_, _, _, A.nos, newB_at fun r h1 hr l1 Ar => ⟨[(S.M.length : Int), (S.cur : Int)], rfl, ?_, ?_⟩⟩⟩
  · rw [wrap_u8, wrap_u8, show (S.M.length : Int) % 256 = S.M.length by omega, show (S.cur : Int) % 256 = S.cur by omega] at Ar
    exact At.toRd (ws := []) Ar
  · refine m0 S.cur 0 h1 _ (by omega) l1 ?_
    rw [bytesI_strOf fun b hb => ?_]
    · rw [List.take_zero]; rfl
    · simp only [List.mem_cons, List.not_mem_nil, or_false] at hb
      rcases hb with rfl | rfl <;> omega
end
/-! a batch -/
structure BgR where
  b : Bool
  p : Option Addr
  n : Nat
  c : Nat
def bgV (x : BgR) : List Value := [.bool x.b, .slice x.p x.n x.c]
theorem bgV_len (x : BgR) : (bgV x).length = 2 := rfl
theorem bg_set (y : BgR) : ∀ (l : List BgR) (c : Nat), c < l.length → setL (l.flatMap bgV) (c * 2) (bgV y) = (l.set c y).flatMap bgV
  | [], c, h => by simp at h
  | x :: l, 0, h => rfl
  | x :: l, c + 1, h => by
    have := bg_set y l c (by simpa using h)
    rw [show (c + 1) * 2 = c * 2 + 1 + 1 by omega, List.set_cons_succ, List.flatMap_cons, List.flatMap_cons, ← this]
    rfl
theorem px1 {h : Heap} {p : Option Addr} {l : List Pst} {N : Nat} (C : Pos h p l) (hn : l.length = N) {j : Nat} {i : Int} (hi : i = (j : Int)) {x : Pst} (hx : l[j]? = some x) :
    (∀ {Q : Int → Prop}, Q x.m → 0 ≤ i ∧ i < (N : Int) ∧ withAddr p fun b o => ∃ n, h.cell b (o + i.toNat * 3) = some (.int .i64 n) ∧ Q n) ∧
    (∀ {Q : Int → Nat → Prop}, (∀ b o, p = some ⟨b, o, none⟩ → Q x.c b) → 0 ≤ i ∧ i < (N : Int) ∧ withAddr p fun b o => ∃ n, h.cell b (o + i.toNat * 3 + 1) = some (.int .i64 n) ∧ Q n b) ∧
    (∀ {Q : Int → Prop}, Q x.a → 0 ≤ i ∧ i < (N : Int) ∧ withAddr p fun b o => ∃ n, h.cell b (o + i.toNat * 3 + 2) = some (.int .i64 n) ∧ Q n) := by
  obtain ⟨h1, h2, h3⟩ := px C hn hi hx (Q := fun a b c => a = x.m ∧ b = x.c ∧ c = x.a) ⟨rfl, rfl, rfl⟩
  obtain ⟨b, o, e, n, g0, n1, g1, n2, g2, rfl, rfl, rfl⟩ := withAddr_elim h3
  exact ⟨fun k => ⟨h1, h2, withAddr_intro e ⟨_, g0, k⟩⟩, fun k => ⟨h1, h2, withAddr_intro e ⟨_, g1, k b o e⟩⟩, fun k => ⟨h1, h2, withAddr_intro e ⟨_, g2, k⟩⟩⟩
section
variable {h0 : Heap} {K : Value → Heap → Prop} {g : XFr} {S : Lg} {q : Option Addr} {b : List Pst} {n qc : Nat}
structure Sums (h1 h : Heap) (r w : Nat) (x : Nat → Int) (B : Nat) (bl : List BgR) : Prop where
  len : bl.length = w
  at' : At h r (bl.flatMap bgV)
  big : ∀ c y, bl[c]? = some y → BigN (h.del r) (agg #[.bool y.b, slice y.p y.n y.c]) (x c) B
theorem post_x1 {h1 : Heap} {r w : Nat} (X : Pos h1 q b) (hn : b.length = n) (hs : n ≤ 1000) (hI : ∀ x ∈ b, I64 x.a) (hc : ∀ x ∈ b, 0 ≤ x.c ∧ x.c < (w : Int)) (nr : h1 r = none)
    (k : ∀ h' bl, h1.le h' → Sums h1 h' r w (fun c => sumL (ofCur b (c : Int))) (n + 10) bl → L_pref08_Ledger_Post_2 (some ⟨g.p, 0, none⟩) q n qc (some ⟨r, 0, none⟩) w w 0 h' K) :
    ∀ (m j : Nat) (h : Heap) (bl : List BgR), m + j = n → h1.le h → Sums h1 h r w (fun c => sumL (ofCur (b.take j) (c : Int))) (j + 10) bl → L_pref08_Ledger_Post_1 (some ⟨g.p, 0, none⟩) q n qc (some ⟨r, 0, none⟩) w w (j : Int) h K
  | 0, j, h, bl, hj, l1, s => by
    refine L_pref08_Ledger_Post_1r _ _ _ _ _ _ _ _ _ _ ?_
    unfold L_pref08_Ledger_Post_1T
    have hjn : j = n := by omega
    subst hjn
    rw [show b.take j = b from List.take_of_length_le (by omega)] at s
    exact Br.no (by simp) (k h bl l1 s)
  | m + 1, j, h, bl, hj, l1, s => by
    refine L_pref08_Ledger_Post_1r _ _ _ _ _ _ _ _ _ _ ?_
    unfold L_pref08_Ledger_Post_1T
    have hx : b[j]? = some b[j] := List.getElem?_eq_getElem (by omega)
    have htk : b.take (j + 1) = b.take j ++ [b[j]] := by rw [List.take_add_one, hx]; rfl
    have hmem : b[j] ∈ b := List.getElem_mem _
    generalize b[j] = y at *
    obtain ⟨y1, y2⟩ := hc y hmem
    have hIy := hI y hmem
    obtain ⟨_, P2, P3⟩ := px1 (rdL_le l1 X) hn (rfl : (j : Int) = (j : Int)) hx
    obtain ⟨ym, yc, ya⟩ := y
    dsimp only at y1 y2 hIy P2 P3
    obtain ⟨c, rfl⟩ : ∃ c : Nat, yc = c := ⟨yc.toNat, by omega⟩
    have hcl : c < bl.length := by rw [s.len]; omega
    have hz : bl[c]? = some bl[c] := List.getElem?_eq_getElem hcl
    have big := s.big c _ hz
    generalize hzz : bl[c] = z at *
    have cellz : ∀ (i : Nat) (v : Value), (bgV z)[i]? = some v → i < 2 → h.cell r (0 + (c : Int).toNat * 2 + i) = some v := fun i v hv hi => s.at'.cell (by rw [Nat.zero_add, Int.toNat_natCast, arr_get bgV_len bl c i z hz hi]; exact hv)
    have hcw : (c : Int) < (w : Int) := by omega
    refine Br.yes (by simp; omega) (P2 fun bb oo eb => P2 fun b2 o2 eb2 => ⟨by omega, hcw, withAddr_intro rfl ⟨z.b, cellz 0 _ rfl (by omega), z.p, z.n, z.c, cellz 1 _ rfl (by omega), P3 (CallA.off s.at' (S_Of hIy fun v2 h2' l2 bn2 h2 q1 q2 q3 => ?_))⟩⟩)
    have br2 := bn2.raw
    obtain ⟨n2, p2, c2, d2, rfl, _⟩ := bn2
    have lh2 := le_of_del (Heap.le_trans l2 q1) q3
    have As2 := s.at'.le lh2
    have B2 := big.raw.le (del_mono lh2)
    refine ⟨_, _, _, _, rfl, .inl lh2, CallA.off As2 (S_Add_Big B2 (br2.le (le_del q1 q2)) (Nat.le_refl _) (by omega) (by omega) fun v3 h3' l3 bn3 h3 q4 q5 q6 => ?_)⟩
    have lh3 := le_of_del (Heap.le_trans l3 q4) q6
    have As3 := As2.le lh3
    have bn3' := bn3
    obtain ⟨n3, p3, c3, d3, rfl, _⟩ := bn3
    refine ⟨_, _, _, _, rfl, .inl lh3, by omega, hcw, withAddr_intro rfl ⟨As3.canSt (by rw [arr_len bgV_len, Int.toNat_natCast]; omega), ?_⟩⟩
    rw [w1 (by omega), Nat.zero_add, Int.toNat_natCast]
    have A4 := As3.set (o := c * 2) (ws := bgV ⟨n3, p3, d3.length, c3⟩)
    rw [bg_set _ _ _ hcl] at A4
    refine post_x1 X hn hs hI hc nr k m (j + 1) _ (bl.set c ⟨n3, p3, d3.length, c3⟩) (by omega) (le_setN (Heap.le_trans l1 (Heap.le_trans lh2 lh3)) nr) ⟨by rw [List.length_set]; exact s.len, A4, fun c' y' hy' => ?_⟩
    have moreN : ∀ {h : Heap} {v : Value} {x : Int} {b b' : Nat}, BigN h v x b → b ≤ b' → BigN h v x b' := fun {h v x b b'} ⟨neg, p, c, ds, a1, a2, a3, a4, a5, a6, a7⟩ l => ⟨neg, p, c, ds, a1, a2, a3, a4, a5, by omega, a7⟩
    have lw : (h.del r).le ((h3.setN r (c * 2) (bgV ⟨n3, p3, d3.length, c3⟩)).del r) := by rw [del_set]; exact del_mono (Heap.le_trans lh2 lh3)
    show BigN ((h3.setN r (c * 2) (bgV ⟨n3, p3, d3.length, c3⟩)).del r) _ (sumL (ofCur (b.take (j + 1)) (c' : Int))) _
    rw [htk, ofCur_snoc]
    rw [List.getElem?_set] at hy'
    by_cases e : c = c'
    · subst e
      rw [if_pos rfl, if_pos hcl] at hy'
      cases hy'
      rw [if_pos rfl]
      have hsn : ∀ (l : List Int) (v : Int), sumL (l ++ [v]) = sumL l + v := fun l v => by
        induction l with
        | nil => simp [sumL]
        | cons a l ih => rw [List.cons_append, sumL, sumL, ih]; omega
      rw [hsn]
      refine moreN (bn3'.le ?_) (by omega)
      rw [del_set]; exact le_del q4 q5
    · rw [if_neg e] at hy'
      rw [if_neg (fun x => e (by have x : (c : Int) = (c' : Int) := x; omega))]
      exact moreN ((s.big c' y' hy').le lw) (by omega)
theorem addsM_3' : ∀ (l : List Pst) (M : Mx), (addsM l M).1 ≠ 0 → (addsM l M).1 = 3
  | [], M, h => (h rfl).elim
  | a :: l, M, h => by
    rw [addsM] at h ⊢
    split
    · rfl
    · rename_i g; rw [if_neg g] at h; exact addsM_3' l _ h
theorem post_x3 {h1 : Heap} {gm : XFr} (X : Pos h1 q b) (hn : b.length = n) (hs : n ≤ 1000) (hI : ∀ x ∈ b, I64 x.a) (hh : ∀ x ∈ b, 0 ≤ x.m ∧ x.m < (S.M.length : Int) ∧ 0 ≤ x.c ∧ x.c < (S.cur : Int)) (fm : ∀ y, gm.D S.M.length y = true → h1 y = none) {res : Int × Mx}
    (A : XAt h1 g S) (k0 : ∀ h', h1.le h' → res.1 ≠ 0 → K (.int .i64 3) h') (k1 : ∀ h', h1.le h' → res.1 = 0 → XAt h' gm ⟨res.2, S.N, S.cur⟩ → Ret (h'.setN g.p 0 [.slice gm.f.a S.M.length gm.f.C]) K (.int .i64 0)) :
    ∀ (m j : Nat) (h : Heap) (M : Mx), m + j = n → h1.le h → shM M S.M.length 8 → XAt h gm ⟨M, S.N, S.cur⟩ → addsM (b.drop j) M = res → L_pref08_Ledger_Post_3 (some ⟨g.p, 0, none⟩) q n qc (some ⟨gm.p, 0, none⟩) (j : Int) h K
  | 0, j, h, M, hj, l1, sM, Am, e => by
    refine L_pref08_Ledger_Post_3r _ _ _ _ _ _ _ _ ?_
    unfold L_pref08_Ledger_Post_3T
    rw [List.drop_eq_nil_of_le (by omega)] at e
    have e : ((0 : Int), M) = res := e
    subst e
    have := k1 h l1 rfl Am
    refine Br.no (by simp; omega) (withAddr_intro rfl ⟨_, _, _, Am.rows, withAddr_intro rfl ⟨(A.le l1).ap.canSt (by simp), ?_⟩⟩)
    rw [show (⟨M, S.N, S.cur⟩ : Lg).M.length = S.M.length from sM.1]
    exact this
  | m + 1, j, h, M, hj, l1, sM, Am, e => by
    refine L_pref08_Ledger_Post_3r _ _ _ _ _ _ _ _ ?_
    unfold L_pref08_Ledger_Post_3T
    have hx : b[j]? = some b[j] := List.getElem?_eq_getElem (by omega)
    have hmem : b[j] ∈ b := List.getElem_mem _
    rw [List.drop_eq_getElem_cons (by omega : j < b.length)] at e
    generalize b[j] = y at *
    obtain ⟨y1, y2, y3, y4⟩ := hh y hmem
    have hIy := hI y hmem
    obtain ⟨ym, yc, ya⟩ := y
    dsimp only at y1 y2 y3 y4 hIy
    obtain ⟨i, rfl⟩ : ∃ i : Nat, ym = i := ⟨ym.toNat, by omega⟩
    obtain ⟨c, rfl⟩ : ∃ c : Nat, yc = c := ⟨yc.toNat, by omega⟩
    rw [addsM] at e
    simp only [Int.toNat_natCast] at e
    have hi : i < M.length := by rw [sM.1]; omega
    have hc : c < S.cur := by omega
    have hIM := Am.sz.i64 i c
    have hIM : I64 (rdM M i c) := hIM
    refine Br.yes (by simp; omega) (px (rdL_le l1 X) hn rfl hx (newB_cp (vs := [.int .i64 (i : Int), .int .i64 (c : Int), .int .i64 ya]) rfl fun r h2 hr l2 Ar st => ⟨st, ?_⟩))
    generalize h2.setN r 0 _ = h3 at *
    have A3 := Am.le l2
    obtain ⟨B, eB, hcl⟩ := A3.rw.cl (i := i) (by rw [cutM_len]; exact hi)
    have hil : (i : Int) < (M.length : Int) := by omega
    have hcc : (c : Int) < (S.cur : Int) := by omega
    have hamt := A3.rw.amt (i := i) (c := c) (by rw [cutM_len]; exact hi) hc
    rw [cutM_rd (S := ⟨M, S.N, S.cur⟩) hc] at hamt
    refine withAddr_intro rfl ⟨_, _, _, A3.rows, _, Ar.cell rfl, by omega, hil, withAddr_intro eB ⟨_, _, _, hcl, _, Ar.cell rfl, by omega, hcc, withAddr_intro rfl ⟨_, hamt, _, Ar.cell rfl, S_Of hIM fun v1 h4 l4 bn1 => ?_⟩⟩⟩
    have br1 := bn1.raw
    obtain ⟨n1, p1, c1, d1, rfl, _⟩ := bn1
    refine ⟨_, _, _, _, rfl, .inl l4, S_Of hIy fun v2 h5 l5 bn2 => ?_⟩
    have br2 := bn2.raw
    obtain ⟨n2, p2, c2, d2, rfl, _⟩ := bn2
    refine ⟨_, _, _, _, rfl, S_Add_Big (br1.le l5) br2 (Nat.le_refl _) (Nat.le_refl _) (by omega) fun v3 h6 l6 bn3 => ?_⟩
    have br3 := bn3.raw
    obtain ⟨n3, p3, c3, d3, rfl, _⟩ := bn3
    refine ⟨_, _, _, _, rfl, S_Fit br3 (by omega) fun h7 l7 => ⟨_, _, rfl, ?_⟩⟩
    have l37 := Heap.le_trans l4 (Heap.le_trans l5 (Heap.le_trans l6 l7))
    have l17 := Heap.le_trans l1 (Heap.le_trans l2 l37)
    by_cases g1 : (fit (rdM M i c + ya)).2 ≠ 0
    · rw [if_pos g1] at e
      subst e
      refine Br.yes (by simpa using g1) (Ret.mk ?_)
      rw [fit_3 g1]
      exact k0 h7 l17 (show (3 : Int) ≠ 0 by decide)
    · rw [if_neg g1] at e
      have A7 := A3.le l37
      have Ar7 := Ar.le l37
      obtain ⟨B', eB', hcl7⟩ := A7.rw.cl (i := i) (by rw [cutM_len]; exact hi)
      rw [fit_e g1]
      refine Br.no (by simpa using g1) (withAddr_intro rfl ⟨_, _, _, A7.rows, _, Ar7.cell rfl, by omega, hil, withAddr_intro eB' ⟨_, _, _, hcl7, _, Ar7.cell rfl, by omega, hcc, withAddr_intro rfl ⟨A7.stR (i := i) hi hc, ?_⟩⟩⟩)
      try dsimp only
      simp only [Int.toNat_natCast]
      rw [w1 (by omega)]
      have hD : gm.D S.M.length (gm.f.R i) = true := XFr.D_f (by rw [← sM.1]; exact gm.f.D_row hi)
      exact post_x3 X hn hs hI hh fm A k0 k1 m (j + 1) _ (wrM M i c (rdM M i c + ya)) (by omega) (le_setN l17 (fm _ hD)) (sM.wr (by rw [← sM.1]; exact hi)) (A7.wrR (S := ⟨M, S.N, S.cur⟩) hi hc (fit_in g1)) e
theorem S_xPost {h : Heap} (l0 : h0.le h) (fr : ∀ x, g.D S.M.length x = true → h0 x = none) (A : XAt h g S) (X : Pos h q b) (hn : b.length = n) (hs : n ≤ 1000) (hI : ∀ x ∈ b, I64 x.m ∧ I64 x.c ∧ I64 x.a)
    (k : ∀ h' g', h0.le h' → XAt h' g' (postG S b).2 → g'.p = g.p → (∀ x, g'.D S.M.length x = true → g.D S.M.length x = true ∨ h x = none) → K (.int .i64 (postG S b).1) h') : CallA Tryz.prog fn_pref08_Ledger_Post [pointer (some ⟨g.p, 0, none⟩), slice q n qc] h K := by
  refine F_pref08_Ledger_Post _ _ _ _ _ _ ?_
  unfold F_pref08_Ledger_PostT
  unfold postG at k
  have c8 := A.sz.c8
  refine withAddr_intro rfl ⟨_, _, _, A.nos, by omega, by omega, by omega, by omega, newB_at fun r h1 hr l1 Ar => ?_⟩
  rw [Int.toNat_natCast] at Ar ⊢
  have e0 : repL S.cur [Value.bool false, slice none 0 0] = (List.replicate S.cur (⟨false, none, 0, 0⟩ : BgR)).flatMap bgV := by
    generalize S.cur = w
    induction w with
    | zero => rfl
    | succ w ih => rw [List.replicate_succ, List.flatMap_cons, ← ih]; rfl
  rw [e0] at Ar
  have A1 := A.le l1
  have l01 := Heap.le_trans l0 l1
  have keepg : ∀ h', h0.le h' → XAt h' g S → True → ∀ {v : Value}, (∀ h' g', h0.le h' → XAt h' g' S → g'.p = g.p → (∀ x, g'.D S.M.length x = true → g.D S.M.length x = true ∨ h x = none) → K v h') → K v h' := fun h' l' A' _ {v} kk => kk h' g l' A' rfl fun x hx => .inl hx
  have m0 : ∀ (m j : Nat), m + j = n → (∀ x ∈ b.take j, hasB S x.m x.c = true) → L_pref08_Ledger_Post_0 (some ⟨g.p, 0, none⟩) q n qc (some ⟨r, 0, none⟩) S.cur S.cur (j : Int) h1 K := by
    intro m
    induction m with
    | zero =>
      intro j hj hh
      refine L_pref08_Ledger_Post_0r _ _ _ _ _ _ _ _ _ _ ?_
      unfold L_pref08_Ledger_Post_0T
      rw [show b.take j = b from List.take_of_length_le (by omega)] at hh
      have any0 : ¬ b.any (fun p => !hasB S p.m p.c) = true := by
        simp only [Bool.not_eq_true, List.any_eq_false]
        intro x hx
        rw [hh x hx]; decide
      rw [if_neg any0] at k
      have hh2 : ∀ x ∈ b, 0 ≤ x.m ∧ x.m < (S.M.length : Int) ∧ 0 ≤ x.c ∧ x.c < (S.cur : Int) := fun x hx => of_decide_eq_true (hh x hx)
      refine Br.no (by simp; omega) (post_x1 (h1 := h) X hn hs (fun x hx => (hI x hx).2.2) (fun x hx => by have := hh2 x hx; omega) hr (fun h2 bl l2 s => ?_) n 0 h1 _ (by omega) l1 ⟨List.length_replicate, Ar, fun c y hy => ?_⟩)
      · have A2 := A.le l2
        have l02 := Heap.le_trans l0 l2
        have len0 : ∀ (c : Nat) (y : BgR), bl[c]? = some y → (0 < y.n ↔ sumL (ofCur b (c : Int)) ≠ 0) := fun c y hy => by
          obtain ⟨neg, p, cc, ds, e1, _, ok, e2, _, _, e3⟩ := s.big c y hy
          simp only [agg.injEq, Array.mk.injEq, List.cons.injEq, Value.bool.injEq, slice.injEq, and_true] at e1
          obtain ⟨q1, q2, q3, q4⟩ := e1
          rw [q3]
          have e2 : sumL (ofCur b (c : Int)) = sg neg ds := e2
          rw [e2]
          constructor
          · intro hp hz
            have : dig ds = 0 := by
              unfold sg at hz
              split at hz <;> omega
            rw [(e3 this).1] at hp
            exact absurd hp (by simp)
          · intro hz
            refine Nat.pos_of_ne_zero fun h0 => hz ?_
            have : ds = [] := List.length_eq_zero_iff.1 h0
            rw [this]; unfold sg; split <;> rfl
        have m2 : ∀ (m c : Nat), m + c = S.cur → (∀ d : Nat, d < c → sumL (ofCur b (d : Int)) = 0) → L_pref08_Ledger_Post_2 (some ⟨g.p, 0, none⟩) q n qc (some ⟨r, 0, none⟩) S.cur S.cur (c : Int) h2 K := by
          intro m
          induction m with
          | zero =>
            intro c hc hz
            refine L_pref08_Ledger_Post_2r _ _ _ _ _ _ _ _ _ _ ?_
            unfold L_pref08_Ledger_Post_2T
            have he : evenB S b = true := by
              unfold evenB
              rw [List.all_eq_true]
              exact fun d hd => decide_eq_true (hz d (by have := List.mem_range.1 hd; omega))
            rw [if_neg (by rw [he]; decide)] at k
            refine Br.no (by simp; omega) (S_xCopy A2 fun h3 gm l3 Am fm => ⟨_, rfl, ?_⟩)
            refine post_x3 (h1 := h2) (rdL_le l2 X) hn hs (fun x hx => (hI x hx).2.2) hh2 fm (res := addsM b S.M) A2 (fun h4 l4 hne => ?_) (fun h4 l4 hz A4 => ?_) n 0 h3 S.M (by omega) l3 A.sz.sh Am rfl
            · rw [if_pos hne, addsM_3' _ _ hne] at k
              exact k h4 g (Heap.le_trans l02 l4) (A2.le l4) rfl fun x hx => .inl hx
            · rw [if_neg (by simpa using hz)] at k
              have hlM : (addsM b S.M).2.length = S.M.length := (addsM_ok b A.sz.sh A.sz.i64 (fun p hp => by have := hh2 p hp; omega) hz).1.1
              have npm : ∀ x, gm.D S.M.length x = true → x ≠ g.p ∧ x ≠ g.q := fun x hx => ⟨fun e => by
                have := fm x hx
                rw [e] at this
                exact A2.ap.ne this rfl, fun e => by
                have := fm x hx
                rw [e] at this
                exact A2.nd.ne this rfl⟩
              have nD : ∀ x, (x = g.p ∨ x = g.q) → gm.f.D S.M.length x = false := fun x hx => by
                cases hd : gm.f.D S.M.length x with
                | false => rfl
                | true =>
                  have := npm x (XFr.D_f hd)
                  rcases hx with e | e
                  · exact (this.1 e).elim
                  · exact (this.2 e).elim
              refine Ret.mk (k _ ⟨g.p, gm.f, g.q, g.qc, g.qs⟩ (le_setN (Heap.le_trans l02 l4) (fr _ (g.D_p _))) ⟨?_, A4.rw.mv fun x xs d a => a.set_ne ?_, (A2.nd.le l4).set_ne A.qp, by rw [hlM]; exact nD _ (.inl rfl), A.qp, by rw [hlM]; exact nD _ (.inr rfl), A4.sz⟩ rfl fun x hx => ?_)
              · have := (A2.ap.le l4).set (o := 0) (ws := [.slice gm.f.a S.M.length gm.f.C])
                rw [hlM]
                exact this
              · rw [cutM_len] at d
                have d : gm.f.D (addsM b S.M).2.length x = true := d
                rw [hlM] at d
                exact (npm x (XFr.D_f d)).1
              · rcases XFr.D_t hx with rfl | rfl | e
                · exact .inl (g.D_p _)
                · exact .inl (g.D_q _)
                · exact .inr (none_of_le l2 (fm x (XFr.D_f e)))
          | succ m ih =>
            intro c hc hz
            refine L_pref08_Ledger_Post_2r _ _ _ _ _ _ _ _ _ _ ?_
            unfold L_pref08_Ledger_Post_2T
            have hcl : c < bl.length := by rw [s.len]; omega
            have hy : bl[c]? = some bl[c] := List.getElem?_eq_getElem hcl
            have h0c := len0 c _ hy
            generalize bl[c] = y at *
            have cell1 : h2.cell r (0 + (c : Int).toNat * 2 + 1) = some (.slice y.p y.n y.c) := s.at'.cell (by rw [Nat.zero_add, Int.toNat_natCast, arr_get bgV_len bl c 1 y hy (by omega)]; rfl)
            refine Br.yes (by simp; omega) ⟨by omega, by omega, withAddr_intro rfl ⟨_, _, _, cell1, Br.dec (fun g1 => ?_) fun g1 => ?_⟩⟩
            · have he : evenB S b = false := by
                unfold evenB
                rw [List.all_eq_false]
                exact ⟨c, List.mem_range.2 (by omega), by simpa using h0c.1 (by omega)⟩
              rw [if_pos he] at k
              exact Ret.mk (k h2 g l02 A2 rfl fun x hx => .inl hx)
            · rw [w1 (by omega)]
              refine ih (c + 1) (by omega) fun d hd => ?_
              by_cases e : d = c
              · rw [e]
                exact Classical.byContradiction fun hne => g1 (by have := h0c.2 hne; omega)
              · exact hz d (by omega)
        exact m2 S.cur 0 (by omega) fun d hd => by omega
      · rw [List.getElem?_replicate] at hy
        split at hy
        · cases hy
          exact ⟨false, none, 0, [], rfl, .inl rfl, fun _ h => (by cases h), rfl, Nat.le_refl _, by simp, fun _ => ⟨rfl, rfl⟩⟩
        · cases hy
    | succ m ih =>
      intro j hj hh
      refine L_pref08_Ledger_Post_0r _ _ _ _ _ _ _ _ _ _ ?_
      unfold L_pref08_Ledger_Post_0T
      have hx : b[j]? = some b[j] := List.getElem?_eq_getElem (by omega)
      have htk : b.take (j + 1) = b.take j ++ [b[j]] := by rw [List.take_add_one, hx]; rfl
      have hmem : b[j] ∈ b := List.getElem_mem _
      generalize b[j] = y at *
      obtain ⟨P1, P2, _⟩ := px1 (rdL_le l1 X) hn (rfl : (j : Int) = (j : Int)) hx
      refine Br.yes (by simp; omega) (P1 (P2 fun _ _ _ => S_xHas A1 ⟨_, rfl, ?_⟩))
      cases hb : hasB S y.m y.c with
      | false =>
        have any1 : b.any (fun p => !hasB S p.m p.c) = true := List.any_eq_true.2 ⟨y, hmem, by rw [hb]; rfl⟩
        rw [if_pos any1] at k
        exact Br.yes rfl (Ret.mk (k h1 g l01 A1 rfl fun x hx => .inl hx))
      | true =>
        rw [w1 (by omega)]
        refine Br.no rfl (ih (j + 1) (by omega) fun x hx2 => ?_)
        rw [htk] at hx2
        rcases List.mem_append.1 hx2 with hx2 | hx2
        · exact hh x hx2
        · rw [List.mem_singleton.1 hx2]; exact hb
  exact m0 n 0 (by omega) fun x hx => by simp at hx
end
end Go.Proofs.YtghdadniddoboaaGreat
