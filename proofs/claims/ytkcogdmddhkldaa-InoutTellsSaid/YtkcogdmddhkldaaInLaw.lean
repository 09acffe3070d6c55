/- The laws InoutKeeps and InoutClears. -/
import Derived.Test.YtkcogdmddhkldaaInProp
import Derived.Test.YtkcogdmddhkldaaInClear
import Derived.Test.YtkcogdmddhkldaaEqInLaw
namespace Go.Proofs.Ytkcogdmddhkldaa
open Go Go.Sy Go.Value
set_option linter.unusedVariables false
set_option linter.unusedSimpArgs false

theorem propR_bad {l : List Cur} {M : Mx} {least : Int} (h : (propR l M least).1 ≠ 0) : (propR l M least).2 = ([], []) := by
  unfold propR at *
  split
  · rfl
  · split
    · rfl
    · split
      · rfl
      · rename_i h1 h2 h3
        rw [if_neg h1, if_neg h2, if_neg h3] at h
        split
        · rfl
        · rename_i S e
          rw [e] at h
          exact (h rfl).elim
theorem propR_ok {l : List Cur} {M : Mx} {least : Int} (h : (propR l M least).1 = 0) : tabE l = 0 ∧ M.length ≤ 16 ∧ likeB l M = false ∧ 1 ≤ least ∧ curL (fun c a => changeR l (c : Int) 0 a false) least M.length (l.length - 1) 1 (M, []) = some (propR l M least).2 := by
  unfold propR at *
  by_cases h1 : tabE l = 0
  case neg => rw [if_pos h1] at h; exact (h1 h).elim
  rw [h1] at h ⊢
  rw [if_neg (by decide)] at h ⊢
  by_cases h2 : 16 < M.length
  · rw [if_pos h2] at h; cases h
  rw [if_neg h2] at h ⊢
  by_cases h3 : likeB l M = true ∨ least < 1
  · rw [if_pos h3] at h; cases h
  rw [if_neg h3] at h ⊢
  refine ⟨rfl, by omega, ?_, by omega, ?_⟩
  · cases e : likeB l M with
    | false => rfl
    | true => exact (h3 (.inl e)).elim
  · split at h
    · cases h
    · rename_i S e
      rw [e]
theorem like_sh {l : List Cur} {M : Mx} (h : likeB l M = false) : shM M M.length l.length := by
  refine ⟨rfl, fun r hr => ?_⟩
  unfold likeB at h
  rw [List.any_eq_false] at h
  have := h r hr
  simp at this
  omega
theorem mx_I64 {NL : List NRow} (hI : ∀ x ∈ NL, ∀ v ∈ x.l, I64 v) (i d : Nat) : I64 (rdM (mxOf NL) i d) := by
  unfold rdM
  have I0 : I64 0 := ⟨by decide, by decide⟩
  cases hx : (mxOf NL)[i]? with
  | none => rw [List.getD_eq_getElem?_getD (l := mxOf NL), hx]; exact I0
  | some row =>
    rw [List.getD_eq_getElem?_getD (l := mxOf NL), hx]
    dsimp only [Option.getD_some]
    cases hv : row[d]? with
    | none => rw [List.getD_eq_getElem?_getD, hv]; exact I0
    | some v =>
      rw [List.getD_eq_getElem?_getD, hv]
      have := List.mem_of_getElem? hx
      unfold mxOf at this
      obtain ⟨y, hy, rfl⟩ := List.mem_map.1 this
      exact hI y hy v (List.mem_of_getElem? hv)
theorem mxOf_row {NL : List NRow} {n w i : Nat} {x : NRow} (s : shM (mxOf NL) n w) (hx : NL[i]? = some x) : x.l.length = w ∧ ∀ c, c < w → x.l[c]? = some (rdM (mxOf NL) i c) := by
  have g := mx_get hx
  have hl := s.2 x.l (List.mem_of_getElem? g)
  refine ⟨hl, fun c hc => ?_⟩
  unfold rdM
  rw [List.getD_eq_getElem?_getD (l := mxOf NL), g]
  dsimp only [Option.getD_some]
  rw [List.getD_eq_getElem?_getD, List.getElem?_eq_getElem (by omega)]; rfl
section
variable {K : Value → Heap → Prop} {h : Heap}
theorem same2_loop {a b : Option Addr} {la lb : List Int} {n ac bc : Nat} (Ia : Ints .i64 h a la) (Ib : Ints .i64 h b lb) (ha : la.length = n) (hb : lb.length = n) (hs : n ≤ 1099511627776) :
    ∀ (m j : Nat), m + j = n → Ret h K (.bool (decide (la.drop j = lb.drop j))) → L_ref02_Same_0 a n ac b n bc j h K := by
  intro m
  induction m with
  | zero =>
    intro j hj k
    refine L_ref02_Same_0r _ _ _ _ _ _ _ _ _ ?_
    unfold L_ref02_Same_0T
    refine Br.no (by simp; omega) ?_
    rw [List.drop_eq_nil_of_le (by omega), List.drop_eq_nil_of_le (by omega)] at k
    exact k
  | succ m ih =>
    intro j hj k
    refine L_ref02_Same_0r _ _ _ _ _ _ _ _ _ ?_
    unfold L_ref02_Same_0T
    have ea : la[j]? = some la[j] := List.getElem?_eq_getElem (by omega)
    have eb : lb[j]? = some lb[j] := List.getElem?_eq_getElem (by omega)
    rw [List.drop_eq_getElem_cons (by omega : j < la.length), List.drop_eq_getElem_cons (by omega : j < lb.length)] at k
    refine Br.yes (by simp; omega) (ix Ia ha rfl ea (ix Ib hb rfl eb ?_))
    refine Br.intro (fun e => ?_) (fun e => ?_)
    · have : la[j] ≠ lb[j] := by simpa using e
      rw [decide_eq_false (fun x => this (List.cons.inj x).1)] at k
      exact k
    · have e : la[j] = lb[j] := by simpa using e
      rw [wrap_i64_id (by omega) (by omega)]
      refine ih (j + 1) (by omega) ?_
      have e0 : ∀ (a b : Int) (x y : List Int), a = b → ((a :: x = b :: y) ↔ x = y) := by rintro a _ x y rfl; simp
      have := e0 _ _ (la.drop (j + 1)) (lb.drop (j + 1)) e
      rw [decide_eq_decide.2 this] at k
      exact k
theorem S_Same2 {a b : Option Addr} {la lb : List Int} {n m ac bc : Nat} (Ia : Ints .i64 h a la) (Ib : Ints .i64 h b lb) (ha : la.length = n) (hb : lb.length = m) (hs : n ≤ 1099511627776) (k : K (.bool (decide (la = lb))) h) :
    CallA Try.prog fn_ref02_Same [slice a n ac, slice b m bc] h K := by
  refine F_ref02_Same _ _ _ _ _ _ _ _ ?_
  unfold F_ref02_SameT
  refine Br.intro (fun e => ?_) (fun e => ?_)
  · have : n ≠ m := by intro e2; subst e2; simp at e
    rw [decide_eq_false (fun x => this (by rw [← ha, ← hb, x]))] at k
    exact Ret.mk k
  · have : n = m := by simp at e; omega
    subst this
    refine same2_loop Ia Ib ha hb hs n 0 (by omega) ?_
    simpa using Ret.mk k
theorem large14_loop {p tp : Option Addr} {NL : List NRow} {n c tn tc : Nat} (X : Nets h p NL) (hn : NL.length = n) (hs : n ≤ 9223372036854775807) (k : ∀ b : Bool, (b = false → n ≤ 40 ∧ tn ≤ 20) → K (.bool b) h) :
    ∀ (m j : Nat), m + j = n → L_law14_large_0 tp tn tc p n c n j h K := by
  intro m
  induction m with
  | zero =>
    intro j hj
    refine L_law14_large_0r _ _ _ _ _ _ _ _ _ _ ?_
    unfold L_law14_large_0T
    exact Br.no (by simp; omega) (Br.dec (fun _ => Ret.mk (k true fun e => by cases e)) fun g => Ret.mk (k _ fun e => by simp at e; omega))
  | succ m ih =>
    intro j hj
    refine L_law14_large_0r _ _ _ _ _ _ _ _ _ _ ?_
    unfold L_law14_large_0T
    have hx : NL[j]? = some NL[j] := List.getElem?_eq_getElem (by omega)
    refine Br.yes (by simp; omega) (nx X hn rfl hx (Br.intro (fun _ => Ret.mk (k true fun e => by cases e)) (fun _ => ?_)))
    rw [wrap_i64_id (n := (j : Int) + 1) (by omega) (by omega)]
    exact ih (j + 1) (by omega)
theorem S_large14 {p tp : Option Addr} {NL : List NRow} {n c tn tc : Nat} (X : Nets h p NL) (hn : NL.length = n) (hs : n ≤ 9223372036854775807) (k : ∀ b : Bool, (b = false → n ≤ 40 ∧ tn ≤ 20) → K (.bool b) h) :
    CallA Try.prog fn_law14_large [slice tp tn tc, slice p n c] h K := by
  refine F_law14_large _ _ _ _ _ _ _ _ ?_
  unfold F_law14_largeT
  exact large14_loop X hn hs k n 0 (by omega)
theorem total_loop14 {h0 : Heap} {p : Option Addr} {NL : List NRow} {n nc w c : Nat} (X : Nets h0 p NL) (hn : NL.length = n) (hs : n ≤ 1000) (s : shM (mxOf NL) n w) (hi : ∀ i d, I64 (rdM (mxOf NL) i d)) (hc : c < w)
    (k : ∀ h', h0.le h' → K (tuple #[.int .i64 (fit (sumL (colM (mxOf NL) c))).1, .int .i64 (fit (sumL (colM (mxOf NL) c))).2]) h') :
    ∀ (m j : Nat) (h : Heap) (of : Option Addr) (oc : Nat) (ws : List Int), m + j = n → h0.le h → OwnL h0 h [.int .i64 0] of oc (intsV .i64 ws) → ws = (colM (mxOf NL) c).take j → L_law14_total_0 p n nc c of ws.length oc n j h K := by
  have hlM : (mxOf NL).length = n := s.1
  have hlc : (colM (mxOf NL) c).length = n := by unfold colM; rw [List.length_map]; exact hlM
  intro m
  induction m with
  | zero =>
    intro j h of oc ws hj lh own e
    refine L_law14_total_0r _ _ _ _ _ _ _ _ _ _ _ ?_
    unfold L_law14_total_0T
    rw [List.take_of_length_le (by omega)] at e
    subst e
    have hI : allI64 (colM (mxOf NL) c) := fun v hv => by
      unfold colM at hv
      obtain ⟨r, hr, rfl⟩ := List.mem_map.1 hv
      obtain ⟨i, hi2⟩ := List.getElem?_of_mem hr
      have := hi i c
      unfold rdM at this
      rw [List.getD_eq_getElem?_getD (l := mxOf NL), hi2] at this
      exact this
    exact Br.no (by simp; omega) (S_Sum (by omega) hI h own.rd _ ⟨_, _, rfl, Ret.mk (k h lh)⟩)
  | succ m ih =>
    intro j h of oc ws hj lh own e
    refine L_law14_total_0r _ _ _ _ _ _ _ _ _ _ _ ?_
    unfold L_law14_total_0T
    have hx : NL[j]? = some NL[j] := List.getElem?_eq_getElem (by omega)
    obtain ⟨hxl, hxv⟩ := mxOf_row s hx
    have hmem : NL[j] ∈ NL := List.getElem_mem _
    have X1 := X.le lh
    generalize NL[j] = x at *
    refine Br.yes (by simp; omega) (nx X1 hn rfl hx (ix (X1.2 x hmem) rfl rfl (hxv c hc) ?_))
    have hwl : ws.length ≤ j := by rw [e, List.length_take]; omega
    intro r hr
    refine (own.le (le_ins hr)).push (by decide) (le_ins2 lh hr) (by omega) (n := 1) (ws := intsV .i64 [rdM (mxOf NL) j c]) rfl (rdL_new _ _ _ _ _) (allCells_ints _ _) (by rw [intsV_length]; simp) ?_
    intro p' c' h' l' w' _ _
    rw [wrap_i64_id (by omega) (by omega)]
    rw [← intsV_append] at w'
    have := ih (j + 1) h' p' c' (ws ++ [rdM (mxOf NL) j c]) (by omega) l' w' (by
      rw [e, List.take_add_one, colM_get _ _ _ (by omega)]; rfl)
    rw [List.length_append] at this
    exact this
theorem S_total {p : Option Addr} {NL : List NRow} {n nc w c : Nat} (X : Nets h p NL) (hn : NL.length = n) (hs : n ≤ 1000) (s : shM (mxOf NL) n w) (hi : ∀ i d, I64 (rdM (mxOf NL) i d)) (hc : c < w)
    (k : ∀ h', h.le h' → K (tuple #[.int .i64 (fit (sumL (colM (mxOf NL) c))).1, .int .i64 (fit (sumL (colM (mxOf NL) c))).2]) h') :
    CallA Try.prog fn_law14_total [slice p n nc, .int .i64 (c : Int)] h K := by
  refine F_law14_total _ _ _ _ _ _ ?_
  unfold F_law14_totalT
  exact total_loop14 X hn hs s hi hc k n 0 h none 0 [] (by omega) h.le_refl (OwnL.nil _ _ _) rfl
theorem S_law14_awake (k : ∀ h', h.le h' → K (.bool true) h') : CallA Try.prog fn_law14_awake [] h K := by
  refine F_law14_awake _ _ ?_
  unfold F_law14_awakeT
  intro r hr
  have C0 : Curs (h.ins r (.cells [string { data := #[69, 85, 82] }, .int .i64 10000, .int .i64 0, string { data := #[85, 83, 68] }, .int .i64 12500, .int .i64 0].toArray 106 (0, 0))) (some ⟨r, 0, none⟩) [⟨{ data := #[69, 85, 82] }, 10000, 0⟩, ⟨{ data := #[85, 83, 68] }, 12500, 0⟩] := rdL_new _ _ _ _ _
  have l1 : h.le (h.ins r (.cells [string { data := #[69, 85, 82] }, .int .i64 10000, .int .i64 0, string { data := #[85, 83, 68] }, .int .i64 12500, .int .i64 0].toArray 106 (0, 0))) := le_ins hr
  generalize h.ins r (.cells [string { data := #[69, 85, 82] }, .int .i64 10000, .int .i64 0, string { data := #[85, 83, 68] }, .int .i64 12500, .int .i64 0].toArray 106 (0, 0)) = h1 at *
  intro r1 hr1
  have I1 : Ints .i64 (h1.ins r1 (.cells [.int .i64 0, .int .i64 (-80)].toArray 2 (0, 0))) (some ⟨r1, 0, none⟩) [0, -80] := rdL_new _ _ _ _ _
  have l2 : h1.le (h1.ins r1 (.cells [.int .i64 0, .int .i64 (-80)].toArray 2 (0, 0))) := le_ins hr1
  generalize h1.ins r1 (.cells [.int .i64 0, .int .i64 (-80)].toArray 2 (0, 0)) = h2 at *
  intro r2 hr2
  have I2 : Ints .i64 (h2.ins r2 (.cells [.int .i64 0, .int .i64 80].toArray 2 (0, 0))) (some ⟨r2, 0, none⟩) [0, 80] := rdL_new _ _ _ _ _
  have l3 : h2.le (h2.ins r2 (.cells [.int .i64 0, .int .i64 80].toArray 2 (0, 0))) := le_ins hr2
  generalize h2.ins r2 (.cells [.int .i64 0, .int .i64 80].toArray 2 (0, 0)) = h3 at *
  intro r3 hr3
  have l4 : h3.le (h3.ins r3 (.cells [slice (some ⟨r1, 0, none⟩) 2 2, slice (some ⟨r2, 0, none⟩) 2 2].toArray 36 (0, 0))) := le_ins hr3
  have X : Nets (h3.ins r3 (.cells [slice (some ⟨r1, 0, none⟩) 2 2, slice (some ⟨r2, 0, none⟩) 2 2].toArray 36 (0, 0))) (some ⟨r3, 0, none⟩) [⟨some ⟨r1, 0, none⟩, 2, [0, -80]⟩, ⟨some ⟨r2, 0, none⟩, 2, [0, 80]⟩] := by
    refine ⟨rdL_new _ _ _ _ _, fun x hx => ?_⟩
    rcases List.mem_cons.1 hx with rfl | hx
    · exact (I1.le l3).le l4
    · rw [List.mem_singleton] at hx
      subst hx
      exact I2.le l4
  generalize h3.ins r3 (.cells [slice (some ⟨r1, 0, none⟩) 2 2, slice (some ⟨r2, 0, none⟩) 2 2].toArray 36 (0, 0)) = h4 at *
  have l14 := Heap.le_trans l2 (Heap.le_trans l3 l4)
  refine S_Propose (C0.le l14) rfl X rfl (by decide) (fun x hx v hv => ?_) fun lp ln lc np nn nc e h5 l5 P5 => ⟨_, _, _, _, _, _, _, rfl, ?_⟩
  · rcases List.mem_cons.1 hx with rfl | hx
    · simp at hv; unfold I64; omega
    · rw [List.mem_singleton] at hx; subst hx
      simp at hv; unfold I64; omega
  refine S_Propose (NL := []) ((C0.le l14).le l5) rfl ⟨.inl rfl, fun x hx => (by cases hx)⟩ rfl (by decide) (fun x hx => (by cases hx)) fun lp2 ln2 lc2 np2 nn2 nc2 e2 h6 l6 P6 => ⟨_, _, _, _, _, _, _, rfl, ?_⟩
  have P5 := P5.le l6
  have E1 : propR [⟨{ data := #[69, 85, 82] }, 10000, 0⟩, ⟨{ data := #[85, 83, 68] }, 12500, 0⟩] (mxOf [⟨some ⟨r1, 0, none⟩, 2, [0, -80]⟩, ⟨some ⟨r2, 0, none⟩, 2, [0, 80]⟩]) 1 = (0, ([[-100, 0], [100, 0]], [⟨1, 0, 1, 80, 100⟩])) := by kernel_rfl
  have E2 : propR [⟨{ data := #[69, 85, 82] }, 10000, 0⟩, ⟨{ data := #[85, 83, 68] }, 12500, 0⟩] (mxOf []) 0 = (1, ([], [])) := by kernel_rfl
  rw [E1] at P5
  rw [E2] at P6
  obtain ⟨rfl, W, rfl, NL, rfl, eM, XN⟩ := P5
  obtain ⟨rfl, _⟩ := P6
  have S0 := sx (j := 0) (i := 0) W rfl rfl (x := ⟨1, 0, 1, 80, 100⟩) rfl (Q := fun a b c d e => a = 1 ∧ b = 0 ∧ c = 1 ∧ d = 80 ∧ e = 100) ⟨rfl, rfl, rfl, rfl, rfl⟩
  obtain ⟨_, _, S0⟩ := S0
  obtain ⟨b0, o0, eb, a0, g0, a1, g1, a2, g2, a3, g3, a4, g4, rfl, rfl, rfl, rfl, rfl⟩ := withAddr_elim S0
  refine Br.yes rfl ⟨by omega, by decide, withAddr_intro eb ⟨_, g0, _, g1, _, g2, _, g3, _, g4, Br.yes rfl ?_⟩⟩
  match NL, eM, XN with
  | [x0, x1], eM, XN =>
    simp only [mxOf, List.map_cons, List.map_nil, List.cons.injEq, and_true] at eM
    obtain ⟨e0, e1⟩ := eM
    have N0 := nx (j := 0) (i := 0) XN rfl rfl (x := x0) rfl (Q := fun a n m => a = x0.p ∧ n = x0.l.length ∧ m = x0.c) ⟨rfl, rfl, rfl⟩
    obtain ⟨_, _, N0⟩ := N0
    obtain ⟨b1, o1, eb1, _, _, _, q1, rfl, rfl, rfl⟩ := withAddr_elim N0
    refine Br.yes rfl ⟨by omega, by simp, withAddr_intro eb1 ⟨_, _, _, q1, ?_⟩⟩
    intro s hs
    have J0 : Ints .i64 (h6.ins s (.cells [.int .i64 (-100), .int .i64 0].toArray 2 (0, 0))) (some ⟨s, 0, none⟩) [-100, 0] := rdL_new _ _ _ _ _
    have m1 : h6.le (h6.ins s (.cells [.int .i64 (-100), .int .i64 0].toArray 2 (0, 0))) := le_ins hs
    generalize h6.ins s (.cells [.int .i64 (-100), .int .i64 0].toArray 2 (0, 0)) = h7 at *
    have XN := XN.le m1
    refine S_Same2 (XN.2 x0 (List.mem_cons_self ..)) J0 rfl rfl (by rw [e0]; decide) ⟨_, rfl, Br.yes (by rw [e0]; decide) ?_⟩
    have N1 := nx (j := 1) (i := 1) XN rfl rfl (x := x1) rfl (Q := fun a n m => a = x1.p ∧ n = x1.l.length ∧ m = x1.c) ⟨rfl, rfl, rfl⟩
    obtain ⟨_, _, N1⟩ := N1
    obtain ⟨b2, o2, eb2, _, _, _, q2, rfl, rfl, rfl⟩ := withAddr_elim N1
    refine ⟨by omega, by simp, withAddr_intro eb2 ⟨_, _, _, q2, ?_⟩⟩
    intro s2 hs2
    have J1 : Ints .i64 (h7.ins s2 (.cells [.int .i64 100, .int .i64 0].toArray 2 (0, 0))) (some ⟨s2, 0, none⟩) [100, 0] := rdL_new _ _ _ _ _
    have m2 : h7.le (h7.ins s2 (.cells [.int .i64 100, .int .i64 0].toArray 2 (0, 0))) := le_ins hs2
    generalize h7.ins s2 (.cells [.int .i64 100, .int .i64 0].toArray 2 (0, 0)) = h8 at *
    refine S_Same2 ((XN.le m2).2 x1 (List.mem_cons_of_mem _ (List.mem_cons_self ..))) J1 rfl rfl (by rw [e1]; decide) ⟨_, rfl, Br.yes (by rw [e1]; decide) (Br.yes rfl ?_)⟩
    exact Ret.mk (k h8 (Heap.le_trans l1 (Heap.le_trans l14 (Heap.le_trans l5 (Heap.le_trans l6 (Heap.le_trans m1 m2))))))
  | [], eM, XN => simp [mxOf] at eM
  | [_], eM, XN => simp [mxOf] at eM
  | _ :: _ :: _ :: _, eM, XN => simp [mxOf] at eM
end
end Go.Proofs.Ytkcogdmddhkldaa
