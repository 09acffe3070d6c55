import Derived.Test.YtghdadniddoboaaM12
import Derived.Test.YtghdadniddoboaaM15
import Derived.Test.YtghdadniddoboaaM05
import Derived.Test.YtghdadniddoboaaM11
import Derived.Test.YtghdadniddoboaaM07
import Derived.Test.YtghdadniddoboaaM08
/- The reference's net worth, shortage, and both, if a batch were done. -/
namespace Go.Proofs.Ytghdadniddoboaa
open Go Go.Sy Go.Value
set_option linter.unusedVariables false
set_option linter.unusedSimpArgs false

theorem chain1 (s x : Int) : chainL s [x] = if (fit (s + x)).2 ≠ 0 then (0, 3) else (s + x, 0) := by
  unfold chainL chainL
  by_cases h : I64 (s + x)
  · rw [fit_ok h, if_pos (c := -9223372036854775808 ≤ s + x ∧ s + x ≤ 9223372036854775807) h, if_neg (by simp)]
  · rw [fit_over h, if_neg (c := -9223372036854775808 ≤ s + x ∧ s + x ≤ 9223372036854775807) h, if_pos (by decide)]
section
variable {h0 : Heap} {K : Value → Heap → Prop} {tp : Option Addr} {T : List Cur} {tn tc : Nat} {q : Option Addr} {row : List Int} {n qc : Nat}
theorem ref_net (C : Curs h0 tp T) (hn : T.length = tn) (ok : T.all inbB = true) (I : Ints .i64 h0 q row) (hr : row.length = n) (hs : n ≤ 1000000) (hI : ∀ y ∈ row, I64 y) (k : ∀ h', h0.le h' → K (tuple #[.int .i64 (netW T row).1, .int .i64 (netW T row).2]) h') :
    ∀ (m j : Nat) (h : Heap) (s : Int), m + j = n → h0.le h → I64 s → chainT s (rowF (toldW T) j (row.drop j)) = netW T row → L_ref09_Net_0 tp tn tc q n qc s (j : Int) h K := by
  intro m
  induction m with
  | zero =>
    intro j h s hj l0 hs0 e
    refine L_ref09_Net_0r _ _ _ _ _ _ _ _ _ _ ?_
    unfold L_ref09_Net_0T
    rw [List.drop_eq_nil_of_le (by omega), rowF, chainT] at e
    rw [← e] at k
    exact Br.no (by simp; omega) (Ret.mk (k h l0))
  | succ m ih =>
    intro j h s hj l0 hs0 e
    refine L_ref09_Net_0r _ _ _ _ _ _ _ _ _ _ ?_
    unfold L_ref09_Net_0T
    have hx : row[j]? = some row[j] := List.getElem?_eq_getElem (by omega)
    have hm : row[j] ∈ row := List.getElem_mem _
    rw [List.drop_eq_getElem_cons (by omega : j < row.length), rowF, chainT] at e
    generalize row[j] = x at *
    refine Br.yes (by simp; omega) (ix (I.le l0) hr rfl hx (S_RWorth (C.le l0) hn ok (hI x hm) fun h1 l1 => ⟨_, _, rfl, ?_⟩))
    have et : worthR T (j : Int) x = toldW T j x := rfl
    rw [et]
    have wI : I64 (toldW T j x).1 := worthR_I _ _ _
    by_cases e1 : (toldW T j x).2 ≠ 0
    · rw [if_pos e1] at e
      rw [← e] at k
      exact Br.yes (by simpa using e1) (Ret.mk (k h1 (Heap.le_trans l0 l1)))
    rw [if_neg e1] at e
    refine Br.no (by simpa using e1) (newB_at fun r h2 hr2 l2 A => ?_)
    have I1 : Ints .i64 h2 (some ⟨r, 0, none⟩) [(toldW T j x).1] := (show At h2 r (intsV .i64 [(toldW T j x).1] ++ []) from A).toRd
    refine S_RChain (l := [(toldW T j x).1]) (by simp) (fun v hv => by rw [List.mem_singleton] at hv; subst hv; exact wI) I1 hs0 fun h3 l3 => ⟨_, _, rfl, ?_⟩
    have l03 := Heap.le_trans l0 (Heap.le_trans l1 (Heap.le_trans l2 l3))
    rw [chain1]
    by_cases e2 : (fit (s + (toldW T j x).1)).2 ≠ 0
    · rw [if_pos e2] at e
      rw [← e] at k
      rw [if_pos e2]
      exact Br.yes rfl (Ret.mk (k h3 l03))
    · rw [if_neg e2] at e
      rw [if_neg e2, w1 (by omega)]
      exact Br.no rfl (ih (j + 1) h3 _ (by omega) l03 (fit_in e2) e)
theorem S_xNet {h : Heap} (C : Curs h tp T) (hn : T.length = tn) (ok : T.all inbB = true) (I : Ints .i64 h q row) (hr : row.length = n) (hs : n ≤ 1000000) (hI : ∀ y ∈ row, I64 y) (k : ∀ h', h.le h' → K (tuple #[.int .i64 (netW T row).1, .int .i64 (netW T row).2]) h') :
    CallA Try.prog fn_ref09_Net [slice tp tn tc, slice q n qc] h K := by
  refine F_ref09_Net _ _ _ _ _ _ _ _ ?_
  unfold F_ref09_NetT
  exact ref_net C hn ok I hr hs hI k n 0 h 0 rfl h.le_refl I64_0 rfl
theorem toldS_pos {T : List Cur} {c : Nat} {b : Int} (h : ¬ b < 0) : toldS T c b = (0, 0) := if_neg h
theorem toldS_e {T : List Cur} {c : Nat} {b : Int} (h : b < 0) (h1 : (plainR T (c : Int) b).2 ≠ 0) : (toldS T c b).2 ≠ 0 := by
  unfold toldS
  rw [if_pos h]
  dsimp only
  have p0 : 0 ≤ (plainR T (c : Int) b).2 := by
    unfold plainR
    split
    · unfold md; split
      · decide
      · unfold fit; split <;> simp
    · decide
  split
  · omega
  · exact h1
theorem toldS_f {T : List Cur} {c : Nat} {b : Int} (h : b < 0) (h1 : (plainR T (c : Int) b).2 = 0) : toldS T c b = fit (0 - (plainR T (c : Int) b).1) := by
  unfold toldS
  rw [if_pos h, h1]
  rcases fit_03 (0 - (plainR T (c : Int) b).1) with e | e
  · have e2 : (fit (0 - (plainR T (c : Int) b).1)) = ((fit (0 - (plainR T (c : Int) b).1)).1, (fit (0 - (plainR T (c : Int) b).1)).2) := rfl
    rw [e2, e]
    simp
  · have e2 : (fit (0 - (plainR T (c : Int) b).1)) = ((fit (0 - (plainR T (c : Int) b).1)).1, (fit (0 - (plainR T (c : Int) b).1)).2) := rfl
    rw [e2, e]
    simp
theorem ref_sh (C : Curs h0 tp T) (hn : T.length = tn) (ok : T.all inbB = true) (I : Ints .i64 h0 q row) (hr : row.length = n) (hs : n ≤ 1000000) (hI : ∀ y ∈ row, I64 y) (k : ∀ h', h0.le h' → K (tuple #[.int .i64 (shW T row).1, .int .i64 (shW T row).2]) h') :
    ∀ (m j : Nat) (h : Heap) (s : Int), m + j = n → h0.le h → I64 s → chainT s (rowF (toldS T) j (row.drop j)) = shW T row → L_ref09_Short_0 tp tn tc q n qc s (j : Int) h K := by
  intro m
  induction m with
  | zero =>
    intro j h s hj l0 hs0 e
    refine L_ref09_Short_0r _ _ _ _ _ _ _ _ _ _ ?_
    unfold L_ref09_Short_0T
    rw [List.drop_eq_nil_of_le (by omega), rowF, chainT] at e
    rw [← e] at k
    exact Br.no (by simp; omega) (Ret.mk (k h l0))
  | succ m ih =>
    intro j h s hj l0 hs0 e
    refine L_ref09_Short_0r _ _ _ _ _ _ _ _ _ _ ?_
    unfold L_ref09_Short_0T
    have hx : row[j]? = some row[j] := List.getElem?_eq_getElem (by omega)
    have hm : row[j] ∈ row := List.getElem_mem _
    rw [List.drop_eq_getElem_cons (by omega : j < row.length), rowF, chainT] at e
    generalize row[j] = x at *
    refine Br.yes (by simp; omega) (ix (I.le l0) hr rfl hx (Br.dec (fun g => ?_) fun g => ix (I.le l0) hr rfl hx (S_RPlain (C.le l0) hn ok (hI x hm) fun h1 l1 => ⟨_, _, rfl, ?_⟩)))
    · rw [toldS_pos (by omega), if_neg (by decide), Int.add_zero, fit_ok hs0, if_neg (by simp)] at e
      rw [w1 (by omega)]
      exact ih (j + 1) h s (by omega) l0 hs0 e
    have hneg : x < 0 := by omega
    have l01 := Heap.le_trans l0 l1
    by_cases e1 : (plainR T (j : Int) x).2 ≠ 0
    · rw [if_pos (toldS_e hneg e1)] at e
      rw [← e] at k
      exact Br.yes (by simpa using e1) (Ret.mk (k h1 l01))
    have e1 : (plainR T (j : Int) x).2 = 0 := Classical.byContradiction e1
    rw [toldS_f hneg e1] at e
    refine Br.no (by simpa using e1) (S_Of (plainR_I _ _ _) fun v2 h2 l2 bn => ?_)
    have br := bn.raw
    obtain ⟨n1, p1, c1, d1, rfl, _⟩ := bn
    refine ⟨_, _, _, _, rfl, S_Turned br (by omega) fun v3 h3 l3 bn3 => ?_⟩
    have br3 := bn3.raw
    obtain ⟨n3, p3, c3, d3, rfl, _⟩ := bn3
    refine ⟨_, _, _, _, rfl, S_Fit br3 (by omega) fun h4 l4 => ⟨_, _, rfl, ?_⟩⟩
    have l04 := Heap.le_trans l01 (Heap.le_trans l2 (Heap.le_trans l3 l4))
    rw [show (0 : Int) - (plainR T (j : Int) x).1 = -(plainR T (j : Int) x).1 by omega] at e
    by_cases e2 : (fit (-(plainR T (j : Int) x).1)).2 ≠ 0
    · rw [if_pos e2] at e
      rw [← e] at k
      exact Br.yes (by simpa using e2) (Ret.mk (k h4 l04))
    rw [if_neg e2] at e
    refine Br.no (by simpa using e2) (newB_at fun r h5 hr5 l5 A => ?_)
    have I1 : Ints .i64 h5 (some ⟨r, 0, none⟩) [(fit (-(plainR T (j : Int) x).1)).1] := (show At h5 r (intsV .i64 [(fit (-(plainR T (j : Int) x).1)).1] ++ []) from A).toRd
    refine S_RChain (l := [(fit (-(plainR T (j : Int) x).1)).1]) (by simp) (fun v hv => by rw [List.mem_singleton] at hv; subst hv; exact fit_I' _) I1 hs0 fun h6 l6 => ⟨_, _, rfl, ?_⟩
    have l06 := Heap.le_trans l04 (Heap.le_trans l5 l6)
    rw [chain1]
    by_cases e3 : (fit (s + (fit (-(plainR T (j : Int) x).1)).1)).2 ≠ 0
    · rw [if_pos e3] at e
      rw [← e] at k
      rw [if_pos e3]
      exact Br.yes rfl (Ret.mk (k h6 l06))
    · rw [if_neg e3] at e
      rw [if_neg e3, w1 (by omega)]
      exact Br.no rfl (ih (j + 1) h6 _ (by omega) l06 (fit_in e3) e)
theorem S_xShort {h : Heap} (C : Curs h tp T) (hn : T.length = tn) (ok : T.all inbB = true) (I : Ints .i64 h q row) (hr : row.length = n) (hs : n ≤ 1000000) (hI : ∀ y ∈ row, I64 y) (k : ∀ h', h.le h' → K (tuple #[.int .i64 (shW T row).1, .int .i64 (shW T row).2]) h') :
    CallA Try.prog fn_ref09_Short [slice tp tn tc, slice q n qc] h K := by
  refine F_ref09_Short _ _ _ _ _ _ _ _ ?_
  unfold F_ref09_ShortT
  exact ref_sh C hn ok I hr hs hI k n 0 h 0 rfl h.le_refl I64_0 rfl
variable {b : List Pst} {bq : Option Addr} {bn bc : Nat} {m : Int}
theorem xif_1 (C : Curs h0 tp T) (hT : T.length = tn) (ok : T.all inbB = true) (Xb : Pos h0 bq b) (hb : b.length = bn) (hs : bn ≤ 1000000) (hn : n ≤ 1000000) (hr : row.length = n) (hbI : ∀ y ∈ b, I64 y.a) (hbad : ∀ y ∈ b, 0 ≤ y.c ∧ y.c < (n : Int)) {lb lc : Nat} {sp : List Value} (zl : h0 lb = none)
    (k3 : movedW m b row = none → ∀ h', h0.le h' → K (tuple #[int .i64 0, int .i64 0, int .i64 3]) h')
    (k : ∀ c, movedW m b row = some c → ∀ h', h0.le h' → K (if (netW T c).2 ≠ 0 then tuple #[int .i64 0, int .i64 0, int .i64 3] else if (shW T c).2 ≠ 0 then tuple #[int .i64 0, int .i64 0, int .i64 3] else tuple #[int .i64 (netW T c).1, int .i64 (shW T c).1, int .i64 0]) h') :
    ∀ (d j : Nat) (h : Heap) (cur : List Int), d + j = bn → h0.le h → At h lb (intsV .i64 cur ++ sp) → cur.length = n → (∀ y ∈ cur, I64 y) → movedW m (b.drop j) cur = movedW m b row → L_ref09_If_1 tp tn tc m bq bn bc (some ⟨lb, 0, none⟩) n lc (j : Int) h K := by
  intro d
  induction d with
  | zero =>
    intro j h cur hj l0 A hc hI e
    refine L_ref09_If_1r _ _ _ _ _ _ _ _ _ _ _ _ _ ?_
    unfold L_ref09_If_1T
    rw [List.drop_eq_nil_of_le (by omega), movedW] at e
    have kk := k cur e.symm
    refine Br.no (by simp; omega) (S_xNet (C.le l0) hT ok A.toRd hc hn hI fun h1 l1 => ⟨_, _, rfl, S_xShort (C.le (Heap.le_trans l0 l1)) hT ok (A.le l1).toRd hc hn hI fun h2 l2 => ⟨_, _, rfl, ?_⟩⟩)
    have l02 := Heap.le_trans l0 (Heap.le_trans l1 l2)
    by_cases e1 : (netW T cur).2 ≠ 0
    · rw [if_pos e1] at kk
      exact Br.yes (by simpa using e1) (Ret.mk (kk h2 l02))
    rw [if_neg e1] at kk
    refine Br.no (by simpa using e1) ?_
    by_cases e2 : (shW T cur).2 ≠ 0
    · rw [if_pos e2] at kk
      exact Br.yes (by simpa using e2) (Ret.mk (kk h2 l02))
    rw [if_neg e2] at kk
    exact Br.no (by simpa using e2) (Ret.mk (kk h2 l02))
  | succ d ih =>
    intro j h cur hj l0 A hc hI e
    refine L_ref09_If_1r _ _ _ _ _ _ _ _ _ _ _ _ _ ?_
    unfold L_ref09_If_1T
    have hx : b[j]? = some b[j] := List.getElem?_eq_getElem (by omega)
    have hm : b[j] ∈ b := List.getElem_mem _
    rw [List.drop_eq_getElem_cons (by omega : j < b.length), movedW] at e
    generalize b[j] = y at *
    have hya := hbI y hm
    have hyc := hbad y hm
    refine Br.yes (by simp; omega) (px (rdL_le l0 Xb) hb rfl hx (newB_cp (vs := [int .i64 y.m, int .i64 y.c, int .i64 y.a]) rfl fun s h1 zs l1 As cs => ⟨cs, _, As.cell rfl, ?_⟩))
    generalize h1.setN s 0 [int .i64 y.m, int .i64 y.c, int .i64 y.a] = H at *
    have l01 := Heap.le_trans l0 l1
    have A1 := A.le l1
    have nls := A.ne zs
    by_cases hmi : y.m ≠ m
    · rw [if_pos hmi] at e
      rw [w1 (by omega)]
      exact Br.yes (by simpa using hmi) (ih (j + 1) H cur (by omega) l01 A1 hc hI e)
    rw [if_neg hmi] at e
    obtain ⟨c, hcc⟩ : ∃ c : Nat, y.c = (c : Int) := ⟨y.c.toNat, by omega⟩
    have hcl : c < cur.length := by omega
    have hg : cur[c]? = some (cur.getD c 0) := by rw [List.getD_eq_getElem?_getD, List.getElem?_eq_getElem hcl]; rfl
    have hgI : I64 (cur.getD c 0) := hI _ (List.mem_of_getElem? hg)
    rw [hcc, Int.toNat_natCast] at e
    refine Br.no (by simpa using hmi) ⟨_, As.cell rfl, by omega, by omega, withAddr_intro rfl ⟨_, A1.cell (v := int .i64 (cur.getD c 0)) (by rw [hcc, Int.toNat_natCast, Nat.zero_add, List.getElem?_append_left (by rw [intsV_length]; exact hcl), intsV_map, List.getElem?_map, hg]; rfl), _, As.cell rfl, newB_at fun r2 h2 hr2 l2 A2 => ?_⟩⟩
    have I1 : Ints .i64 h2 (some ⟨r2, 0, none⟩) [y.a] := (show At h2 r2 (intsV .i64 [y.a] ++ []) from A2).toRd
    refine S_RChain (l := [y.a]) (by simp) (fun v hv => by rw [List.mem_singleton] at hv; subst hv; exact hya) I1 hgI fun h3 l3 => ⟨_, _, rfl, ?_⟩
    have l23 := Heap.le_trans l2 l3
    have l03 := Heap.le_trans l01 l23
    rw [chain1]
    by_cases e1 : (fit (cur.getD c 0 + y.a)).2 ≠ 0
    · rw [if_pos e1] at e
      rw [if_pos e1]
      exact Br.yes rfl (Ret.mk (k3 e.symm h3 l03))
    · rw [if_neg e1] at e
      rw [if_neg e1]
      have A3 := A1.le l23
      refine Br.no rfl ⟨_, (As.le l23).cell rfl, by omega, by omega, withAddr_intro rfl ⟨A3.canSt (by rw [List.length_append, intsV_length]; omega), ?_⟩⟩
      rw [w1 (by omega), hcc, Int.toNat_natCast, Nat.zero_add]
      refine ih (j + 1) _ (cur.set c (cur.getD c 0 + y.a)) (by omega) (le_setN l03 zl) ?_ (by rw [List.length_set]; exact hc) (fun v hv => ?_) e
      · have := A3.set (o := c) (ws := [int .i64 (cur.getD c 0 + y.a)])
        rw [setL_ints1 hcl] at this
        exact this
      · rcases List.mem_or_eq_of_mem_set hv with hv | rfl
        · exact hI v hv
        · exact fit_in e1
theorem S_xIf {h : Heap} (C : Curs h tp T) (hT : T.length = tn) (ok : T.all inbB = true) (I : Ints .i64 h q row) (hr : row.length = n) (h1n : 1 ≤ n) (hn : n ≤ 1000000) (hI : ∀ y ∈ row, I64 y) (Xb : Pos h bq b) (hb : b.length = bn) (hs : bn ≤ 1000000) (hbI : ∀ y ∈ b, I64 y.a)
    (k : ∀ h', h.le h' → K (tuple #[int .i64 (ifW T row m b).1, int .i64 (ifW T row m b).2.1, int .i64 (ifW T row m b).2.2]) h') :
    CallA Try.prog fn_ref09_If [slice tp tn tc, slice q n qc, int .i64 m, slice bq bn bc] h K := by
  refine F_ref09_If _ _ _ _ _ _ _ _ _ _ _ _ ?_
  unfold F_ref09_IfT
  intro r hr0
  refine (own_new (z := [int .i64 0]) hr0).push2 (by decide) (le_ins hr0) (by omega) (by rw [intsV_length, hr]; simp) (I.le (le_ins hr0)) (allCells_ints _ _) (by simp) fun p' c' h1 l1 own _ _ => ?_
  rw [Nat.zero_add]
  rw [List.nil_append] at own
  obtain ⟨lb, sp, rfl, zl, A⟩ := own_blk own (fun e => by have := congrArg List.length e; rw [intsV_length, hr, List.length_nil] at this; omega)
  have loop : ∀ (d j : Nat) (g : Heap), d + j = bn → h.le g → At g lb (intsV .i64 row ++ sp) → badC n b = badC n (b.drop j) → L_ref09_If_0 tp tn tc m bq bn bc (some ⟨lb, 0, none⟩) n c' (j : Int) g K := by
    intro d
    induction d with
    | zero =>
      intro j g hj lg Ag e
      refine L_ref09_If_0r _ _ _ _ _ _ _ _ _ _ _ _ _ ?_
      unfold L_ref09_If_0T
      rw [List.drop_eq_nil_of_le (by omega)] at e
      unfold ifW at k
      rw [hr, e, if_neg (by unfold badC; simp)] at k
      have bd : ∀ y ∈ b, 0 ≤ y.c ∧ y.c < (n : Int) := fun y hy => by
        have e' : badC n b = false := e
        unfold badC at e'
        rw [List.any_eq_false] at e'
        have := e' y hy
        simp at this
        omega
      refine Br.no (by simp; omega) (xif_1 (h0 := h) C hT ok Xb hb hs hn hr hbI bd zl (fun e h' l' => ?_) (fun c e h' l' => ?_) bn 0 g row rfl lg Ag hr hI rfl)
      · rw [e] at k
        exact k h' l'
      · rw [e] at k
        dsimp only at k
        split
        · rename_i g; rw [if_pos g] at k; exact k h' l'
        · rename_i g
          rw [if_neg g] at k
          split
          · rename_i g2; rw [if_pos g2] at k; exact k h' l'
          · rename_i g2; rw [if_neg g2] at k; exact k h' l'
    | succ d ih =>
      intro j g hj lg Ag e
      refine L_ref09_If_0r _ _ _ _ _ _ _ _ _ _ _ _ _ ?_
      unfold L_ref09_If_0T
      have hx : b[j]? = some b[j] := List.getElem?_eq_getElem (by omega)
      rw [List.drop_eq_getElem_cons (by omega : j < b.length)] at e
      generalize b[j] = y at *
      unfold badC at e
      rw [List.any_cons] at e
      have kbad : badC n b = true → ∀ h', h.le h' → K (tuple #[int .i64 0, int .i64 0, int .i64 1]) h' := fun hbd h' l' => by
        have := k h' l'
        unfold ifW at this
        rw [hr, if_pos hbd] at this
        exact this
      refine Br.yes (by simp; omega) (px (rdL_le lg Xb) hb rfl hx (newB_cp (vs := [int .i64 y.m, int .i64 y.c, int .i64 y.a]) rfl fun s g1 zs l1 As cs => ⟨cs, _, As.cell rfl, Br.dec (fun w => ?_) fun w => ⟨_, As.cell rfl, Br.dec (fun w2 => ?_) fun w2 => ?_⟩⟩))
      · exact Ret.mk (kbad (by unfold badC; rw [e, decide_eq_true w]; rfl) _ (Heap.le_trans lg l1))
      · exact Ret.mk (kbad (by unfold badC; rw [e, decide_eq_true w2, Bool.or_true]; rfl) _ (Heap.le_trans lg l1))
      · rw [decide_eq_false w, decide_eq_false w2] at e
        rw [w1 (by omega)]
        exact ih (j + 1) _ (by omega) (Heap.le_trans lg l1) (Ag.le l1) e
  exact loop bn 0 h1 rfl l1 A rfl
end
end Go.Proofs.Ytghdadniddoboaa

/- Rows of whole numbers in memory, each in a block of its own, behind a slice. -/
namespace Go.Proofs.Ytghdadniddoboaa
open Go Go.Sy Go.Value
set_option linter.unusedVariables false
set_option linter.unusedSimpArgs false

structure Rws where
  a : Option Addr
  C : Nat
  sp : List Value
  R : Nat → Nat
  CC : Nat → Nat
  SP : Nat → List Value
def slV (R CC : Nat → Nat) (w n : Nat) : List Value := (List.range n).map fun i => .slice (some ⟨R i, 0, none⟩) w (CC i)
theorem slV_len (R CC : Nat → Nat) (w n : Nat) : (slV R CC w n).length = n := by unfold slV; rw [List.length_map, List.length_range]
theorem slV_get (R CC : Nat → Nat) (w : Nat) {n i : Nat} (h : i < n) : (slV R CC w n)[i]? = some (.slice (some ⟨R i, 0, none⟩) w (CC i)) := by unfold slV; rw [List.getElem?_map, List.getElem?_range h]; rfl
theorem slV_succ {R CC R' CC' : Nat → Nat} {w n : Nat} (h : ∀ i, i < n → R' i = R i ∧ CC' i = CC i) : slV R' CC' w (n + 1) = slV R CC w n ++ [.slice (some ⟨R' n, 0, none⟩) w (CC' n)] := by
  unfold slV
  rw [List.range_succ, List.map_append]
  congr 1
  refine List.map_congr_left fun i hi => ?_
  obtain ⟨h1, h2⟩ := h i (List.mem_range.1 hi)
  rw [h1, h2]
structure RwsAt (h : Heap) (f : Rws) (M : Mx) (w : Nat) : Prop where
  pr : M.length = 0 ∨ ∃ B, f.a = some ⟨B, 0, none⟩ ∧ At h B (slV f.R f.CC w M.length ++ f.sp)
  nb : ∀ B, f.a = some ⟨B, 0, none⟩ → ∀ i, i < M.length → f.R i ≠ B
  row : ∀ i, i < M.length → At h (f.R i) (intsV .i64 (M.getD i []) ++ f.SP i)
  inj : ∀ i j, i < M.length → j < M.length → f.R i = f.R j → i = j
  sh : shM M M.length w
/-- where they lie -/
def Rws.D (f : Rws) (n x : Nat) : Bool := (decide (0 < n) && (match f.a with | some ⟨B, 0, Option.none⟩ => B == x | _ => false)) || (List.range n).any fun i => f.R i == x
theorem Rws.D_t {f : Rws} {n x : Nat} (h : f.D n x = true) : (0 < n ∧ f.a = some ⟨x, 0, none⟩) ∨ ∃ i, i < n ∧ f.R i = x := by
  unfold Rws.D at h
  rw [Bool.or_eq_true, Bool.and_eq_true, List.any_eq_true] at h
  rcases h with ⟨h1, h2⟩ | ⟨i, hi, h⟩
  · split at h2
    · rename_i B e
      have : B = x := by simpa using h2
      exact .inl ⟨by simpa using h1, by rw [e, this]⟩
    · cases h2
  · exact .inr ⟨i, List.mem_range.1 hi, by simpa using h⟩
theorem Rws.D_row (f : Rws) {n i : Nat} (hi : i < n) : f.D n (f.R i) = true := by
  unfold Rws.D
  rw [Bool.or_eq_true, List.any_eq_true]
  exact .inr ⟨i, List.mem_range.2 hi, by simp⟩
theorem Rws.D_a {f : Rws} {n B : Nat} (h0 : 0 < n) (e : f.a = some ⟨B, 0, none⟩) : f.D n B = true := by
  unfold Rws.D
  rw [e]; simp [h0]
section
variable {h h0 : Heap} {f : Rws} {M : Mx} {w : Nat}
theorem RwsAt.mv {h' : Heap} (A : RwsAt h f M w) (k : ∀ b xs, f.D M.length b = true → At h b xs → At h' b xs) : RwsAt h' f M w := by
  refine { A with pr := ?_, row := fun i hi => k _ _ (f.D_row hi) (A.row i hi) }
  rcases A.pr with e | ⟨B, e, a⟩
  · exact .inl e
  · by_cases h0 : 0 < M.length
    · exact .inr ⟨B, e, k _ _ (Rws.D_a h0 e) a⟩
    · exact .inl (by omega)
theorem RwsAt.le {h' : Heap} (A : RwsAt h f M w) (l : h.le h') : RwsAt h' f M w := A.mv fun b xs _ a => a.le l
theorem RwsAt.at (A : RwsAt h f M w) {x : Nat} (e : f.D M.length x = true) : ∃ xs, At h x xs := by
  rcases Rws.D_t e with ⟨h0, e2⟩ | ⟨i, hi, rfl⟩
  · rcases A.pr with e3 | ⟨B, e3, a⟩
    · omega
    · rw [e2] at e3; cases e3; exact ⟨_, a⟩
  · exact ⟨_, A.row i hi⟩
theorem RwsAt.fresh (A : RwsAt h f M w) {x : Nat} (e : h x = none) : f.D M.length x = false := by
  cases hd : f.D M.length x with
  | false => rfl
  | true => obtain ⟨xs, a⟩ := A.at hd; exact (a.ne e rfl).elim
theorem RwsAt.cl (A : RwsAt h f M w) {i : Nat} (hi : i < M.length) : ∃ B, f.a = some ⟨B, 0, none⟩ ∧ h.cell B (0 + i) = some (.slice (some ⟨f.R i, 0, none⟩) w (f.CC i)) := by
  obtain ⟨B, e, a⟩ := A.pr.resolve_left (by omega)
  exact ⟨B, e, a.cell (by rw [Nat.zero_add, List.getElem?_append_left (by rw [slV_len]; exact hi), slV_get _ _ _ hi])⟩
theorem RwsAt.amt (A : RwsAt h f M w) {i c : Nat} (hi : i < M.length) (hc : c < w) : h.cell (f.R i) (0 + c) = some (.int .i64 (rdM M i c)) := by
  refine (A.row i hi).cell ?_
  have hl := A.sh.row hi
  rw [Nat.zero_add, List.getElem?_append_left (by rw [intsV_length]; omega), intsV_map, List.getElem?_map, List.getElem?_eq_getElem (by omega)]
  unfold rdM
  simp only [Option.map_some]
  congr 2
  rw [List.getD_eq_getElem?_getD (l := M.getD i []), List.getElem?_eq_getElem (by omega)]; rfl
theorem RwsAt.st (A : RwsAt h f M w) {i c : Nat} (hi : i < M.length) (hc : c < w) : h.canSt (f.R i) (0 + c) 1 := (A.row i hi).canSt (by rw [List.length_append, intsV_length, A.sh.row hi]; omega)
theorem setL_ints' {l : List Int} {sp : List Value} {c : Nat} {v : Int} (h : c < l.length) : setL (intsV .i64 l ++ sp) c [.int .i64 v] = intsV .i64 (l.set c v) ++ sp := by
  rw [setL, setL, setT_eq, List.set_append_left _ _ (by rw [intsV_length]; omega), intsV_map, intsV_map, List.map_set]
theorem RwsAt.wr (A : RwsAt h f M w) {i c : Nat} {v : Int} (hi : i < M.length) (hc : c < w) : RwsAt (h.setN (f.R i) (0 + c) [.int .i64 v]) f (wrM M i c v) w := by
  have hl : (wrM M i c v).length = M.length := (A.sh.wr hi).1
  have hrow := A.sh.row hi
  refine ⟨?_, ?_, ?_, ?_, ?_⟩
  · obtain ⟨B, e, a⟩ := A.pr.resolve_left (by omega)
    rw [hl]
    exact .inr ⟨B, e, a.set_ne (fun x => A.nb B e i hi x.symm)⟩
  · rw [hl]; exact A.nb
  · rw [hl]
    intro j hj
    by_cases e : j = i
    · subst e
      have := (A.row j hj).set (o := 0 + c) (ws := [.int .i64 v])
      rw [Nat.zero_add, setL_ints' (by omega)] at this
      have eg : (wrM M j c v).getD j [] = (M.getD j []).set c v := by
        unfold wrM
        rw [List.getD_eq_getElem?_getD, List.getElem?_set_self hj]; rfl
      rw [eg, Nat.zero_add]
      exact this
    · have eg : (wrM M i c v).getD j [] = M.getD j [] := by
        unfold wrM
        rw [List.getD_eq_getElem?_getD, List.getElem?_set_ne (fun x => e x.symm), ← List.getD_eq_getElem?_getD]
      rw [eg]
      exact (A.row j hj).set_ne (fun x => e (A.inj j i hj hi x))
  · rw [hl]; exact A.inj
  · rw [hl]; exact A.sh.wr hi
/-- a cell, read -/
theorem RwsAt.get (A : RwsAt h f M w) {i c : Nat} (hi : i < M.length) (hc : c < w) {Q : Int → Prop} (kk : Q (rdM M i c)) :
    withAddr f.a fun b o => ∃ a n m, h.cell b (o + (i : Int).toNat) = some (.slice a n m) ∧ 0 ≤ (c : Int) ∧ (c : Int) < (n : Int) ∧ withAddr a fun b o => ∃ n, h.cell b (o + (c : Int).toNat) = some (.int .i64 n) ∧ Q n := by
  obtain ⟨B, e, g⟩ := A.cl hi
  exact withAddr_intro e ⟨_, _, _, g, by omega, by omega, withAddr_intro rfl ⟨_, A.amt hi hc, kk⟩⟩
end
/-- rows that are being laid, one by one -/
structure RwB (h0 h : Heap) (a : Option Addr) (C : Nat) (R CC : Nat → Nat) (SP : Nat → List Value) (M : Mx) (w : Nat) : Prop where
  base : h0.le h
  own : OwnL h0 h [.slice none 0 0] a C (slV R CC w M.length)
  row : ∀ i, i < M.length → At h (R i) (intsV .i64 (M.getD i []) ++ SP i)
  nr : ∀ i, i < M.length → h0 (R i) = none
  inj : ∀ i j, i < M.length → j < M.length → R i = R j → i = j
  na : ∀ i, i < M.length → a ≠ some ⟨R i, 0, none⟩
  sh : ∀ r ∈ M, r.length = w
section
variable {h0 h : Heap} {a : Option Addr} {C w : Nat} {R CC : Nat → Nat} {SP : Nat → List Value} {M : Mx}
theorem RwB.nil (h0 h : Heap) (l : h0.le h) (w : Nat) : RwB h0 h none 0 (fun _ => 0) (fun _ => 0) (fun _ => []) [] w := ⟨l, OwnL.nil _ _ _, fun i hi => absurd hi (by simp), fun i hi => absurd hi (by simp), fun i _ hi => absurd hi (by simp), fun i hi => absurd hi (by simp), fun r hr => by cases hr⟩
theorem RwB.le {h' : Heap} (I : RwB h0 h a C R CC SP M w) (l : h.le h') : RwB h0 h' a C R CC SP M w := { I with base := Heap.le_trans I.base l, own := I.own.le l, row := fun i hi => (I.row i hi).le l }
theorem RwB.set (I : RwB h0 h a C R CC SP M w) {x o : Nat} {ws : List Value} (nx : h0 x = none) (n1 : a ≠ some ⟨x, 0, none⟩) (n2 : ∀ i, i < M.length → R i ≠ x) : RwB h0 (h.setN x o ws) a C R CC SP M w :=
  { I with base := le_setN I.base nx, own := I.own.set_ne n1, row := fun i hi => (I.row i hi).set_ne (n2 i hi) }
/-- one row more: it lies in r, which was new when the others lay there -/
theorem RwB.push {t : TypeId} (I : RwB h0 h a C R CC SP M w) {r c : Nat} {row : List Int} {sp : List Value} (nr : h0 r = none) (ar : At h r (intsV .i64 row ++ sp)) (na : a ≠ some ⟨r, 0, none⟩) (nR : ∀ i, i < M.length → R i ≠ r) (hw : row.length = w) (hs : M.length ≤ 1000000) {T : TypeId} {J : Nat → Heap → Option Addr → Nat → Heap → Prop} {n : Nat} (hn : M.length = n)
    (k : ∀ s h1 a' C' h', h s = none → h.le h1 → RwB h0 h' a' C' (fun i => if i = M.length then r else R i) (fun i => if i = M.length then c else CC i) (fun i => if i = M.length then sp else SP i) (M ++ [row]) w →
      (∀ b y, h1 b = some y → a ≠ some ⟨b, 0, none⟩ → h' b = some y) → (a' = a ∨ ∃ s, a' = some ⟨s, 0, none⟩ ∧ h1 s = none) → J s h1 a' C' h') :
    newB h [.slice (some ⟨r, 0, none⟩) w c] T fun s h1 => AppA [.slice none 0 0] t h1 a n C 1 (some ⟨s, 0, none⟩) (J s h1) := by
  subst hn
  refine push1 I.own (by decide) I.base (by omega) rfl rfl (by rw [slV_len]; simp) fun s h1 a' C' h' hs1 l1 l' w' keep how => k s h1 a' C' h' hs1 l1 ⟨l', ?_, fun i hi => ?_, fun i hi => ?_, fun i j hi hj e => ?_, fun i hi => ?_, fun x hx => ?_⟩ keep how
  · rw [List.length_append, List.length_singleton, slV_succ (R := R) (CC := CC) fun i hi => ⟨if_neg (by omega), if_neg (by omega)⟩, if_pos rfl, if_pos rfl]
    exact w'
  · rw [List.length_append, List.length_singleton] at hi
    by_cases e : i = M.length
    · subst e
      rw [if_pos rfl, if_pos rfl, List.getD_eq_getElem?_getD, List.getElem?_append_right (Nat.le_refl _), Nat.sub_self]
      exact keepAt keep (ar.le l1) na
    · rw [if_neg e, if_neg e, List.getD_eq_getElem?_getD, List.getElem?_append_left (by omega), ← List.getD_eq_getElem?_getD]
      exact keepAt keep ((I.row i (by omega)).le l1) (I.na i (by omega))
  · rw [List.length_append, List.length_singleton] at hi
    by_cases e : i = M.length
    · rw [if_pos e]; exact nr
    · rw [if_neg e]; exact I.nr i (by omega)
  · rw [List.length_append, List.length_singleton] at hi hj
    by_cases e1 : i = M.length
    · by_cases e2 : j = M.length
      · omega
      · rw [if_pos e1, if_neg e2] at e; exact (nR j (by omega) e.symm).elim
    · by_cases e2 : j = M.length
      · rw [if_neg e1, if_pos e2] at e; exact (nR i (by omega) e).elim
      · rw [if_neg e1, if_neg e2] at e; exact I.inj i j (by omega) (by omega) e
  · rw [List.length_append, List.length_singleton] at hi
    by_cases e : i = M.length
    · rw [if_pos e]; exact push_ne how (ar.le l1) na
    · rw [if_neg e]; exact push_ne how ((I.row i (by omega)).le l1) (I.na i (by omega))
  · rcases List.mem_append.1 hx with hx | hx
    · exact I.sh x hx
    · rw [List.mem_singleton] at hx; rw [hx]; exact hw
theorem RwB.fin (I : RwB h0 h a C R CC SP M w) : ∃ qs, RwsAt h ⟨a, C, qs, R, CC, SP⟩ M w ∧ ∀ x, (⟨a, C, qs, R, CC, SP⟩ : Rws).D M.length x = true → h0 x = none := by
  rcases I.own with ⟨e1, e2, e3⟩ | ⟨B, sp, e1, e2, e3, e4⟩
  · have h0' : M.length = 0 := by
      have := congrArg List.length e1
      rw [slV_len, List.length_nil] at this; exact this
    exact ⟨[], ⟨.inl h0', fun B e i hi => absurd hi (by omega), I.row, I.inj, ⟨rfl, I.sh⟩⟩, fun x hx => by
      rcases Rws.D_t hx with ⟨q, _⟩ | ⟨i, q, _⟩ <;> omega⟩
  · refine ⟨sp, ⟨.inr ⟨B, e1, e3⟩, fun B' e i hi e5 => ?_, I.row, I.inj, ⟨rfl, I.sh⟩⟩, fun x hx => ?_⟩
    · have e : a = some ⟨B', 0, none⟩ := e
      exact I.na i hi (by rw [e, ← e5])
    · rcases Rws.D_t hx with ⟨_, q⟩ | ⟨i, q, rfl⟩
      · have q : a = some ⟨x, 0, none⟩ := q
        rw [e1] at q; cases q; exact e2
      · exact I.nr i q
theorem RwB.fresh (I : RwB h0 h a C R CC SP M w) {r : Nat} (hr : h r = none) : a ≠ some ⟨r, 0, none⟩ ∧ ∀ i, i < M.length → R i ≠ r := ⟨I.own.fresh hr, fun i hi => (I.row i hi).ne hr⟩
end
end Go.Proofs.Ytghdadniddoboaa

/- The reference's ledger in memory: what is asked, pay-ins and pay-outs, and swaps. -/
namespace Go.Proofs.Ytghdadniddoboaa
open Go Go.Sy Go.Value
set_option linter.unusedVariables false
set_option linter.unusedSimpArgs false

/-! rows as wide as there are currencies -/
def cutM (S : Lg) : Mx := S.M.map (·.take S.cur)
theorem cutM_len (S : Lg) : (cutM S).length = S.M.length := by unfold cutM; rw [List.length_map]
theorem cutM_rd {S : Lg} {i c : Nat} (hc : c < S.cur) : rdM (cutM S) i c = rdM S.M i c := by
  unfold rdM cutM
  rw [List.getD_eq_getElem?_getD (l := S.M.map _), List.getElem?_map, List.getD_eq_getElem?_getD (l := S.M)]
  cases S.M[i]? with
  | none => rfl
  | some r =>
    show (r.take S.cur).getD c 0 = r.getD c 0
    rw [List.getD_eq_getElem?_getD, List.getElem?_take, if_pos hc, ← List.getD_eq_getElem?_getD]
theorem cutM_sh {S : Lg} (o : S.Sz) : shM (cutM S) (cutM S).length S.cur := ⟨rfl, fun r hr => by
  unfold cutM at hr
  obtain ⟨y, hy, rfl⟩ := List.mem_map.1 hr
  have h8 := o.sh.2 y hy
  have := o.c8
  rw [List.length_take]; omega⟩
theorem cutM_wr {S : Lg} {i c : Nat} {v : Int} (hc : c < S.cur) : cutM (wrG S i c v) = wrM (cutM S) i c v := by
  have e : (cutM S).getD i [] = ((S.M.getD i []).take S.cur) := by
    unfold cutM
    rw [List.getD_eq_getElem?_getD, List.getElem?_map, List.getD_eq_getElem?_getD]
    cases S.M[i]? with
    | none => simp
    | some r => rfl
  unfold wrM
  rw [e]
  unfold cutM wrG wrM
  dsimp only
  rw [List.map_set, List.take_set]
structure XFr where
  p : Nat
  f : Rws
  q : Nat
  qc : Nat
  qs : List Value
structure XAt (h : Heap) (g : XFr) (S : Lg) : Prop where
  ap : At h g.p [.slice g.f.a S.M.length g.f.C, .slice (some ⟨g.q, 0, none⟩) S.cur g.qc]
  rw : RwsAt h g.f (cutM S) S.cur
  nd : At h g.q (intsV .i64 (S.N.take S.cur) ++ g.qs)
  dp : g.f.D S.M.length g.p = false
  qp : g.q ≠ g.p
  dq : g.f.D S.M.length g.q = false
  sz : S.Sz
def XFr.D (g : XFr) (n x : Nat) : Bool := x == g.p || x == g.q || g.f.D n x
theorem XFr.D_t {g : XFr} {n x : Nat} (h : g.D n x = true) : x = g.p ∨ x = g.q ∨ g.f.D n x = true := by
  unfold XFr.D at h
  rw [Bool.or_eq_true, Bool.or_eq_true] at h
  rcases h with (h | h) | h
  · exact .inl (by simpa using h)
  · exact .inr (.inl (by simpa using h))
  · exact .inr (.inr h)
theorem XFr.D_p (g : XFr) (n : Nat) : g.D n g.p = true := by unfold XFr.D; simp
theorem XFr.D_q (g : XFr) (n : Nat) : g.D n g.q = true := by unfold XFr.D; simp
theorem XFr.D_f {g : XFr} {n x : Nat} (h : g.f.D n x = true) : g.D n x = true := by unfold XFr.D; rw [h, Bool.or_true]
theorem S_fit2 {a b : Int} (ha : I64 a) (hb : I64 b) {h : Heap} {Q : Int → Int → Heap → Prop} (k : ∀ h', h.le h' → Q (fit (a + b)).1 (fit (a + b)).2 h') :
    CallA Try.prog fn_ref01_Of [.int .i64 a] h fun (v : Value) (h : Heap) => ∃ (b1 : Bool), ∃ (a1 : Option Addr), ∃ (n : Nat), ∃ (m : Nat), v = agg #[Value.bool b1, slice a1 n m] ∧
      CallA Try.prog fn_ref01_Of [.int .i64 b] h fun (v : Value) (h : Heap) => ∃ (b2 : Bool), ∃ (a2 : Option Addr), ∃ (n2 : Nat), ∃ (m2 : Nat), v = agg #[Value.bool b2, slice a2 n2 m2] ∧
        CallA Try.prog fn_ref01_Add [agg #[Value.bool b1, slice a1 n m], agg #[Value.bool b2, slice a2 n2 m2]] h fun (v : Value) (h : Heap) => ∃ (b3 : Bool), ∃ (a3 : Option Addr), ∃ (n3 : Nat), ∃ (m3 : Nat), v = agg #[Value.bool b3, slice a3 n3 m3] ∧
          CallA Try.prog fn_ref01_Fit [agg #[Value.bool b3, slice a3 n3 m3]] h fun (v : Value) (h : Heap) => ∃ (x : Int), ∃ (e : Int), v = tuple #[.int .i64 x, .int .i64 e] ∧ Q x e h := by
  refine S_Of ha fun v1 h1 l1 bn1 => ?_
  have br1 := bn1.raw
  obtain ⟨n1, p1, c1, d1, rfl, _⟩ := bn1
  refine ⟨_, _, _, _, rfl, S_Of hb fun v2 h2 l2 bn2 => ?_⟩
  have br2 := bn2.raw
  obtain ⟨n2, p2, c2, d2, rfl, _⟩ := bn2
  refine ⟨_, _, _, _, rfl, S_Add_Big (br1.le l2) br2 (Nat.le_refl _) (Nat.le_refl _) (by omega) fun v3 h3 l3 bn3 => ?_⟩
  have br3 := bn3.raw
  obtain ⟨n3, p3, c3, d3, rfl, _⟩ := bn3
  exact ⟨_, _, _, _, rfl, S_Fit br3 (by omega) fun h4 l4 => ⟨_, _, rfl, k h4 (Heap.le_trans l1 (Heap.le_trans l2 (Heap.le_trans l3 l4)))⟩⟩
section
variable {h0 h : Heap} {K : Value → Heap → Prop} {g : XFr} {S : Lg}
theorem XAt.mv {h' : Heap} (A : XAt h g S) (k : ∀ b xs, g.D S.M.length b = true → At h b xs → At h' b xs) : XAt h' g S :=
  { A with ap := k _ _ (g.D_p _) A.ap, rw := A.rw.mv fun b xs d a => k b xs (XFr.D_f (by rw [← cutM_len]; exact d)) a, nd := k _ _ (g.D_q _) A.nd }
theorem XAt.le {h' : Heap} (A : XAt h g S) (l : h.le h') : XAt h' g S := A.mv fun b xs _ a => a.le l
theorem XAt.at (A : XAt h g S) {x : Nat} (e : g.D S.M.length x = true) : ∃ xs, At h x xs := by
  rcases XFr.D_t e with rfl | rfl | e2
  · exact ⟨_, A.ap⟩
  · exact ⟨_, A.nd⟩
  · exact A.rw.at (by rw [cutM_len]; exact e2)
theorem XAt.fresh (A : XAt h g S) {x : Nat} (e : h x = none) : g.D S.M.length x = false := by
  cases hd : g.D S.M.length x with
  | false => rfl
  | true => obtain ⟨xs, a⟩ := A.at hd; exact (a.ne e rfl).elim
theorem XAt.rows (A : XAt h g S) : h.cell g.p 0 = some (.slice g.f.a S.M.length g.f.C) := A.ap.cell rfl
theorem XAt.nos (A : XAt h g S) : h.cell g.p (0 + 1) = some (.slice (some ⟨g.q, 0, none⟩) S.cur g.qc) := A.ap.cell rfl
theorem XAt.getM (A : XAt h g S) {i c : Nat} (hi : i < S.M.length) (hc : c < S.cur) {Q : Int → Prop} (kk : Q (rdM S.M i c)) :
    withAddr (some ⟨g.p, 0, none⟩) fun b o => ∃ a n m, h.cell b o = some (.slice a n m) ∧ 0 ≤ (i : Int) ∧ (i : Int) < (n : Int) ∧ withAddr a fun b o => ∃ a n m, h.cell b (o + (i : Int).toNat) = some (.slice a n m) ∧ 0 ≤ (c : Int) ∧ (c : Int) < (n : Int) ∧ withAddr a fun b o => ∃ n, h.cell b (o + (c : Int).toNat) = some (.int .i64 n) ∧ Q n :=
  withAddr_intro rfl ⟨_, _, _, A.rows, by omega, by omega, A.rw.get (by rw [cutM_len]; exact hi) hc (by rw [cutM_rd hc]; exact kk)⟩
theorem XAt.nat (A : XAt h g S) {c : Nat} (hc : c < S.cur) : h.cell g.q (0 + c) = some (.int .i64 (S.N.getD c 0)) := by
  have h8 := A.sz.N8
  have c8 := A.sz.c8
  refine A.nd.cell ?_
  rw [Nat.zero_add, List.getElem?_append_left (by rw [intsV_length, List.length_take]; omega), intsV_map, List.getElem?_map, List.getElem?_take, if_pos hc, List.getElem?_eq_getElem (by omega), List.getD_eq_getElem?_getD, List.getElem?_eq_getElem (by omega)]; rfl
theorem XAt.getN (A : XAt h g S) {c : Nat} (hc : c < S.cur) {Q : Int → Prop} (kk : Q (S.N.getD c 0)) :
    withAddr (some ⟨g.p, 0, none⟩) fun b o => ∃ a n m, h.cell b (o + 1) = some (.slice a n m) ∧ 0 ≤ (c : Int) ∧ (c : Int) < (n : Int) ∧ withAddr a fun b o => ∃ n, h.cell b (o + (c : Int).toNat) = some (.int .i64 n) ∧ Q n :=
  withAddr_intro rfl ⟨_, _, _, A.nos, by omega, by omega, withAddr_intro rfl ⟨_, A.nat hc, kk⟩⟩
theorem XAt.stN (A : XAt h g S) {c : Nat} (hc : c < S.cur) : h.canSt g.q (0 + c) 1 := A.nd.canSt (by have := A.sz.N8; have := A.sz.c8; rw [List.length_append, intsV_length, List.length_take]; omega)
theorem XAt.wrR (A : XAt h g S) {i c : Nat} {v : Int} (hi : i < S.M.length) (hc : c < S.cur) (hv : I64 v) : XAt (h.setN (g.f.R i) (0 + c) [.int .i64 v]) g (wrG S i c v) := by
  have hl : (wrG S i c v).M.length = S.M.length := (A.sz.sh.wr hi).1
  have hd := g.f.D_row hi
  have hc8 : c < 8 := by have := A.sz.c8; omega
  refine ⟨?_, ?_, A.nd.set_ne fun e => ?_, by rw [hl]; exact A.dp, A.qp, by rw [hl]; exact A.dq, ?_⟩
  · rw [hl]
    exact A.ap.set_ne fun e => by rw [← e, A.dp] at hd; cases hd
  · rw [cutM_wr hc]
    exact A.rw.wr (by rw [cutM_len]; exact hi) hc
  · rw [← e, A.dq] at hd; cases hd
  · have h64 : ∀ j d, I64 (rdM (wrM S.M i c v) j d) := fun j d => by
      rw [rd_wr A.sz.sh hi hc8]; split
      · exact hv
      · exact A.sz.i64 j d
    exact { A.sz with n1 := by rw [hl]; exact A.sz.n1, n16 := by rw [hl]; exact A.sz.n16, sh := by rw [hl]; exact A.sz.sh.wr hi, i64 := h64 }
theorem XAt.wrN (A : XAt h g S) {c : Nat} {v : Int} (hc : c < S.cur) (hv : I64 v) : XAt (h.setN g.q (0 + c) [.int .i64 v]) g (wnG S c v) := by
  have h8 := A.sz.N8
  have c8 := A.sz.c8
  refine ⟨A.ap.set_ne A.qp.symm, A.rw.mv fun b xs d a => a.set_ne fun e => ?_, ?_, A.dp, A.qp, A.dq, ?_⟩
  · rw [cutM_len, e] at d
    have := A.dq
    rw [this] at d; cases d
  · have := A.nd.set (o := 0 + c) (ws := [.int .i64 v])
    rw [Nat.zero_add, setL_ints' (by rw [List.length_take]; omega)] at this
    rw [Nat.zero_add]
    show At _ g.q (intsV .i64 ((S.N.set c v).take S.cur) ++ g.qs)
    rw [List.take_set]
    exact this
  · have h64 : ∀ d, I64 ((S.N.set c v).getD d 0) := fun d => by
      rw [getD_set _ _ _ _ (by omega)]; split
      · exact hv
      · exact A.sz.n64 d
    exact { A.sz with N8 := by show (S.N.set c v).length = 8; rw [List.length_set]; exact h8, n64 := h64 }
theorem XAt.stR (A : XAt h g S) {i c : Nat} (hi : i < S.M.length) (hc : c < S.cur) : h.canSt (g.f.R i) (0 + c) 1 := A.rw.st (by rw [cutM_len]; exact hi) hc
/-- a place in a row, to be written -/
theorem XAt.putM (A : XAt h g S) {i c : Nat} (hi : i < S.M.length) (hc : c < S.cur) {Q : Nat → Nat → Prop} (kk : Q (g.f.R i) 0) :
    withAddr (some ⟨g.p, 0, none⟩) fun b o => ∃ a n m, h.cell b o = some (.slice a n m) ∧ 0 ≤ (i : Int) ∧ (i : Int) < (n : Int) ∧ withAddr a fun b o => ∃ a n m, h.cell b (o + (i : Int).toNat) = some (.slice a n m) ∧ 0 ≤ (c : Int) ∧ (c : Int) < (n : Int) ∧ withAddr a Q := by
  obtain ⟨B, e, hcl⟩ := A.rw.cl (i := i) (by rw [cutM_len]; exact hi)
  exact withAddr_intro rfl ⟨_, _, _, A.rows, by omega, by omega, withAddr_intro e ⟨_, _, _, hcl, by omega, by omega, withAddr_intro rfl kk⟩⟩
theorem XAt.putN (A : XAt h g S) {c : Nat} (hc : c < S.cur) {Q : Nat → Nat → Prop} (kk : Q g.q 0) :
    withAddr (some ⟨g.p, 0, none⟩) fun b o => ∃ a n m, h.cell b (o + 1) = some (.slice a n m) ∧ 0 ≤ (c : Int) ∧ (c : Int) < (n : Int) ∧ withAddr a Q :=
  withAddr_intro rfl ⟨_, _, _, A.nos, by omega, by omega, withAddr_intro rfl kk⟩
theorem S_xHas (A : XAt h g S) {m c : Int} (k : K (.bool (hasB S m c)) h) : CallA Try.prog fn_pref08_Ledger_Has [pointer (some ⟨g.p, 0, none⟩), .int .i64 m, .int .i64 c] h K := by
  refine F_pref08_Ledger_Has _ _ _ _ _ ?_
  unfold F_pref08_Ledger_HasT
  unfold hasB at k
  refine Br.dec (fun h1 => withAddr_intro rfl ⟨_, _, _, A.rows, Br.dec (fun h2 => Br.dec (fun h3 => withAddr_intro rfl ⟨_, _, _, A.nos, Ret.mk ?_⟩) fun h3 => Ret.mk ?_) fun h2 => Ret.mk ?_⟩) fun h1 => Ret.mk ?_
  · have e : decide (0 ≤ m ∧ m < (S.M.length : Int) ∧ 0 ≤ c ∧ c < (S.cur : Int)) = decide (c < (S.cur : Int)) := decide_eq_decide.2 ⟨fun x => x.2.2.2, fun x => ⟨h1, h2, h3, x⟩⟩
    rw [e] at k; exact k
  · rw [decide_eq_false (fun x => h3 x.2.2.1)] at k; exact k
  · rw [decide_eq_false (fun x => h2 x.2.1)] at k; exact k
  · rw [decide_eq_false (fun x => h1 x.1)] at k; exact k
section
variable (l0 : h0.le h) (fr : ∀ x, g.D S.M.length x = true → h0 x = none) (A : XAt h g S)
include l0 fr A
theorem S_xIn {m c a : Int} (ha : I64 a) (k : ∀ h', h0.le h' → XAt h' g (inG S m c a).2 → K (.int .i64 (inG S m c a).1) h') : CallA Try.prog fn_pref08_Ledger_In [pointer (some ⟨g.p, 0, none⟩), .int .i64 m, .int .i64 c, .int .i64 a] h K := by
  refine F_pref08_Ledger_In _ _ _ _ _ _ ?_
  unfold F_pref08_Ledger_InT
  refine S_xHas A ⟨_, rfl, ?_⟩
  unfold inG at k
  by_cases hb : hasB S m c = false
  · rw [if_pos hb] at k
    rw [hb]
    exact Br.yes rfl (Ret.mk (k h l0 A))
  rw [if_neg hb] at k
  have hb : hasB S m c = true := by simpa using hb
  rw [hb]
  obtain ⟨i, j, rfl, rfl, hi, hj⟩ := hasB_t hb
  refine Br.no rfl (Br.dec (fun h2 => ?_) fun h2 => ?_)
  · rw [if_pos h2] at k
    exact Ret.mk (k h l0 A)
  rw [if_neg h2] at k
  simp only [Int.toNat_natCast] at k
  refine L_pref08_Ledger_In_1003r _ _ _ _ _ _ ?_
  unfold L_pref08_Ledger_In_1003T
  refine A.getM hi hj (S_fit2 (A.sz.i64 i j) ha fun h1 l1 => ?_)
  refine (A.le l1).getN hj (S_fit2 (A.sz.n64 j) ha fun h3 l3 => ?_)
  have l13 := Heap.le_trans l1 l3
  have l03 := Heap.le_trans l0 l13
  have A3 := A.le l13
  by_cases g1 : (fit (rdM S.M i j + a)).2 ≠ 0
  · rw [if_pos g1] at k
    exact Br.yes (by simpa using g1) (Ret.mk (k h3 l03 A3))
  rw [if_neg g1] at k
  by_cases g2 : (fit (S.N.getD j 0 + a)).2 ≠ 0
  · rw [if_pos g2] at k
    exact Br.no (by simpa using g1) (Br.yes (by simpa using g2) (Ret.mk (k h3 l03 A3)))
  rw [if_neg g2] at k
  rw [fit_e g1, fit_e g2]
  refine Br.no (by simpa using g1) (Br.no (by simpa using g2) ?_)
  refine L_pref08_Ledger_In_1007r _ _ _ _ _ _ _ ?_
  unfold L_pref08_Ledger_In_1007T
  have A4 := A3.wrR (v := rdM S.M i j + a) hi hj (fit_in g1)
  have A5 := A4.wrN (v := S.N.getD j 0 + a) hj (fit_in g2)
  exact A3.putM hi hj ⟨A3.stR hi hj, A4.putN hj ⟨A4.stN hj, Ret.mk (k _ (le_setN (le_setN l03 (fr _ (XFr.D_f (g.f.D_row hi)))) (fr _ (g.D_q _))) A5)⟩⟩
end
end
end Go.Proofs.Ytghdadniddoboaa

/- The reference's ledger: swaps; made new; copied. -/
namespace Go.Proofs.Ytghdadniddoboaa
open Go Go.Sy Go.Value
set_option linter.unusedVariables false
set_option linter.unusedSimpArgs false

theorem S_turn2 {a b : Int} (ha : I64 a) (hb : I64 b) {h : Heap} {Q : Int → Int → Heap → Prop} (k : ∀ h', h.le h' → Q (fit (a - b)).1 (fit (a - b)).2 h') :
    CallA Try.prog fn_ref01_Of [.int .i64 a] h fun (v : Value) (h : Heap) => ∃ (b1 : Bool), ∃ (a1 : Option Addr), ∃ (n : Nat), ∃ (m : Nat), v = agg #[Value.bool b1, slice a1 n m] ∧
      CallA Try.prog fn_ref01_Of [.int .i64 b] h fun (v : Value) (h : Heap) => ∃ (b2 : Bool), ∃ (a2 : Option Addr), ∃ (n2 : Nat), ∃ (m2 : Nat), v = agg #[Value.bool b2, slice a2 n2 m2] ∧
        CallA Try.prog fn_ref01_Turned [agg #[Value.bool b2, slice a2 n2 m2]] h fun (v : Value) (h : Heap) => ∃ (b2 : Bool), ∃ (a2 : Option Addr), ∃ (n2 : Nat), ∃ (m2 : Nat), v = agg #[Value.bool b2, slice a2 n2 m2] ∧
        CallA Try.prog fn_ref01_Add [agg #[Value.bool b1, slice a1 n m], agg #[Value.bool b2, slice a2 n2 m2]] h fun (v : Value) (h : Heap) => ∃ (b3 : Bool), ∃ (a3 : Option Addr), ∃ (n3 : Nat), ∃ (m3 : Nat), v = agg #[Value.bool b3, slice a3 n3 m3] ∧
          CallA Try.prog fn_ref01_Fit [agg #[Value.bool b3, slice a3 n3 m3]] h fun (v : Value) (h : Heap) => ∃ (x : Int), ∃ (e : Int), v = tuple #[.int .i64 x, .int .i64 e] ∧ Q x e h := by
  refine S_Of ha fun v1 h1 l1 bn1 => ?_
  have br1 := bn1.raw
  obtain ⟨n1, p1, c1, d1, rfl, _⟩ := bn1
  refine ⟨_, _, _, _, rfl, S_Of hb fun v2 h2 l2 bn2 => ?_⟩
  have br2 := bn2.raw
  obtain ⟨n2, p2, c2, d2, rfl, _⟩ := bn2
  refine ⟨_, _, _, _, rfl, S_Turned br2 (by omega) fun v5 h5 l5 bn5 => ?_⟩
  have br5 := bn5.raw
  obtain ⟨n5, p5, c5, d5, rfl, _⟩ := bn5
  refine ⟨_, _, _, _, rfl, S_Add_Big (br1.le (Heap.le_trans l2 l5)) br5 (Nat.le_refl _) (Nat.le_refl _) (by omega) fun v3 h3 l3 bn3 => ?_⟩
  have br3 := bn3.raw
  obtain ⟨n3, p3, c3, d3, rfl, _⟩ := bn3
  exact ⟨_, _, _, _, rfl, S_Fit br3 (by omega) fun h4 l4 => ⟨_, _, rfl, k h4 (Heap.le_trans l1 (Heap.le_trans l2 (Heap.le_trans l5 (Heap.le_trans l3 l4))))⟩⟩
section
variable {h0 h : Heap} {K : Value → Heap → Prop} {g : XFr} {S : Lg}
end
/-! rows, one by one, behind a pointer -/
structure XNew (h0 h : Heap) (x B : Nat) (bs : List Value) (w bc : Nat) (a : Option Addr) (C : Nat) (R CC : Nat → Nat) (SP : Nat → List Value) (M : Mx) : Prop where
  rb : RwB h0 h a C R CC SP M w
  ax : At h x [.slice a M.length C, .slice (some ⟨B, 0, none⟩) w bc]
  ab : At h B bs
  nx : h0 x = none
  nB : h0 B = none
  xB : B ≠ x
  dx : a ≠ some ⟨x, 0, none⟩
  dB : a ≠ some ⟨B, 0, none⟩
  rx : ∀ i, i < M.length → R i ≠ x
  rB : ∀ i, i < M.length → R i ≠ B
section
variable {h0 h : Heap} {x B w bc : Nat} {bs : List Value} {a : Option Addr} {C : Nat} {R CC : Nat → Nat} {SP : Nat → List Value} {M : Mx}
theorem XNew.le {h' : Heap} (I : XNew h0 h x B bs w bc a C R CC SP M) (l : h.le h') : XNew h0 h' x B bs w bc a C R CC SP M := { I with rb := I.rb.le l, ax := I.ax.le l, ab := I.ab.le l }
/-- one row more -/
theorem XNew.push {t T : TypeId} (I : XNew h0 h x B bs w bc a C R CC SP M) {r c : Nat} {row : List Int} {sp : List Value} (nr : h0 r = none) (ar : At h r (intsV .i64 row ++ sp)) (na : a ≠ some ⟨r, 0, none⟩) (nR : ∀ i, i < M.length → R i ≠ r) (rx' : r ≠ x) (rB' : r ≠ B) (hw : row.length = w) (hs : M.length ≤ 1000) {n : Nat} (hn : M.length = n) {Q : Heap → Prop}
    (k : ∀ h' a' C' R' CC' SP', XNew h0 h' x B bs w bc a' C' R' CC' SP' (M ++ [row]) → Q h') :
    newB h [.slice (some ⟨r, 0, none⟩) w c] T fun s h1 => AppA [.slice none 0 0] t h1 a n C 1 (some ⟨s, 0, none⟩) fun a' C' h' => h'.canSt x 0 1 ∧ Q (h'.setN x 0 [.slice a' (n + 1) C']) := by
  refine I.rb.push nr ar na nR hw (by omega) hn fun s3 h3 a3 C3 h4 hs3 l3 I4 keep4 how4 => ?_
  have Ax3 := I.ax.le l3
  have Ab3 := I.ab.le l3
  have Ax4 := keepAt keep4 Ax3 I.dx
  refine ⟨Ax4.canSt (by simp), ?_⟩
  have dx4 := push_ne how4 Ax3 I.dx
  have dB4 := push_ne how4 Ab3 I.dB
  have rx4 : ∀ i, i < (M ++ [row]).length → (if i = M.length then r else R i) ≠ x := fun i hi => by
    rw [List.length_append, List.length_singleton] at hi
    split
    · exact rx'
    · exact I.rx i (by omega)
  have rB4 : ∀ i, i < (M ++ [row]).length → (if i = M.length then r else R i) ≠ B := fun i hi => by
    rw [List.length_append, List.length_singleton] at hi
    split
    · exact rB'
    · exact I.rB i (by omega)
  have Ax5 := Ax4.set (o := 0) (ws := [.slice a3 (n + 1) C3])
  have Ab5 := (keepAt keep4 Ab3 I.dB).set_ne (o := 0) (ws := [.slice a3 (n + 1) C3]) I.xB
  have hl5 : (M ++ [row]).length = n + 1 := by rw [List.length_append, hn]; rfl
  exact k _ a3 C3 _ _ _ ⟨I4.set I.nx dx4 rx4, by rw [hl5]; exact Ax5, Ab5, I.nx, I.nB, I.xB, dx4, dB4, rx4, rB4⟩
theorem XNew.ne (I : XNew h0 h x B bs w bc a C R CC SP M) {r : Nat} (hr : h r = none) : r ≠ x ∧ r ≠ B := ⟨fun e => I.ax.ne hr e.symm, fun e => I.ab.ne hr e.symm⟩
theorem XNew.fin {S : Lg} {qs : List Value} (I : XNew h0 h x B (intsV .i64 (S.N.take S.cur) ++ qs) S.cur bc a C R CC SP (cutM S)) (o : S.Sz) : ∃ g : XFr, g.p = x ∧ XAt h g S ∧ ∀ y, g.D S.M.length y = true → h0 y = none := by
  obtain ⟨rs, A, hf⟩ := I.rb.fin
  have hl := cutM_len S
  have nD : ∀ y, a ≠ some ⟨y, 0, none⟩ → (∀ i, i < (cutM S).length → R i ≠ y) → (⟨a, C, rs, R, CC, SP⟩ : Rws).D S.M.length y = false := fun y h1 h2 => by
    cases hd : (⟨a, C, rs, R, CC, SP⟩ : Rws).D S.M.length y with
    | false => rfl
    | true =>
      rcases Rws.D_t hd with ⟨_, e⟩ | ⟨i, hi, e⟩
      · exact (h1 e).elim
      · exact (h2 i (by omega) e).elim
  refine ⟨⟨x, ⟨a, C, rs, R, CC, SP⟩, B, bc, qs⟩, rfl, ⟨by rw [← hl]; exact I.ax, A, I.ab, nD x I.dx I.rx, I.xB, nD B I.dB I.rB, o⟩, fun y hy => ?_⟩
  rcases XFr.D_t hy with rfl | rfl | e
  · exact I.nx
  · exact I.nB
  · exact hf y (by rw [hl]; exact e)
end
section
variable {h0 h : Heap} {K : Value → Heap → Prop} {g : XFr} {S : Lg}
theorem S_xCopy (A : XAt h g S) (k : ∀ h' g', h.le h' → XAt h' g' S → (∀ y, g'.D S.M.length y = true → h y = none) → K (pointer (some ⟨g'.p, 0, none⟩)) h') : CallA Try.prog fn_pref08_Ledger_Copy [pointer (some ⟨g.p, 0, none⟩)] h K := by
  refine F_pref08_Ledger_Copy _ _ _ ?_
  unfold F_pref08_Ledger_CopyT
  have n16 := A.sz.n16
  have c1 := A.sz.c1
  have c8 := A.sz.c8
  have N8 := A.sz.N8
  have hl := cutM_len S
  have hNl : (S.N.take S.cur).length = S.cur := by rw [List.length_take]; omega
  intro r hr
  refine withAddr_intro rfl ⟨_, _, _, (A.le (le_ins hr)).nos, ?_⟩
  refine (own_new hr).push2 (by decide) (le_ins hr) (by omega) (ws := intsV .i64 (S.N.take S.cur)) (by rw [intsV_length, hNl]; simp) ((A.le (le_ins hr)).nd.toRd) (allCells_ints _ _) rfl fun p' c' h1 l1 w1' keep1 how1 => ?_
  rw [List.nil_append] at w1'
  rcases w1' with ⟨e, _, _⟩ | ⟨B, sp, rfl, nB, AB, _⟩
  · have := congrArg List.length e
    rw [intsV_length, hNl, List.length_nil] at this
    omega
  refine newB_at fun x h2 hx l2 Ax => ?_
  rw [Nat.zero_add] at Ax
  have l12 := Heap.le_trans l1 l2
  have main : ∀ (m j : Nat) (h3 : Heap) (a : Option Addr) (C : Nat) (R CC : Nat → Nat) (SP : Nat → List Value), m + j = S.M.length → XNew h h3 x B (intsV .i64 (S.N.take S.cur) ++ sp) S.cur c' a C R CC SP ((cutM S).take j) → L_pref08_Ledger_Copy_0 (some ⟨g.p, 0, none⟩) x (j : Int) h3 K := by
    intro m
    induction m with
    | zero =>
      intro j h3 a C R CC SP hj I
      refine L_pref08_Ledger_Copy_0r _ _ _ _ _ ?_
      unfold L_pref08_Ledger_Copy_0T
      rw [show (cutM S).take j = cutM S from List.take_of_length_le (by omega)] at I
      obtain ⟨g', ep, A', hf⟩ := I.fin A.sz
      have := k h3 g' I.rb.base A' hf
      rw [ep] at this
      exact withAddr_intro rfl ⟨_, _, _, (A.le I.rb.base).rows, Br.no (by simp; omega) (Ret.mk this)⟩
    | succ m ih =>
      intro j h3 a C R CC SP hj I
      refine L_pref08_Ledger_Copy_0r _ _ _ _ _ ?_
      unfold L_pref08_Ledger_Copy_0T
      have base := I.rb.base
      have A3 := A.le base
      have hjl : j < S.M.length := by omega
      have hjc : j < (cutM S).length := by omega
      obtain ⟨B2, eB2, hcl⟩ := A3.rw.cl hjc
      have htl : ((cutM S).take j).length = j := by rw [List.length_take]; omega
      have hrow := A3.rw.sh.row hjc
      have htk : (cutM S).take (j + 1) = (cutM S).take j ++ [(cutM S).getD j []] := by rw [List.take_add_one, List.getD_eq_getElem?_getD, List.getElem?_eq_getElem hjc]; rfl
      have ax3 := I.ax
      rw [htl] at ax3
      refine withAddr_intro rfl ⟨_, _, _, A3.rows, Br.yes (by simp; omega) ⟨_, _, _, ax3.cell rfl, withAddr_intro rfl ⟨_, _, _, A3.rows, by omega, by omega, withAddr_intro eB2 ⟨_, _, _, hcl, fun s hs => ?_⟩⟩⟩⟩
      refine (own_new hs).push2 (by decide) (le_ins hs) (by omega) (ws := intsV .i64 ((cutM S).getD j [])) (by rw [intsV_length, hrow]; simp) ((A3.le (le_ins hs)).rw.row j hjc).toRd (allCells_ints _ _) rfl fun p5 c5 h5 l5 w5 keep5 how5 => ?_
      rw [List.nil_append] at w5
      rcases w5 with ⟨e, _, _⟩ | ⟨r5, sp5, rfl, nr5, A5, _⟩
      · have := congrArg List.length e
        rw [intsV_length, hrow, List.length_nil] at this
        omega
      refine ⟨.inr fun b hb yy hy => ?_, ?_⟩
      · rw [List.mem_singleton] at hb
        subst hb
        exact keep5 b yy hy fun e => by cases e; exact I.ax.ne hs rfl
      · rw [Nat.zero_add]
        have fr := I.rb.fresh nr5
        have ne5 := I.ne nr5
        refine (I.le l5).push (Q := fun h' => L_pref08_Ledger_Copy_0 (some ⟨g.p, 0, none⟩) x (IntKind.wrap .i64 ((j : Int) + 1)) h' K) (none_of_le base nr5) A5 fr.1 fr.2 ne5.1 ne5.2 hrow (by omega) htl fun h6 a6 C6 R6 CC6 SP6 I6 => ?_
        rw [w1 (by omega)]
        rw [← htk] at I6
        exact ih (j + 1) h6 a6 C6 R6 CC6 SP6 (by omega) I6
  exact main S.M.length 0 h2 none 0 (fun _ => 0) (fun _ => 0) (fun _ => []) (by omega) ⟨RwB.nil _ _ l12 _, Ax, AB.le l2, none_of_le l1 hx, nB, AB.ne hx, fun e => (by cases e), fun e => (by cases e), fun i hi => absurd hi (by simp), fun i hi => absurd hi (by simp)⟩
theorem newG_cut (n w : Nat) (hw : w ≤ 8) : cutM (newG n w) = List.replicate n (List.replicate w 0) ∧ (newG n w).N.take (newG n w).cur = List.replicate w 0 := by
  constructor
  · show (List.replicate n (List.replicate 8 (0 : Int))).map (·.take w) = _
    rw [List.map_replicate, List.take_replicate, Nat.min_eq_left hw]
  · show (List.replicate 8 (0 : Int)).take w = _
    rw [List.take_replicate, Nat.min_eq_left hw]
theorem repL_zero (n : Nat) : repL n [Value.int .i64 0] = intsV .i64 (List.replicate n 0) := by
  induction n with
  | zero => rfl
  | succ n ih => rw [List.replicate_succ, intsV, ← ih]; rfl
theorem S_xNew {m c : Int} (k1 : ¬ (1 ≤ m ∧ m ≤ 16 ∧ 1 ≤ c ∧ c ≤ 8) → K (tuple #[.pointer none, .int .i64 1]) h)
    (k2 : ∀ n w : Nat, m = (n : Int) → c = (w : Int) → 1 ≤ n → n ≤ 16 → 1 ≤ w → w ≤ 8 → ∀ h' g, h.le h' → XAt h' g (newG n w) → (∀ y, g.D n y = true → h y = none) → K (tuple #[.pointer (some ⟨g.p, 0, none⟩), .int .i64 0]) h') :
    CallA Try.prog fn_ref08_New [.int .i64 m, .int .i64 c] h K := by
  refine F_ref08_New _ _ _ _ ?_
  unfold F_ref08_NewT
  refine Br.dec (fun h1 => Ret.mk (k1 (by omega))) fun h1 => Br.dec (fun h2 => Ret.mk (k1 (by omega))) fun h2 => Br.dec (fun h3 => Ret.mk (k1 (by omega))) fun h3 => Br.dec (fun h4 => Ret.mk (k1 (by omega))) fun h4 => ?_
  obtain ⟨n, rfl⟩ : ∃ n : Nat, m = n := ⟨m.toNat, by omega⟩
  obtain ⟨w, rfl⟩ : ∃ w : Nat, c = w := ⟨c.toNat, by omega⟩
  have o := (newG_ok (n := n) (c := w) (by omega) (by omega) (by omega) (by omega)).toSz
  obtain ⟨ec, eN⟩ := newG_cut n w (by omega)
  refine ⟨by omega, by omega, by omega, by omega, newB_at fun B h1 hB l1 AB => newB_at fun x h2 hx l2 Ax => ?_⟩
  rw [Int.toNat_natCast, repL_zero] at AB
  rw [Int.toNat_natCast] at Ax
  have l12 := Heap.le_trans l1 l2
  have main : ∀ (m j : Nat) (h3 : Heap) (a : Option Addr) (C : Nat) (R CC : Nat → Nat) (SP : Nat → List Value), m + j = n → XNew h h3 x B (intsV .i64 (List.replicate w 0) ++ []) w w a C R CC SP (List.replicate j (List.replicate w 0)) → L_ref08_New_0 (n : Int) (w : Int) x (j : Int) h3 K := by
    intro m
    induction m with
    | zero =>
      intro j h3 a C R CC SP hj I
      refine L_ref08_New_0r _ _ _ _ _ _ ?_
      unfold L_ref08_New_0T
      have hjn : j = n := by omega
      subst hjn
      rw [← ec, ← eN] at I
      obtain ⟨g', ep, A', hf⟩ := I.fin o
      have := k2 j w rfl rfl (by omega) (by omega) (by omega) (by omega) h3 g' I.rb.base A' (fun y hy => hf y (by unfold newG; rw [List.length_replicate]; exact hy))
      rw [ep] at this
      exact Br.no (by simp) (Ret.mk this)
    | succ m ih =>
      intro j h3 a C R CC SP hj I
      refine L_ref08_New_0r _ _ _ _ _ _ ?_
      unfold L_ref08_New_0T
      have base := I.rb.base
      have htl : (List.replicate j (List.replicate w (0 : Int))).length = j := List.length_replicate
      have ax3 := I.ax
      rw [htl] at ax3
      refine Br.yes (by simp; omega) ⟨_, _, _, ax3.cell rfl, by omega, by omega, by omega, by omega, newB_at fun r5 h5 nr5 l5 A5 => ?_⟩
      rw [Int.toNat_natCast, repL_zero] at A5
      rw [Int.toNat_natCast]
      have fr := I.rb.fresh nr5
      have ne5 := I.ne nr5
      refine (I.le l5).push (Q := fun h' => L_ref08_New_0 (n : Int) (w : Int) x (IntKind.wrap .i64 ((j : Int) + 1)) h' K) (row := List.replicate w 0) (sp := []) (none_of_le base nr5) (by rw [List.append_nil]; exact A5) fr.1 fr.2 ne5.1 ne5.2 List.length_replicate (by omega) htl fun h6 a6 C6 R6 CC6 SP6 I6 => ?_
      rw [w1 (by omega)]
      rw [← List.replicate_succ'] at I6
      exact ih (j + 1) h6 a6 C6 R6 CC6 SP6 (by omega) I6
  exact main n 0 h2 none 0 (fun _ => 0) (fun _ => 0) (fun _ => []) (by omega) ⟨RwB.nil _ _ l12 _, Ax, by rw [List.append_nil]; exact AB.le l2, none_of_le l1 hx, hB, AB.ne hx, fun e => (by cases e), fun e => (by cases e), fun i hi => absurd hi (by simp), fun i hi => absurd hi (by simp)⟩
end
end Go.Proofs.Ytghdadniddoboaa
