import Derived.Test.YtghdadniddoboaaM03
import Derived.Test.YtghdadniddoboaaM08
/- Shares: walked. -/
namespace Go.Proofs.Ytghdadniddoboaa
open Go Go.Sy Go.Value
set_option linter.unusedVariables false
set_option linter.unusedSimpArgs false

/-- lists that lie apart -/
def Dj (p q : Option Addr) : Prop := ∀ B, p = some ⟨B, 0, none⟩ → q ≠ some ⟨B, 0, none⟩
theorem Dj.symm {p q : Option Addr} (d : Dj p q) : Dj q p := fun B e1 e2 => d B e2 e1
theorem Dj.none (q : Option Addr) : Dj Option.none q := fun B e => by cases e
/-- one more behind a list of one's own: what lies apart stays -/
theorem pushK {h0 h : Heap} {p : Option Addr} {c j : Nat} {l : List Int} {v : Int} {T t : TypeId} {J : Option Addr → Nat → Heap → Prop} (x : OwnL h0 h [.int .i64 0] p c (intsV .i64 l)) (l0 : h0.le h) (hl : l.length = j) (hj : j ≤ 1000)
    (k : ∀ p' c' h', h0.le h' → OwnL h0 h' [.int .i64 0] p' c' (intsV .i64 (l ++ [v])) →
      (∀ q cq lq, OwnL h0 h [.int .i64 0] q cq lq → Dj p q → OwnL h0 h' [.int .i64 0] q cq lq ∧ Dj p' q) → (∀ b xs, At h b xs → p ≠ some ⟨b, 0, none⟩ → At h' b xs ∧ p' ≠ some ⟨b, 0, none⟩) → J p' c' h') :
    newB h [.int .i64 v] T fun r h1 => AppA [.int .i64 0] t h1 p j c 1 (some ⟨r, 0, none⟩) J := by
  refine push1 x (by decide) l0 (by omega) rfl rfl (by rw [intsV_length, hl]; simp) fun r h1 p' c' h' hr l1 l' w keep how => ?_
  have A : ∀ b xs, At h b xs → p ≠ some ⟨b, 0, none⟩ → At h' b xs ∧ p' ≠ some ⟨b, 0, none⟩ := fun b xs a e => ⟨keepAt keep (a.le l1) e, push_ne how (a.le l1) e⟩
  refine k p' c' h' l' (by rw [intsV_append]; exact w) (fun q cq lq o d => ⟨o.mv fun b xs e a => (A b xs a fun e2 => d b e2 e).1, fun B e1 e2 => ?_⟩) A
  rcases o with ⟨_, e, _⟩ | ⟨s, sp, e, _, a, _⟩
  · rw [e] at e2; cases e2
  · rw [e] at e2
    have e2 : s = B := by simpa using e2
    subst e2
    exact (A s _ a fun e3 => d s e3 e).2 e1

section
variable {h : Heap} {K : Value → Heap → Prop}
theorem rest_eq {t w q s : Int} (h0 : 0 ≤ t * w - q * s) (h1 : t * w - q * s ≤ 9223372036854775807) :
    IntKind.wrap .i64 (IntKind.wrap .u64 (IntKind.wrap .u64 (IntKind.wrap .u64 t * IntKind.wrap .u64 w) - IntKind.wrap .u64 (IntKind.wrap .u64 q * IntKind.wrap .u64 s))) = t * w - q * s := by
  have e : ∀ a b : Int, IntKind.wrap .u64 (IntKind.wrap .u64 a * IntKind.wrap .u64 b) = IntKind.wrap .u64 (a * b) := fun a b => by
    rw [wrap_u64, wrap_u64, wrap_u64, wrap_u64, ← Int.mul_emod]
  rw [e, e]
  generalize t * w = x at *
  generalize q * s = y at *
  rw [wrap_u64, wrap_u64, wrap_u64, wrap_i64]
  omega
theorem S_rest {t w q s : Int} (h0 : 0 ≤ t * w - q * s) (h1 : t * w - q * s ≤ 9223372036854775807) (k : K (.int .i64 (t * w - q * s)) h) : CallA Try.prog fn_split_rest [.int .i64 t, .int .i64 w, .int .i64 q, .int .i64 s] h K := by
  refine F_split_rest _ _ _ _ _ _ ?_
  unfold F_split_restT
  refine Ret.mk ?_
  rw [rest_eq h0 h1]; exact k
/-! a list is looked through -/
theorem S_belowS {n : Int} (k : K (.bool (decide (n < 0))) h) : CallA Try.prog fn_split_below [.int .i64 n] h K := by
  refine F_split_below _ _ _ ?_
  unfold F_split_belowT
  exact Ret.mk k
theorem S_aboveS {n : Int} (k : K (.bool (decide (n > 0))) h) : CallA Try.prog fn_split_Shares_1 [.int .i64 n] h K := by
  refine F_split_Shares_1 _ _ _ ?_
  unfold F_split_Shares_1T
  exact Ret.mk k
theorem idx_sd {q : Option Addr} {l : List Int} {n c : Nat} (I : Ints .i64 h q l) (hn : l.length = n) (hs : n ≤ 1000000) (k : ∀ v : Int, decide (v ≥ 0) = l.any (fun x => decide (x < 0)) → K (.int .i64 v) h) :
    ∀ (m j : Nat), m + j = n → l.any (fun x => decide (x < 0)) = (l.drop j).any (fun x => decide (x < 0)) → L_slices_IndexFunc_int64_int64_d_0 q n c (n : Int) (j : Int) h K := by
  intro m
  induction m with
  | zero =>
    intro j hj e
    refine L_slices_IndexFunc_int64_int64_d_0r _ _ _ _ _ _ _ ?_
    unfold L_slices_IndexFunc_int64_int64_d_0T
    rw [List.drop_eq_nil_of_le (by omega)] at e
    exact Br.no (by simp; omega) (Ret.mk (k (-1) (by rw [e]; rfl)))
  | succ m ih =>
    intro j hj e
    refine L_slices_IndexFunc_int64_int64_d_0r _ _ _ _ _ _ _ ?_
    unfold L_slices_IndexFunc_int64_int64_d_0T
    have hx : l[j]? = some l[j] := List.getElem?_eq_getElem (by omega)
    rw [List.drop_eq_getElem_cons (by omega : j < l.length), List.any_cons] at e
    refine Br.yes (by simp; omega) (ix I hn rfl hx (S_belowS ⟨_, rfl, Br.intro (fun g => ?_) fun g => ?_⟩))
    · rw [g, Bool.true_or] at e
      exact Ret.mk (k (j : Int) (by rw [e]; exact decide_eq_true (by omega)))
    · rw [g, Bool.false_or] at e
      rw [wrap_i64_id (n := (j : Int) + 1) (by omega) (by omega)]
      exact ih (j + 1) (by omega) e
theorem S_anyNegS {q : Option Addr} {l : List Int} {n c : Nat} (I : Ints .i64 h q l) (hn : l.length = n) (hs : n ≤ 1000000) (k : K (.bool (anyNeg l)) h) :
    CallA Try.prog fn_slices_ContainsFunc_int64_int64 [slice q n c, func (Fn.func fn_split_below) #[] #[]] h K := by
  refine F_slices_ContainsFunc_int64_int64_d _ _ _ _ _ ?_
  unfold F_slices_ContainsFunc_int64_int64_dT
  refine F_slices_IndexFunc_int64_int64_d _ _ _ _ _ ?_
  unfold F_slices_IndexFunc_int64_int64_dT
  refine idx_sd I hn hs (fun v hv => ⟨_, rfl, Ret.mk ?_⟩) n 0 (by omega) rfl
  rw [hv]; exact k
theorem idx_se {q : Option Addr} {l : List Int} {n c : Nat} (I : Ints .i64 h q l) (hn : l.length = n) (hs : n ≤ 1000000) (k : ∀ v : Int, decide (v ≥ 0) = l.any (fun x => decide (x > 0)) → K (.int .i64 v) h) :
    ∀ (m j : Nat), m + j = n → l.any (fun x => decide (x > 0)) = (l.drop j).any (fun x => decide (x > 0)) → L_slices_IndexFunc_int64_int64_e_0 q n c (n : Int) (j : Int) h K := by
  intro m
  induction m with
  | zero =>
    intro j hj e
    refine L_slices_IndexFunc_int64_int64_e_0r _ _ _ _ _ _ _ ?_
    unfold L_slices_IndexFunc_int64_int64_e_0T
    rw [List.drop_eq_nil_of_le (by omega)] at e
    exact Br.no (by simp; omega) (Ret.mk (k (-1) (by rw [e]; rfl)))
  | succ m ih =>
    intro j hj e
    refine L_slices_IndexFunc_int64_int64_e_0r _ _ _ _ _ _ _ ?_
    unfold L_slices_IndexFunc_int64_int64_e_0T
    have hx : l[j]? = some l[j] := List.getElem?_eq_getElem (by omega)
    rw [List.drop_eq_getElem_cons (by omega : j < l.length), List.any_cons] at e
    refine Br.yes (by simp; omega) (ix I hn rfl hx (S_aboveS ⟨_, rfl, Br.intro (fun g => ?_) fun g => ?_⟩))
    · rw [g, Bool.true_or] at e
      exact Ret.mk (k (j : Int) (by rw [e]; exact decide_eq_true (by omega)))
    · rw [g, Bool.false_or] at e
      rw [wrap_i64_id (n := (j : Int) + 1) (by omega) (by omega)]
      exact ih (j + 1) (by omega) e
theorem S_anyPosS {q : Option Addr} {l : List Int} {n c : Nat} (I : Ints .i64 h q l) (hn : l.length = n) (hs : n ≤ 1000000) (k : K (.bool (anyPos l)) h) :
    CallA Try.prog fn_slices_ContainsFunc_int64_int64 [slice q n c, func (Fn.func fn_split_Shares_1) #[] #[]] h K := by
  refine F_slices_ContainsFunc_int64_int64_e _ _ _ _ _ ?_
  unfold F_slices_ContainsFunc_int64_int64_eT
  refine F_slices_IndexFunc_int64_int64_e _ _ _ _ _ ?_
  unfold F_slices_IndexFunc_int64_int64_eT
  refine idx_se I hn hs (fun v hv => ⟨_, rfl, Ret.mk ?_⟩) n 0 (by omega) rfl
  rw [hv]; exact k
end
section
variable {h0 : Heap} {K : Value → Heap → Prop}
/-! one more each -/
theorem shares_1 {B : Nat} {sp : List Value} {whoP : Option Addr} {whoc sc n m : Nat} {t : Int} (hB0 : h0 B = none) {who : List Int} (hm : who.length = m) (hm2 : m ≤ 64) (hn : n ≤ 64) (hr : ∀ i ∈ who, 0 ≤ i ∧ i < (n : Int)) (ht : t ≤ 9223372036854775807) {res : List Int}
    (k : ∀ h', h0.le h' → At h' B (intsV .i64 res ++ sp) → K (tuple #[slice (some ⟨B, 0, none⟩) n sc, .int .i64 0]) h') :
    ∀ (q j : Nat) (h : Heap) (l : List Int), q + j = m → h0.le h → Ints .i64 (h.del B) whoP who → At h B (intsV .i64 l ++ sp) → l.length = n → geL l → sumL l + (q : Int) ≤ t → bump l (who.drop j) = res →
    L_split_Shares_1 (some ⟨B, 0, none⟩) n sc whoP m whoc (m : Int) (j : Int) h K := by
  intro q
  induction q with
  | zero =>
    intro j h l hj l0 I A hl hg hs e
    refine L_split_Shares_1r _ _ _ _ _ _ _ _ _ _ ?_
    unfold L_split_Shares_1T
    rw [List.drop_eq_nil_of_le (by omega)] at e
    have e : l = res := e
    subst e
    exact Br.no (by simp; omega) (Ret.mk (k h l0 A))
  | succ q ih =>
    intro j h l hj l0 I A hl hg hs e
    refine L_split_Shares_1r _ _ _ _ _ _ _ _ _ _ ?_
    unfold L_split_Shares_1T
    have hx : who[j]? = some who[j] := List.getElem?_eq_getElem (by omega)
    have hi := hr who[j] (List.getElem_mem _)
    rw [List.drop_eq_getElem_cons (by omega : j < who.length)] at e
    generalize who[j] = i at *
    have hg2 : l[i.toNat]? = some (l.getD i.toNat 0) := by
      rw [List.getD_eq_getElem?_getD, List.getElem?_eq_getElem (by omega)]; rfl
    have c1 : h.cell B i.toNat = some (.int .i64 (l.getD i.toNat 0)) := A.cell (by
      rw [List.getElem?_append_left (by rw [intsV_length]; omega), intsV_map, List.getElem?_map, hg2]; rfl)
    have hb : 0 ≤ l.getD i.toNat 0 ∧ l.getD i.toNat 0 ≤ sumL l := ⟨hg _ (List.mem_of_getElem? hg2), (sum_ge hg).2 _ (List.mem_of_getElem? hg2)⟩
    have w1 : IntKind.wrap .i64 ((j : Int) + 1) = ((j + 1 : Nat) : Int) := wp1 (by omega)
    rw [w1]
    refine Br.yes (by simp; omega) (ix (I.le (del_le h B)) hm rfl hx ⟨by omega, by omega, withAddr_intro rfl ⟨_, by rw [Nat.zero_add]; exact c1, by omega, by omega, withAddr_intro rfl ⟨A.canSt (by rw [List.length_append, intsV_length]; simp; omega), ?_⟩⟩⟩)
    rw [Nat.zero_add, wrap_i64_id (n := l.getD i.toNat 0 + 1) (by omega) (by omega)]
    have A2 := A.set (o := i.toNat) (ws := [.int .i64 (l.getD i.toNat 0 + 1)])
    rw [setL_i1 (by omega)] at A2
    refine ih (j + 1) _ (bump1 l i) (by omega) (le_setN l0 hB0) (by rw [del_set]; exact I) A2 (by rw [bump1_len]; exact hl) (bump1_ge i hg) ?_ (by rw [bump, List.foldl_cons] at e; exact e)
    rw [bump1_sum hi.1 (by omega)]
    omega
/-- what is under way -/
structure ShI (h0 h : Heap) (b : Nat) (p1 p2 p3 : Option Addr) (c1 c2 c3 : Nat) (l1 l2 l3 : List Int) : Prop where
  le : h0.le h
  fb : h0 b = none
  ab : At h b [slice p2 l2.length c2]
  o1 : OwnL h0 h [.int .i64 0] p1 c1 (intsV .i64 l1)
  o2 : OwnL h0 h [.int .i64 0] p2 c2 (intsV .i64 l2)
  o3 : OwnL h0 h [.int .i64 0] p3 c3 (intsV .i64 l3)
  d12 : Dj p1 p2
  d13 : Dj p1 p3
  d23 : Dj p2 p3
  n1 : p1 ≠ some ⟨b, 0, none⟩
  n2 : p2 ≠ some ⟨b, 0, none⟩
  n3 : p3 ≠ some ⟨b, 0, none⟩
theorem own_ap {h0 h : Heap} {p : Option Addr} {c : Nat} {l : List Int} (x : OwnL h0 h [.int .i64 0] p c (intsV .i64 l)) (hl : l ≠ []) : ∃ B sp, p = some ⟨B, 0, none⟩ ∧ h0 B = none ∧ At h B (intsV .i64 l ++ sp) ∧ c = l.length + sp.length := by
  rcases x with ⟨e, _, _⟩ | ⟨r, sp, e, e0, a, k⟩
  · have := congrArg List.length e; rw [intsV_length] at this; exact absurd (List.length_eq_zero_iff.1 (by simpa using this)) hl
  · refine ⟨r, sp, e, e0, a, ?_⟩
    rw [List.length_append, intsV_length] at k; simpa using k
theorem shares_0 {q : Option Addr} {ws : List Int} {n c : Nat} {t s : Int} (I : Ints .i64 h0 q ws) (hn : ws.length = n) (hn2 : n ≤ 64) (hI : allI64 ws) (ht : I64 t) (h0t : 0 ≤ t) (hw : geL ws) (hs : s = sumL ws) (hs0 : 0 < s) (hsI : I64 s) (hne : ws ≠ [])
    (k : ∀ B sp h' c', h0.le h' → h0 B = none → At h' B (intsV .i64 (sharesL t ws) ++ sp) → c' = n + sp.length → K (tuple #[slice (some ⟨B, 0, none⟩) n c', .int .i64 0]) h') :
    ∀ (m j : Nat) (h : Heap) (b : Nat) (p1 p2 p3 : Option Addr) (c1 c2 c3 : Nat), m + j = n → ShI h0 h b p1 p2 p3 c1 c2 c3 (baseL t s (ws.take j)) (restL t s (ws.take j)) (upTo j) →
    L_split_Shares_0 t s b p1 j c1 p3 j c3 (t - sumL (baseL t s (ws.take j))) q n c (n : Int) (j : Int) h K := by
  intro m
  induction m with
  | zero =>
    intro j h b p1 p2 p3 c1 c2 c3 hj S
    refine L_split_Shares_0r _ _ _ _ _ _ _ _ _ _ _ _ _ _ _ _ _ ?_
    unfold L_split_Shares_0T
    have hjn : j = n := by omega
    subst hjn
    rw [List.take_of_length_le (by omega)] at S ⊢
    refine Br.no (by simp) ⟨_, _, _, S.ab.cell rfl, ?_⟩
    obtain ⟨B3, sp3, rfl, f3, A3, hc3⟩ := own_ap S.o3 (by intro e; apply hne; have := congrArg List.length e; rw [upTo_len] at this; exact List.length_eq_zero_iff.1 (by rw [hn]; exact this))
    obtain ⟨B1, sp1, rfl, f1, A1, hc1⟩ := own_ap S.o1 (by intro e; apply hne; have := congrArg List.length e; rw [baseL_len] at this; exact List.length_eq_zero_iff.1 this)
    have h13 : B1 ≠ B3 := fun e => S.d13 B1 rfl (by rw [e])
    rw [restL_len, hn]
    have D : Da (h.del B3) B3 j j sp3 h (upTo j).toArray := ⟨del_le h B3, A3, by simp [upTo_len], fun x hx => upTo_mem.1 (by simpa using hx)⟩
    have I2 : Ints .i64 (h.del B3) p2 (restL t s ws) := by
      refine rd_del S.o2.rd fun o e => ?_
      rcases S.o2 with ⟨_, e2, _⟩ | ⟨r, sp, e2, _, _, _⟩
      · rw [e2] at e; cases e
      · rw [e2] at e
        injection e with e
        injection e with e3 e4
        exact S.d23 r e2 (by rw [e3])
    have := S_sortFunc (c := c3) (lc := c2) (g0 := h.del B3) (del_same h B3) (by rw [restL_len, hn]) I2 (by omega) D (K := fun v h' => v = tuple #[] ∧ ((0 : Int) ≤ t - sumL (baseL t s ws) ∧ t - sumL (baseL t s ws) ≤ (c3 : Int) ∧ L_split_Shares_1 (some ⟨B1, 0, none⟩) j c1 (some ⟨B3, 0, none⟩) (Int.toNat (t - sumL (baseL t s ws))) c3 (((Int.toNat (t - sumL (baseL t s ws)) : Nat) : Int)) 0 h' K)) fun h' d' D' P' s' => ⟨rfl, ?_⟩
    · exact this
    have hm := missing_range (t := t) (ws := ws) (by omega) hne
    rw [← hs] at hm
    rw [upTo_len] at hc3
    refine ⟨hm.1, by omega, ?_⟩
    have hord := ordL_of P' s'
    have hlen : d'.toList.length = j := by rw [hord, ordL_len]
    have l0' : h0.le h' := fun x y hx => D'.le x y (le_del S.le f3 x y hx)
    have W : Ints .i64 (h'.del B1) (some ⟨B3, 0, none⟩) (d'.toList.take (Int.toNat (t - sumL (baseL t s ws)))) := by
      have a := D'.at_.del (m := B1) (Ne.symm h13)
      have r := a.toRd
      have e : intsV .i64 d'.toList = intsV .i64 (d'.toList.take (Int.toNat (t - sumL (baseL t s ws)))) ++ intsV .i64 (d'.toList.drop (Int.toNat (t - sumL (baseL t s ws)))) := by rw [← intsV_append, List.take_append_drop]
      rw [e] at r
      exact rdL_take r
    have A1' : At h' B1 (intsV .i64 (baseL t s ws) ++ sp1) := (A1.del h13).le D'.le
    refine shares_1 (t := t) f1 (who := d'.toList.take (Int.toNat (t - sumL (baseL t s ws)))) (by rw [List.length_take, hlen]; omega) (by omega) hn2 (fun i hi => ?_) (by unfold I64 at ht; omega) (res := sharesL t ws) (fun h2 l2 A2 => ?_) _ 0 h' _ (Nat.add_zero _) l0' W A1' (by rw [baseL_len, hn]) (base_ge h0t hs0 hw) (by omega) ?_
    · have := List.mem_of_mem_take hi
      rw [hord, (ordL_perm _ _).mem_iff, upTo_mem] at this
      exact this
    · rw [baseL_len, hn] at hc1
      exact k B1 sp1 h2 c1 l2 f1 A2 hc1
    · rw [List.drop_zero, hord, sharesL, ← hs, hn]
  | succ m ih =>
    intro j h b p1 p2 p3 c1 c2 c3 hj S
    refine L_split_Shares_0r _ _ _ _ _ _ _ _ _ _ _ _ _ _ _ _ _ ?_
    unfold L_split_Shares_0T
    have hx : ws[j]? = some ws[j] := List.getElem?_eq_getElem (by omega)
    have hmem : ws[j] ∈ ws := List.getElem_mem _
    have e1 : ws.take (j + 1) = ws.take j ++ [ws[j]] := by rw [List.take_add_one, hx]; rfl
    have hwj := hw _ hmem
    have hws := (sum_ge hw).2 _ hmem
    have hIj := hI _ hmem
    have fin := missing_range (t := t) (ws := ws) (by omega) hne
    rw [← hs] at fin
    have hdr : 0 ≤ sumL (baseL t s (ws.drop (j + 1))) := (sum_ge (base_ge h0t hs0 fun x hx => hw x (List.mem_of_mem_drop hx))).1
    have htk : 0 ≤ sumL (baseL t s (ws.take j)) := (sum_ge (base_ge h0t hs0 fun x hx => hw x (List.mem_of_mem_take hx))).1
    have hall : sumL (baseL t s ws) = sumL (baseL t s (ws.take (j + 1))) + sumL (baseL t s (ws.drop (j + 1))) := by
      rw [← sumL_append]; unfold baseL; rw [← List.map_append, List.take_append_drop]
    have eb : baseL t s (ws.take (j + 1)) = baseL t s (ws.take j) ++ [t * ws[j] / s] := by rw [e1]; unfold baseL; rw [List.map_append]; rfl
    have er : restL t s (ws.take (j + 1)) = restL t s (ws.take j) ++ [t * ws[j] % s] := by rw [e1]; unfold restL; rw [List.map_append]; rfl
    have l1 : (baseL t s (ws.take j)).length = j := by rw [baseL_len, List.length_take]; omega
    have l2 : (restL t s (ws.take j)).length = j := by rw [restL_len, List.length_take]; omega
    rw [eb, sumL_append] at hall
    have nx := fun h b p1 p2 p3 c1 c2 c3 => ih (j + 1) h b p1 p2 p3 c1 c2 c3 (by omega)
    rw [eb, er, upTo_succ, sumL_append] at nx
    generalize ws[j] = w at *
    have hq0 : 0 ≤ t * w / s := Int.ediv_nonneg (Int.mul_nonneg h0t hwj) (by omega)
    have hqt : t * w / s ≤ t := Int.ediv_le_of_le_mul hs0 (Int.mul_le_mul_of_nonneg_left (by omega) h0t)
    have hr0 := Int.emod_nonneg (t * w) (show s ≠ 0 by omega)
    have hr1 := Int.emod_lt_of_pos (t * w) hs0
    have hdm : t * w - t * w / s * s = t * w % s := by have h1 := Int.mul_ediv_add_emod (t * w) s; have h2 := Int.mul_comm s (t * w / s); omega
    unfold I64 at ht hsI
    refine Br.yes (by simp; omega) (ix (I.le S.le) hn rfl hx (S_MulDiv ht hIj hsI false h _ ⟨_, _, rfl, ?_⟩))
    have emd : md t w s false = (t * w / s, 0) := by
      unfold md
      rw [if_neg (by omega)]
      exact fit_ok (show I64 (t * w / s) by unfold I64; omega)
    rw [emd]
    dsimp only
    generalize baseL t s (ws.take j) = BL at *
    generalize restL t s (ws.take j) = RL at *
    refine pushK (v := t * w / s) S.o1 S.le l1 (by omega) fun p1' c1' h1 m1 w1 keep1 A1 => ⟨p2, RL.length, c2, (A1 b _ S.ab S.n1).1.cell rfl, ?_⟩
    obtain ⟨o2, d2⟩ := keep1 p2 c2 _ S.o2 S.d12
    obtain ⟨o3, d3⟩ := keep1 p3 c3 _ S.o3 S.d13
    obtain ⟨a1, n1⟩ := A1 b _ S.ab S.n1
    refine S_rest (by omega) (by omega) ⟨_, rfl, .inl (Heap.le_refl _), ?_⟩
    rw [hdm]
    refine pushK (v := t * w % s) o2 m1 rfl (by omega) fun p2' c2' h2 m2 w2 keep2 A2 => ?_
    obtain ⟨o1', d1'⟩ := keep2 p1' c1' _ w1 d2.symm
    obtain ⟨o3', d3'⟩ := keep2 p3 c3 _ o3 S.d23
    obtain ⟨a2, n2⟩ := A2 b _ a1 S.n2
    refine ⟨a2.canSt (Nat.le_refl _), ?_⟩
    have a3 : At (h2.setN b 0 [slice p2' (RL.length + 1) c2']) b [slice p2' (RL.length + 1) c2'] := a2.set (o := 0)
    have m3 : h0.le (h2.setN b 0 [slice p2' (RL.length + 1) c2']) := le_setN m2 S.fb
    refine pushK (v := (j : Int)) (o3'.set_ne S.n3) m3 (by rw [upTo_len]) (by omega) fun p3' c3' h3 m4 w3 keep3 A3 => ?_
    obtain ⟨o1'', d1''⟩ := keep3 p1' c1' _ (o1'.set_ne n1) d3.symm
    obtain ⟨o2'', d2''⟩ := keep3 p2' c2' _ (w2.set_ne n2) d3'.symm
    obtain ⟨a4, n4⟩ := A3 b _ a3 S.n3
    rw [wp1 (by omega), wrap_i64_id (n := t - sumL BL - t * w / s) (by simp [sumL] at hall; omega) (by omega)]
    have e5 : t - (sumL BL + sumL [t * w / s]) = t - sumL BL - t * w / s := by simp [sumL]; omega
    rw [e5] at nx
    exact nx h3 b p1' p2' p3' c1' c2' c3' ⟨m4, S.fb, by rw [List.length_append]; exact a4, o1'', o2'', w3, d1'.symm, d1''.symm, d2''.symm, n1, n2, n4⟩
theorem S_Shares {h : Heap} {q : Option Addr} {ws : List Int} {n c : Nat} {t : Int} (I : Ints .i64 h q ws) (hn : ws.length = n) (hn2 : n ≤ 1000000) (hI : allI64 ws) (ht : I64 t)
    (k : ∀ p' c' h', h.le h' → Ints .i64 h' p' (sharesR t ws).1 → K (tuple #[slice p' (sharesR t ws).1.length c', .int .i64 (sharesR t ws).2]) h') :
    CallA Try.prog fn_split_Shares [.int .i64 t, slice q n c] h K := by
  refine F_split_Shares _ _ _ _ _ _ ?_
  unfold F_split_SharesT
  unfold sharesR at k
  refine Br.dec (fun g1 => ?_) fun g1 => ?_
  · rw [if_pos (by omega)] at k; exact Ret.mk (k none 0 h h.le_refl (.inl rfl))
  rw [if_neg (by omega)] at k
  refine Br.dec (fun g2 => ?_) fun g2 => ?_
  · rw [if_pos (by omega)] at k; exact Ret.mk (k none 0 h h.le_refl (.inl rfl))
  rw [if_neg (by omega)] at k
  refine S_anyNegS I hn hn2 ⟨_, rfl, Br.intro (fun g3 => ?_) fun g3 => ?_⟩
  · rw [if_pos g3] at k; exact Ret.mk (k none 0 h h.le_refl (.inl rfl))
  rw [if_neg (by rw [g3]; decide)] at k
  refine S_anyPosS I hn hn2 ⟨_, rfl, Br.intro (fun g4 => ?_) fun g4 => ?_⟩
  · rw [if_pos (by simpa using g4)] at k; exact Ret.mk (k none 0 h h.le_refl (.inl rfl))
  rw [if_neg (by simp at g4; rw [g4]; decide)] at k
  have g4 : anyPos ws = true := by simpa using g4
  have := S_Sum (l := ws) (by omega) hI (c := c) h I (K := fun v h => ∃ (n_1 : Int), ∃ (n_2 : Int), v = tuple #[.int .i64 n_1, .int .i64 n_2] ∧ Br (n_2 != 0) (Ret h K (tuple #[slice none 0 0, .int .i64 n_2]))
    (newB h [slice none 0 0] 96 fun (r : Nat) (h : Heap) => L_split_Shares_0 t n_1 r none 0 0 none 0 0 t q n c (n : Int) 0 h K)) ⟨_, _, rfl, Br.intro (fun g5 => ?_) fun g5 => ?_⟩
  · rw [hn] at this; exact this
  · rw [if_pos (by simpa using g5)] at k
    exact Ret.mk (k none 0 h h.le_refl (.inl rfl))
  have hfit : I64 (sumL ws) := Classical.byContradiction fun g => by rw [fit_over g] at g5; cases g5
  rw [if_neg (by rw [fit_ok hfit]; simp)] at k
  rw [fit_ok hfit]
  have hp := pos_of g3 g4
  dsimp only at k ⊢
  refine newB_at fun r h1 hr l1 A => ?_
  have ss := shares_0 (K := K) (s := sumL ws) (c := c) I hn (by omega) hI ht (by omega) (geL_of g3) rfl hp.1 hfit hp.2 (fun B sp h' c' l' f' A' hc' => ?_) n 0 h1 r none none none 0 0 0 (by omega) ⟨l1, hr, A, OwnL.nil _ _ _, OwnL.nil _ _ _, OwnL.nil _ _ _, Dj.none _, Dj.none _, Dj.none _, by simp, by simp, by simp⟩
  · simpa [baseL, sumL] using ss
  · rw [sharesL_len, hn] at k
    exact k (some ⟨B, 0, none⟩) c' h' l' A'.toRd
end
end Go.Proofs.Ytghdadniddoboaa

/- Rooms filled; a list of ones; shares evenly. -/
namespace Go.Proofs.Ytghdadniddoboaa
open Go Go.Sy Go.Value
set_option linter.unusedVariables false
set_option linter.unusedSimpArgs false

def fillS : List Int → Int → List Int × Int
  | [], t => ([], t)
  | r :: rs, t => ((if t < r then t else r) :: (fillS rs (t - if t < r then t else r)).1, (fillS rs (t - if t < r then t else r)).2)
theorem fillS_len : ∀ (rs : List Int) (t : Int), (fillS rs t).1.length = rs.length
  | [], _ => rfl
  | r :: rs, t => by rw [fillS, List.length_cons, fillS_len rs, List.length_cons]
def fillR (rs : List Int) (t : Int) : List Int × Int × Int :=
  if 64 < rs.length then ([], 0, 4) else if t < 0 then ([], 0, 1) else if anyNeg rs = true then ([], 0, 1) else ((fillS rs t).1, (fillS rs t).2, 0)
section
variable {h0 : Heap} {K : Value → Heap → Prop}
theorem fill_loopS {q : Option Addr} {rooms : List Int} {n c : Nat} (I : Ints .i64 h0 q rooms) (hn : rooms.length = n) (hs : n ≤ 64) (hr : ∀ r ∈ rooms, I64 r ∧ 0 ≤ r) {res : List Int × Int}
    (k : ∀ p' c' h', h0.le h' → OwnL h0 h' [.int .i64 0] p' c' (intsV .i64 res.1) → K (tuple #[slice p' n c', .int .i64 res.2, .int .i64 0]) h') :
    ∀ (m j : Nat) (h : Heap) (t : Int) (out : Option Addr) (oc : Nat) (done : List Int), m + j = n → h0.le h → I64 t → 0 ≤ t → OwnL h0 h [.int .i64 0] out oc (intsV .i64 done) → done.length = j → done ++ (fillS (rooms.drop j) t).1 = res.1 → (fillS (rooms.drop j) t).2 = res.2 →
    L_split_Fill_0 t out j oc q n c (n : Int) (j : Int) h K := by
  intro m
  induction m with
  | zero =>
    intro j h t out oc done hj l0 ht h0t own hd e1 e2
    refine L_split_Fill_0r _ _ _ _ _ _ _ _ _ _ _ ?_
    unfold L_split_Fill_0T
    rw [List.drop_eq_nil_of_le (by omega)] at e1 e2
    have e1 : done ++ [] = res.1 := e1
    have e2 : t = res.2 := e2
    rw [List.append_nil] at e1
    have hjn : j = n := by omega
    subst hjn
    rw [e1] at own
    rw [e2]
    exact Br.no (by simp) (Ret.mk (k out oc h l0 own))
  | succ m ih =>
    intro j h t out oc done hj l0 ht h0t own hd e1 e2
    refine L_split_Fill_0r _ _ _ _ _ _ _ _ _ _ _ ?_
    unfold L_split_Fill_0T
    have hx : rooms[j]? = some rooms[j] := List.getElem?_eq_getElem (by omega)
    have hmem := hr rooms[j] (List.getElem_mem _)
    rw [List.drop_eq_getElem_cons (by omega : j < rooms.length), fillS] at e1 e2
    generalize rooms[j] = r at *
    unfold I64 at ht hmem
    have w1 : IntKind.wrap .i64 ((j : Int) + 1) = ((j + 1 : Nat) : Int) := by rw [wrap_i64_id (by omega) (by omega)]; omega
    have hm : 0 ≤ (if t < r then t else r) ∧ (if t < r then t else r) ≤ t := by split <;> omega
    refine Br.yes (by simp; omega) (ix (I.le l0) hn rfl hx fun s hs2 => ?_)
    generalize (if t < r then t else r) = v at *
    refine (own.le (le_ins hs2)).push (by decide) (le_ins2 l0 hs2) (by omega) (n := 1) (ws := intsV .i64 [v]) rfl (rdL_new _ _ _ _ _) (allCells_ints _ _) (by rw [intsV_length, hd]; simp) ?_
    intro p' c' h' l' w' _ _
    rw [w1, wrap_i64_id (n := t - v) (by omega) (by omega)]
    rw [← intsV_append] at w'
    exact ih (j + 1) h' (t - v) p' c' (done ++ [v]) (by omega) l' (by unfold I64; omega) (by omega) w' (by rw [List.length_append, hd]; rfl) (by rw [List.append_assoc]; exact e1) e2
theorem S_FillS {h : Heap} {q : Option Addr} {rooms : List Int} {n c : Nat} {t : Int} (I : Ints .i64 h q rooms) (hn : rooms.length = n) (hs : n ≤ 1000000) (hr : allI64 rooms) (ht : I64 t)
    (k : ∀ p' c' h', h.le h' → Ints .i64 h' p' (fillR rooms t).1 → K (tuple #[slice p' (fillR rooms t).1.length c', .int .i64 (fillR rooms t).2.1, .int .i64 (fillR rooms t).2.2]) h') :
    CallA Try.prog fn_split_Fill [.int .i64 t, slice q n c] h K := by
  refine F_split_Fill _ _ _ _ _ _ ?_
  unfold F_split_FillT
  unfold fillR at k
  refine Br.dec (fun g1 => ?_) fun g1 => ?_
  · rw [if_pos (by omega)] at k; exact Ret.mk (k none 0 h h.le_refl (.inl rfl))
  rw [if_neg (by omega)] at k
  refine Br.dec (fun g2 => ?_) fun g2 => ?_
  · rw [if_pos (by omega)] at k; exact Ret.mk (k none 0 h h.le_refl (.inl rfl))
  rw [if_neg (by omega)] at k
  refine S_anyNegS I hn hs ⟨_, rfl, Br.intro (fun g3 => ?_) fun g3 => ?_⟩
  · rw [if_pos g3] at k; exact Ret.mk (k none 0 h h.le_refl (.inl rfl))
  rw [if_neg (by rw [g3]; decide)] at k
  refine fill_loopS (res := fillS rooms t) I hn (by omega) (fun r hr2 => ⟨hr r hr2, geL_of g3 r hr2⟩) (fun p' c' h' l' w' => ?_) n 0 h t none 0 [] (by omega) h.le_refl ht (by omega) (OwnL.nil _ _ _) rfl rfl rfl
  have := k p' c' h' l' w'.rd
  rw [fillS_len, hn] at this
  exact this
/-! a list of ones -/
def ones (n : Nat) : List Int := List.replicate n 1
def hiP (x y : Int) : Int := (IntKind.wrap IntKind.u64 (IntKind.wrap IntKind.u64 (IntKind.wrap IntKind.u64 (Int.fdiv x 4294967296 * Int.fdiv y 4294967296) + Int.fdiv (IntKind.wrap IntKind.u64 (IntKind.wrap IntKind.u64 (Int.fdiv x 4294967296 * IntKind.wrap IntKind.u64 (↑(BitVec.toNat (BitVec.ofInt 64 y &&& BitVec.ofInt 64 4294967295)) : Int)) + Int.fdiv (IntKind.wrap IntKind.u64 (IntKind.wrap IntKind.u64 (↑(BitVec.toNat (BitVec.ofInt 64 x &&& BitVec.ofInt 64 4294967295)) : Int) * IntKind.wrap IntKind.u64 (↑(BitVec.toNat (BitVec.ofInt 64 y &&& BitVec.ofInt 64 4294967295)) : Int))) 4294967296)) 4294967296) + Int.fdiv (IntKind.wrap IntKind.u64 (IntKind.wrap IntKind.u64 (↑(BitVec.toNat (BitVec.ofInt 64 (IntKind.wrap IntKind.u64 (IntKind.wrap IntKind.u64 (Int.fdiv x 4294967296 * IntKind.wrap IntKind.u64 (↑(BitVec.toNat (BitVec.ofInt 64 y &&& BitVec.ofInt 64 4294967295)) : Int)) + Int.fdiv (IntKind.wrap IntKind.u64 (IntKind.wrap IntKind.u64 (↑(BitVec.toNat (BitVec.ofInt 64 x &&& BitVec.ofInt 64 4294967295)) : Int) * IntKind.wrap IntKind.u64 (↑(BitVec.toNat (BitVec.ofInt 64 y &&& BitVec.ofInt 64 4294967295)) : Int))) 4294967296)) &&& BitVec.ofInt 64 4294967295)) : Int) + IntKind.wrap IntKind.u64 (IntKind.wrap IntKind.u64 (↑(BitVec.toNat (BitVec.ofInt 64 x &&& BitVec.ofInt 64 4294967295)) : Int) * Int.fdiv y 4294967296))) 4294967296))
theorem hi_one : ∀ y : Fin 65, hiP 1 (y.val : Int) = 0 := by decide +kernel
theorem S_mulOne {h : Heap} {p : Nat} (hp : p ≤ 64) (k : K (tuple #[.int .u64 0, .int .u64 (p : Int)]) h) : CallA Try.prog fn_math_bits_Mul [.int .u64 1, .int .u64 (p : Int)] h K := by
  refine F_math_bits_Mul _ _ _ _ ?_
  unfold F_math_bits_MulT
  refine F_math_bits_Mul64 _ _ _ _ ?_
  unfold F_math_bits_Mul64T
  have e := hi_one ⟨p, by omega⟩
  dsimp only at e
  refine Ret.mk ⟨hiP 1 (p : Int), IntKind.wrap .u64 (1 * (p : Int)), rfl, Ret.mk ?_⟩
  rw [e, Int.one_mul, wrap_u64_id (by omega) (by omega)]
  exact k
theorem ones_take (n m : Nat) (h : m ≤ n) : (ones n).take m = ones m := by unfold ones; rw [List.take_replicate, Nat.min_eq_left h]
theorem rep_loop {r c : Nat} (hr : h0 r = none) (hc : c ≤ 64) (k : ∀ h', h0.le h' → At h' r (intsV .i64 (ones c)) → K (slice (some ⟨r, 0, none⟩) c c) h') :
    ∀ (q n : Nat) (h : Heap) (sp : List Value), c - n ≤ q → 1 ≤ n → n + sp.length = c → h0.le h → At h r (intsV .i64 (ones n) ++ sp) → L_slices_Repeat_int64_int64_0 (some ⟨r, 0, none⟩) c c (n : Int) h K := by
  intro q
  induction q with
  | zero =>
    intro n h sp hq h1 hn l0 A
    refine L_slices_Repeat_int64_int64_0r _ _ _ _ _ _ ?_
    unfold L_slices_Repeat_int64_int64_0T
    have e : sp = [] := List.length_eq_zero_iff.1 (by omega)
    subst e
    rw [List.append_nil, show n = c from by simp at hn; omega] at A
    exact Br.no (by simp; omega) (Ret.mk (k h l0 A))
  | succ q ih =>
    intro n h sp hq h1 hn l0 A
    refine L_slices_Repeat_int64_int64_0r _ _ _ _ _ _ ?_
    unfold L_slices_Repeat_int64_int64_0T
    refine Br.dec (fun g => ⟨by omega, by omega, by omega, by omega, ?_⟩) fun g => ?_
    · rw [Int.toNat_natCast]
      have hk : min n (c - n) ≤ n ∧ 1 ≤ min n (c - n) ∧ min n (c - n) ≤ sp.length := by omega
      generalize min n (c - n) = kk at *
      have R : rdL h (some ⟨r, 0, none⟩) (intsV .i64 (ones kk)) := by
        have r := A.toRd
        have e : intsV .i64 (ones n) = intsV .i64 (ones kk) ++ intsV .i64 ((ones n).drop kk) := by rw [← intsV_append, ← ones_take n kk hk.1, List.take_append_drop]
        rw [e] at r
        exact rdL_take r
      have hl : ∀ m, (intsV .i64 (ones m)).length = m := fun m => by rw [intsV_length]; simp [ones]
      have A2 := A.set (o := n) (ws := intsV .i64 (ones kk))
      have se := setL_end (intsV .i64 (ones kk)) (intsV .i64 (ones n)) sp (by rw [hl]; exact hk.2.2)
      rw [hl, hl] at se
      rw [se, ← intsV_append] at A2
      have e3 : ones n ++ ones kk = ones (n + kk) := by unfold ones; rw [List.replicate_append_replicate]
      rw [e3] at A2
      refine ⟨intsV .i64 (ones kk), by rw [hl]; omega, R, allCells_ints _ _, .inr ⟨r, n, ?_, ?_, ?_⟩⟩
      · unfold slAddr
        rw [if_neg (by omega)]
        simp [Addr.add]; omega
      · exact A.canSt (by rw [List.length_append, hl, hl]; omega)
      · rw [wid (x := (n : Int) + (kk : Int)) (by omega) (by omega)]
        exact ih (n + kk) _ _ (by omega) (by omega) (by rw [List.length_drop]; omega) (le_setN l0 hr) A2
    · have e : sp = [] := List.length_eq_zero_iff.1 (by omega)
      subst e
      rw [List.append_nil, show n = c from by simp at hn; omega] at A
      exact Ret.mk (k h l0 A)
theorem S_ones {h : Heap} {b p : Nat} (hp1 : 1 ≤ p) (hp : p ≤ 64) (A : At h b [.int .i64 1]) (k : ∀ r h', h.le h' → h r = none → At h' r (intsV .i64 (ones p)) → K (slice (some ⟨r, 0, none⟩) p p) h') :
    CallA Try.prog fn_slices_Repeat_int64_int64 [slice (some ⟨b, 0, none⟩) 1 1, .int .i64 (p : Int)] h K := by
  refine F_slices_Repeat_int64_int64 _ _ _ _ _ _ ?_
  unfold F_slices_Repeat_int64_int64T
  have w1 : IntKind.wrap .u64 (((1 : Nat) : Int)) = 1 := by decide
  have w2 : IntKind.wrap .u64 (p : Int) = (p : Int) := wrap_u64_id (by omega) (by omega)
  rw [w1, w2]
  refine Br.no (by simp) (S_mulOne hp ⟨_, _, rfl, Br.no (by decide) (Br.no (by simp; omega) ?_)⟩)
  rw [wid (x := (p : Int)) (by omega) (by omega), Int.toNat_natCast]
  refine ⟨by omega, by omega, by omega, by omega, newB_at fun r h1 hr l1 A1 => ?_⟩
  have hne : b ≠ r := A.ne hr
  rw [Nat.min_eq_left hp1]
  have hz : repL p [Value.int .i64 0] = .int .i64 0 :: repL (p - 1) [Value.int .i64 0] := by
    obtain ⟨q, rfl⟩ : ∃ q, p = q + 1 := ⟨p - 1, by omega⟩
    rfl
  have A2 : At (h1.setN r 0 [.int .i64 1]) r (intsV .i64 (ones 1) ++ repL (p - 1) [.int .i64 0]) := by
    rw [hz] at A1
    exact A1.set (o := 0)
  refine ⟨[.int .i64 1], rfl, (A.le l1).toRd (ws := []), rfl, .inr ⟨r, 0, rfl, A1.canSt (by rw [hz]; simp), ?_⟩⟩
  exact rep_loop (h0 := h) hr hp (fun h' l' A' => k r h' l' hr A') p 1 _ _ (by omega) (Nat.le_refl _) (by rw [repL_length]; simp; omega) (le_setN l1 hr) A2
def evenR (t p : Int) : List Int × Int := if p > 64 then ([], 4) else if t < 0 then ([], 1) else if p < 1 then ([], 1) else sharesR t (ones p.toNat)
theorem S_Even {h : Heap} {t p : Int} (ht : I64 t)
    (k : ∀ p' c' h', h.le h' → Ints .i64 h' p' (evenR t p).1 → K (tuple #[slice p' (evenR t p).1.length c', .int .i64 (evenR t p).2]) h') :
    CallA Try.prog fn_split_Even [.int .i64 t, .int .i64 p] h K := by
  refine F_split_Even _ _ _ _ ?_
  unfold F_split_EvenT
  unfold evenR at k
  refine Br.dec (fun g1 => ?_) fun g1 => ?_
  · rw [if_pos g1] at k; exact Ret.mk (k none 0 h h.le_refl (.inl rfl))
  rw [if_neg g1] at k
  refine Br.dec (fun g2 => ?_) fun g2 => ?_
  · rw [if_pos g2] at k; exact Ret.mk (k none 0 h h.le_refl (.inl rfl))
  rw [if_neg g2] at k
  refine Br.dec (fun g3 => ?_) fun g3 => ?_
  · rw [if_pos g3] at k; exact Ret.mk (k none 0 h h.le_refl (.inl rfl))
  rw [if_neg g3] at k
  obtain ⟨m, rfl⟩ : ∃ m : Nat, p = (m : Int) := ⟨p.toNat, by omega⟩
  rw [Int.toNat_natCast] at k
  refine newB_at fun r h1 hr l1 A1 => S_ones (by omega) (by omega) A1 fun r2 h2 l2 hr2 A2 => ⟨_, _, _, rfl, ?_⟩
  have I2 : Ints .i64 h2 (some ⟨r2, 0, none⟩) (ones m) := At.toRd (ws := []) (by rw [List.append_nil]; exact A2)
  exact S_Shares I2 (by simp [ones]) (by omega) (fun x hx => by rw [List.eq_of_mem_replicate hx]; unfold I64; omega) ht fun p' c' h' l' I' => ⟨_, _, _, _, rfl, Ret.mk (k p' c' h' (Heap.le_trans l1 (Heap.le_trans l2 l')) I')⟩
end
end Go.Proofs.Ytghdadniddoboaa

/- Shares: the awake test answers true. -/
namespace Go.Proofs.Ytghdadniddoboaa
open Go Go.Sy Go.Value
set_option linter.unusedVariables false
set_option linter.unusedSimpArgs false

theorem vA : sharesR 10 [1, 5, 1] = ([2, 7, 1], 0) := by
  unfold sharesR
  rw [if_neg (by decide), if_neg (by decide), if_neg (by decide), if_neg (by decide), if_neg (by decide)]
  unfold sharesL
  have o : ordL (restL 10 (sumL [1, 5, 1]) [1, 5, 1]) ([1, 5, 1] : List Int).length = [0, 2, 1] := ordL_is (by decide) (by decide)
  rw [o]; decide
theorem vB : evenR 10 3 = ([4, 3, 3], 0) := by
  unfold evenR
  rw [if_neg (by decide), if_neg (by decide), if_neg (by decide)]
  have e : ones (Int.toNat 3) = [1, 1, 1] := rfl
  rw [e]
  unfold sharesR
  rw [if_neg (by decide), if_neg (by decide), if_neg (by decide), if_neg (by decide), if_neg (by decide)]
  unfold sharesL
  have o : ordL (restL 10 (sumL [1, 1, 1]) [1, 1, 1]) ([1, 1, 1] : List Int).length = [0, 1, 2] := ordL_is (by decide) (by decide)
  rw [o]; decide
theorem vC : fillR [3, 0, 4] 10 = ([3, 0, 4], 3, 0) := by decide
theorem vD : sharesR 10 [0] = ([], 1) := by
  unfold sharesR
  rw [if_neg (by decide), if_neg (by decide), if_neg (by decide), if_pos (by decide)]
theorem vE : evenR 1 65 = ([], 4) := by
  unfold evenR
  rw [if_pos (by decide)]
section
variable {K : Value → Heap → Prop} {h : Heap}
theorem same2_loop {a b : Option Addr} {la lb : List Int} {n ac bc : Nat} (Ia : Ints .i64 h a la) (Ib : Ints .i64 h b lb) (ha : la.length = n) (hb : lb.length = n) (hs : n ≤ 1099511627776) :
    ∀ (m j : Nat), m + j = n → Ret h K (.bool (decide (la.drop j = lb.drop j))) → L_ref02_Same_0 a n ac b n bc j h K := by
  intro m
  induction m with
  | zero =>
    intro j hj k
    refine L_ref02_Same_0r _ _ _ _ _ _ _ _ _ ?_
    unfold L_ref02_Same_0T
    refine Br.no (by simp; omega) ?_
    rw [List.drop_eq_nil_of_le (by omega), List.drop_eq_nil_of_le (by omega)] at k
    exact k
  | succ m ih =>
    intro j hj k
    refine L_ref02_Same_0r _ _ _ _ _ _ _ _ _ ?_
    unfold L_ref02_Same_0T
    have ea : la[j]? = some la[j] := List.getElem?_eq_getElem (by omega)
    have eb : lb[j]? = some lb[j] := List.getElem?_eq_getElem (by omega)
    rw [List.drop_eq_getElem_cons (by omega : j < la.length), List.drop_eq_getElem_cons (by omega : j < lb.length)] at k
    refine Br.yes (by simp; omega) (ix Ia ha rfl ea (ix Ib hb rfl eb ?_))
    refine Br.intro (fun e => ?_) (fun e => ?_)
    · have : la[j] ≠ lb[j] := by simpa using e
      rw [decide_eq_false (fun x => this (List.cons.inj x).1)] at k
      exact k
    · have e : la[j] = lb[j] := by simpa using e
      rw [wrap_i64_id (by omega) (by omega)]
      refine ih (j + 1) (by omega) ?_
      have e0 : ∀ (a b : Int) (x y : List Int), a = b → ((a :: x = b :: y) ↔ x = y) := by rintro a _ x y rfl; simp
      have := e0 _ _ (la.drop (j + 1)) (lb.drop (j + 1)) e
      rw [decide_eq_decide.2 this] at k
      exact k
theorem S_Same2 {a b : Option Addr} {la lb : List Int} {n m ac bc : Nat} (Ia : Ints .i64 h a la) (Ib : Ints .i64 h b lb) (ha : la.length = n) (hb : lb.length = m) (hs : n ≤ 1099511627776) (k : K (.bool (decide (la = lb))) h) :
    CallA Try.prog fn_ref02_Same [slice a n ac, slice b m bc] h K := by
  refine F_ref02_Same _ _ _ _ _ _ _ _ ?_
  unfold F_ref02_SameT
  refine Br.intro (fun e => ?_) (fun e => ?_)
  · have : n ≠ m := by intro e2; subst e2; simp at e
    rw [decide_eq_false (fun x => this (by rw [← ha, ← hb, x]))] at k
    exact Ret.mk k
  · have : n = m := by simp at e; omega
    subst this
    refine same2_loop Ia Ib ha hb hs n 0 (by omega) ?_
    simpa using Ret.mk k
theorem lit_ok {l : List Int} {d : Bool} (e : (l.all fun x => decide (-9223372036854775808 ≤ x ∧ x ≤ 9223372036854775807)) = true) : allI64 l := fun x hx => by
  rw [List.all_eq_true] at e
  have := e x hx
  unfold I64
  simpa using this
theorem S_law02_awake (k : ∀ h', h.le h' → K (.bool true) h') : CallA Try.prog fn_law02_awake [] h K := by
  refine F_law02_awake _ _ ?_
  unfold F_law02_awakeT
  have i10 : I64 10 := by unfold I64; omega
  intro r1 e1
  have J1 : Ints .i64 (h.ins r1 (.cells [Value.int .i64 1, Value.int .i64 5, Value.int .i64 1].toArray 2 (0, 0))) (some ⟨r1, 0, none⟩) [1, 5, 1] := rdL_new _ _ _ _ _
  have m1 := @le_ins h r1 (.cells [Value.int .i64 1, Value.int .i64 5, Value.int .i64 1].toArray 2 (0, 0)) e1
  generalize h.ins r1 _ = h1 at *
  refine S_Shares J1 rfl (by omega) (lit_ok (d := true) (by decide)) i10 fun pa ca h2 l2 A => ⟨_, _, _, _, rfl, ?_⟩
  rw [vA] at A ⊢
  refine S_Even i10 fun pb cb h3 l3 B => ⟨_, _, _, _, rfl, ?_⟩
  rw [vB] at B ⊢
  intro r2 e2
  have J2 : Ints .i64 (h3.ins r2 (.cells [Value.int .i64 3, Value.int .i64 0, Value.int .i64 4].toArray 2 (0, 0))) (some ⟨r2, 0, none⟩) [3, 0, 4] := rdL_new _ _ _ _ _
  have m2 := @le_ins h3 r2 (.cells [Value.int .i64 3, Value.int .i64 0, Value.int .i64 4].toArray 2 (0, 0)) e2
  generalize h3.ins r2 _ = h4 at *
  refine S_FillS J2 rfl (by omega) (lit_ok (d := true) (by decide)) i10 fun pc cc h5 l5 C => ⟨_, _, _, _, _, rfl, ?_⟩
  rw [vC] at C ⊢
  intro r3 e3
  have J3 : Ints .i64 (h5.ins r3 (.cells [Value.int .i64 0].toArray 2 (0, 0))) (some ⟨r3, 0, none⟩) [0] := rdL_new _ _ _ _ _
  have m3 := @le_ins h5 r3 (.cells [Value.int .i64 0].toArray 2 (0, 0)) e3
  generalize h5.ins r3 _ = h6 at *
  refine S_Shares J3 rfl (by omega) (lit_ok (d := true) (by decide)) i10 fun pd cd h7 l7 D => ⟨_, _, _, _, rfl, ?_⟩
  rw [vD] at D ⊢
  refine S_Even (by unfold I64; omega) fun pe ce h8 l8 E => ⟨_, _, _, _, rfl, ?_⟩
  rw [vE] at E ⊢
  have l58 := Heap.le_trans m3 (Heap.le_trans l7 l8)
  have l38 := Heap.le_trans m2 (Heap.le_trans l5 l58)
  have l28 := Heap.le_trans l3 l38
  have l08 := Heap.le_trans m1 (Heap.le_trans l2 l28)
  have A8 := A.le l28
  have B8 := B.le l38
  have C8 := C.le l58
  intro s1 f1
  have Q1 : Ints .i64 (h8.ins s1 (.cells [Value.int .i64 2, Value.int .i64 7, Value.int .i64 1].toArray 2 (0, 0))) (some ⟨s1, 0, none⟩) [2, 7, 1] := rdL_new _ _ _ _ _
  have n1 := @le_ins h8 s1 (.cells [Value.int .i64 2, Value.int .i64 7, Value.int .i64 1].toArray 2 (0, 0)) f1
  generalize h8.ins s1 _ = h9 at *
  refine S_Same2 (A8.le n1) Q1 rfl rfl (by decide) ⟨_, rfl, Br.yes rfl (Br.yes rfl ?_)⟩
  intro s2 f2
  have Q2 : Ints .i64 (h9.ins s2 (.cells [Value.int .i64 4, Value.int .i64 3, Value.int .i64 3].toArray 2 (0, 0))) (some ⟨s2, 0, none⟩) [4, 3, 3] := rdL_new _ _ _ _ _
  have n2 := @le_ins h9 s2 (.cells [Value.int .i64 4, Value.int .i64 3, Value.int .i64 3].toArray 2 (0, 0)) f2
  generalize h9.ins s2 _ = h10 at *
  refine S_Same2 ((B8.le n1).le n2) Q2 rfl rfl (by decide) ⟨_, rfl, Br.yes rfl (Br.yes rfl ?_)⟩
  intro s3 f3
  have Q3 : Ints .i64 (h10.ins s3 (.cells [Value.int .i64 3, Value.int .i64 0, Value.int .i64 4].toArray 2 (0, 0))) (some ⟨s3, 0, none⟩) [3, 0, 4] := rdL_new _ _ _ _ _
  have n3 := @le_ins h10 s3 (.cells [Value.int .i64 3, Value.int .i64 0, Value.int .i64 4].toArray 2 (0, 0)) f3
  generalize h10.ins s3 _ = h11 at *
  refine S_Same2 (((C8.le n1).le n2).le n3) Q3 rfl rfl (by decide) ⟨_, rfl, Br.yes rfl (Br.yes rfl (Br.yes rfl (Br.yes rfl (Ret.mk ?_))))⟩
  exact k _ (Heap.le_trans l08 (Heap.le_trans n1 (Heap.le_trans n2 n3)))
end
end Go.Proofs.Ytghdadniddoboaa

/- Shares, plainly: who gets one more, and how near a share is. -/
namespace Go.Proofs.Ytghdadniddoboaa
open Go Go.Sy Go.Value
set_option linter.unusedVariables false
set_option linter.unusedSimpArgs false

theorem getD_set (l : List Int) (i k : Nat) (v : Int) (hi : i < l.length) : (l.set i v).getD k 0 = if i = k then v else l.getD k 0 := by
  rw [List.getD_eq_getElem?_getD, List.getD_eq_getElem?_getD, List.getElem?_set]
  by_cases e : i = k
  · subst e; simp [hi]
  · simp [e]
theorem bump_get : ∀ (who l : List Int) (i : Nat), (∀ x ∈ who, 0 ≤ x ∧ x < (l.length : Int)) → who.Nodup → (bump l who).getD i 0 = l.getD i 0 + if (i : Int) ∈ who then 1 else 0
  | [], l, i, _, _ => by simp [bump]
  | w :: who, l, i, h, nd => by
    have h1 := h w (List.mem_cons_self ..)
    rw [List.nodup_cons] at nd
    have ih := bump_get who (bump1 l w) i (fun x hx => by rw [bump1_len]; exact h x (List.mem_cons_of_mem _ hx)) nd.2
    rw [bump, List.foldl_cons]
    rw [bump] at ih
    rw [ih]
    unfold bump1
    rw [getD_set _ _ _ _ (by omega)]
    by_cases e : w.toNat = i
    · have e2 : w = (i : Int) := by omega
      subst e2
      rw [if_neg nd.1, if_pos (by omega), if_pos (List.mem_cons_self ..)]
      rw [Int.toNat_natCast]; omega
    · have e2 : (i : Int) ≠ w := by omega
      rw [if_neg e]
      by_cases hm : (i : Int) ∈ who
      · rw [if_pos hm, if_pos (List.mem_cons_of_mem _ hm)]
      · rw [if_neg hm, if_neg (by rw [List.mem_cons]; exact fun x => x.elim e2 hm)]
theorem upTo_nodup (n : Nat) : (upTo n).Nodup := by
  induction n with
  | zero => exact List.Pairwise.nil
  | succ n ih =>
    rw [upTo_succ, List.nodup_append]
    refine ⟨ih, by simp, fun a ha b hb => ?_⟩
    rw [upTo_mem] at ha
    simp at hb
    omega
theorem ordL_nodup (left : List Int) (n : Nat) : (ordL left n).Nodup := (ordL_perm left n).nodup_iff.2 (upTo_nodup n)
theorem ordL_mem {left : List Int} {n : Nat} {x : Int} : x ∈ ordL left n ↔ 0 ≤ x ∧ x < (n : Int) := by rw [(ordL_perm left n).mem_iff, upTo_mem]
/-- those that get one more -/
def more (t : Int) (ws : List Int) : List Int := (ordL (restL t (sumL ws) ws) ws.length).take (t - sumL (baseL t (sumL ws) ws)).toNat
theorem more_mem {t : Int} {ws : List Int} {x : Int} (h : x ∈ more t ws) : 0 ≤ x ∧ x < (ws.length : Int) := ordL_mem.1 (List.mem_of_mem_take h)
theorem more_down {t : Int} {ws : List Int} {i k : Int} (hi : 0 ≤ i ∧ i < (ws.length : Int)) (hk : k ∈ more t ws) (hl : ltO (restL t (sumL ws) ws) i k = true) : i ∈ more t ws := by
  unfold more at *
  have hs := ordL_sorted (restL t (sumL ws) ws) ws.length
  have hm : i ∈ ordL (restL t (sumL ws) ws) ws.length := ordL_mem.2 hi
  generalize ordL (restL t (sumL ws) ws) ws.length = o at *
  generalize (t - sumL (baseL t (sumL ws) ws)).toNat = m at *
  rw [← List.take_append_drop m o] at hm hs
  rcases List.mem_append.1 hm with h | h
  · exact h
  · rw [List.pairwise_append] at hs
    rw [hs.2.2 k hk i h] at hl
    cases hl
theorem sumL_perm {l m : List Int} (h : l.Perm m) : sumL l = sumL m := by
  induction h with
  | nil => rfl
  | cons x _ ih => simp only [sumL, ih]
  | swap x y l => simp only [sumL]; omega
  | trans _ _ h1 h2 => exact h1.trans h2
theorem upTo_map : ∀ (l : List Int), (upTo l.length).map (fun x => l.getD x.toNat 0) = l := by
  intro l
  refine List.ext_getElem (by rw [List.length_map, upTo_len]) fun i h1 h2 => ?_
  rw [List.getElem_map]
  have : (upTo l.length)[i]'(by rw [List.length_map] at h1; exact h1) = (i : Int) := by simp [upTo]
  rw [this, Int.toNat_natCast, List.getD_eq_getElem?_getD, List.getElem?_eq_getElem h2]; rfl
theorem sum_zero : ∀ {l : List Int}, (∀ x ∈ l, x = 0) → sumL l = 0
  | [], _ => rfl
  | x :: l, h => by
    simp only [sumL]
    rw [h x (List.mem_cons_self ..), sum_zero fun y hy => h y (List.mem_cons_of_mem _ hy)]; rfl
/-- who gets one more has something left over -/
theorem more_pos {t : Int} {ws : List Int} (hs : 0 < sumL ws) (hne : ws ≠ []) {k : Int} (hk : k ∈ more t ws) : 0 < (restL t (sumL ws) ws).getD k.toNat 0 := by
  have hrange := rest_range (t := t) (ws := ws) hs
  have hsum := parts_sum t (sumL ws) ws
  have hmis := missing_range (t := t) hs hne
  have hlen := restL_len t (sumL ws) ws
  have hk2 := more_mem hk
  unfold more at hk
  have hsort := ordL_sorted (restL t (sumL ws) ws) ws.length
  have hperm := sumL_perm ((ordL_perm (restL t (sumL ws) ws) ws.length).map fun x => (restL t (sumL ws) ws).getD x.toNat 0)
  have hup := upTo_map (restL t (sumL ws) ws)
  rw [hlen] at hup
  rw [hup] at hperm
  have hmem : ∀ x ∈ ordL (restL t (sumL ws) ws) ws.length, 0 ≤ x ∧ x < (ws.length : Int) := fun x hx => ordL_mem.1 hx
  generalize ordL (restL t (sumL ws) ws) ws.length = o at *
  generalize hR : restL t (sumL ws) ws = R at *
  generalize hB : sumL (baseL t (sumL ws) ws) = b at *
  have hS : (t - b) * sumL ws = sumL R := by rw [Int.sub_mul]; omega
  generalize sumL ws = s at *
  have inR : ∀ x : Int, 0 ≤ x ∧ x < (ws.length : Int) → 0 ≤ R.getD x.toNat 0 ∧ R.getD x.toNat 0 < s := fun x hx => by
    refine hrange _ ?_
    rw [List.getD_eq_getElem?_getD, List.getElem?_eq_getElem (by omega)]
    exact List.getElem_mem _
  refine Classical.byContradiction fun hc => ?_
  have hz : R.getD k.toNat 0 = 0 := by have := (inR k hk2).1; omega
  obtain ⟨x, y, e⟩ := List.append_of_mem hk
  have hx : x.length + 1 ≤ (t - b).toNat := by
    have := congrArg List.length e
    rw [List.length_take, List.length_append, List.length_cons] at this
    omega
  have eo : o = x ++ k :: (y ++ o.drop (t - b).toNat) := by
    have := List.take_append_drop (t - b).toNat o
    rw [e] at this
    rw [← List.cons_append, ← List.append_assoc]; exact this.symm
  have hmem2 : ∀ z ∈ x, 0 ≤ z ∧ z < (ws.length : Int) := fun z hz => hmem z (by rw [eo]; exact List.mem_append_left _ hz)
  rw [eo] at hsort hperm
  have hmem3 : ∀ z ∈ y ++ o.drop (t - b).toNat, 0 ≤ z ∧ z < (ws.length : Int) := fun z hz => hmem z (by rw [eo]; exact List.mem_append_right _ (List.mem_cons_of_mem _ hz))
  rw [List.pairwise_append, List.pairwise_cons] at hsort
  have z2 : sumL ((y ++ o.drop (t - b).toNat).map fun x => R.getD x.toNat 0) = 0 := sum_zero fun v hv => by
    rw [List.mem_map] at hv
    obtain ⟨z, hz1, rfl⟩ := hv
    have := hsort.2.1.1 z hz1
    rw [ltO_no] at this
    have g := inR z (hmem3 z hz1)
    omega
  rw [List.map_append, List.map_cons, sumL_append, sumL, z2, hz] at hperm
  have z3 := sum_lt (s := s) (l := x.map fun x => R.getD x.toNat 0) fun v hv => by
    rw [List.mem_map] at hv
    obtain ⟨z, hz1, rfl⟩ := hv
    exact inR z (hmem2 z hz1)
  rw [List.length_map] at z3
  have h5 : ((x.length : Int) + 1) * s ≤ (t - b) * s := Int.mul_le_mul_of_nonneg_right (by omega) (by omega)
  rw [Int.add_mul] at h5
  omega
/-- a share -/
theorem share_get {t : Int} {ws : List Int} {i : Nat} (hi : i < ws.length) : (sharesL t ws).getD i 0 = t * ws[i] / sumL ws + if (i : Int) ∈ more t ws then 1 else 0 := by
  unfold sharesL
  rw [bump_get]
  · have : (baseL t (sumL ws) ws).getD i 0 = t * ws[i] / sumL ws := by
      rw [List.getD_eq_getElem?_getD, List.getElem?_eq_getElem (by rw [baseL_len]; exact hi)]
      simp [baseL]
    rw [this]; rfl
  · intro x hx; rw [baseL_len]; exact ordL_mem.1 (List.mem_of_mem_take hx)
  · exact (ordL_nodup _ _).sublist (List.take_sublist _ _)
theorem rest_get {t : Int} {ws : List Int} {i : Nat} (hi : i < ws.length) : (restL t (sumL ws) ws).getD i 0 = t * ws[i] % sumL ws := by
  rw [List.getD_eq_getElem?_getD, List.getElem?_eq_getElem (by rw [restL_len]; exact hi)]
  simp [restL]
theorem share_zero {t : Int} {ws : List Int} (hs : 0 < sumL ws) (hne : ws ≠ []) {i : Nat} (hi : i < ws.length) (h : ws[i] = 0) : (sharesL t ws).getD i 0 = 0 := by
  rw [share_get hi, h]
  have : (i : Int) ∉ more t ws := fun hm => by
    have := more_pos hs hne hm
    rw [Int.toNat_natCast, rest_get hi, h] at this
    simp at this
  rw [if_neg this]; simp
theorem share_near {t : Int} {ws : List Int} (hs : 0 < sumL ws) (hne : ws ≠ []) {i : Nat} (hi : i < ws.length) :
    t * ws[i] / sumL ws ≤ (sharesL t ws).getD i 0 ∧ (sharesL t ws).getD i 0 ≤ -((-(t * ws[i])) / sumL ws) := by
  rw [share_get hi]
  by_cases hm : (i : Int) ∈ more t ws
  · rw [if_pos hm]
    have := more_pos hs hne hm
    rw [Int.toNat_natCast, rest_get hi] at this
    generalize t * ws[i] = x at *
    generalize sumL ws = s at *
    have e := Int.mul_ediv_add_emod x s
    have l : -x < s * (-(x / s)) := by rw [Int.mul_neg]; omega
    have l2 := Int.ediv_lt_of_lt_mul hs (show -x < (-(x / s)) * s by rw [Int.mul_comm]; exact l)
    omega
  · rw [if_neg hm]
    generalize t * ws[i] = x at *
    generalize sumL ws = s at *
    have e := Int.mul_ediv_add_emod x s
    have h0 := Int.emod_nonneg x (show s ≠ 0 by omega)
    have l : -x ≤ (-(x / s)) * s := by rw [Int.mul_comm, Int.mul_neg]; omega
    have l2 := Int.ediv_le_of_le_mul hs l
    omega
theorem share_le {t : Int} (ht : 0 ≤ t) {ws : List Int} (hs : 0 < sumL ws) (hw : geL ws) (hne : ws ≠ []) {i k : Nat} (hi : i < ws.length) (hk : k < ws.length) (h : ws[k] < ws[i]) : (sharesL t ws).getD k 0 ≤ (sharesL t ws).getD i 0 := by
  rw [share_get hi, share_get hk]
  have h1 : t * ws[k] ≤ t * ws[i] := Int.mul_le_mul_of_nonneg_left (by omega) ht
  have h2 := Int.ediv_le_ediv hs h1
  by_cases hm : (k : Int) ∈ more t ws
  · by_cases hm2 : (i : Int) ∈ more t ws
    · rw [if_pos hm, if_pos hm2]; omega
    · rw [if_pos hm, if_neg hm2]
      rcases Int.lt_or_le (t * ws[k] / sumL ws) (t * ws[i] / sumL ws) with h3 | h3
      · omega
      · exfalso
        have e1 := Int.mul_ediv_add_emod (t * ws[k]) (sumL ws)
        have e2 := Int.mul_ediv_add_emod (t * ws[i]) (sumL ws)
        have e3 : t * ws[k] / sumL ws = t * ws[i] / sumL ws := by omega
        rw [e3] at e1
        have hp := more_pos hs hne hm
        rw [Int.toNat_natCast, rest_get hk] at hp
        have ht0 : 0 < t := by
          rcases Int.lt_or_le 0 t with g | g
          · exact g
          · have : t = 0 := by omega
            rw [this] at hp; simp at hp
        have h4 : t * ws[k] < t * ws[i] := Int.mul_lt_mul_of_pos_left h ht0
        refine hm2 (more_down ⟨by omega, by omega⟩ hm ?_)
        rw [ltO_iff, Int.toNat_natCast, Int.toNat_natCast, rest_get hi, rest_get hk]
        left; omega
  · rw [if_neg hm]; split <;> omega
theorem share_eq {t : Int} {ws : List Int} {i k : Nat} (hi : i < ws.length) (hk : k < ws.length) (h : ws[i] = ws[k]) : (sharesL t ws).getD i 0 - 1 ≤ (sharesL t ws).getD k 0 ∧ (i < k → (sharesL t ws).getD k 0 ≤ (sharesL t ws).getD i 0) := by
  rw [share_get hi, share_get hk, h]
  refine ⟨by split <;> split <;> omega, fun hik => ?_⟩
  by_cases hm : (k : Int) ∈ more t ws
  · have : (i : Int) ∈ more t ws := by
      refine more_down ⟨by omega, by omega⟩ hm ?_
      rw [ltO_iff, Int.toNat_natCast, Int.toNat_natCast, rest_get hi, rest_get hk, h]
      right; omega
    rw [if_pos hm, if_pos this]; omega
  · rw [if_neg hm]; split <;> omega
end Go.Proofs.Ytghdadniddoboaa
