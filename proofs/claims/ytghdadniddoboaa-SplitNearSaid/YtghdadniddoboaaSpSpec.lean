/- Shares: walked. -/
import Derived.Test.YtghdadniddoboaaEqSp
import Derived.Test.YtghdadniddoboaaEqMoney
import Derived.Test.YtghdadniddoboaaSpPdq
import Derived.Test.YtghdadniddoboaaSpPure
namespace Go.Proofs.Ytghdadniddoboaa
open Go Go.Sy Go.Value
set_option linter.unusedVariables false
set_option linter.unusedSimpArgs false

/-- lists that lie apart -/
def Dj (p q : Option Addr) : Prop := ∀ B, p = some ⟨B, 0, none⟩ → q ≠ some ⟨B, 0, none⟩
theorem Dj.symm {p q : Option Addr} (d : Dj p q) : Dj q p := fun B e1 e2 => d B e2 e1
theorem Dj.none (q : Option Addr) : Dj Option.none q := fun B e => by cases e
/-- one more behind a list of one's own: what lies apart stays -/
theorem pushK {h0 h : Heap} {p : Option Addr} {c j : Nat} {l : List Int} {v : Int} {T t : TypeId} {J : Option Addr → Nat → Heap → Prop} (x : OwnL h0 h [.int .i64 0] p c (intsV .i64 l)) (l0 : h0.le h) (hl : l.length = j) (hj : j ≤ 1000)
    (k : ∀ p' c' h', h0.le h' → OwnL h0 h' [.int .i64 0] p' c' (intsV .i64 (l ++ [v])) →
      (∀ q cq lq, OwnL h0 h [.int .i64 0] q cq lq → Dj p q → OwnL h0 h' [.int .i64 0] q cq lq ∧ Dj p' q) → (∀ b xs, At h b xs → p ≠ some ⟨b, 0, none⟩ → At h' b xs ∧ p' ≠ some ⟨b, 0, none⟩) → J p' c' h') :
    newB h [.int .i64 v] T fun r h1 => AppA [.int .i64 0] t h1 p j c 1 (some ⟨r, 0, none⟩) J := by
  refine push1 x (by decide) l0 (by omega) rfl rfl (by rw [intsV_length, hl]; simp) fun r h1 p' c' h' hr l1 l' w keep how => ?_
  have A : ∀ b xs, At h b xs → p ≠ some ⟨b, 0, none⟩ → At h' b xs ∧ p' ≠ some ⟨b, 0, none⟩ := fun b xs a e => ⟨keepAt keep (a.le l1) e, push_ne how (a.le l1) e⟩
  refine k p' c' h' l' (by rw [intsV_append]; exact w) (fun q cq lq o d => ⟨o.mv fun b xs e a => (A b xs a fun e2 => d b e2 e).1, fun B e1 e2 => ?_⟩) A
  rcases o with ⟨_, e, _⟩ | ⟨s, sp, e, _, a, _⟩
  · rw [e] at e2; cases e2
  · rw [e] at e2
    have e2 : s = B := by simpa using e2
    subst e2
    exact (A s _ a fun e3 => d s e3 e).2 e1

section
variable {h : Heap} {K : Value → Heap → Prop}
theorem rest_eq {t w q s : Int} (h0 : 0 ≤ t * w - q * s) (h1 : t * w - q * s ≤ 9223372036854775807) :
    IntKind.wrap .i64 (IntKind.wrap .u64 (IntKind.wrap .u64 (IntKind.wrap .u64 t * IntKind.wrap .u64 w) - IntKind.wrap .u64 (IntKind.wrap .u64 q * IntKind.wrap .u64 s))) = t * w - q * s := by
  have e : ∀ a b : Int, IntKind.wrap .u64 (IntKind.wrap .u64 a * IntKind.wrap .u64 b) = IntKind.wrap .u64 (a * b) := fun a b => by
    rw [wrap_u64, wrap_u64, wrap_u64, wrap_u64, ← Int.mul_emod]
  rw [e, e]
  generalize t * w = x at *
  generalize q * s = y at *
  rw [wrap_u64, wrap_u64, wrap_u64, wrap_i64]
  omega
theorem S_rest {t w q s : Int} (h0 : 0 ≤ t * w - q * s) (h1 : t * w - q * s ≤ 9223372036854775807) (k : K (.int .i64 (t * w - q * s)) h) : CallA Try.prog fn_split_rest [.int .i64 t, .int .i64 w, .int .i64 q, .int .i64 s] h K := by
  refine F_split_rest _ _ _ _ _ _ ?_
  unfold F_split_restT
  refine Ret.mk ?_
  rw [rest_eq h0 h1]; exact k
/-! a list is looked through -/
theorem S_belowS {n : Int} (k : K (.bool (decide (n < 0))) h) : CallA Try.prog fn_split_below [.int .i64 n] h K := by
  refine F_split_below _ _ _ ?_
  unfold F_split_belowT
  exact Ret.mk k
theorem S_aboveS {n : Int} (k : K (.bool (decide (n > 0))) h) : CallA Try.prog fn_split_Shares_1 [.int .i64 n] h K := by
  refine F_split_Shares_1 _ _ _ ?_
  unfold F_split_Shares_1T
  exact Ret.mk k
theorem idx_sd {q : Option Addr} {l : List Int} {n c : Nat} (I : Ints .i64 h q l) (hn : l.length = n) (hs : n ≤ 1000000) (k : ∀ v : Int, decide (v ≥ 0) = l.any (fun x => decide (x < 0)) → K (.int .i64 v) h) :
    ∀ (m j : Nat), m + j = n → l.any (fun x => decide (x < 0)) = (l.drop j).any (fun x => decide (x < 0)) → L_slices_IndexFunc_int64_int64_d_0 q n c (n : Int) (j : Int) h K := by
  intro m
  induction m with
  | zero =>
    intro j hj e
    refine L_slices_IndexFunc_int64_int64_d_0r _ _ _ _ _ _ _ ?_
    unfold L_slices_IndexFunc_int64_int64_d_0T
    rw [List.drop_eq_nil_of_le (by omega)] at e
    exact Br.no (by simp; omega) (Ret.mk (k (-1) (by rw [e]; rfl)))
  | succ m ih =>
    intro j hj e
    refine L_slices_IndexFunc_int64_int64_d_0r _ _ _ _ _ _ _ ?_
    unfold L_slices_IndexFunc_int64_int64_d_0T
    have hx : l[j]? = some l[j] := List.getElem?_eq_getElem (by omega)
    rw [List.drop_eq_getElem_cons (by omega : j < l.length), List.any_cons] at e
    refine Br.yes (by simp; omega) (ix I hn rfl hx (S_belowS ⟨_, rfl, Br.intro (fun g => ?_) fun g => ?_⟩))
    · rw [g, Bool.true_or] at e
      exact Ret.mk (k (j : Int) (by rw [e]; exact decide_eq_true (by omega)))
    · rw [g, Bool.false_or] at e
      rw [wrap_i64_id (n := (j : Int) + 1) (by omega) (by omega)]
      exact ih (j + 1) (by omega) e
theorem S_anyNegS {q : Option Addr} {l : List Int} {n c : Nat} (I : Ints .i64 h q l) (hn : l.length = n) (hs : n ≤ 1000000) (k : K (.bool (anyNeg l)) h) :
    CallA Try.prog fn_slices_ContainsFunc_int64_int64 [slice q n c, func (Fn.func fn_split_below) #[] #[]] h K := by
  refine F_slices_ContainsFunc_int64_int64_d _ _ _ _ _ ?_
  unfold F_slices_ContainsFunc_int64_int64_dT
  refine F_slices_IndexFunc_int64_int64_d _ _ _ _ _ ?_
  unfold F_slices_IndexFunc_int64_int64_dT
  refine idx_sd I hn hs (fun v hv => ⟨_, rfl, Ret.mk ?_⟩) n 0 (by omega) rfl
  rw [hv]; exact k
theorem idx_se {q : Option Addr} {l : List Int} {n c : Nat} (I : Ints .i64 h q l) (hn : l.length = n) (hs : n ≤ 1000000) (k : ∀ v : Int, decide (v ≥ 0) = l.any (fun x => decide (x > 0)) → K (.int .i64 v) h) :
    ∀ (m j : Nat), m + j = n → l.any (fun x => decide (x > 0)) = (l.drop j).any (fun x => decide (x > 0)) → L_slices_IndexFunc_int64_int64_e_0 q n c (n : Int) (j : Int) h K := by
  intro m
  induction m with
  | zero =>
    intro j hj e
    refine L_slices_IndexFunc_int64_int64_e_0r _ _ _ _ _ _ _ ?_
    unfold L_slices_IndexFunc_int64_int64_e_0T
    rw [List.drop_eq_nil_of_le (by omega)] at e
    exact Br.no (by simp; omega) (Ret.mk (k (-1) (by rw [e]; rfl)))
  | succ m ih =>
    intro j hj e
    refine L_slices_IndexFunc_int64_int64_e_0r _ _ _ _ _ _ _ ?_
    unfold L_slices_IndexFunc_int64_int64_e_0T
    have hx : l[j]? = some l[j] := List.getElem?_eq_getElem (by omega)
    rw [List.drop_eq_getElem_cons (by omega : j < l.length), List.any_cons] at e
    refine Br.yes (by simp; omega) (ix I hn rfl hx (S_aboveS ⟨_, rfl, Br.intro (fun g => ?_) fun g => ?_⟩))
    · rw [g, Bool.true_or] at e
      exact Ret.mk (k (j : Int) (by rw [e]; exact decide_eq_true (by omega)))
    · rw [g, Bool.false_or] at e
      rw [wrap_i64_id (n := (j : Int) + 1) (by omega) (by omega)]
      exact ih (j + 1) (by omega) e
theorem S_anyPosS {q : Option Addr} {l : List Int} {n c : Nat} (I : Ints .i64 h q l) (hn : l.length = n) (hs : n ≤ 1000000) (k : K (.bool (anyPos l)) h) :
    CallA Try.prog fn_slices_ContainsFunc_int64_int64 [slice q n c, func (Fn.func fn_split_Shares_1) #[] #[]] h K := by
  refine F_slices_ContainsFunc_int64_int64_e _ _ _ _ _ ?_
  unfold F_slices_ContainsFunc_int64_int64_eT
  refine F_slices_IndexFunc_int64_int64_e _ _ _ _ _ ?_
  unfold F_slices_IndexFunc_int64_int64_eT
  refine idx_se I hn hs (fun v hv => ⟨_, rfl, Ret.mk ?_⟩) n 0 (by omega) rfl
  rw [hv]; exact k
end
section
variable {h0 : Heap} {K : Value → Heap → Prop}
/-! one more each -/
theorem shares_1 {B : Nat} {sp : List Value} {whoP : Option Addr} {whoc sc n m : Nat} {t : Int} (hB0 : h0 B = none) {who : List Int} (hm : who.length = m) (hm2 : m ≤ 64) (hn : n ≤ 64) (hr : ∀ i ∈ who, 0 ≤ i ∧ i < (n : Int)) (ht : t ≤ 9223372036854775807) {res : List Int}
    (k : ∀ h', h0.le h' → At h' B (intsV .i64 res ++ sp) → K (tuple #[slice (some ⟨B, 0, none⟩) n sc, .int .i64 0]) h') :
    ∀ (q j : Nat) (h : Heap) (l : List Int), q + j = m → h0.le h → Ints .i64 (h.del B) whoP who → At h B (intsV .i64 l ++ sp) → l.length = n → geL l → sumL l + (q : Int) ≤ t → bump l (who.drop j) = res →
    L_split_Shares_1 (some ⟨B, 0, none⟩) n sc whoP m whoc (m : Int) (j : Int) h K := by
  intro q
  induction q with
  | zero =>
    intro j h l hj l0 I A hl hg hs e
    refine L_split_Shares_1r _ _ _ _ _ _ _ _ _ _ ?_
    unfold L_split_Shares_1T
    rw [List.drop_eq_nil_of_le (by omega)] at e
    have e : l = res := e
    subst e
    exact Br.no (by simp; omega) (Ret.mk (k h l0 A))
  | succ q ih =>
    intro j h l hj l0 I A hl hg hs e
    refine L_split_Shares_1r _ _ _ _ _ _ _ _ _ _ ?_
    unfold L_split_Shares_1T
    have hx : who[j]? = some who[j] := List.getElem?_eq_getElem (by omega)
    have hi := hr who[j] (List.getElem_mem _)
    rw [List.drop_eq_getElem_cons (by omega : j < who.length)] at e
    generalize who[j] = i at *
    have hg2 : l[i.toNat]? = some (l.getD i.toNat 0) := by
      rw [List.getD_eq_getElem?_getD, List.getElem?_eq_getElem (by omega)]; rfl
    have c1 : h.cell B i.toNat = some (.int .i64 (l.getD i.toNat 0)) := A.cell (by
      rw [List.getElem?_append_left (by rw [intsV_length]; omega), intsV_map, List.getElem?_map, hg2]; rfl)
    have hb : 0 ≤ l.getD i.toNat 0 ∧ l.getD i.toNat 0 ≤ sumL l := ⟨hg _ (List.mem_of_getElem? hg2), (sum_ge hg).2 _ (List.mem_of_getElem? hg2)⟩
    have w1 : IntKind.wrap .i64 ((j : Int) + 1) = ((j + 1 : Nat) : Int) := wp1 (by omega)
    rw [w1]
    refine Br.yes (by simp; omega) (ix (I.le (del_le h B)) hm rfl hx ⟨by omega, by omega, withAddr_intro rfl ⟨_, by rw [Nat.zero_add]; exact c1, by omega, by omega, withAddr_intro rfl ⟨A.canSt (by rw [List.length_append, intsV_length]; simp; omega), ?_⟩⟩⟩)
    rw [Nat.zero_add, wrap_i64_id (n := l.getD i.toNat 0 + 1) (by omega) (by omega)]
    have A2 := A.set (o := i.toNat) (ws := [.int .i64 (l.getD i.toNat 0 + 1)])
    rw [setL_i1 (by omega)] at A2
    refine ih (j + 1) _ (bump1 l i) (by omega) (le_setN l0 hB0) (by rw [del_set]; exact I) A2 (by rw [bump1_len]; exact hl) (bump1_ge i hg) ?_ (by rw [bump, List.foldl_cons] at e; exact e)
    rw [bump1_sum hi.1 (by omega)]
    omega
/-- what is under way -/
structure ShI (h0 h : Heap) (b : Nat) (p1 p2 p3 : Option Addr) (c1 c2 c3 : Nat) (l1 l2 l3 : List Int) : Prop where
  le : h0.le h
  fb : h0 b = none
  ab : At h b [slice p2 l2.length c2]
  o1 : OwnL h0 h [.int .i64 0] p1 c1 (intsV .i64 l1)
  o2 : OwnL h0 h [.int .i64 0] p2 c2 (intsV .i64 l2)
  o3 : OwnL h0 h [.int .i64 0] p3 c3 (intsV .i64 l3)
  d12 : Dj p1 p2
  d13 : Dj p1 p3
  d23 : Dj p2 p3
  n1 : p1 ≠ some ⟨b, 0, none⟩
  n2 : p2 ≠ some ⟨b, 0, none⟩
  n3 : p3 ≠ some ⟨b, 0, none⟩
theorem own_ap {h0 h : Heap} {p : Option Addr} {c : Nat} {l : List Int} (x : OwnL h0 h [.int .i64 0] p c (intsV .i64 l)) (hl : l ≠ []) : ∃ B sp, p = some ⟨B, 0, none⟩ ∧ h0 B = none ∧ At h B (intsV .i64 l ++ sp) ∧ c = l.length + sp.length := by
  rcases x with ⟨e, _, _⟩ | ⟨r, sp, e, e0, a, k⟩
  · have := congrArg List.length e; rw [intsV_length] at this; exact absurd (List.length_eq_zero_iff.1 (by simpa using this)) hl
  · refine ⟨r, sp, e, e0, a, ?_⟩
    rw [List.length_append, intsV_length] at k; simpa using k
theorem shares_0 {q : Option Addr} {ws : List Int} {n c : Nat} {t s : Int} (I : Ints .i64 h0 q ws) (hn : ws.length = n) (hn2 : n ≤ 64) (hI : allI64 ws) (ht : I64 t) (h0t : 0 ≤ t) (hw : geL ws) (hs : s = sumL ws) (hs0 : 0 < s) (hsI : I64 s) (hne : ws ≠ [])
    (k : ∀ B sp h' c', h0.le h' → h0 B = none → At h' B (intsV .i64 (sharesL t ws) ++ sp) → c' = n + sp.length → K (tuple #[slice (some ⟨B, 0, none⟩) n c', .int .i64 0]) h') :
    ∀ (m j : Nat) (h : Heap) (b : Nat) (p1 p2 p3 : Option Addr) (c1 c2 c3 : Nat), m + j = n → ShI h0 h b p1 p2 p3 c1 c2 c3 (baseL t s (ws.take j)) (restL t s (ws.take j)) (upTo j) →
    L_split_Shares_0 t s b p1 j c1 p3 j c3 (t - sumL (baseL t s (ws.take j))) q n c (n : Int) (j : Int) h K := by
  intro m
  induction m with
  | zero =>
    intro j h b p1 p2 p3 c1 c2 c3 hj S
    refine L_split_Shares_0r _ _ _ _ _ _ _ _ _ _ _ _ _ _ _ _ _ ?_
    unfold L_split_Shares_0T
    have hjn : j = n := by omega
    subst hjn
    rw [List.take_of_length_le (by omega)] at S ⊢
    refine Br.no (by simp) ⟨_, _, _, S.ab.cell rfl, ?_⟩
    obtain ⟨B3, sp3, rfl, f3, A3, hc3⟩ := own_ap S.o3 (by intro e; apply hne; have := congrArg List.length e; rw [upTo_len] at this; exact List.length_eq_zero_iff.1 (by rw [hn]; exact this))
    obtain ⟨B1, sp1, rfl, f1, A1, hc1⟩ := own_ap S.o1 (by intro e; apply hne; have := congrArg List.length e; rw [baseL_len] at this; exact List.length_eq_zero_iff.1 this)
    have h13 : B1 ≠ B3 := fun e => S.d13 B1 rfl (by rw [e])
    rw [restL_len, hn]
    have D : Da (h.del B3) B3 j j sp3 h (upTo j).toArray := ⟨del_le h B3, A3, by simp [upTo_len], fun x hx => upTo_mem.1 (by simpa using hx)⟩
    have I2 : Ints .i64 (h.del B3) p2 (restL t s ws) := by
      refine rd_del S.o2.rd fun o e => ?_
      rcases S.o2 with ⟨_, e2, _⟩ | ⟨r, sp, e2, _, _, _⟩
      · rw [e2] at e; cases e
      · rw [e2] at e
        injection e with e
        injection e with e3 e4
        exact S.d23 r e2 (by rw [e3])
    have := S_sortFunc (c := c3) (lc := c2) (g0 := h.del B3) (del_same h B3) (by rw [restL_len, hn]) I2 (by omega) D (K := fun v h' => v = tuple #[] ∧ ((0 : Int) ≤ t - sumL (baseL t s ws) ∧ t - sumL (baseL t s ws) ≤ (c3 : Int) ∧ L_split_Shares_1 (some ⟨B1, 0, none⟩) j c1 (some ⟨B3, 0, none⟩) (Int.toNat (t - sumL (baseL t s ws))) c3 (((Int.toNat (t - sumL (baseL t s ws)) : Nat) : Int)) 0 h' K)) fun h' d' D' P' s' => ⟨rfl, ?_⟩
    · exact this
    have hm := missing_range (t := t) (ws := ws) (by omega) hne
    rw [← hs] at hm
    rw [upTo_len] at hc3
    refine ⟨hm.1, by omega, ?_⟩
    have hord := ordL_of P' s'
    have hlen : d'.toList.length = j := by rw [hord, ordL_len]
    have l0' : h0.le h' := fun x y hx => D'.le x y (le_del S.le f3 x y hx)
    have W : Ints .i64 (h'.del B1) (some ⟨B3, 0, none⟩) (d'.toList.take (Int.toNat (t - sumL (baseL t s ws)))) := by
      have a := D'.at_.del (m := B1) (Ne.symm h13)
      have r := a.toRd
      have e : intsV .i64 d'.toList = intsV .i64 (d'.toList.take (Int.toNat (t - sumL (baseL t s ws)))) ++ intsV .i64 (d'.toList.drop (Int.toNat (t - sumL (baseL t s ws)))) := by rw [← intsV_append, List.take_append_drop]
      rw [e] at r
      exact rdL_take r
    have A1' : At h' B1 (intsV .i64 (baseL t s ws) ++ sp1) := (A1.del h13).le D'.le
    refine shares_1 (t := t) f1 (who := d'.toList.take (Int.toNat (t - sumL (baseL t s ws)))) (by rw [List.length_take, hlen]; omega) (by omega) hn2 (fun i hi => ?_) (by unfold I64 at ht; omega) (res := sharesL t ws) (fun h2 l2 A2 => ?_) _ 0 h' _ (Nat.add_zero _) l0' W A1' (by rw [baseL_len, hn]) (base_ge h0t hs0 hw) (by omega) ?_
    · have := List.mem_of_mem_take hi
      rw [hord, (ordL_perm _ _).mem_iff, upTo_mem] at this
      exact this
    · rw [baseL_len, hn] at hc1
      exact k B1 sp1 h2 c1 l2 f1 A2 hc1
    · rw [List.drop_zero, hord, sharesL, ← hs, hn]
  | succ m ih =>
    intro j h b p1 p2 p3 c1 c2 c3 hj S
    refine L_split_Shares_0r _ _ _ _ _ _ _ _ _ _ _ _ _ _ _ _ _ ?_
    unfold L_split_Shares_0T
    have hx : ws[j]? = some ws[j] := List.getElem?_eq_getElem (by omega)
    have hmem : ws[j] ∈ ws := List.getElem_mem _
    have e1 : ws.take (j + 1) = ws.take j ++ [ws[j]] := by rw [List.take_add_one, hx]; rfl
    have hwj := hw _ hmem
    have hws := (sum_ge hw).2 _ hmem
    have hIj := hI _ hmem
    have fin := missing_range (t := t) (ws := ws) (by omega) hne
    rw [← hs] at fin
    have hdr : 0 ≤ sumL (baseL t s (ws.drop (j + 1))) := (sum_ge (base_ge h0t hs0 fun x hx => hw x (List.mem_of_mem_drop hx))).1
    have htk : 0 ≤ sumL (baseL t s (ws.take j)) := (sum_ge (base_ge h0t hs0 fun x hx => hw x (List.mem_of_mem_take hx))).1
    have hall : sumL (baseL t s ws) = sumL (baseL t s (ws.take (j + 1))) + sumL (baseL t s (ws.drop (j + 1))) := by
      rw [← sumL_append]; unfold baseL; rw [← List.map_append, List.take_append_drop]
    have eb : baseL t s (ws.take (j + 1)) = baseL t s (ws.take j) ++ [t * ws[j] / s] := by rw [e1]; unfold baseL; rw [List.map_append]; rfl
    have er : restL t s (ws.take (j + 1)) = restL t s (ws.take j) ++ [t * ws[j] % s] := by rw [e1]; unfold restL; rw [List.map_append]; rfl
    have l1 : (baseL t s (ws.take j)).length = j := by rw [baseL_len, List.length_take]; omega
    have l2 : (restL t s (ws.take j)).length = j := by rw [restL_len, List.length_take]; omega
    rw [eb, sumL_append] at hall
    have nx := fun h b p1 p2 p3 c1 c2 c3 => ih (j + 1) h b p1 p2 p3 c1 c2 c3 (by omega)
    rw [eb, er, upTo_succ, sumL_append] at nx
    generalize ws[j] = w at *
    have hq0 : 0 ≤ t * w / s := Int.ediv_nonneg (Int.mul_nonneg h0t hwj) (by omega)
    have hqt : t * w / s ≤ t := Int.ediv_le_of_le_mul hs0 (Int.mul_le_mul_of_nonneg_left (by omega) h0t)
    have hr0 := Int.emod_nonneg (t * w) (show s ≠ 0 by omega)
    have hr1 := Int.emod_lt_of_pos (t * w) hs0
    have hdm : t * w - t * w / s * s = t * w % s := by have h1 := Int.mul_ediv_add_emod (t * w) s; have h2 := Int.mul_comm s (t * w / s); omega
    unfold I64 at ht hsI
    refine Br.yes (by simp; omega) (ix (I.le S.le) hn rfl hx (S_MulDiv ht hIj hsI false h _ ⟨_, _, rfl, ?_⟩))
    have emd : md t w s false = (t * w / s, 0) := by
      unfold md
      rw [if_neg (by omega)]
      exact fit_ok (show I64 (t * w / s) by unfold I64; omega)
    rw [emd]
    dsimp only
    generalize baseL t s (ws.take j) = BL at *
    generalize restL t s (ws.take j) = RL at *
    refine pushK (v := t * w / s) S.o1 S.le l1 (by omega) fun p1' c1' h1 m1 w1 keep1 A1 => ⟨p2, RL.length, c2, (A1 b _ S.ab S.n1).1.cell rfl, ?_⟩
    obtain ⟨o2, d2⟩ := keep1 p2 c2 _ S.o2 S.d12
    obtain ⟨o3, d3⟩ := keep1 p3 c3 _ S.o3 S.d13
    obtain ⟨a1, n1⟩ := A1 b _ S.ab S.n1
    refine S_rest (by omega) (by omega) ⟨_, rfl, .inl (Heap.le_refl _), ?_⟩
    rw [hdm]
    refine pushK (v := t * w % s) o2 m1 rfl (by omega) fun p2' c2' h2 m2 w2 keep2 A2 => ?_
    obtain ⟨o1', d1'⟩ := keep2 p1' c1' _ w1 d2.symm
    obtain ⟨o3', d3'⟩ := keep2 p3 c3 _ o3 S.d23
    obtain ⟨a2, n2⟩ := A2 b _ a1 S.n2
    refine ⟨a2.canSt (Nat.le_refl _), ?_⟩
    have a3 : At (h2.setN b 0 [slice p2' (RL.length + 1) c2']) b [slice p2' (RL.length + 1) c2'] := a2.set (o := 0)
    have m3 : h0.le (h2.setN b 0 [slice p2' (RL.length + 1) c2']) := le_setN m2 S.fb
    refine pushK (v := (j : Int)) (o3'.set_ne S.n3) m3 (by rw [upTo_len]) (by omega) fun p3' c3' h3 m4 w3 keep3 A3 => ?_
    obtain ⟨o1'', d1''⟩ := keep3 p1' c1' _ (o1'.set_ne n1) d3.symm
    obtain ⟨o2'', d2''⟩ := keep3 p2' c2' _ (w2.set_ne n2) d3'.symm
    obtain ⟨a4, n4⟩ := A3 b _ a3 S.n3
    rw [wp1 (by omega), wrap_i64_id (n := t - sumL BL - t * w / s) (by simp [sumL] at hall; omega) (by omega)]
    have e5 : t - (sumL BL + sumL [t * w / s]) = t - sumL BL - t * w / s := by simp [sumL]; omega
    rw [e5] at nx
    exact nx h3 b p1' p2' p3' c1' c2' c3' ⟨m4, S.fb, by rw [List.length_append]; exact a4, o1'', o2'', w3, d1'.symm, d1''.symm, d2''.symm, n1, n2, n4⟩
theorem S_Shares {h : Heap} {q : Option Addr} {ws : List Int} {n c : Nat} {t : Int} (I : Ints .i64 h q ws) (hn : ws.length = n) (hn2 : n ≤ 1000000) (hI : allI64 ws) (ht : I64 t)
    (k : ∀ p' c' h', h.le h' → Ints .i64 h' p' (sharesR t ws).1 → K (tuple #[slice p' (sharesR t ws).1.length c', .int .i64 (sharesR t ws).2]) h') :
    CallA Try.prog fn_split_Shares [.int .i64 t, slice q n c] h K := by
  refine F_split_Shares _ _ _ _ _ _ ?_
  unfold F_split_SharesT
  unfold sharesR at k
  refine Br.dec (fun g1 => ?_) fun g1 => ?_
  · rw [if_pos (by omega)] at k; exact Ret.mk (k none 0 h h.le_refl (.inl rfl))
  rw [if_neg (by omega)] at k
  refine Br.dec (fun g2 => ?_) fun g2 => ?_
  · rw [if_pos (by omega)] at k; exact Ret.mk (k none 0 h h.le_refl (.inl rfl))
  rw [if_neg (by omega)] at k
  refine S_anyNegS I hn hn2 ⟨_, rfl, Br.intro (fun g3 => ?_) fun g3 => ?_⟩
  · rw [if_pos g3] at k; exact Ret.mk (k none 0 h h.le_refl (.inl rfl))
  rw [if_neg (by rw [g3]; decide)] at k
  refine S_anyPosS I hn hn2 ⟨_, rfl, Br.intro (fun g4 => ?_) fun g4 => ?_⟩
  · rw [if_pos (by simpa using g4)] at k; exact Ret.mk (k none 0 h h.le_refl (.inl rfl))
  rw [if_neg (by simp at g4; rw [g4]; decide)] at k
  have g4 : anyPos ws = true := by simpa using g4
  have := S_Sum (l := ws) (by omega) hI (c := c) h I (K := fun v h => ∃ (n_1 : Int), ∃ (n_2 : Int), v = tuple #[.int .i64 n_1, .int .i64 n_2] ∧ Br (n_2 != 0) (Ret h K (tuple #[slice none 0 0, .int .i64 n_2]))
    (newB h [slice none 0 0] 96 fun (r : Nat) (h : Heap) => L_split_Shares_0 t n_1 r none 0 0 none 0 0 t q n c (n : Int) 0 h K)) ⟨_, _, rfl, Br.intro (fun g5 => ?_) fun g5 => ?_⟩
  · rw [hn] at this; exact this
  · rw [if_pos (by simpa using g5)] at k
    exact Ret.mk (k none 0 h h.le_refl (.inl rfl))
  have hfit : I64 (sumL ws) := Classical.byContradiction fun g => by rw [fit_over g] at g5; cases g5
  rw [if_neg (by rw [fit_ok hfit]; simp)] at k
  rw [fit_ok hfit]
  have hp := pos_of g3 g4
  dsimp only at k ⊢
  refine newB_at fun r h1 hr l1 A => ?_
  have ss := shares_0 (K := K) (s := sumL ws) (c := c) I hn (by omega) hI ht (by omega) (geL_of g3) rfl hp.1 hfit hp.2 (fun B sp h' c' l' f' A' hc' => ?_) n 0 h1 r none none none 0 0 0 (by omega) ⟨l1, hr, A, OwnL.nil _ _ _, OwnL.nil _ _ _, OwnL.nil _ _ _, Dj.none _, Dj.none _, Dj.none _, by simp, by simp, by simp⟩
  · simpa [baseL, sumL] using ss
  · rw [sharesL_len, hn] at k
    exact k (some ⟨B, 0, none⟩) c' h' l' A'.toRd
end
end Go.Proofs.Ytghdadniddoboaa
