/- The reference's providers: what is given back; as bytes. -/
import Derived.Test.YtkcogdmddhkldaaLenRef
import Derived.Test.YtkcogdmddhkldaaLenGive
namespace Go.Proofs.Ytkcogdmddhkldaa
open Go Go.Sy Go.Value
set_option linter.unusedVariables false
set_option linter.unusedSimpArgs false

def sumP (l : List Prt) (p : Nat) : Int := sumL ((l.filter fun x => x.p == (p : Int)).map (·.a))
theorem sumP_cons (x : Prt) (l : List Prt) (p : Nat) : sumP (x :: l) p = (if x.p = (p : Int) then x.a else 0) + sumP l p := by
  unfold sumP
  rw [List.filter_cons]
  by_cases h : x.p = (p : Int)
  · rw [if_pos h, if_pos (by simpa using h), List.map_cons, sumL]
  · rw [if_neg h, if_neg (by simpa using h)]; omega
theorem sumP_pos : ∀ (l : List Prt) (p : Nat), (∀ x ∈ l, 1 ≤ x.a) → 0 ≤ sumP l p
  | [], _, _ => Int.le_refl 0
  | x :: l, p, h => by
    rw [sumP_cons]
    have := sumP_pos l p fun y hy => h y (List.mem_cons_of_mem _ hy)
    have := h x (List.mem_cons_self ..)
    split <;> omega
theorem adds_sum {n w c : Nat} (hc : c < w) : ∀ (l : List Prt) (M : Mx), shM M n w → (∀ x ∈ l, 0 ≤ x.p ∧ x.p < (n : Int)) → (∀ p, I64 (rdM M p c)) → (addsM (toP (c : Int) l) M).1 = 0 → ∀ p, rdM (addsM (toP (c : Int) l) M).2 p c = rdM M p c + sumP l p ∧ I64 (rdM M p c + sumP l p)
  | [], M, _, _, hI, _, p => ⟨by show rdM M p c = rdM M p c + 0; omega, by show I64 (rdM M p c + 0); rw [Int.add_zero]; exact hI p⟩
  | x :: l, M, s, hh, hI, e, p => by
    rw [addsM_cons] at e ⊢
    by_cases g : (fit (rdM M x.p.toNat c + x.a)).2 ≠ 0
    · rw [if_pos g] at e; cases e
    · rw [if_neg g] at e ⊢
      have hx := hh x (List.mem_cons_self ..)
      have hi : x.p.toNat < n := by omega
      have ih := adds_sum hc l (wrM M x.p.toNat c (rdM M x.p.toNat c + x.a)) (s.wr hi) (fun y hy => hh y (List.mem_cons_of_mem _ hy)) (fun q => by
        rw [rd_wr s hi hc]; split
        · exact fit_in g
        · exact hI q) e p
      rw [rd_wr s hi hc] at ih
      rw [sumP_cons]
      by_cases h : x.p = (p : Int)
      · rw [if_pos ⟨by omega, rfl⟩] at ih
        rw [if_pos h]
        have e2 : x.p.toNat = p := by omega
        rw [e2] at ih ⊢
        rw [← Int.add_assoc]; exact ih
      · rw [if_neg (by omega)] at ih
        rw [if_neg h, Int.zero_add]; exact ih
theorem adds_fit {n w c : Nat} (hc : c < w) : ∀ (l : List Prt) (M : Mx), shM M n w → (∀ x ∈ l, 0 ≤ x.p ∧ x.p < (n : Int) ∧ 1 ≤ x.a) → (∀ p, 0 ≤ rdM M p c) → (∀ p, p < n → I64 (rdM M p c + sumP l p)) → (addsM (toP (c : Int) l) M).1 = 0
  | [], _, _, _, _, _ => rfl
  | x :: l, M, s, hh, h0, hI => by
    have hx := hh x (List.mem_cons_self ..)
    have hi : x.p.toNat < n := by omega
    have h1 := hI x.p.toNat hi
    rw [sumP_cons, if_pos (by omega)] at h1
    have h2 := sumP_pos l x.p.toNat fun y hy => (hh y (List.mem_cons_of_mem _ hy)).2.2
    have h3 := h0 x.p.toNat
    unfold I64 at h1
    rw [addsM_cons, fit_ok (by unfold I64; omega), if_neg (by simp)]
    refine adds_fit hc l _ (s.wr hi) (fun y hy => hh y (List.mem_cons_of_mem _ hy)) (fun p => ?_) fun p hp => ?_
    · rw [rd_wr s hi hc]; split
      · omega
      · exact h0 p
    · have := hI p hp
      rw [sumP_cons] at this
      rw [rd_wr s hi hc]
      by_cases h : x.p = (p : Int)
      · rw [if_pos h] at this
        rw [if_pos ⟨by omega, rfl⟩, show x.p.toNat = p by omega, Int.add_assoc]; exact this
      · rw [if_neg h, Int.zero_add] at this
        rw [if_neg (by omega)]; exact this
theorem qx0 {h : Heap} {p : Option Addr} {l : List Prt} {N : Nat} (C : Pts h p l) (hn : l.length = N) {j : Nat} {i : Int} (hi : i = (j : Int)) {x : Prt} (hx : l[j]? = some x) {Q : Int → Prop} (kk : Q x.p) :
    0 ≤ i ∧ i < (N : Int) ∧ withAddr p fun b o => ∃ n, h.cell b (o + i.toNat * 2) = some (.int .i64 n) ∧ Q n := by
  obtain ⟨h1, h2, h3⟩ := qx C hn hi hx (Q := fun n n1 => Q n) kk
  obtain ⟨b, o, e, n, g1, _, _, g2⟩ := withAddr_elim h3
  exact ⟨h1, h2, withAddr_intro e ⟨n, g1, g2⟩⟩
theorem qx1 {h : Heap} {p : Option Addr} {l : List Prt} {N : Nat} (C : Pts h p l) (hn : l.length = N) {j : Nat} {i : Int} (hi : i = (j : Int)) {x : Prt} (hx : l[j]? = some x) {Q : Int → Prop} (kk : Q x.a) :
    0 ≤ i ∧ i < (N : Int) ∧ withAddr p fun b o => ∃ n, h.cell b (o + i.toNat * 2 + 1) = some (.int .i64 n) ∧ Q n := by
  obtain ⟨h1, h2, h3⟩ := qx C hn hi hx (Q := fun n n1 => Q n1) kk
  obtain ⟨b, o, e, _, _, n, g1, g2⟩ := withAddr_elim h3
  exact ⟨h1, h2, withAddr_intro e ⟨n, g1, g2⟩⟩
section
variable {h0 : Heap} {K : Value → Heap → Prop} {g : RFr} {S : Ln} {c n : Nat} {q : Option Addr} {l : List Prt} {qc : Nat}
/-- the amounts are added -/
theorem rgive_3 (fr : ∀ x, g.D S.L.length x = true → h0 x = none) (hc : c < S.cur) (C : Pts h0 q l) (hn : l.length = n) (hs : n ≤ 1000) (hk : ∀ x ∈ l, 0 ≤ x.p ∧ x.p < (S.L.length : Int) ∧ 1 ≤ x.a) {Mf : Mx}
    (k : ∀ h', h0.le h' → RAt h' g ⟨Mf, S.F, S.cur⟩ → K (.int .i64 0) h') :
    ∀ (m j : Nat) (h : Heap) (M : Mx), m + j = n → h0.le h → M.length = S.L.length → RAt h g ⟨M, S.F, S.cur⟩ → addsM (toP (c : Int) (l.drop j)) M = (0, Mf) → L_pref15_Lenders_Give_3 (some ⟨g.p, 0, none⟩) (c : Int) q n qc (j : Int) h K
  | 0, j, h, M, hj, l0, hM, A, e => by
    refine L_pref15_Lenders_Give_3r _ _ _ _ _ _ _ _ ?_
    unfold L_pref15_Lenders_Give_3T
    rw [List.drop_eq_nil_of_le (by omega)] at e
    have e : (0, M) = ((0 : Int), Mf) := e
    cases e
    exact Br.no (by simp; omega) (Ret.mk (k h l0 A))
  | m + 1, j, h, M, hj, l0, hM, A, e => by
    refine L_pref15_Lenders_Give_3r _ _ _ _ _ _ _ _ ?_
    unfold L_pref15_Lenders_Give_3T
    have hx : l[j]? = some l[j] := List.getElem?_eq_getElem (by omega)
    have hmem : l[j] ∈ l := List.getElem_mem _
    rw [List.drop_eq_getElem_cons (by omega : j < l.length)] at e
    generalize l[j] = y at *
    obtain ⟨y1, y2, y3⟩ := hk y hmem
    obtain ⟨yp, ya⟩ := y
    dsimp only at y1 y2 y3
    obtain ⟨i, rfl⟩ : ∃ i : Nat, yp = i := ⟨yp.toNat, by omega⟩
    rw [addsM_cons] at e
    simp only [Int.toNat_natCast] at e
    by_cases g1 : (fit (rdM M i c + ya)).2 ≠ 0
    · rw [if_pos g1] at e; cases e
    rw [if_neg g1] at e
    have hI := fit_in g1
    have h0i := A.ok.pos i c
    have h0i : 0 ≤ rdM M i c := h0i
    have e1 : IntKind.wrap .i64 (rdM M i c + ya) = rdM M i c + ya := wrap_i64_id hI.1 hI.2
    have hi : i < M.length := by omega
    obtain ⟨B, eB, hcl⟩ := A.rw.cl hi
    have hil : (i : Int) < (M.length : Int) := by omega
    have hcc : (c : Int) < (S.cur : Int) := by omega
    have C' := rdL_le l0 C
    refine Br.yes (by simp; omega) (withAddr_intro rfl ⟨_, _, _, A.rows, qx0 C' hn rfl hx ⟨by omega, hil, withAddr_intro eB ⟨_, _, _, hcl, withAddr_intro rfl ⟨_, _, _, A.rows, qx0 C' hn rfl hx ⟨by omega, hil, withAddr_intro eB ⟨_, _, _, hcl, by omega, hcc, withAddr_intro rfl ⟨_, A.rw.amt (i := i) (c := c) hi hc, qx1 C' hn rfl hx ⟨by omega, hcc, withAddr_intro rfl ⟨A.rw.st (i := i) (c := c) hi hc, ?_⟩⟩⟩⟩⟩⟩⟩⟩⟩)
    try dsimp only
    simp only [Int.toNat_natCast]
    rw [e1, w1 (by omega)]
    have hD : g.D S.L.length (g.f.R i) = true := RFr.D_f (by rw [← hM]; exact g.f.D_row hi)
    exact rgive_3 fr hc C hn hs hk k m (j + 1) _ (wrM M i c (rdM M i c + ya)) (by omega) (le_setN l0 (fr _ hD)) (by unfold wrM; rw [List.length_set, hM]) (A.wrR (S := ⟨M, S.F, S.cur⟩) hi hc hI (by omega)) e
/-- the sum of one provider -/
theorem rgive_2 {h1 : Heap} (C : Pts h1 q l) (hn : l.length = n) (hs : n ≤ 1000) (hI : ∀ x ∈ l, I64 x.p ∧ I64 x.a) {p sum : Nat} {x0 : Int}
    (k : ∀ h' e, h1.le h' → (fit (x0 + sumP l p)).2 = e → e ≠ 0 → K (.int .i64 e) h') (k2 : ∀ h', h1.le h' → (fit (x0 + sumP l p)).2 = 0 → L_pref15_Lenders_Give_1 (some ⟨g.p, 0, none⟩) (c : Int) q n qc (IntKind.wrap .i64 ((p : Int) + 1)) h' K) (ns : h1 sum = none) :
    ∀ (m j : Nat) (h : Heap) (v : Value) (x : Int), m + j = n → h1.le h → BigR (h.del sum) v x (5 + j) → (∃ b a k c, v = agg #[.bool b, slice a k c] ∧ At h sum [.bool b, slice a k c]) → x + sumP (l.drop j) p = x0 + sumP l p →
    L_pref15_Lenders_Give_2 (some ⟨g.p, 0, none⟩) (c : Int) q n qc (p : Int) sum (j : Int) h K
  | 0, j, h, v, x, hj, l0, B, As, e => by
    refine L_pref15_Lenders_Give_2r _ _ _ _ _ _ _ _ _ _ ?_
    unfold L_pref15_Lenders_Give_2T
    obtain ⟨b, a, kk, cc, rfl, As⟩ := As
    rw [List.drop_eq_nil_of_le (by omega), show sumP [] p = 0 from rfl, Int.add_zero] at e
    refine Br.no (by simp; omega) ⟨_, As.cell rfl, _, _, _, As.cell rfl, S_Fit (B.le (del_le _ _)) (by omega) fun h2 l2 => ⟨_, _, rfl, ?_⟩⟩
    rw [e]
    refine Br.intro (fun g1 => Ret.mk (k h2 _ (Heap.le_trans l0 l2) rfl (by simpa using g1))) fun g1 => k2 h2 (Heap.le_trans l0 l2) (by simpa using g1)
  | m + 1, j, h, v, x, hj, l0, B, As, e => by
    refine L_pref15_Lenders_Give_2r _ _ _ _ _ _ _ _ _ _ ?_
    unfold L_pref15_Lenders_Give_2T
    have hx : l[j]? = some l[j] := List.getElem?_eq_getElem (by omega)
    have hmem : l[j] ∈ l := List.getElem_mem _
    rw [List.drop_eq_getElem_cons (by omega : j < l.length), sumP_cons] at e
    generalize l[j] = y at *
    have C' := rdL_le l0 C
    have hIy := (hI y hmem).2
    rw [w1 (by omega)]
    refine Br.yes (by simp; omega) (qx0 C' hn rfl hx (Br.intro (fun g1 => ?_) fun g1 => ?_))
    · have g1 : y.p = (p : Int) := by simpa using g1
      rw [if_pos g1] at e
      obtain ⟨b, a, kk, cc, rfl, As⟩ := As
      refine ⟨_, As.cell rfl, _, _, _, As.cell rfl, qx1 C' hn rfl hx (CallA.off As (S_Of hIy fun v2 h2' l2 bn2 h2 q1 q2 q3 => ?_))⟩
      have br2 := bn2.raw
      obtain ⟨n2, p2, c2, d2, rfl, _⟩ := bn2
      have lh2 := le_of_del (Heap.le_trans l2 q1) q3
      have As2 := As.le lh2
      have B2 := B.le (del_mono lh2)
      refine ⟨_, _, _, _, rfl, .inl lh2, CallA.off As2 (S_Add_Big B2 (br2.le (le_del q1 q2)) (Nat.le_refl _) (by omega) (by omega) fun v3 h3' l3 bn3 h3 q4 q5 q6 => ?_)⟩
      have br3 := bn3.raw
      obtain ⟨n3, p3, c3, d3, rfl, _⟩ := bn3
      have lh3 := le_of_del (Heap.le_trans l3 q4) q6
      have As3 := As2.le lh3
      refine ⟨_, _, _, _, rfl, As3.canSt (by simp), ?_⟩
      have hle : h1.le (h3.setN sum 0 [.bool n3, slice p3 d3.length c3]) := le_setN (Heap.le_trans l0 (Heap.le_trans lh2 lh3)) ns
      exact rgive_2 C hn hs hI k k2 ns m (j + 1) _ _ (x + y.a) (by omega) hle (by rw [del_set]; exact br3.le (le_del q4 q5)) ⟨_, _, _, _, rfl, As3.set⟩ (by omega)
    · have g1 : y.p ≠ (p : Int) := by simpa using g1
      rw [if_neg g1] at e
      exact rgive_2 C hn hs hI k k2 ns m (j + 1) h v x (by omega) l0 (B.more (by omega)) As (by omega)
theorem addsM_3 : ∀ (l : List Pst) (M : Mx), (addsM l M).1 ≠ 0 → (addsM l M).1 = 3
  | [], M, h => (h rfl).elim
  | a :: l, M, h => by
    rw [addsM] at h ⊢
    split
    · rfl
    · rename_i g; rw [if_neg g] at h; exact addsM_3 l _ h
theorem S_rGive {h : Heap} (l0 : h0.le h) (fr : ∀ x, g.D S.L.length x = true → h0 x = none) (A : RAt h g S) {c : Int} (C : Pts h0 q l) (hn : l.length = n) (hs : n ≤ 1000) (hI : ∀ x ∈ l, I64 x.p ∧ I64 x.a)
    (k : ∀ h', h0.le h' → RAt h' g (giveN S c l).2 → K (.int .i64 (giveN S c l).1) h') : CallA Try.prog fn_pref15_Lenders_Give [pointer (some ⟨g.p, 0, none⟩), .int .i64 c, slice q n qc] h K := by
  refine F_pref15_Lenders_Give _ _ _ _ _ _ _ ?_
  unfold F_pref15_Lenders_GiveT
  unfold giveN at k
  refine Br.dec (fun g1 => ?_) fun g1 => withAddr_intro rfl ⟨_, A.curs, Br.dec (fun g2 => ?_) fun g2 => ?_⟩
  · rw [if_pos (by unfold hasC; exact decide_eq_false (by omega))] at k; exact Ret.mk (k h l0 A)
  · rw [if_pos (by unfold hasC; exact decide_eq_false (by omega))] at k; exact Ret.mk (k h l0 A)
  obtain ⟨c, rfl⟩ : ∃ i : Nat, c = i := ⟨c.toNat, by omega⟩
  have hc : c < S.cur := by omega
  rw [if_neg (by unfold hasC; rw [decide_eq_true (by omega)]; decide)] at k
  have C' := rdL_le l0 C
  have n8 := A.ok.n8
  -- who is known
  have main0 : ∀ (m j : Nat), m + j = n → (∀ x ∈ l.take j, 0 ≤ x.p ∧ x.p < (S.L.length : Int) ∧ 1 ≤ x.a) → L_pref15_Lenders_Give_0 (some ⟨g.p, 0, none⟩) (c : Int) q n qc (j : Int) h K := by
    intro m
    induction m with
    | zero =>
      intro j hj hk
      refine L_pref15_Lenders_Give_0r _ _ _ _ _ _ _ _ ?_
      unfold L_pref15_Lenders_Give_0T
      rw [List.take_of_length_le (by omega)] at hk
      have any0 : ¬ l.any (fun x => !knownB S x.p || decide (x.a < 1)) = true := by
        simp only [Bool.not_eq_true, List.any_eq_false]
        intro x hx
        obtain ⟨x1, x2, x3⟩ := hk x hx
        have e1 : knownB S x.p = true := by unfold knownB; exact decide_eq_true ⟨x1, x2⟩
        rw [e1, decide_eq_false (by omega)]; decide
      rw [if_neg any0] at k
      have main1 : ∀ (m p : Nat) (h1 : Heap), m + p = S.L.length → h.le h1 → (∀ r, r < p → I64 (rdM S.L r c + sumP l r)) → L_pref15_Lenders_Give_1 (some ⟨g.p, 0, none⟩) (c : Int) q n qc (p : Int) h1 K := by
        intro m
        induction m with
        | zero =>
          intro p h1 hp l1 hfit
          refine L_pref15_Lenders_Give_1r _ _ _ _ _ _ _ _ ?_
          unfold L_pref15_Lenders_Give_1T
          have h0' := adds_fit hc l S.L A.ok.sh hk (fun p => A.ok.pos p c) (fun r hr => hfit r (by omega))
          rw [if_neg (by rw [h0']; simp)] at k
          have A1 := A.le l1
          have l01 := Heap.le_trans l0 l1
          refine withAddr_intro rfl ⟨_, _, _, A1.rows, Br.no (by simp; omega) (rgive_3 fr hc C hn hs hk (Mf := (addsM (toP (c : Int) l) S.L).2) (fun h' l' A' => k h' l' A') n 0 h1 S.L (by omega) l01 rfl A1 ?_)⟩
          rw [List.drop_zero, ← h0']
        | succ m ih =>
          intro p h1 hp l1 hfit
          refine L_pref15_Lenders_Give_1r _ _ _ _ _ _ _ _ ?_
          unfold L_pref15_Lenders_Give_1T
          have A1 := A.le l1
          have l01 := Heap.le_trans l0 l1
          have hpl : p < S.L.length := by omega
          refine withAddr_intro rfl ⟨_, _, _, A1.rows, Br.yes (by simp; omega) (withAddr_intro rfl ⟨_, _, _, A1.rows, by omega, by omega, A1.rw.get hpl hc (S_Of (A.ok.i64 p c) fun v h2 l2 bn => ?_)⟩)⟩
          have br := bn.raw
          obtain ⟨b, pp, cc, ds, rfl, _⟩ := bn
          refine ⟨_, _, _, _, rfl, newB_cp (vs := [.bool b, slice pp ds.length cc]) rfl fun sum h3 hsum l3 As st => ⟨st, ?_⟩⟩
          generalize h3.setN sum 0 _ = h4 at *
          have l14 := Heap.le_trans l2 l3
          refine rgive_2 (h1 := h2) (x0 := rdM S.L p c) (rdL_le (Heap.le_trans l1 l2) C') hn hs hI (fun h' e l' he hne => ?_) (fun h' l' hz => ?_) hsum n 0 h4 _ (rdM S.L p c) (by omega) l3 (br.le (le_del l3 hsum)) ⟨_, _, _, _, rfl, As⟩ (by rw [List.drop_zero])
          · have hno : (addsM (toP (c : Int) l) S.L).1 ≠ 0 := fun hz => by
              have := (adds_sum hc l S.L A.ok.sh (fun x hx => by have := hk x hx; omega) (fun p => A.ok.i64 p c) hz p).2
              rw [fit_ok this] at he
              exact hne he.symm
            rw [if_pos hno] at k
            have e3 : e = 3 := by
              rw [← he]
              unfold fit at he ⊢
              split
              · rename_i g; rw [if_pos g] at he; exact (hne he.symm).elim
              · rfl
            rw [e3]
            have l' := Heap.le_trans (Heap.le_trans l01 l2) l'
            exact k h' l' (A.le (Heap.le_trans l1 (Heap.le_trans l2 (by assumption))))
          · rw [w1 (by omega)]
            refine ih (p + 1) h' (by omega) (Heap.le_trans l1 (Heap.le_trans l2 l')) fun r hr => ?_
            by_cases e : r = p
            · rw [e]
              exact fit_in (by rw [hz]; simp)
            · exact hfit r (by omega)
      exact Br.no (by simp; omega) (main1 S.L.length 0 h (by omega) h.le_refl fun r hr => by omega)
    | succ m ih =>
      intro j hj hk
      refine L_pref15_Lenders_Give_0r _ _ _ _ _ _ _ _ ?_
      unfold L_pref15_Lenders_Give_0T
      have hx : l[j]? = some l[j] := List.getElem?_eq_getElem (by omega)
      have htk : l.take (j + 1) = l.take j ++ [l[j]] := by rw [List.take_add_one, hx]; rfl
      have hmem : l[j] ∈ l := List.getElem_mem _
      generalize l[j] = y at *
      have bad : (y.p < 0 ∨ (S.L.length : Int) ≤ y.p ∨ y.a < 1) → Ret h K (.int .i64 1) := fun hb => by
        have any1 : l.any (fun x => !knownB S x.p || decide (x.a < 1)) = true := List.any_eq_true.2 ⟨y, hmem, by
          rw [Bool.or_eq_true]
          by_cases g : knownB S y.p = true
          · right
            unfold knownB at g
            have := of_decide_eq_true g
            exact decide_eq_true (by omega)
          · left; simpa using g⟩
        rw [if_pos any1] at k
        exact Ret.mk (k h l0 A)
      refine Br.yes (by simp; omega) (qx0 C' hn rfl hx (Br.dec (fun g1 => bad (.inl g1)) fun g1 => qx0 C' hn rfl hx (withAddr_intro rfl ⟨_, _, _, A.rows, Br.dec (fun g2 => bad (.inr (.inl g2))) fun g2 => qx1 C' hn rfl hx (Br.dec (fun g3 => bad (.inr (.inr g3))) fun g3 => ?_)⟩)))
      rw [w1 (by omega)]
      refine ih (j + 1) (by omega) fun x hx2 => ?_
      rw [htk] at hx2
      rcases List.mem_append.1 hx2 with hx2 | hx2
      · exact hk x hx2
      · rw [List.mem_singleton] at hx2; subst hx2; omega
  exact main0 n 0 (by omega) fun x hx => by simp at hx
end
/-! as bytes -/
theorem bytesI_append (a b : ByteArray) : bytesI (a ++ b) = bytesI a ++ bytesI b := by
  unfold bytesI
  rw [ByteArray.data_append, Array.toList_append, List.map_append]
theorem byte_mod (n : Int) (i : Nat) (hi : i < 8) : byteAt (n % 18446744073709551616) i = byteAt n i := by
  unfold byteAt
  match i, hi with
  | 0, _ => rw [show (2 : Int) ^ (8 * 0) = 1 from rfl]; omega
  | 1, _ => rw [show (2 : Int) ^ (8 * 1) = 256 from rfl]; omega
  | 2, _ => rw [show (2 : Int) ^ (8 * 2) = 65536 from rfl]; omega
  | 3, _ => rw [show (2 : Int) ^ (8 * 3) = 16777216 from rfl]; omega
  | 4, _ => rw [show (2 : Int) ^ (8 * 4) = 4294967296 from rfl]; omega
  | 5, _ => rw [show (2 : Int) ^ (8 * 5) = 1099511627776 from rfl]; omega
  | 6, _ => rw [show (2 : Int) ^ (8 * 6) = 281474976710656 from rfl]; omega
  | 7, _ => rw [show (2 : Int) ^ (8 * 7) = 72057594037927936 from rfl]; omega
theorem div_next (u : Int) (i : Nat) : u / 2 ^ (8 * i) / 256 = u / 2 ^ (8 * (i + 1)) := by
  rw [Int.ediv_ediv_of_nonneg (Int.le_of_lt (Int.pow_pos (by decide))), show (2 : Int) ^ (8 * (i + 1)) = 2 ^ (8 * i) * 256 from by rw [show 8 * (i + 1) = 8 * i + 8 by omega, Int.pow_add]; rfl]
section
variable {h0 : Heap} {K : Value → Heap → Prop} {g : RFr} {S : Ln}
theorem rtext_2 {x : Option Addr} {s : ByteArray} {p c : Int} {u0 n : Int} (hu : u0 = n % 18446744073709551616) (hs : s.size ≤ 100000)
    (k : ∀ h' s', h0.le h' → bytesI s' = bytesI s ++ be8 n → L_pref15_Lenders_Text_1 x s' p (IntKind.wrap .i64 (c + 1)) h' K) :
    ∀ (m i : Nat) (h : Heap) (e : ByteArray), m + i = 8 → h0.le h → bytesI e = beF n i → L_pref15_Lenders_Text_2 x s p c (u0 / 2 ^ (8 * i)) e (i : Int) h K
  | 0, i, h, e, hi, l0, he => by
    refine L_pref15_Lenders_Text_2r _ _ _ _ _ _ _ _ _ ?_
    unfold L_pref15_Lenders_Text_2T
    have hi8 : i = 8 := by omega
    subst hi8
    have hes : e.size = 8 := by rw [← bytesI_length, he, beF_length]
    exact Br.no rfl ⟨by omega, k h _ l0 (by rw [bytesI_append, he]; rfl)⟩
  | m + 1, i, h, e, hi, l0, he => by
    refine L_pref15_Lenders_Text_2r _ _ _ _ _ _ _ _ _ ?_
    unfold L_pref15_Lenders_Text_2T
    have hes : e.size = i := by rw [← bytesI_length, he, beF_length]
    have hp : (0 : Int) < 2 ^ (8 * i) := Int.pow_pos (by decide)
    have hu0 : 0 ≤ u0 / 2 ^ (8 * i) := Int.ediv_nonneg (by omega) (Int.le_of_lt hp)
    have hu1 : u0 / 2 ^ (8 * i) ≤ u0 := Int.ediv_le_self _ (by omega)
    have e1 : IntKind.wrap .u8 ((u0 / 2 ^ (8 * i)).tmod 256) = byteAt n i := by
      rw [← byte_mod n i (by omega), ← hu, wrap_u8, Int.tmod_eq_emod_of_nonneg hu0]
      unfold byteAt
      omega
    have e2 : IntKind.wrap .u64 ((u0 / 2 ^ (8 * i)).tdiv 256) = u0 / 2 ^ (8 * (i + 1)) := by
      rw [Int.tdiv_eq_ediv_of_nonneg hu0, div_next]
      have h3 : u0 / 2 ^ (8 * (i + 1)) ≤ u0 := Int.ediv_le_self _ (by omega)
      have h4 : 0 ≤ u0 / 2 ^ (8 * (i + 1)) := Int.ediv_nonneg (by omega) (Int.le_of_lt (Int.pow_pos (by decide)))
      exact wrap_u64_id h4 (by omega)
    refine Br.yes (by simp; omega) (newB_at fun r h1 hr l1 Ar => ?_)
    rw [e1] at Ar
    rw [e2, w1 (by omega)]
    have hb := byteAt_r n i
    have hby : bytes [byteAt n i] := fun b hb2 => by rw [List.mem_singleton] at hb2; rw [hb2]; exact hb
    have hsz : (strOf [byteAt n i]).size = 1 := strOf_size hby
    refine ⟨[byteAt n i], rfl, At.toRd (ws := []) Ar, by omega, ?_⟩
    exact rtext_2 hu hs k m (i + 1) h1 _ (by omega) (Heap.le_trans l0 l1) (by rw [bytesI_append, bytesI_strOf hby, he]; rfl)
theorem S_rText {h : Heap} (A : RAt h g S) (k : ∀ h', h.le h' → K (string (strOf (textN S))) h') : CallA Try.prog fn_pref15_Lenders_Text [pointer (some ⟨g.p, 0, none⟩)] h K := by
  refine F_pref15_Lenders_Text _ _ _ ?_
  unfold F_pref15_Lenders_TextT
  have n8 := A.ok.n8
  have c8 := A.ok.c8
  have hf := A.ok.fl
  have htl : (textN S).length ≤ 1000 := by
    have := linT_len (F := S.F) hf A.ok.sh.2
    unfold textN
    rw [List.length_cons, List.length_cons, this]
    have : S.L.length * (1 + S.cur * 8) ≤ 8 * 65 := Nat.mul_le_mul n8 (by omega)
    omega
  have main1 : ∀ (m p : Nat) (h1 : Heap) (s : ByteArray), m + p = S.L.length → h.le h1 → bytesI s ++ linT (S.F.drop p) (S.L.drop p) = textN S → L_pref15_Lenders_Text_0 (some ⟨g.p, 0, none⟩) s (p : Int) h1 K := by
    intro m
    induction m with
    | zero =>
      intro p h1 s hp l1 e
      refine L_pref15_Lenders_Text_0r _ _ _ _ _ ?_
      unfold L_pref15_Lenders_Text_0T
      rw [List.drop_eq_nil_of_le (by omega), linT, List.append_nil] at e
      · refine withAddr_intro rfl ⟨_, _, _, (A.le l1).rows, Br.no (by simp; omega) (Ret.mk ?_)⟩
        have := k h1 l1
        rw [← e, strOf_bytesI] at this
        exact this
      · intro _ _ _ _ h1; cases h1
    | succ m ih =>
      intro p h1 s hp l1 e
      refine L_pref15_Lenders_Text_0r _ _ _ _ _ ?_
      unfold L_pref15_Lenders_Text_0T
      have A1 := A.le l1
      have hpl : p < S.L.length := by omega
      have hrow := A.ok.sh.row hpl
      rw [linT_drop (by omega) hpl] at e
      obtain ⟨B, eB, hb, _⟩ := A1.flag hpl
      have hsz : s.size ≤ 1000 := by rw [← bytesI_length]; have := congrArg List.length e; rw [List.length_append] at this; omega
      have inner : ∀ (fl : ByteArray), bytesI fl = [flagI (S.F.getD p false)] → L_pref15_Lenders_Text_1 (some ⟨g.p, 0, none⟩) (s ++ fl) (p : Int) 0 h1 K := fun fl hfl => by
        have main2 : ∀ (m c : Nat) (h2 : Heap) (s2 : ByteArray), m + c = S.cur → h.le h2 → bytesI s2 = bytesI s ++ [flagI (S.F.getD p false)] ++ ((S.L.getD p []).take c).flatMap be8 → L_pref15_Lenders_Text_1 (some ⟨g.p, 0, none⟩) s2 (p : Int) (c : Int) h2 K := by
          intro m
          induction m with
          | zero =>
            intro c h2 s2 hc l2 e2
            refine L_pref15_Lenders_Text_1r _ _ _ _ _ _ ?_
            unfold L_pref15_Lenders_Text_1T
            refine withAddr_intro rfl ⟨_, (A.le l2).curs, Br.no (by simp; omega) ?_⟩
            rw [w1 (by omega)]
            refine ih (p + 1) h2 s2 (by omega) l2 ?_
            rw [List.take_of_length_le (by omega)] at e2
            rw [e2, ← e]; simp
          | succ m ih2 =>
            intro c h2 s2 hc l2 e2
            refine L_pref15_Lenders_Text_1r _ _ _ _ _ _ ?_
            unfold L_pref15_Lenders_Text_1T
            have A2 := A.le l2
            have hcc : c < S.cur := by omega
            have hI := A.ok.i64 p c
            have hsz2 : s2.size ≤ 100000 := by
              rw [← bytesI_length, e2]
              have : ((S.L.getD p []).take c).length ≤ 8 := by rw [List.length_take]; omega
              rw [List.length_append, List.length_append, be8_flat', bytesI_length]; simp; omega
            refine withAddr_intro rfl ⟨_, A2.curs, Br.yes (by simp; omega) (withAddr_intro rfl ⟨_, _, _, A2.rows, by omega, by omega, A2.rw.get hpl hcc ?_⟩)⟩
            have := rtext_2 (h0 := h2) (K := K) (x := some ⟨g.p, 0, none⟩) (s := s2) (p := (p : Int)) (c := (c : Int)) (u0 := IntKind.wrap .u64 (rdM S.L p c)) (n := rdM S.L p c) rfl hsz2 (fun h' s' l' e' => ?_) 8 0 h2 ⟨#[]⟩ rfl h2.le_refl rfl
            · rw [Nat.mul_zero, Int.pow_zero, Int.ediv_one] at this
              exact this
            · rw [w1 (by omega)]
              refine ih2 (c + 1) h' s' (by omega) (Heap.le_trans l2 l') ?_
              have ht : (S.L.getD p []).take (c + 1) = (S.L.getD p []).take c ++ [rdM S.L p c] := by
                rw [List.take_add_one]
                unfold rdM
                rw [List.getD_eq_getElem?_getD (l := S.L.getD p []), List.getElem?_eq_getElem (by omega)]; rfl
              rw [e', e2, ht, List.flatMap_append, List.flatMap_singleton]; simp
        exact main2 S.cur 0 h1 (s ++ fl) (by omega) l1 (by rw [bytesI_append, hfl, List.take_zero]; simp)
      refine withAddr_intro rfl ⟨_, _, _, A1.rows, Br.yes (by simp; omega) (withAddr_intro rfl ⟨_, _, _, A1.flags, by omega, by omega, withAddr_intro eB ⟨_, hb, ?_⟩⟩)⟩
      cases hfl : S.F.getD p false with
      | true => exact Br.yes rfl ⟨by omega, inner ⟨#[1]⟩ (by rw [hfl]; rfl)⟩
      | false => exact Br.no rfl ⟨by omega, inner ⟨#[0]⟩ (by rw [hfl]; rfl)⟩
  refine withAddr_intro rfl ⟨_, _, _, A.rows, withAddr_intro rfl ⟨_, A.curs, newB_at fun r h1 hr l1 Ar => ⟨[(S.L.length : Int), (S.cur : Int)], rfl, ?_, ?_⟩⟩⟩
  · rw [wrap_u8, wrap_u8, show (S.L.length : Int) % 256 = S.L.length by omega, show (S.cur : Int) % 256 = S.cur by omega] at Ar
    exact At.toRd (ws := []) Ar
  · refine main1 S.L.length 0 h1 _ (by omega) l1 ?_
    rw [bytesI_strOf fun b hb => ?_]
    · rfl
    · simp only [List.mem_cons, List.not_mem_nil, or_false] at hb
      rcases hb with rfl | rfl <;> omega
end
end Go.Proofs.Ytkcogdmddhkldaa
