import Derived.Test.YtghdadniddoboaaM15
/- The law WorthCuts. -/
namespace Go.Proofs.Ytghdadniddoboaa
open Go Go.Sy Go.Value
set_option linter.unusedVariables false
set_option linter.unusedSimpArgs false

/-! plain laws: greater haircuts -/
def cutLe (T U : List Cur) : Prop := ∀ c : Int, (curAt T c = none ∧ curAt U c = none) ∨ ∃ x y, curAt T c = some x ∧ curAt U c = some y ∧ y.rate = x.rate ∧ x.cut ≤ y.cut
theorem fit_le {a b : Int} (h : a ≤ b) (e1 : (fit a).2 = 0) (e2 : (fit b).2 = 0) : (fit a).1 ≤ (fit b).1 := by
  rw [fit_ok (fit_in (fun x => x e1)), fit_ok (fit_in (fun x => x e2))]; exact h
theorem worth_le {T U : List Cur} (h : cutLe T U) (r : ∀ c x, curAt T c = some x → 0 ≤ x.rate) (c : Nat) (a : Int) (e1 : (toldW T c a).2 = 0) (e2 : (toldW U c a).2 = 0) : (toldW U c a).1 ≤ (toldW T c a).1 := by
  unfold toldW worthR at *
  rcases h (c : Int) with ⟨h1, h2⟩ | ⟨x, y, h1, h2, h3, h4⟩
  · rw [h1] at e1; cases e1
  · rw [h1] at e1 ⊢
    rw [h2] at e2 ⊢
    dsimp only at *
    have hr := r _ x h1
    have em : ∀ b, md a b 100000000 false = fit (a * b / 100000000) := fun b => by
      unfold md dv
      rw [if_neg (by decide), if_neg (by decide)]
    rw [em] at e1 e2 ⊢
    rw [em]
    refine fit_le (Int.ediv_le_ediv (by decide) ?_) e2 e1
    rw [h3]
    unfold partC
    by_cases ha : a < 0
    · rw [if_pos ha, if_pos ha]
      exact Int.mul_le_mul_of_nonpos_left (by omega) (Int.mul_le_mul_of_nonneg_left (by omega) hr)
    · rw [if_neg ha, if_neg ha]
      exact Int.mul_le_mul_of_nonneg_left (Int.mul_le_mul_of_nonneg_left (by omega) hr) (by omega)
theorem short_eq {T U : List Cur} (h : cutLe T U) (c : Nat) (a : Int) : toldS U c a = toldS T c a := by
  have : plainR U (c : Int) a = plainR T (c : Int) a := by
    unfold plainR
    rcases h (c : Int) with ⟨h1, h2⟩ | ⟨x, y, h1, h2, h3, h4⟩
    · rw [h1, h2]
    · rw [h1, h2]; dsimp only; rw [h3]
  unfold toldS
  rw [this]
theorem fit_pos {a : Int} (h : 0 ≤ a) : 0 ≤ (fit a).1 := by
  unfold fit
  split
  · exact h
  · exact Int.le_refl 0
theorem short_pos {T : List Cur} (r : ∀ c x, curAt T c = some x → 0 ≤ x.rate) (c : Nat) (a : Int) : 0 ≤ (toldS T c a).1 := by
  unfold toldS
  split
  · rename_i ha
    refine fit_pos ?_
    have : (plainR T (c : Int) a).1 ≤ 0 := by
      unfold plainR
      cases h : curAt T (c : Int) with
      | none => exact Int.le_refl 0
      | some x =>
        dsimp only
        have hr := r _ x h
        unfold md dv
        rw [if_neg (by decide), if_neg (by decide)]
        have h1 : a * x.rate ≤ 0 := by
          have := Int.mul_nonneg (show 0 ≤ -a by omega) hr
          rw [Int.neg_mul] at this
          omega
        unfold fit
        split
        · show a * x.rate / 10000 ≤ 0
          omega
        · exact Int.le_refl 0
    omega
  · exact Int.le_refl 0
theorem chain_err {s : Int} {x : Td} {r : List Td} (h : (chainT s (x :: r)).2 = 0) : x.2 = 0 ∧ (fit (s + x.1)).2 = 0 ∧ chainT s (x :: r) = chainT (s + x.1) r := by
  rw [chainT] at h ⊢
  by_cases e1 : x.2 ≠ 0
  · rw [if_pos e1] at h; cases h
  rw [if_neg e1] at h ⊢
  by_cases e2 : (fit (s + x.1)).2 ≠ 0
  · rw [if_pos e2] at h; cases h
  rw [if_neg e2]
  exact ⟨Classical.byContradiction e1, Classical.byContradiction e2, rfl⟩
theorem chain_le {f g : Nat → Int → Td} (hfg : ∀ c b, (f c b).2 = 0 → (g c b).2 = 0 → (g c b).1 ≤ (f c b).1) : ∀ (row : List Int) (c : Nat) (s s' : Int), s' ≤ s → (chainT s (rowF f c row)).2 = 0 → (chainT s' (rowF g c row)).2 = 0 → (chainT s' (rowF g c row)).1 ≤ (chainT s (rowF f c row)).1
  | [], c, s, s', h, _, _ => h
  | b :: r, c, s, s', h, e1, e2 => by
    rw [rowF] at e1 e2 ⊢
    rw [rowF]
    obtain ⟨a1, _, a3⟩ := chain_err e1
    obtain ⟨b1, _, b3⟩ := chain_err e2
    rw [a3] at e1 ⊢
    rw [b3] at e2 ⊢
    have := hfg c b a1 b1
    exact chain_le hfg r (c + 1) _ _ (by omega) e1 e2
theorem chain_pos {g : Nat → Int → Td} (hg : ∀ c b, 0 ≤ (g c b).1) : ∀ (row : List Int) (c : Nat) (s : Int), 0 ≤ s → (chainT s (rowF g c row)).2 = 0 → 0 ≤ (chainT s (rowF g c row)).1
  | [], c, s, h, _ => h
  | b :: r, c, s, h, e => by
    rw [rowF] at e ⊢
    obtain ⟨_, _, a3⟩ := chain_err e
    rw [a3] at e ⊢
    have := hg c b
    exact chain_pos hg r (c + 1) _ (by omega) e
theorem wCut_is {l l' : List Cur} {cur r : Int} (e : wCut l cur r = some l') : ∃ (j : Nat) (y : Cur), cur = (j : Int) ∧ l[j]? = some y ∧ l' = l.set j ⟨y.code, y.rate, r⟩ := by
  unfold wCut at e
  split at e
  · rename_i h0
    cases hy : l[cur.toNat]? with
    | none => rw [hy] at e; cases e
    | some y =>
      rw [hy] at e
      dsimp only at e
      unfold withL at e
      split at e
      · cases e; exact ⟨cur.toNat, y, by omega, hy, rfl⟩
      · cases e
  · cases e
theorem cuts_le {T U V : List Cur} {cur low high : Int} (h1 : wCut T cur low = some U) (h2 : wCut U cur high = some V) (hl : low ≤ high) : cutLe U V := by
  obtain ⟨j, y, rfl, hy, rfl⟩ := wCut_is h1
  obtain ⟨i, z, ei, hz, rfl⟩ := wCut_is h2
  have ei : i = j := by omega
  subst ei
  have hi : i < T.length := (List.getElem?_eq_some_iff.1 hy).1
  rw [List.getElem?_set_self hi] at hz
  cases hz
  intro c
  by_cases hc : 0 ≤ c
  · by_cases e : c.toNat = i
    · refine .inr ⟨⟨y.code, y.rate, low⟩, ⟨y.code, y.rate, high⟩, ?_, ?_, rfl, hl⟩
      · unfold curAt; rw [if_pos hc, e, List.getElem?_set_self hi]
      · unfold curAt; rw [if_pos hc, e, List.getElem?_set_self (by rw [List.length_set]; exact hi)]
    · have e2 : curAt ((T.set i ⟨y.code, y.rate, low⟩).set i ⟨y.code, y.rate, high⟩) c = curAt (T.set i ⟨y.code, y.rate, low⟩) c := by
        unfold curAt
        rw [if_pos hc, if_pos hc, List.getElem?_set_ne (fun x => e x.symm)]
      cases e3 : curAt (T.set i ⟨y.code, y.rate, low⟩) c with
      | none => exact .inl ⟨rfl, by rw [← e3]; exact e2⟩
      | some x => exact .inr ⟨x, x, rfl, by rw [← e3]; exact e2, rfl, Int.le_refl _⟩
  · refine .inl ⟨?_, ?_⟩ <;> (unfold curAt; rw [if_neg hc])
theorem rate_pos {T : List Cur} (h : tabE T = 0) : ∀ c x, curAt T c = some x → 0 ≤ x.rate := fun c x e => by
  unfold curAt at e
  split at e
  · have := inb_of (all_inb h) e
    omega
  · cases e
section
variable {h0 h : Heap} {S : Lg} {p B C : Nat} {sp : List Value} {f : WoF} {T : List Cur} {N : Nat} {R : Nat → List Int}
/-- all that isn't of them is kept -/
theorem LW.top (W : LW h0 h S p B C sp f T N R) : ∃ g : Heap, h0.le g ∧ LW g h S p B C sp f T N R ∧ ∀ (hk : Heap) (q : Option Addr) (vs : List Value), LW h0 hk S p B C sp f T N R → rdL h q vs → (∀ b o, q = some ⟨b, o, none⟩ → hk b = none) → rdL g q vs := by
  have hD : ∀ x, (x == p || (x == B || famD (3 + 3 * N) f.b x)) = true → x = p ∨ x = B ∨ famD (3 + 3 * N) f.b x = true := fun x hx => by simpa using hx
  refine ⟨h.wo fun x => x == p || (x == B || famD (3 + 3 * N) f.b x), le_wo W.base fun x hx => ?_, { W with base := wo_le _ _, np := wo_none (by simp), nB := wo_none (by simp), fr := fun i hi => wo_none (by simp [famD_i hi]) }, fun hk q vs Wk r hq => rd_wo r fun b o e => ?_⟩
  · rcases hD x hx with rfl | rfl | hx
    · exact W.np
    · exact W.nB
    · obtain ⟨i, hi, rfl⟩ := famD_t hx
      exact W.fr i hi
  · have hb := hq b o e
    have e1 : (b == p) = false := by simpa using fun e => Wk.LA.ap.ne hb e.symm
    have e2 : (b == B) = false := by simpa using fun e => Wk.LA.ab.ne hb e.symm
    simp only [e1, e2, Wk.X.fam.fresh hb, Bool.or_false]
end
section
variable {h0 hk : Heap} {S : Lg} {p B C : Nat} {sp : List Value} {f : WoF} {U V : List Cur} {N : Nat} {R : Nat → List Int} {cur high : Int}
def ntL (U : List Cur) (R : Nat → List Int) (j : Nat) : List Int := (List.range j).map fun i : Nat => (netW U (R i)).1
def shL (U : List Cur) (R : Nat → List Int) (j : Nat) : List Int := (List.range j).map fun i : Nat => (shW U (R i)).1
theorem cuts_2 (hV : cutLe U V) (tU : tabE U = 0) (hN : N ≤ 1000) {q1 q2 : Option Addr} {c1 c2 : Nat} (he : ∀ i, i < N → (netW U (R i)).2 = 0 ∧ (shW U (R i)).2 = 0) {h : Heap} (l0 : h0.le h) (I1 : Ints .i64 h q1 (ntL U R N)) (I2 : Ints .i64 h q2 (shL U R N)) (X : WoX h f V N N (fun i => acOf V (R i))) :
    ∀ (m j : Nat), m + j = N → L_law09_WorthCuts_2 (N : Int) (some ⟨f.b 0, 0, none⟩) q1 N c1 q2 N c2 (j : Int) h (GoodW h0) := by
  intro m
  induction m with
  | zero =>
    intro j hj
    refine L_law09_WorthCuts_2r _ _ _ _ _ _ _ _ _ _ _ ?_
    unfold L_law09_WorthCuts_2T
    exact Br.no (by simp; omega) (goodW l0)
  | succ m ih =>
    intro j hj
    refine L_law09_WorthCuts_2r _ _ _ _ _ _ _ _ _ _ _ ?_
    unfold L_law09_WorthCuts_2T
    have hjN : j < N := by omega
    have hj' : (0 : Int) ≤ (j : Int) ∧ (j : Int) < (N : Int) := by omega
    obtain ⟨en, es⟩ := he j hjN
    have esh : shW V (R j) = shW U (R j) := by
      unfold shW
      rw [rowF_ext (R j) 0 fun c _ _ b => short_eq hV c b]
    have nn : (ntL U R N)[j]? = some (netW U (R j)).1 := by unfold ntL; rw [List.getElem?_map, List.getElem?_range hjN]; rfl
    have ns : (shL U R N)[j]? = some (shW U (R j)).1 := by unfold shL; rw [List.getElem?_map, List.getElem?_range hjN]; rfl
    have ln : (ntL U R N).length = N := by unfold ntL; simp
    have ls : (shL U R N).length = N := by unfold shL; simp
    have sp : 0 ≤ (shW U (R j)).1 := chain_pos (fun c b => short_pos (rate_pos tU) c b) (R j) 0 0 (by decide) es
    refine Br.yes (by simp; omega) (S_wNet X ?_)
    rw [if_pos hj', Int.toNat_natCast]
    refine ⟨_, _, rfl, S_wShort X ?_⟩
    rw [if_pos hj', Int.toNat_natCast]
    have e2 : (acOf V (R j)).sh = shW U (R j) := esh
    have e1 : (acOf V (R j)).nt = netW V (R j) := rfl
    rw [e1, e2, es]
    have tail : Br ((0 : Int) != 0) (Ret h (GoodW h0) (.bool false)) (0 ≤ (j : Int) ∧ (j : Int) < (N : Int) ∧ withAddr q2 fun b o => ∃ n, h.cell b (o + (j : Int).toNat) = some (.int .i64 n) ∧ Br ((shW U (R j)).1 != n) (Ret h (GoodW h0) (.bool false)) (Br (decide ((shW U (R j)).1 < 0)) (Ret h (GoodW h0) (.bool false)) (L_law09_WorthCuts_2 (N : Int) (some ⟨f.b 0, 0, none⟩) q1 N c1 q2 N c2 (IntKind.wrap .i64 ((j : Int) + 1)) h (GoodW h0)))) := by
      refine Br.no rfl (ix I2 ls rfl ns (Br.no (by simp) (Br.no (decide_eq_false (by omega)) ?_)))
      rw [w1 (by omega)]
      exact ih (j + 1) (by omega)
    refine ⟨_, _, rfl, Br.intro (fun g => ?_) fun _ => tail⟩
    have g : (netW V (R j)).2 = 0 := by simpa using g
    have hle : (netW V (R j)).1 ≤ (netW U (R j)).1 := chain_le (fun c b => worth_le hV (rate_pos tU) c b) (R j) 0 0 0 (Int.le_refl 0) en g
    exact ix I1 ln rfl nn (Br.no (decide_eq_false (by omega)) tail)
theorem cuts_1 {T : List Cur} {low : Int} (hU : wCut T cur low = some U) (hl : low ≤ high) (W0 : LW h0 hk S p B C sp f U N R) :
    ∀ (m j : Nat) (h : Heap) (q1 q2 : Option Addr) (c1 c2 : Nat), m + j = N → hk.le h → OwnL hk h [.int .i64 0] q1 c1 (intsV .i64 (ntL U R j)) → OwnL hk h [.int .i64 0] q2 c2 (intsV .i64 (shL U R j)) → (∀ x, q1 = some ⟨x, 0, none⟩ → q2 ≠ some ⟨x, 0, none⟩) → (∀ i, i < j → (netW U (R i)).2 = 0 ∧ (shW U (R i)).2 = 0) →
      L_law09_WorthCuts_1 cur high (N : Int) (some ⟨f.b 0, 0, none⟩) q1 j c1 q2 j c2 (j : Int) h (GoodW h0) := by
  have hN : N ≤ 1000 := by have := W0.LA.sz.n16; have := W0.eN; omega
  intro m
  induction m with
  | zero =>
    intro j h q1 q2 c1 c2 hj lk o1 o2 n12 he
    refine L_law09_WorthCuts_1r _ _ _ _ _ _ _ _ _ _ _ _ _ ?_
    unfold L_law09_WorthCuts_1T
    obtain rfl : j = N := by omega
    have W := W0.le lk
    obtain ⟨g, g1, Wg, rd⟩ := W.top
    have hq : ∀ {q : Option Addr} {c : Nat} {vs : List Value}, OwnL hk h [.int .i64 0] q c vs → ∀ b o, q = some ⟨b, o, none⟩ → hk b = none := fun x b o e => by
      rcases x with ⟨_, q, _⟩ | ⟨r, s, q, z, _⟩
      · rw [q] at e; cases e
      · rw [q] at e; cases e; exact z
    have r1 := rd hk q1 _ W0 o1.rd (hq o1)
    have r2 := rd hk q2 _ W0 o2.rd (hq o2)
    refine Br.no (by simp) (S_WCut Wg fun h2 f2 W2 e2 => ⟨_, rfl, ?_⟩)
    cases hV : wCut U cur high with
    | none => exact Br.yes rfl (goodW (W2.back g1).base)
    | some V =>
      rw [hV] at W2
      rw [← e2]
      exact Br.no rfl (cuts_2 (cuts_le hU hV hl) W0.tab hN he (W2.back g1).base (rdL_le W2.base r1) (rdL_le W2.base r2) W2.X j 0 rfl)
  | succ m ih =>
    intro j h q1 q2 c1 c2 hj lk o1 o2 n12 he
    refine L_law09_WorthCuts_1r _ _ _ _ _ _ _ _ _ _ _ _ _ ?_
    unfold L_law09_WorthCuts_1T
    have W := W0.le lk
    have hj' : (0 : Int) ≤ (j : Int) ∧ (j : Int) < (N : Int) := by omega
    refine Br.yes (by simp; omega) (S_wNet W.X ?_)
    rw [if_pos hj', Int.toNat_natCast]
    refine ⟨_, _, rfl, S_wShort W.X ?_⟩
    rw [if_pos hj', Int.toNat_natCast]
    refine ⟨_, _, rfl, Br.intro (fun _ => goodW W.base) fun g1 => Br.intro (fun _ => goodW W.base) fun g2 => ?_⟩
    have g1 : (netW U (R j)).2 = 0 := by simpa [acOf] using g1
    have g2 : (shW U (R j)).2 = 0 := by simpa [acOf] using g2
    refine push1 o1 (by decide) lk (by omega) rfl rfl (by rw [intsV_length]; simp [ntL]) fun r h1 q1' c1' h2 hr l1 l2 o1' keep how => ?_
    have o2a := (o2.le l1).mv fun x xs e A => keepAt keep A fun e4 => n12 x e4 e
    have n12' : ∀ x, q1' = some ⟨x, 0, none⟩ → q2 ≠ some ⟨x, 0, none⟩ := fun x e => by
      rcases how with rfl | ⟨s, e3, hs⟩
      · exact n12 x e
      · rw [e3] at e; cases e; exact (o2.le l1).fresh hs
    refine push1 o2a (by decide) l2 (by omega) rfl rfl (by rw [intsV_length]; simp [shL]) fun r3 h3 q2' c2' h4 hr3 l3 l4 o2' keep2 how2 => ?_
    rw [w1 (by omega)]
    refine ih (j + 1) h4 q1' q2' c1' c2' (by omega) l4 ?_ ?_ (fun x e e4 => ?_) fun i hi => ?_
    · have : ntL U R (j + 1) = ntL U R j ++ [(netW U (R j)).1] := by unfold ntL; rw [List.range_succ, List.map_append]; rfl
      rw [this, intsV_append]
      exact (o1'.le l3).mv fun x xs e A => keepAt keep2 A (n12' x e)
    · have : shL U R (j + 1) = shL U R j ++ [(shW U (R j)).1] := by unfold shL; rw [List.range_succ, List.map_append]; rfl
      rw [this, intsV_append]
      exact o2'
    · rcases how2 with rfl | ⟨s, e3, hs⟩
      · exact n12' x e e4
      · rw [e3] at e4; cases e4; exact (o1'.le l3).fresh hs e
    · by_cases e : i = j
      · subst e; exact ⟨g1, g2⟩
      · exact he i (by omega)
variable {q : Option Addr} {l : List OpW} {n qc : Nat}
theorem cuts_0 {low : Int} (hlh : low ≤ high) (X : Arr opwV h0 q l) (hn : l.length = n) (hs : n ≤ 1000) (hI : ∀ x ∈ l, OpWI h0 x) (hb : ∀ x ∈ l, x.b.length ≤ 20) :
    ∀ (m j : Nat) (h : Heap) (B C : Nat) (sp : List Value) (f : WoF) (s : St9), m + j = n → LW h0 h s.S p B C sp f s.T N s.R → L_law09_WorthCuts_0 cur low high (N : Int) (some ⟨p, 0, none⟩) (some ⟨f.b 0, 0, none⟩) q n qc (n : Int) (j : Int) h (GoodW h0) := by
  intro m
  induction m with
  | zero =>
    intro j h B C sp f s hj W
    refine L_law09_WorthCuts_0r _ _ _ _ _ _ _ _ _ _ _ _ _ ?_
    unfold L_law09_WorthCuts_0T
    refine Br.no (by simp; omega) (S_WCut W fun h2 f2 W2 e2 => ⟨_, rfl, ?_⟩)
    cases hU : wCut s.T cur low with
    | none => exact Br.yes rfl (goodW W2.base)
    | some U =>
      rw [hU] at W2
      rw [← e2]
      exact Br.no rfl (cuts_1 hU hlh W2 N 0 h2 none none 0 0 rfl h2.le_refl (OwnL.nil _ _ _) (OwnL.nil _ _ _) (fun x e => by cases e) fun i hi => absurd hi (by omega))
  | succ m ih =>
    intro j h B C sp f s hj W
    refine L_law09_WorthCuts_0r _ _ _ _ _ _ _ _ _ _ _ _ _ ?_
    unfold L_law09_WorthCuts_0T
    have hx : l[j]? = some l[j] := List.getElem?_eq_getElem (by omega)
    have hmem : l[j] ∈ l := List.getElem_mem _
    generalize l[j] = x at *
    refine Br.yes (by simp; omega) (owx (X.le W.base) hn rfl hx (newB_cp (vs := [int .i64 x.d, int .i64 x.m, int .i64 x.c, int .i64 x.a, slice x.p x.b.length x.cp]) rfl fun r h1 hr l1 A cs => ⟨cs, _, A.cell rfl, _, A.cell rfl, _, A.cell rfl, _, A.cell rfl, _, _, _, A.cell rfl, ?_⟩))
    refine S_do09 (W.le l1) (hI x hmem) (hb x hmem) fun h3 B3 C3 sp3 f3 W3 e3 => ⟨_, rfl, ?_⟩
    rw [w1 (by omega), ← e3]
    exact ih (j + 1) h3 B3 C3 sp3 f3 _ (by omega) W3
end
theorem law09_WorthCuts_ok {h : Heap} {tp : Option Addr} {tn tc : Nat} (HT : curSh.Has h [.slice tp tn tc]) {mem : Int} (hm : (Lit.int .u8 mem).wf = true) {q : Option Addr} {n qc : Nat} (HO : (Sh.sl opwS).Has h [.slice q n qc]) {cur low high : Int} (hc : I64 cur) (hlow : I64 low) (hhigh : I64 high) :
    CallA Try.prog fn_law09_WorthCuts [slice tp tn tc, .int .u8 mem, slice q n qc, .int .i64 cur, .int .i64 low, .int .i64 high] h fun v h' => v = .bool true ∧ h.le h' := by
  obtain ⟨tmax, T, hT, CT, _⟩ := curs_of HT
  obtain ⟨omax, l, hl, X, hI⟩ := opw_of HO
  obtain ⟨k, ek, k1, k16⟩ := many_of hm
  refine F_law09_WorthCuts _ _ _ _ _ _ _ _ _ _ _ _ ?_
  unfold F_law09_WorthCutsT
  refine S_law09_awake fun h1 l1 => ⟨_, rfl, Br.no rfl (S_large09 (X.le l1) hl omax fun b hb => ⟨_, rfl, ?_⟩)⟩
  cases b with
  | true => exact Br.yes rfl (goodW l1)
  | false =>
    obtain ⟨h30, h20⟩ := hb rfl
    refine Br.no rfl (Br.dec (fun _ => goodW l1) fun g20 => S_RCheck (CT.le l1) hT ⟨_, rfl, ?_⟩)
    by_cases e0 : tabE T ≠ 0
    · exact Br.yes (by simpa using e0) (goodW l1)
    have e0 : tabE T = 0 := Classical.byContradiction e0
    rw [e0, ek]
    obtain ⟨t1, t8, _⟩ := tab_parts e0
    refine Br.no rfl (Br.dec (fun _ => goodW l1) fun glh => ?_)
    refine S_lNew (fun e => absurd e (by omega)) fun n' w' en ew _ _ _ _ h2 p B C sp l2 A np nB => ⟨_, _, rfl, ?_⟩
    have en : n' = k := by omega
    have ew : w' = tn := by omega
    subst en ew
    have eM : (newG n' w').M.length = n' := by unfold newG; rw [List.length_replicate]
    refine S_WNew (h0 := h) (Heap.le_trans l1 l2) (CT.le (Heap.le_trans l1 l2)) hT A (none_of_le l1 np) (none_of_le l1 nB) e0 rfl fun h3 f W => ⟨_, _, rfl, Br.no rfl (Br.no rfl (Br.no rfl ?_))⟩
    rw [eM] at W
    exact cuts_0 (h0 := h) (by omega) X hl (by omega) hI h20 n 0 h3 B C sp f ⟨newG n' w', T, fun i => rowG (newG n' w') (i : Int) T.length⟩ rfl W
end Go.Proofs.Ytghdadniddoboaa
