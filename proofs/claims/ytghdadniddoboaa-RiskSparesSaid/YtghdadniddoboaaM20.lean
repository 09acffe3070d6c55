import Derived.Test.YtghdadniddoboaaM19
import Derived.Test.YtghdadniddoboaaM06
/- The law RiskSpares. -/
namespace Go.Proofs.Ytghdadniddoboaa
open Go Go.Sy Go.Value
set_option linter.unusedVariables false
set_option linter.unusedSimpArgs false

/-! plain law -/
theorem rowG_get (S : Lg) (m : Int) {w c : Nat} (hc : c < w) : (rowG S m w).getD c 0 = getG S m (c : Int) := by
  unfold rowG
  rw [List.getD_eq_getElem?_getD, List.getElem?_map, List.getElem?_range hc]; rfl
theorem rTurn_S (u : Gu) (t : Option (List Cur)) : (rTurn u t).2.S = u.S := by
  unfold rTurn
  cases t <;> rfl
theorem rAnew_err {u : Gu} {r : Int × Lg} (h : (rAnew u r).1 ≠ 0) : (rAnew u r).2 = u := by
  unfold rAnew at *
  dsimp only at *
  rw [if_neg h]
theorem spare_a {u : Gu} {x : OpR} (h : (doR u x).1 ≠ 0) : (doR u x).2.S = u.S := by
  unfold doR at *
  split at h
  · rename_i d; rw [if_pos d, rIn_err h]
  rename_i d; rw [if_neg d]
  split at h
  · rename_i d; rw [if_pos d, rOut_err h]
  rename_i d; rw [if_neg d]
  split at h
  · rename_i d; rw [if_pos d, rTurn_S]
  rename_i d; rw [if_neg d]
  split at h
  · rename_i d; rw [if_pos d, rTurn_S]
  rename_i d; rw [if_neg d]
  split at h
  · rename_i d; rw [if_pos d, rAnew_err h]
  rename_i d; rw [if_neg d]
  split at h
  · rename_i d; rw [if_pos d, rAnew_err h]
  rename_i d; rw [if_neg d, rBook_err h]
theorem spare_b {u : Gu} (o : u.Ok) {x : OpR} {m : Nat} (hm : m < u.fl.length) (hf : u.fl.getD m false = true) (h0 : x.d ≠ 0) (h5 : x.d ≠ 5) (h6 : x.d ≠ 6) : rowG (doR u x).2.S (m : Int) u.T.length = u.row m := by
  have hS : m < u.S.M.length := by have := o.ef; omega
  unfold doR
  rw [if_neg h0, if_neg h5, if_neg h6]
  split
  · by_cases e : (rOut u x.m x.c x.a).1 = 0
    · obtain ⟨i, _, hi, hfi, _, _, e2⟩ := rOut_ok e
      rw [e2]
      exact rowG_out o.o.toSz (fun e => by
        have : m = i := by omega
        rw [this, hfi] at hf; cases hf) _
    · rw [rOut_err e]; rfl
  split
  · rw [rTurn_S]; rfl
  split
  · rw [rTurn_S]; rfl
  · by_cases e : (rBook u x.b).1 = 0
    · obtain ⟨e1, hb, e2⟩ := rBook_ok e
      rw [e2]
      have := post_same o.o.toSz e1 hS (fun y hy ey => by
        have := (hb y hy).1
        rw [ey, Int.toNat_natCast, hf] at this
        cases this)
      rw [o.ec] at this
      exact this
    · rw [rBook_err e]; rfl
theorem spare_c {u : Gu} (o : u.Ok) {x : OpR} {m : Nat} (hm : m < u.fl.length) (h0 : x.d = 0) : leR (u.row m) (rowG (doR u x).2.S (m : Int) u.T.length) := by
  unfold doR
  rw [if_pos h0]
  by_cases e : (rIn u x.m x.c x.a).1 = 0
  · obtain ⟨i, _, hi, _, h2, e2⟩ := rIn_ok e
    rw [e2]
    show leR (u.row m) (rowG (inG u.S (i : Int) x.c x.a).2 (m : Int) u.T.length)
    by_cases ei : m = i
    · subst ei
      have := (in_row o.o.toSz h2).2
      rw [o.ec] at this
      exact this
    · rw [rowG_in o.o.toSz (by omega)]
      exact leR_refl _
  · rw [rIn_err e]
    exact leR_refl _
/-! rows and flags, laid side by side -/
theorem brNe {a b : Int} {A B : Prop} (h1 : a ≠ b → A) (h2 : a = b → B) : Br (a != b) A B := Br.intro (fun g => h1 (by simpa using g)) fun g => h2 (by simpa using g)
theorem brEq {a b : Int} {A B : Prop} (h1 : a = b → A) (h2 : a ≠ b → B) : Br (a == b) A B := Br.intro (fun g => h1 (by simpa using g)) fun g => h2 (by simpa using g)
theorem RwB.kp {h0 h h' : Heap} {a : Option Addr} {C w : Nat} {R CC : Nat → Nat} {SP : Nat → List Value} {M : Mx} (I : RwB h0 h a C R CC SP M w) (l : h0.le h') (ka : ∀ b xs, a = some ⟨b, 0, none⟩ → At h b xs → At h' b xs) (kr : ∀ i, i < M.length → ∀ xs, At h (R i) xs → At h' (R i) xs) : RwB h0 h' a C R CC SP M w := { I with base := l, own := I.own.mv ka, row := fun i hi => kr i hi _ (I.row i hi) }
theorem doR_T {u : Gu} (o : u.Ok) (x : OpR) : (doR u x).2.T.length = u.T.length := by
  have tn : ∀ t : Option (List Cur), (∀ T, t = some T → tabE T = 0 ∧ T.length = u.T.length) → (rTurn u t).2.T.length = u.T.length := fun t ht => by
    unfold rTurn
    cases t with
    | none => rfl
    | some T => exact (ht T rfl).2
  have an : ∀ r : Int × Lg, (rAnew u r).2.T.length = u.T.length := fun r => by
    unfold rAnew
    dsimp only
    split <;> rfl
  unfold doR
  split
  · by_cases e : (rIn u x.m x.c x.a).1 = 0
    · obtain ⟨i, _, hi, _, _, e2⟩ := rIn_ok e
      rw [e2]; rfl
    · rw [rIn_err e]
  split
  · by_cases e : (rOut u x.m x.c x.a).1 = 0
    · obtain ⟨i, _, hi, _, _, _, e2⟩ := rOut_ok e
      rw [e2]; rfl
    · rw [rOut_err e]
  split
  · exact tn _ fun T e => by have := wRate_tab o.tab x.c x.a; rw [e] at this; exact this
  split
  · exact tn _ fun T e => by have := wCut_tab o.tab x.c x.a; rw [e] at this; exact this
  split
  · exact an _
  split
  · exact an _
  · by_cases e : (rBook u x.b).1 = 0
    · obtain ⟨_, _, e2⟩ := rBook_ok e
      rw [e2]; rfl
    · rw [rBook_err e]
structure WS (H hh : Heap) (wa : Option Addr) (wC : Nat) (R CC : Nat → Nat) (SP : Nat → List Value) (M : Mx) (w : Nat) (fa : Option Addr) (fC : Nat) (fl : List Bool) : Prop where
  rb : RwB H hh wa wC R CC SP M w
  fo : OwnL H hh [.bool false] fa fC (boV fl)
  d1 : ∀ b, fa = some ⟨b, 0, none⟩ → wa ≠ some ⟨b, 0, none⟩ ∧ ∀ i, i < M.length → R i ≠ b
theorem WS.le {H hh h' : Heap} {wa : Option Addr} {wC : Nat} {R CC : Nat → Nat} {SP : Nat → List Value} {M : Mx} {w : Nat} {fa : Option Addr} {fC : Nat} {fl : List Bool} (I : WS H hh wa wC R CC SP M w fa fC fl) (l : hh.le h') : WS H h' wa wC R CC SP M w fa fC fl := { I with rb := I.rb.le l, fo := I.fo.le l }
section
variable {K : Value → Heap → Prop} {tp : Option Addr} {tc : Nat} {lq : Option Addr} {N lc w : Nat} {q : Option Addr} {l : List OpR} {n qc : Nat} {j0 : Int}
theorem spares_2 {h0 H : Heap} {x : GuF} {u : Gu} {r : Nat} {wa fa : Option Addr} {wn wC fn fC : Nat} {m : Int} {t42 t43 : Int} (h8 : w ≤ 8) (G : GD h0 H x u)
    (k : ∀ h' p c, H.le h' → OwnL H h' [.int .i64 0] p c (intsV .i64 (rowG u.S m w)) → L_law10_RiskSpares_2 tp w tc lq N lc (some ⟨x.g, 0, none⟩) (some ⟨x.p, 0, none⟩) r wa wn wC fa fn fC m p w c q n qc (n : Int) j0 t42 t43 (w : Int) ((w : Nat) : Int) h' K) :
    ∀ (d j : Nat) (h : Heap) (p : Option Addr) (c : Nat), d + j = w → H.le h → OwnL H h [.int .i64 0] p c (intsV .i64 (rowG u.S m j)) → L_law10_RiskSpares_2 tp w tc lq N lc (some ⟨x.g, 0, none⟩) (some ⟨x.p, 0, none⟩) r wa wn wC fa fn fC m p j c q n qc (n : Int) j0 t42 t43 (w : Int) (j : Int) h K := by
  intro d
  induction d with
  | zero =>
    intro j h p c hj l own
    obtain rfl : j = w := by omega
    exact k h p c l own
  | succ d ih =>
    intro j h p c hj l own
    refine L_law10_RiskSpares_2r _ _ _ _ _ _ _ _ _ _ _ _ _ _ _ _ _ _ _ _ _ _ _ _ _ _ _ _ _ _ ?_
    unfold L_law10_RiskSpares_2T
    refine Br.yes (by simp; omega) (S_lGet (G.le l).W.LA ⟨_, rfl, push1 own (by decide) l (by omega) rfl rfl (by rw [intsV_length, rowG_len]; simp) fun r2 h2 p' c' h3 hr2 l2 l3 own' _ _ => ?_⟩)
    rw [w1 (by omega)]
    refine ih (j + 1) h3 p' c' (by omega) l3 ?_
    rw [rowG_succ, intsV_append]
    exact own'
theorem spares_1 {h0 H : Heap} {x : GuF} {u : Gu} {r : Nat} (hN : u.fl.length = N) (h16 : N ≤ 16) (h8 : w ≤ 8) (h1w : 1 ≤ w) (G : GD h0 H x u)
    (k : ∀ h' wa wC R CC SP fa fC, WS H h' wa wC R CC SP (mxR N fun i => rowG u.S (i : Int) w) w fa fC u.fl → L_law10_RiskSpares_1 tp w tc lq N lc (some ⟨x.g, 0, none⟩) (some ⟨x.p, 0, none⟩) r wa N wC fa N fC q n qc (n : Int) j0 (N : Int) ((N : Nat) : Int) h' K) :
    ∀ (d j : Nat) (h : Heap) (wa : Option Addr) (wC : Nat) (R CC : Nat → Nat) (SP : Nat → List Value) (fa : Option Addr) (fC : Nat), d + j = N → WS H h wa wC R CC SP (mxR j fun i => rowG u.S (i : Int) w) w fa fC (u.fl.take j) → L_law10_RiskSpares_1 tp w tc lq N lc (some ⟨x.g, 0, none⟩) (some ⟨x.p, 0, none⟩) r wa j wC fa j fC q n qc (n : Int) j0 (N : Int) (j : Int) h K := by
  intro d
  induction d with
  | zero =>
    intro j h wa wC R CC SP fa fC hj I
    obtain rfl : j = N := by omega
    rw [List.take_of_length_le (by omega)] at I
    exact k h wa wC R CC SP fa fC I
  | succ d ih =>
    intro j h wa wC R CC SP fa fC hj I
    refine L_law10_RiskSpares_1r _ _ _ _ _ _ _ _ _ _ _ _ _ _ _ _ _ _ _ _ _ _ _ _ ?_
    unfold L_law10_RiskSpares_1T
    have hl := mxR_len j fun i => rowG u.S (i : Int) w
    have G0 := G.le I.rb.base
    refine Br.yes (by simp; omega) (spares_2 h8 G0 (fun h1 p c l1 own => ?_) w 0 h none 0 rfl h.le_refl (OwnL.nil _ _ _))
    refine L_law10_RiskSpares_2r _ _ _ _ _ _ _ _ _ _ _ _ _ _ _ _ _ _ _ _ _ _ _ _ _ _ _ _ _ _ ?_
    unfold L_law10_RiskSpares_2T
    have hrl := rowG_len u.S (j : Int) w
    obtain ⟨rb, sp, rfl, zr, Ar⟩ := own_blk own (fun e => by have := congrArg List.length e; rw [intsV_length, hrl, List.length_nil] at this; omega)
    have I1 := I.le l1
    have fr := I.rb.fresh zr
    refine Br.no (by simp) (I1.rb.push (none_of_le I.rb.base zr) Ar fr.1 fr.2 hrl (by rw [hl]; omega) hl fun s h2 wa' wC' h3 hs l2 rb' keep how => ?_)
    have eM : (mxR j fun i => rowG u.S (i : Int) w) ++ [rowG u.S (j : Int) w] = mxR (j + 1) fun i => rowG u.S (i : Int) w := by
      unfold mxR
      rw [List.range_succ, List.map_append]; rfl
    rw [eM] at rb'
    have hl' := mxR_len (j + 1) fun i => rowG u.S (i : Int) w
    have G3 := G.le rb'.base
    refine S_gFlagged G3.toGR ⟨_, rfl, ?_⟩
    rw [flag_at (by omega)]
    have fo3 : OwnL H h3 [.bool false] fa fC (boV (u.fl.take j)) := (I1.fo.le l2).mv fun b xs e a => keepAt keep a (I.d1 b e).1
    refine push1 fo3 (by decide) rb'.base (by omega) rfl rfl (by rw [boV_len, List.length_take]; simp; omega) fun s2 h4 fa' fC' h5 hs2 l4 l5 fo' keep2 how2 => ?_
    rw [w1 (by omega)]
    have hx : u.fl[j]? = some (u.fl.getD j false) := by rw [List.getD_eq_getElem?_getD, List.getElem?_eq_getElem (by omega)]; rfl
    have htk : boV (u.fl.take (j + 1)) = boV (u.fl.take j) ++ [.bool (u.fl.getD j false)] := by
      rw [List.take_add_one, hx]
      unfold boV
      rw [List.map_append]; rfl
    have d3 : ∀ b, fa = some ⟨b, 0, none⟩ → wa' ≠ some ⟨b, 0, none⟩ ∧ ∀ i, i < j + 1 → (if i = (mxR j fun i => rowG u.S (i : Int) w).length then rb else R i) ≠ b := fun b e => by
      have old : ∃ xs, At h b xs := by
        rcases I.fo with ⟨_, e5, _⟩ | ⟨r5, sp5, e5, z5, a5, _⟩
        · rw [e5] at e; cases e
        · rw [e5] at e; cases e; exact ⟨_, a5⟩
      obtain ⟨xs, a⟩ := old
      refine ⟨push_ne how ((a.le l1).le l2) (I.d1 b e).1, fun i hi => ?_⟩
      by_cases ei : i = (mxR j fun i => rowG u.S (i : Int) w).length
      · rw [if_pos ei]; exact fun e2 => a.ne zr e2.symm
      · rw [if_neg ei]; exact (I.d1 b e).2 i (by omega)
    have nfa : ∀ b, (wa' = some ⟨b, 0, none⟩ ∨ ∃ i, i < j + 1 ∧ (if i = (mxR j fun i => rowG u.S (i : Int) w).length then rb else R i) = b) → fa ≠ some ⟨b, 0, none⟩ := fun b hb e => by
      rcases hb with hb | ⟨i, hi, hb⟩
      · exact (d3 b e).1 hb
      · exact (d3 b e).2 i hi hb
    have rb5 := (rb'.le l4).kp l5 (fun b xs e a => keepAt keep2 a (nfa b (.inl e))) (fun i hi xs a => keepAt keep2 a (nfa _ (.inr ⟨i, by rw [hl'] at hi; exact hi, rfl⟩)))
    refine ih (j + 1) h5 wa' wC' _ _ _ fa' fC' (by omega) ⟨rb5, by rw [htk]; exact fo', fun b e => ?_⟩
    rcases how2 with rfl | ⟨s3, e3, z3⟩
    · exact ⟨(d3 b e).1, fun i hi => (d3 b e).2 i (by rw [hl'] at hi; exact hi)⟩
    · rw [e3] at e
      cases e
      have := (rb'.le l4).fresh z3
      exact ⟨this.1, this.2⟩
theorem spares_4 {h0 h : Heap} {x : GuF} {u v : Gu} {o : OpR} {r : Nat} {f : Rws} {wC : Nat} {fa : Option Addr} {fC : Nat} {e : Int} {i : Nat} (hi : i < N) (h16 : N ≤ 16) (h8 : w ≤ 8) (hN : u.fl.length = N) (G : GD h0 h x v) (Ar : At h0 r (opV1 o)) (Rw : RwsAt h0 f (mxR N fun i => rowG u.S (i : Int) w) w) (If : rdL h0 fa (boV u.fl))
    (pA : e ≠ 0 → ∀ c, c < w → getG v.S (i : Int) (c : Int) = getG u.S (i : Int) (c : Int)) (pB : u.fl.getD i false = true → o.d ≠ 0 → o.d ≠ 5 → o.d ≠ 6 → ∀ c, c < w → getG v.S (i : Int) (c : Int) = getG u.S (i : Int) (c : Int)) (pC : o.d = 0 → ∀ c, c < w → getG u.S (i : Int) (c : Int) ≤ getG v.S (i : Int) (c : Int))
    (k : L_law10_RiskSpares_3 tp w tc lq N lc (some ⟨x.g, 0, none⟩) (some ⟨x.p, 0, none⟩) r f.a N wC fa N fC e q n qc (n : Int) j0 (N : Int) (IntKind.wrap .i64 ((i : Int) + 1)) h K) :
    ∀ (d c : Nat), d + c = w → L_law10_RiskSpares_4 tp w tc lq N lc (some ⟨x.g, 0, none⟩) (some ⟨x.p, 0, none⟩) r f.a N wC fa N fC e (i : Int) q n qc (n : Int) j0 (N : Int) (i : Int) (w : Int) (c : Int) h K := by
  intro d
  induction d with
  | zero =>
    intro c hc
    refine L_law10_RiskSpares_4r _ _ _ _ _ _ _ _ _ _ _ _ _ _ _ _ _ _ _ _ _ _ _ _ _ _ _ _ ?_
    unfold L_law10_RiskSpares_4T
    exact Br.no (by simp; omega) k
  | succ d ih =>
    intro c hc
    have nx := ih (c + 1) (by omega)
    rw [← w1 (j := c) (by omega)] at nx
    refine L_law10_RiskSpares_4r _ _ _ _ _ _ _ _ _ _ _ _ _ _ _ _ _ _ _ _ _ _ _ _ _ _ _ _ ?_
    unfold L_law10_RiskSpares_4T
    have A := Ar.le G.b
    have hl := mxR_len N fun i => rowG u.S (i : Int) w
    have ev : rdM (mxR N fun i => rowG u.S (i : Int) w) i c = getG u.S (i : Int) (c : Int) := by
      unfold rdM
      rw [mxR_get _ hi, rowG_get _ _ (by omega)]
    have rdW : ∀ {Q : Int → Prop}, Q (getG u.S (i : Int) (c : Int)) → 0 ≤ (i : Int) ∧ (i : Int) < (N : Int) ∧ withAddr f.a fun b o => ∃ a n m, h.cell b (o + (i : Int).toNat) = some (.slice a n m) ∧ 0 ≤ (c : Int) ∧ (c : Int) < (n : Int) ∧ withAddr a fun b o => ∃ n, h.cell b (o + (c : Int).toNat) = some (.int .i64 n) ∧ Q n := fun kk => by
      refine ⟨by omega, by omega, (Rw.le G.b).get (by rw [hl]; exact hi) (by omega) ?_⟩
      rw [ev]; exact kk
    have qA : e = 0 ∨ getG v.S (i : Int) (c : Int) = getG u.S (i : Int) (c : Int) := by
      by_cases h0 : e = 0
      · exact .inl h0
      · exact .inr (pA h0 c (by omega))
    have qC : o.d ≠ 0 ∨ getG u.S (i : Int) (c : Int) ≤ getG v.S (i : Int) (c : Int) := by
      by_cases h0 : o.d = 0
      · exact .inr (pC h0 c (by omega))
      · exact .inl h0
    have qB : u.fl.getD i false = true → o.d = 0 ∨ o.d = 5 ∨ o.d = 6 ∨ getG v.S (i : Int) (c : Int) = getG u.S (i : Int) (c : Int) := fun hf => by
      by_cases h0 : o.d = 0
      · exact .inl h0
      by_cases h5 : o.d = 5
      · exact .inr (.inl h5)
      by_cases h6 : o.d = 6
      · exact .inr (.inr (.inl h6))
      exact .inr (.inr (.inr (pB hf h0 h5 h6 c (by omega))))
    refine Br.yes (by simp; omega) (S_lGet G.W.LA ⟨_, rfl, ?_⟩)
    generalize getG v.S (i : Int) (c : Int) = now at *
    generalize getG u.S (i : Int) (c : Int) = was at *
    cases hf : u.fl.getD i false with
    | false =>
      have rdF : ∀ {Q : Bool → Prop}, Q false → 0 ≤ (i : Int) ∧ (i : Int) < (N : Int) ∧ withAddr fa fun b o => ∃ v, h.cell b (o + (i : Int).toNat) = some (.bool v) ∧ Q v := fun kk => bx (rdL_le G.b If) hN rfl hi (by rw [hf]; exact kk)
      repeat' first | exact nx | refine rdW ?_ | refine rdF ?_ | refine ⟨_, A.cell rfl, ?_⟩ | refine brNe (fun g => ?_) (fun g => ?_) | refine brEq (fun g => ?_) (fun g => ?_) | refine Br.dec (fun g => ?_) (fun g => ?_) | refine Br.no (b := false) rfl ?_ | (exfalso; omega)
    | true =>
      have qB := qB hf
      have rdF : ∀ {Q : Bool → Prop}, Q true → 0 ≤ (i : Int) ∧ (i : Int) < (N : Int) ∧ withAddr fa fun b o => ∃ v, h.cell b (o + (i : Int).toNat) = some (.bool v) ∧ Q v := fun kk => bx (rdL_le G.b If) hN rfl hi (by rw [hf]; exact kk)
      repeat' first | exact nx | refine rdW ?_ | refine rdF ?_ | refine ⟨_, A.cell rfl, ?_⟩ | refine brNe (fun g => ?_) (fun g => ?_) | refine brEq (fun g => ?_) (fun g => ?_) | refine Br.dec (fun g => ?_) (fun g => ?_) | refine Br.yes (b := true) rfl ?_ | (exfalso; omega)
theorem spares_3 {h0 h : Heap} {x : GuF} {u v : Gu} {o : OpR} {r : Nat} {f : Rws} {wC : Nat} {fa : Option Addr} {fC : Nat} {e : Int} (h16 : N ≤ 16) (h8 : w ≤ 8) (hN : u.fl.length = N) (G : GD h0 h x v) (Ar : At h0 r (opV1 o)) (Rw : RwsAt h0 f (mxR N fun i => rowG u.S (i : Int) w) w) (If : rdL h0 fa (boV u.fl))
    (pA : e ≠ 0 → v.S = u.S) (pB : o.d ≠ 0 → o.d ≠ 5 → o.d ≠ 6 → ∀ i, i < N → u.fl.getD i false = true → rowG v.S (i : Int) w = rowG u.S (i : Int) w) (pC : o.d = 0 → ∀ i, i < N → leR (rowG u.S (i : Int) w) (rowG v.S (i : Int) w))
    (k : L_law10_RiskSpares_0 tp w tc lq N lc (some ⟨x.g, 0, none⟩) (some ⟨x.p, 0, none⟩) q n qc (n : Int) (IntKind.wrap .i64 (j0 + 1)) h K) :
    ∀ (d i : Nat), d + i = N → L_law10_RiskSpares_3 tp w tc lq N lc (some ⟨x.g, 0, none⟩) (some ⟨x.p, 0, none⟩) r f.a N wC fa N fC e q n qc (n : Int) j0 (N : Int) (i : Int) h K := by
  intro d
  induction d with
  | zero =>
    intro i hi
    refine L_law10_RiskSpares_3r _ _ _ _ _ _ _ _ _ _ _ _ _ _ _ _ _ _ _ _ _ _ _ _ _ ?_
    unfold L_law10_RiskSpares_3T
    exact Br.no (by simp; omega) k
  | succ d ih =>
    intro i hi
    refine L_law10_RiskSpares_3r _ _ _ _ _ _ _ _ _ _ _ _ _ _ _ _ _ _ _ _ _ _ _ _ _ ?_
    unfold L_law10_RiskSpares_3T
    refine Br.yes (by simp; omega) (spares_4 (by omega) h16 h8 hN G Ar Rw If (fun e0 c hc => by rw [pA e0]) (fun hf h0 h5 h6 c hc => ?_) (fun h0 c hc => ?_) ?_ w 0 rfl)
    · have := pB h0 h5 h6 i (by omega) hf
      rw [← rowG_get v.S _ hc, ← rowG_get u.S _ hc, this]
    · have := leR_get c (pC h0 i (by omega))
      rw [rowG_get _ _ hc, rowG_get _ _ hc] at this
      exact this
    · rw [w1 (by omega)]
      exact ih (i + 1) (by omega)
theorem spares_0 {he : Heap} (X : Ops he q l) (hn : l.length = n) (hs : n ≤ 1000) (hI : ∀ y ∈ l, OpI y) (hb : ∀ y ∈ l, y.b.length ≤ 20) :
    ∀ (m j : Nat) (h0 h : Heap) (x : GuF) (u : Gu), m + j = n → he.le h0 → GD h0 h x u → u.fl.length = N → u.T.length = w → L_law10_RiskSpares_0 tp w tc lq N lc (some ⟨x.g, 0, none⟩) (some ⟨x.p, 0, none⟩) q n qc (n : Int) (j : Int) h (GoodR he) := by
  intro m
  induction m with
  | zero =>
    intro j h0 h x u hj l0 G hN hw
    refine L_law10_RiskSpares_0r _ _ _ _ _ _ _ _ _ _ _ _ _ _ _ ?_
    unfold L_law10_RiskSpares_0T
    exact Br.no (by simp; omega) (goodR (Heap.le_trans l0 G.b))
  | succ m ih =>
    intro j h0 h x u hj l0 G hN hw
    have h16 : N ≤ 16 := by have := G.n; omega
    obtain ⟨t1, t8, _⟩ := tab_parts G.ok.tab
    refine L_law10_RiskSpares_0r _ _ _ _ _ _ _ _ _ _ _ _ _ _ _ ?_
    unfold L_law10_RiskSpares_0T
    have hx : l[j]? = some l[j] := List.getElem?_eq_getElem (by omega)
    have hmem : l[j] ∈ l := List.getElem_mem _
    generalize l[j] = o at *
    refine Br.yes (by simp; omega) (ox (X.le (Heap.le_trans l0 G.b)) hn rfl hx (newB_cp (vs := opV1 o) rfl fun r h1 hr l1 A cs => ⟨cs, ?_⟩))
    show L_law10_RiskSpares_1 tp w tc lq N lc (some ⟨x.g, 0, none⟩) (some ⟨x.p, 0, none⟩) r none 0 0 none 0 0 q n qc (n : Int) (j : Int) (N : Int) ((0 : Nat) : Int) (h1.setN r 0 (opV1 o)) (GoodR he)
    generalize h1.setN r 0 (opV1 o) = H at *
    have G1 := G.le l1
    refine spares_1 hN h16 (by omega) (by omega) G1 (fun h2 wa wC R CC SP fa fC I => ?_) N 0 H none 0 (fun _ => 0) (fun _ => 0) (fun _ => []) none 0 rfl ⟨RwB.nil _ _ H.le_refl _, by rw [List.take_zero]; exact OwnL.nil _ _ _, fun b e => (by cases e)⟩
    refine L_law10_RiskSpares_1r _ _ _ _ _ _ _ _ _ _ _ _ _ _ _ _ _ _ _ _ _ _ _ _ ?_
    unfold L_law10_RiskSpares_1T
    have l2 := I.rb.base
    have G2 := G1.le l2
    have A2 := A.le l2
    obtain ⟨qs, Rw, RD⟩ := I.rb.fin
    obtain ⟨g1, y, lt, Gt, yg, yp, keep⟩ := G2.topX
    have At1 : At g1 r (opV1 o) := keep _ _ (G.toGR.outE hr) A2
    have Iw : rdL g1 fa (boV u.fl) := by
      rcases I.fo with ⟨e, _, _⟩ | ⟨p5, sp5, e5, z5, a5, _⟩
      · rw [e]; exact .inl rfl
      · rw [e5]; exact (keep _ _ (G1.toGR.outE z5) a5).toRd
    have Rw1 := Rw.mv fun b xs hb a => keep b xs (G1.toGR.outE (RD b hb)) a
    have lx1 := Heap.le_trans l0 lt
    obtain ⟨len', ok'⟩ := doR_len u G.ok o
    rw [← yg, ← yp]
    refine Br.no (by simp) ⟨_, A2.cell rfl, _, A2.cell rfl, _, A2.cell rfl, _, A2.cell rfl, _, A2.cell rfl, _, A2.cell rfl, _, _, _, A2.cell rfl, S_do10 Gt (rdL_le lx1 (X.2 o hmem)) (hI o hmem) (hb o hmem) fun h3 x3 G3 e3 p3 => ⟨_, rfl, ?_⟩⟩
    rw [← e3, ← p3]
    have wT : (doR u o).2.T.length = w := by
      rw [← hw]
      have := ok'.ec
      have := G.ok.ec
      exact doR_T G.ok o
    refine spares_3 (f := ⟨wa, wC, qs, R, CC, SP⟩) h16 (by omega) hN G3 At1 Rw1 Iw (fun e0 => spare_a e0) (fun d0 d5 d6 i hi hf => ?_) (fun d0 i hi => ?_) ?_ N 0 rfl
    · have := spare_b G.ok (x := o) (m := i) (by omega) hf d0 d5 d6
      rw [hw] at this
      unfold Gu.row at this
      rw [hw] at this
      exact this
    · have := spare_c G.ok (x := o) (m := i) (by omega) d0
      rw [hw] at this
      unfold Gu.row at this
      rw [hw] at this
      exact this
    · rw [w1 (by omega)]
      exact ih (j + 1) g1 h3 x3 _ (by omega) lx1 G3 (len'.trans hN) wT
end
theorem law10_RiskSpares_ok {h : Heap} {tp : Option Addr} {tn tc : Nat} (HT : curSh.Has h [.slice tp tn tc]) {lq : Option Addr} {ln lc : Nat} (HL : (Sh.sl lmSt).Has h [.slice lq ln lc]) {q : Option Addr} {n qc : Nat} (HO : opsSh.Has h [.slice q n qc]) :
    CallA Try.prog fn_law10_RiskSpares [slice tp tn tc, slice lq ln lc, slice q n qc] h fun v h' => v = .bool true ∧ h.le h' := by
  obtain ⟨tmax, T, hT, CT, _⟩ := curs_of HT
  obtain ⟨lmax, ls, hls, XL, hLI⟩ := lm_of HL
  obtain ⟨omax, l, hl, X, hI, _⟩ := ops_of HO
  refine F_law10_RiskSpares _ _ _ _ _ _ _ _ _ _ _ ?_
  unfold F_law10_RiskSparesT
  refine S_law10_awake fun h1 l1 => ⟨_, rfl, Br.no rfl (S_large10 (XL.le l1) hls lmax (X.le l1) hl omax fun b hb => ⟨_, rfl, ?_⟩)⟩
  cases b with
  | true => exact Br.yes rfl (goodR l1)
  | false =>
    obtain ⟨h30, t20, l20, hb20, hs20⟩ := hb rfl
    refine Br.no rfl (S_made10 l1 CT hT (by omega) XL hls (by omega) hLI (fun y hy => by have := hs20 y hy; omega) (fun h2 l2 => ⟨_, rfl, Br.yes rfl (goodR (Heap.le_trans l1 l2))⟩) fun h2 x G n1 n16 _ => ⟨_, rfl, Br.no rfl (S_gLedger G.toGR ⟨_, rfl, Br.no rfl ?_⟩)⟩)
    exact spares_0 X hl (by omega) hI hb20 n 0 h1 h2 x _ rfl l1 G (newU_len _ _) hT
end Go.Proofs.Ytghdadniddoboaa
