/- The reference's whole numbers of any size: a sum; how two compare; whether one fits. -/
import Derived.Test.YtkcogdmddhkldaaBigAdd
import Derived.Test.YtkcogdmddhkldaaMoneySum
namespace Go.Proofs.Ytkcogdmddhkldaa
open Go Go.Sy Go.Value
set_option linter.unusedVariables false
set_option linter.unusedSimpArgs false

theorem S_Add_aux {na nb : Bool} {pa pb : Option Addr} {ca cb : Nat} {da db : List Int} {h : Heap} (ra : Ints .i64 h pa da) (rb : Ints .i64 h pb db) (oa : okD da) (ob : okD db) (la : da.length ≤ 1048000) (lb : db.length ≤ 1048000)
    {m : Nat} (ma : da.length ≤ m) (mb : db.length ≤ m) (mm : (if (db.length : Int) > (da.length : Int) then (db.length : Int) else (da.length : Int)) = (m : Int)) {K : Value → Heap → Prop}
    (rec : na ≠ nb → dig da < dig db → ∀ h', h.le h' → ∀ K' : Value → Heap → Prop, (∀ v h'', h'.le h'' → BigN h'' v (sg na da + sg nb db) (m + 1) → K' v h'') →
      CallA Try.prog fn_ref01_Add [agg #[.bool nb, slice pb db.length cb], agg #[.bool na, slice pa da.length ca]] h' K')
    (k : ∀ v h', h.le h' → BigN h' v (sg na da + sg nb db) (m + 1) → K v h') : CallA Try.prog fn_ref01_Add [agg #[.bool na, slice pa da.length ca], agg #[.bool nb, slice pb db.length cb]] h K := by
  refine F_ref01_Add _ _ _ _ _ _ _ _ _ _ ?_
  unfold F_ref01_AddT
  have hm : m ≤ 1048000 := by
    by_cases hh : (db.length : Int) > (da.length : Int)
    · rw [if_pos hh] at mm; omega
    · rw [if_neg hh] at mm; omega
  intro r hr r1 hr1 r2 hr2
  have aa := ((At.new h r [.bool na, slice pa da.length ca] 118).ins (x := .cells [.bool nb, slice pb db.length cb].toArray 118 (0, 0)) hr1).ins (x := .cells [.bool false, slice none 0 0].toArray 118 (0, 0)) hr2
  have ab := (At.new (h.ins r (.cells [.bool na, slice pa da.length ca].toArray 118 (0, 0))) r1 [.bool nb, slice pb db.length cb] 118).ins (x := .cells [.bool false, slice none 0 0].toArray 118 (0, 0)) hr2
  have tt := At.new ((h.ins r (.cells [.bool na, slice pa da.length ca].toArray 118 (0, 0))).ins r1 (.cells [.bool nb, slice pb db.length cb].toArray 118 (0, 0))) r2 [.bool false, slice none 0 0] 118
  have l1 := le_ins2 (x := .cells [.bool nb, slice pb db.length cb].toArray 118 (0, 0)) (le_ins hr (o := .cells [.bool na, slice pa da.length ca].toArray 118 (0, 0))) hr1
  have l2 := le_ins2 (x := .cells [.bool false, slice none 0 0].toArray 118 (0, 0)) l1 hr2
  have e2 := none_of_le l1 hr2
  generalize hh2 : ((h.ins r (.cells [.bool na, slice pa da.length ca].toArray 118 (0, 0))).ins r1 (.cells [.bool nb, slice pb db.length cb].toArray 118 (0, 0))).ins r2 (.cells [.bool false, slice none 0 0].toArray 118 (0, 0)) = h2 at *
  refine ⟨_, aa.cell rfl, ?_⟩
  intro r3 hr3
  have n1 := aa.ne hr3
  have n2 := ab.ne hr3
  have n3 := tt.ne hr3
  have e3 := none_of_le l2 hr3
  have o3 := At.new h2 r3 [.bool false, slice none 0 0] 118
  have a3 := aa.ins (x := .cells [.bool false, slice none 0 0].toArray 118 (0, 0)) hr3
  have b3 := ab.ins (x := .cells [.bool false, slice none 0 0].toArray 118 (0, 0)) hr3
  have t3 := tt.ins (x := .cells [.bool false, slice none 0 0].toArray 118 (0, 0)) hr3
  have l3 := le_ins2 (x := .cells [.bool false, slice none 0 0].toArray 118 (0, 0)) l2 hr3
  refine ⟨o3.canSt (by simp), ?_⟩
  have oo := o3.set (o := 0) (ws := [.bool na, slice none 0 0])
  have aa := a3.set_ne (o := 0) (ws := [.bool na, slice none 0 0]) n1
  have ab := b3.set_ne (o := 0) (ws := [.bool na, slice none 0 0]) n2
  have tt := t3.set_ne (o := 0) (ws := [.bool na, slice none 0 0]) n3
  have l4 := le_setN (o := 0) (ws := [.bool na, slice none 0 0]) l3 e3
  generalize (h2.ins r3 (.cells [.bool false, slice none 0 0].toArray 118 (0, 0))).setN r3 0 [.bool na, slice none 0 0] = h4 at *
  refine ⟨_, aa.cell rfl, _, ab.cell rfl, ?_⟩
  refine Br.intro (fun same => ?_) (fun differ => ?_)
  · have same : na = nb := by simpa using same
    subst same
    refine add_loop ra rb oa ob e2 e3 n1 n2 n3 ma mb mm (by omega) (fun v h' l' bn => k v h' l' ?_) (m + 1) [] none 0 0 h4 (by simp) l4 aa ab tt oo (OwnL.nil _ _ _) (by simp) (by simp) (by simp) (by simp) (fun d hd => (by cases hd)) (by omega) (by omega) (by simp [dig])
    have e : sg na da + sg na db = if na then -(dig da + dig db) else dig da + dig db := by unfold sg; cases na <;> simp <;> omega
    rw [e]; exact bn
  · have differ : na ≠ nb := by simpa using differ
    refine ⟨_, aa.cell rfl, _, _, _, aa.cell rfl, _, ab.cell rfl, _, _, _, ab.cell rfl, ?_⟩
    refine S_larger (ra.le l4) (rb.le l4) oa ob (by omega) (by omega) fun h5 l5 => ⟨_, rfl, ?_⟩
    have l45 := Heap.le_trans l4 l5
    have aa := aa.le l5
    have ab := ab.le l5
    have tt := tt.le l5
    have oo := oo.le l5
    refine Br.dec (fun lt => ?_) (fun nlt => ?_)
    · have hlt : dig da < dig db := by
        unfold cmpI at lt
        split at lt
        · omega
        · split at lt <;> omega
      refine ⟨_, ab.cell rfl, _, _, _, ab.cell rfl, _, aa.cell rfl, _, _, _, aa.cell rfl, ?_⟩
      refine rec differ hlt h5 l45 _ fun v h6 l6 bn => ?_
      obtain ⟨neg2, p2, c2, ds2, rfl, r2', ok2, x2, c3, b2, nz⟩ := bn
      refine ⟨_, _, _, _, rfl, ret_out e2 (Heap.le_trans l45 l6) (tt.le l6) fun h'' l'' rd => k _ _ l'' ?_⟩
      exact ⟨neg2, p2, c2, ds2, rfl, rd _ _ r2', ok2, x2, c3, b2, nz⟩
    · have hge : dig db ≤ dig da := by
        unfold cmpI at nlt
        split at nlt
        · omega
        · split at nlt <;> omega
      refine sub_loop ra rb oa ob e2 e3 n1 n2 n3 hge (B := m + 1) (by omega) (by omega) (fun v h' l' bn => k v h' l' ?_) da.length [] none 0 0 h5 (by simp) l45 aa ab tt oo (OwnL.nil _ _ _) (by simp) (by simp) (by simp) (by simp) (fun d hd => (by cases hd)) (by omega) (by omega) (by simp [dig])
      have e : sg na da + sg nb db = if na then -(dig da - dig db) else dig da - dig db := by unfold sg; cases na <;> cases nb <;> simp at differ ⊢ <;> omega
      rw [e]; exact bn
theorem max_of (a b : Nat) : ∃ m : Nat, (if (b : Int) > (a : Int) then (b : Int) else (a : Int)) = (m : Int) ∧ a ≤ m ∧ b ≤ m ∧ (m = a ∨ m = b) := by
  by_cases hh : (b : Int) > (a : Int)
  · exact ⟨b, by rw [if_pos hh], by omega, by omega, .inr rfl⟩
  · exact ⟨a, by rw [if_neg hh], by omega, by omega, .inl rfl⟩
theorem S_Add_Big {va vb : Value} {x y : Int} {na nb : Nat} {h : Heap} (ha : BigR h va x na) (hb : BigR h vb y nb) {B : Nat} (ba : na ≤ B) (bb : nb ≤ B) (hB : B ≤ 1048000) {K : Value → Heap → Prop}
    (k : ∀ v h', h.le h' → BigN h' v (x + y) (B + 1) → K v h') : CallA Try.prog fn_ref01_Add [va, vb] h K := by
  obtain ⟨n1, p1, c1, d1, rfl, r1, o1, rfl, lc1, lb1⟩ := ha
  obtain ⟨n2, p2, c2, d2, rfl, r2, o2, rfl, lc2, lb2⟩ := hb
  obtain ⟨m, em, m1, m2, mo⟩ := max_of d1.length d2.length
  have more : ∀ {h' v x m'}, m' ≤ B → BigN h' v x (m' + 1) → BigN h' v x (B + 1) := by
    intro h' v x m' hm ⟨neg, p, c, ds, a1, a2, a3, a4, a5, a6, a7⟩
    exact ⟨neg, p, c, ds, a1, a2, a3, a4, a5, by omega, a7⟩
  refine S_Add_aux r1 r2 o1 o2 (by omega) (by omega) m1 m2 em (fun hne hlt h' l' K' k' => ?_) fun v h' l' bn => k v h' l' (more (by omega) bn)
  obtain ⟨m', em', m1', m2', mo'⟩ := max_of d2.length d1.length
  have : m' = m := by omega
  subst this
  refine S_Add_aux (r2.le l') (r1.le l') o2 o1 (by omega) (by omega) m1' m2' em' (fun _ h3 => by omega) fun v h'' l'' bn => k' v h'' l'' ?_
  rw [Int.add_comm]; exact bn
theorem S_Cmp {va vb : Value} {x y : Int} {na nb : Nat} {h : Heap} (ha : BigR h va x na) (hb : BigR h vb y nb) (la : na ≤ 1000000) (lb : nb ≤ 1000000) {K : Value → Heap → Prop}
    (k : ∀ h', h.le h' → K (int .i64 (cmpI x y)) h') : CallA Try.prog fn_ref01_Cmp [va, vb] h K := by
  obtain ⟨n1, p1, c1, d1, rfl, r1, o1, hx, lc1, lb1⟩ := ha
  obtain ⟨n2, p2, c2, d2, rfl, r2, o2, hy, lc2, lb2⟩ := hb
  refine F_ref01_Cmp _ _ _ _ _ _ _ _ _ _ ?_
  unfold F_ref01_CmpT
  intro r hr q hq
  have aa := (At.new h r [.bool n1, slice p1 d1.length c1] 118).ins (x := .cells [.bool n2, slice p2 d2.length c2].toArray 118 (0, 0)) hq
  have ab := At.new (h.ins r (.cells [.bool n1, slice p1 d1.length c1].toArray 118 (0, 0))) q [.bool n2, slice p2 d2.length c2] 118
  have l1 := le_ins2 (x := .cells [.bool n2, slice p2 d2.length c2].toArray 118 (0, 0)) (le_ins hr (o := .cells [.bool n1, slice p1 d1.length c1].toArray 118 (0, 0))) hq
  refine ⟨_, aa.cell rfl, _, _, _, aa.cell rfl, _, ab.cell rfl, _, _, _, ab.cell rfl, ?_⟩
  refine S_Turned (x := y) (b := nb) ⟨n2, p2, c2, d2, rfl, r2.le l1, o2, hy, lc2, lb2⟩ (by omega) fun v2 h2 l2 bn2 => ?_
  obtain ⟨n3, p3, c3, d3, rfl, r3, o3, hy3, lc3, lb3, _⟩ := bn2
  refine ⟨_, _, _, _, rfl, .inl l2, ?_⟩
  have l12 := Heap.le_trans l1 l2
  refine S_Add_Big (x := x) (y := -y) (na := na) (nb := nb) (B := 1000000) ⟨n1, p1, c1, d1, rfl, r1.le l12, o1, hx, lc1, lb1⟩ ⟨n3, p3, c3, d3, rfl, r3, o3, hy3, lc3, lb3⟩ (by omega) (by omega) (by omega) fun v4 h4 l4 bn4 => ?_
  obtain ⟨n5, p5, c5, d5, rfl, r5, o5, hy5, lc5, lb5, nz5⟩ := bn4
  refine ⟨_, _, _, _, rfl, ?_⟩
  intro u hu
  have uu := At.new h4 u [.bool false, slice none 0 0] 118
  have l14 := Heap.le_trans l12 l4
  have l5 := le_ins2 (x := .cells [.bool false, slice none 0 0].toArray 118 (0, 0)) l14 hu
  have e5 := none_of_le l14 hu
  have u2 := uu.set (o := 0) (ws := [.bool n5, slice p5 d5.length c5])
  have kk := k _ (le_setN (o := 0) (ws := [.bool n5, slice p5 d5.length c5]) l5 e5)
  refine ⟨uu.canSt (by simp), _, _, _, u2.cell rfl, ?_⟩
  have dn := dig_nonneg o5
  refine Br.intro (fun e => Ret.mk ?_) (fun e => ⟨_, u2.cell rfl, Br.intro (fun e6 => Ret.mk ?_) (fun e6 => Ret.mk ?_)⟩)
  · have : d5 = [] := List.length_eq_zero_iff.1 (by simpa using e)
    subst this
    have e0 : sg n5 [] = 0 := by unfold sg; simp [dig]
    have : cmpI x y = 0 := by unfold cmpI; rw [if_neg (by omega), if_neg (by omega)]
    rw [this] at kk; exact kk
  · subst e6
    have hd : dig d5 ≠ 0 := fun z => by have := (nz5 z).2; cases this
    have e0 : sg true d5 = -dig d5 := rfl
    have : cmpI x y = -1 := by unfold cmpI; rw [if_neg (by omega), if_pos (by omega)]
    rw [this] at kk; exact kk
  · subst e6
    have hd : dig d5 ≠ 0 := fun z => by
      have := (nz5 z).1
      subst this
      simp at e
    have e0 : sg false d5 = dig d5 := rfl
    have : cmpI x y = 1 := by unfold cmpI; rw [if_pos (by omega)]
    rw [this] at kk; exact kk
theorem S_Fit {va : Value} {x : Int} {na : Nat} {h : Heap} (ha : BigR h va x na) (la : na ≤ 1000000) {K : Value → Heap → Prop} (k : ∀ h', h.le h' → K (tuple #[int .i64 (fit x).1, int .i64 (fit x).2]) h') :
    CallA Try.prog fn_ref01_Fit [va] h K := by
  obtain ⟨n1, p1, c1, d1, rfl, r1, o1, hx, lc1, lb1⟩ := ha
  refine F_ref01_Fit _ _ _ _ _ _ ?_
  unfold F_ref01_FitT
  intro r hr
  have aa := At.new h r [.bool n1, slice p1 d1.length c1] 118
  have l1 := le_ins hr (o := .cells [.bool n1, slice p1 d1.length c1].toArray 118 (0, 0))
  refine ⟨_, aa.cell rfl, _, _, _, aa.cell rfl, ?_⟩
  refine S_Of ⟨by decide, by decide⟩ fun v2 h2 l2 bn2 => ?_
  obtain ⟨n3, p3, c3, d3, rfl, r3, o3, hy3, lc3, lb3, _⟩ := bn2
  refine ⟨_, _, _, _, rfl, .inl l2, ?_⟩
  have l12 := Heap.le_trans l1 l2
  refine S_Cmp (x := x) (na := na) ⟨n1, p1, c1, d1, rfl, r1.le l12, o1, hx, lc1, lb1⟩ ⟨n3, p3, c3, d3, rfl, r3, o3, hy3, lc3, lb3⟩ la (by omega) fun h3 l3 => ⟨_, rfl, ?_⟩
  have l13 := Heap.le_trans l12 l3
  refine Br.dec (fun lt => Ret.mk ?_) (fun nlt => ?_)
  · have : x < -9223372036854775808 := by
      unfold cmpI at lt
      split at lt
      · omega
      · split at lt <;> omega
    have kk := k h3 l13
    rw [fit_over (by unfold I64; omega)] at kk
    exact kk
  have ge : -9223372036854775808 ≤ x := by
    unfold cmpI at nlt
    split at nlt
    · omega
    · split at nlt <;> omega
  have aa := (aa.le l2).le l3
  refine ⟨_, aa.cell rfl, _, _, _, aa.cell rfl, ?_⟩
  refine S_Of ⟨by decide, by decide⟩ fun v4 h4 l4 bn4 => ?_
  obtain ⟨n5, p5, c5, d5, rfl, r5, o5, hy5, lc5, lb5, _⟩ := bn4
  refine ⟨_, _, _, _, rfl, .inl l4, ?_⟩
  have l14 := Heap.le_trans l13 l4
  refine S_Cmp (x := x) (na := na) ⟨n1, p1, c1, d1, rfl, r1.le l14, o1, hx, lc1, lb1⟩ ⟨n5, p5, c5, d5, rfl, r5, o5, hy5, lc5, lb5⟩ la (by omega) fun h6 l6 => ⟨_, rfl, ?_⟩
  have l16 := Heap.le_trans l14 l6
  refine Br.dec (fun gt => Ret.mk ?_) (fun ngt => ?_)
  · have : x > 9223372036854775807 := by
      unfold cmpI at gt
      split at gt
      · omega
      · split at gt <;> omega
    have kk := k h6 l16
    rw [fit_over (by unfold I64; omega)] at kk
    exact kk
  have le : x ≤ 9223372036854775807 := by
    unfold cmpI at ngt
    split at ngt
    · omega
    · omega
  have aa := (aa.le l4).le l6
  refine ⟨_, _, _, aa.cell rfl, ?_⟩
  have kk := k h6 l16
  rw [fit_ok (by unfold I64; omega)] at kk
  have r6 := r1.le l16
  -- the digits, from the highest on
  have loop : ∀ (n : Nat) (acc : Int), n ≤ d1.length → sg n1 d1 = 10000 ^ n * acc + sg n1 (d1.take n) → (acc = 0 ∨ n1 = (decide (acc < 0))) → L_ref01_Fit_0 r acc ((n : Int) - 1) h6 K := by
    intro n
    induction n with
    | zero =>
      intro acc hn e _
      refine L_ref01_Fit_0r _ _ _ _ _ ?_
      unfold L_ref01_Fit_0T
      refine Br.no (by decide) (Ret.mk ?_)
      have : acc = x := by rw [hx, e]; unfold sg; simp [dig]
      rw [this]; exact kk
    | succ n ih =>
      intro acc hn e hs
      refine L_ref01_Fit_0r _ _ _ _ _ ?_
      unfold L_ref01_Fit_0T
      rw [show (((n + 1 : Nat) : Int) - 1) = (n : Int) from by omega]
      refine Br.yes (decide_eq_true (by omega)) ⟨_, aa.cell rfl, ?_⟩
      have hlt : n < d1.length := by omega
      obtain ⟨b, o, ea, hc⟩ := r6.at hlt
      have gd := o1 _ (List.getElem_mem hlt)
      have et := dig_take_succ (l := d1) hlt
      have tn := dig_nonneg (okD_take o1 n)
      have hP : (0 : Int) < 10000 ^ n := Int.pow_pos (by decide)
      rw [Int.pow_succ, Int.mul_assoc] at e
      generalize hd : d1[n] = d at *
      generalize (10000 : Int) ^ n = P at *
      have hxs : x = sg n1 d1 := hx
      -- what is told stays within an amount's bounds
      refine Br.intro (fun e6 => ⟨_, _, _, aa.cell rfl, by omega, by omega, withAddr_intro ea ⟨_, by rw [Int.toNat_natCast]; exact hc, ?_⟩⟩) (fun e6 => ⟨_, _, _, aa.cell rfl, by omega, by omega, withAddr_intro ea ⟨_, by rw [Int.toNat_natCast]; exact hc, ?_⟩⟩)
      · subst e6
        have e7 : sg true (d1.take (n + 1)) = sg true (d1.take n) - P * d := by unfold sg; simp only [if_true]; omega
        rw [e7] at e
        have e8 : P * (10000 * acc - d) = P * (10000 * acc) - P * d := Int.mul_sub _ _ _
        have e9 : sg true d1 = P * (10000 * acc - d) + sg true (d1.take n) := by omega
        have e10 : sg true (d1.take n) = -dig (d1.take n) := rfl
        have tl := dig_take_lt o1 n
        have hacc : acc ≤ 0 := by
          rcases hs with h | h
          · omega
          · have : acc < 0 := by simpa using h.symm
            omega
        have hb1 : -9223372036854775808 ≤ 10000 * acc - d := by
          refine Classical.byContradiction fun hh => ?_
          have h2 : 10000 * acc - d ≤ -9223372036854775809 := by omega
          have h3 : P * (10000 * acc - d) ≤ 1 * (10000 * acc - d) := by
            have := Int.mul_le_mul_of_nonneg_right (show (1 : Int) ≤ P by omega) (show 0 ≤ -(10000 * acc - d) by omega)
            rw [Int.mul_neg, Int.mul_neg] at this
            omega
          omega
        have w1 : IntKind.wrap .i64 (IntKind.wrap .i64 (10000 * acc) - d) = 10000 * acc - d := by
          rw [wrap_i64_id (n := 10000 * acc) (by omega) (by omega), wrap_i64_id (by omega) (by omega)]
        rw [w1, wrap_i64_id (n := (n : Int) - 1) (by omega) (by omega)]
        refine ih _ (by omega) e9 ?_
        by_cases h0 : 10000 * acc - d = 0
        · exact .inl h0
        · exact .inr (by simp; omega)
      · subst e6
        have e7 : sg false (d1.take (n + 1)) = sg false (d1.take n) + P * d := by unfold sg; simp only [Bool.false_eq_true, if_false]; omega
        rw [e7] at e
        have e8 : P * (10000 * acc + d) = P * (10000 * acc) + P * d := Int.mul_add _ _ _
        have e9 : sg false d1 = P * (10000 * acc + d) + sg false (d1.take n) := by omega
        have e10 : sg false (d1.take n) = dig (d1.take n) := rfl
        have hacc : 0 ≤ acc := by
          rcases hs with h | h
          · omega
          · simpa using h.symm
        have hb1 : 10000 * acc + d ≤ 9223372036854775807 := by
          refine Classical.byContradiction fun hh => ?_
          have h3 : 1 * (10000 * acc + d) ≤ P * (10000 * acc + d) := Int.mul_le_mul_of_nonneg_right (by omega) (by omega)
          omega
        have w1 : IntKind.wrap .i64 (IntKind.wrap .i64 (10000 * acc) + d) = 10000 * acc + d := by
          rw [wrap_i64_id (n := 10000 * acc) (by omega) (by omega), wrap_i64_id (by omega) (by omega)]
        rw [w1, wrap_i64_id (n := (n : Int) - 1) (by omega) (by omega)]
        refine ih _ (by omega) e9 ?_
        by_cases h0 : 10000 * acc + d = 0
        · exact .inl h0
        · exact .inr (by simp; omega)
  have lb := lb1
  rw [wrap_i64_id (by omega) (by omega)]
  exact loop d1.length 0 (Nat.le_refl _) (by rw [List.take_length]; simp) (.inl rfl)
end Go.Proofs.Ytkcogdmddhkldaa
