import Derived.Test.YtjihfieahkbohaaGreatM15
import Derived.Test.YtjihfieahkbohaaGreatM06
import Derived.Test.YtjihfieahkbohaaGreatM05
import Derived.Test.YtjihfieahkbohaaGreatM14
/- The reference's whole numbers of any size: a sum; how two compare; whether one fits. -/
namespace Go.Proofs.YtjihfieahkbohaaGreat
open Go Go.Sy Go.Value
set_option linter.unusedVariables false
set_option linter.unusedSimpArgs false

theorem qQa {na nb : Bool} {pa pb : Option Addr} {ca cb : Nat} {da db : List Int} {h : Heap} (ra : Ints .i64 h pa da) (rb : Ints .i64 h pb db) (oa : okD da) (ob : okD db) (la : da.length ≤ 1048000) (lb : db.length ≤ 1048000)
    {m : Nat} (ma : da.length ≤ m) (mb : db.length ≤ m) (mm : (if (db.length : Int) > (da.length : Int) then (db.length : Int) else (da.length : Int)) = (m : Int)) {K : Value → Heap → Prop}
    (rec : na ≠ nb → dig da < dig db → ∀ h', h.le h' → ∀ K' : Value → Heap → Prop, (∀ v h'', h'.le h'' → BigN h'' v (sg na da + sg nb db) (m + 1) → K' v h'') →
      CallA Tryz.prog qCR [agg #[.bool nb, slice pb db.length cb], agg #[.bool na, slice pa da.length ca]] h' K')
    (k : ∀ v h', h.le h' → BigN h' v (sg na da + sg nb db) (m + 1) → K v h') : CallA Tryz.prog qCR [agg #[.bool na, slice pa da.length ca], agg #[.bool nb, slice pb db.length cb]] h K := by
  refine qSV _ _ _ _ _ _ _ _ _ _ ?_
  unfold qNe
  have hm : m ≤ 1048000 := by
    by_cases hh : (db.length : Int) > (da.length : Int)
    · rw [if_pos hh] at mm; omega
    · rw [if_neg hh] at mm; omega
  intro r hr r1 hr1 r2 hr2
  have aa := ((At.new h r [.bool na, slice pa da.length ca] 78).ins (x := .cells [.bool nb, slice pb db.length cb].toArray 78 (0, 0)) hr1).ins (x := .cells [.bool false, slice none 0 0].toArray 78 (0, 0)) hr2
  have ab := (At.new (h.ins r (.cells [.bool na, slice pa da.length ca].toArray 78 (0, 0))) r1 [.bool nb, slice pb db.length cb] 78).ins (x := .cells [.bool false, slice none 0 0].toArray 78 (0, 0)) hr2
  have tt := At.new ((h.ins r (.cells [.bool na, slice pa da.length ca].toArray 78 (0, 0))).ins r1 (.cells [.bool nb, slice pb db.length cb].toArray 78 (0, 0))) r2 [.bool false, slice none 0 0] 78
  have l1 := qFv (x := .cells [.bool nb, slice pb db.length cb].toArray 78 (0, 0)) (qt hr (o := .cells [.bool na, slice pa da.length ca].toArray 78 (0, 0))) hr1
  have l2 := qFv (x := .cells [.bool false, slice none 0 0].toArray 78 (0, 0)) l1 hr2
  have e2 := qAk l1 hr2
  generalize hh2 : ((h.ins r (.cells [.bool na, slice pa da.length ca].toArray 78 (0, 0))).ins r1 (.cells [.bool nb, slice pb db.length cb].toArray 78 (0, 0))).ins r2 (.cells [.bool false, slice none 0 0].toArray 78 (0, 0)) = h2 at *
  refine ⟨_, aa.cell rfl, ?_⟩
  intro r3 hr3
  have n1 := aa.ne hr3
  have n2 := ab.ne hr3
  have n3 := tt.ne hr3
  have e3 := qAk l2 hr3
  have o3 := At.new h2 r3 [.bool false, slice none 0 0] 78
  have a3 := aa.ins (x := .cells [.bool false, slice none 0 0].toArray 78 (0, 0)) hr3
  have b3 := ab.ins (x := .cells [.bool false, slice none 0 0].toArray 78 (0, 0)) hr3
  have t3 := tt.ins (x := .cells [.bool false, slice none 0 0].toArray 78 (0, 0)) hr3
  have l3 := qFv (x := .cells [.bool false, slice none 0 0].toArray 78 (0, 0)) l2 hr3
  refine ⟨o3.canSt (by simp), ?_⟩
  have oo := o3.set (o := 0) (ws := [.bool na, slice none 0 0])
  have aa := a3.set_ne (o := 0) (ws := [.bool na, slice none 0 0]) n1
  have ab := b3.set_ne (o := 0) (ws := [.bool na, slice none 0 0]) n2
  have tt := t3.set_ne (o := 0) (ws := [.bool na, slice none 0 0]) n3
  have l4 := qAf (o := 0) (ws := [.bool na, slice none 0 0]) l3 e3
  generalize (h2.ins r3 (.cells [.bool false, slice none 0 0].toArray 78 (0, 0))).setN r3 0 [.bool na, slice none 0 0] = h4 at *
  refine ⟨_, aa.cell rfl, _, ab.cell rfl, ?_⟩
  refine Br.intro (fun same => ?_) (fun differ => ?_)
  · have same : na = nb := by simpa using same
    subst same
    refine qVy ra rb oa ob e2 e3 n1 n2 n3 ma mb mm (by omega) (fun v h' l' bn => k v h' l' ?_) (m + 1) [] none 0 0 h4 (by simp) l4 aa ab tt oo (OwnL.nil _ _ _) (by simp) (by simp) (by simp) (by simp) (fun d hd => (by cases hd)) (by omega) (by omega) (by simp [dig])
    have e : sg na da + sg na db = if na then -(dig da + dig db) else dig da + dig db := by unfold sg; cases na <;> simp <;> omega
    rw [e]; exact bn
  · have differ : na ≠ nb := by simpa using differ
    refine ⟨_, aa.cell rfl, _, _, _, aa.cell rfl, _, ab.cell rfl, _, _, _, ab.cell rfl, ?_⟩
    refine qWI (ra.le l4) (rb.le l4) oa ob (by omega) (by omega) fun h5 l5 => ⟨_, rfl, ?_⟩
    have l45 := Heap.le_trans l4 l5
    have aa := aa.le l5
    have ab := ab.le l5
    have tt := tt.le l5
    have oo := oo.le l5
    refine Br.dec (fun lt => ?_) (fun nlt => ?_)
    · have hlt : dig da < dig db := by
        unfold qGF at lt
        split at lt
        · omega
        · split at lt <;> omega
      refine ⟨_, ab.cell rfl, _, _, _, ab.cell rfl, _, aa.cell rfl, _, _, _, aa.cell rfl, ?_⟩
      refine rec differ hlt h5 l45 _ fun v h6 l6 bn => ?_
      obtain ⟨neg2, p2, c2, ds2, rfl, r2', ok2, x2, c3, b2, nz⟩ := bn
      refine ⟨_, _, _, _, rfl, qOI e2 (Heap.le_trans l45 l6) (tt.le l6) fun h'' l'' rd => k _ _ l'' ?_⟩
      exact ⟨neg2, p2, c2, ds2, rfl, rd _ _ r2', ok2, x2, c3, b2, nz⟩
    · have hge : dig db ≤ dig da := by
        unfold qGF at nlt
        split at nlt
        · omega
        · split at nlt <;> omega
      refine qVw ra rb oa ob e2 e3 n1 n2 n3 hge (B := m + 1) (by omega) (by omega) (fun v h' l' bn => k v h' l' ?_) da.length [] none 0 0 h5 (by simp) l45 aa ab tt oo (OwnL.nil _ _ _) (by simp) (by simp) (by simp) (by simp) (fun d hd => (by cases hd)) (by omega) (by omega) (by simp [dig])
      have e : sg na da + sg nb db = if na then -(dig da - dig db) else dig da - dig db := by unfold sg; cases na <;> cases nb <;> simp at differ ⊢ <;> omega
      rw [e]; exact bn
theorem qUS (a b : Nat) : ∃ m : Nat, (if (b : Int) > (a : Int) then (b : Int) else (a : Int)) = (m : Int) ∧ a ≤ m ∧ b ≤ m ∧ (m = a ∨ m = b) := by
  by_cases hh : (b : Int) > (a : Int)
  · exact ⟨b, by rw [if_pos hh], by omega, by omega, .inr rfl⟩
  · exact ⟨a, by rw [if_neg hh], by omega, by omega, .inl rfl⟩
theorem qQk {va vb : Value} {x y : Int} {na nb : Nat} {h : Heap} (ha : BigR h va x na) (hb : BigR h vb y nb) {B : Nat} (ba : na ≤ B) (bb : nb ≤ B) (hB : B ≤ 1048000) {K : Value → Heap → Prop}
    (k : ∀ v h', h.le h' → BigN h' v (x + y) (B + 1) → K v h') : CallA Tryz.prog qCR [va, vb] h K := by
  obtain ⟨n1, p1, c1, d1, rfl, r1, o1, rfl, lc1, lb1⟩ := ha
  obtain ⟨n2, p2, c2, d2, rfl, r2, o2, rfl, lc2, lb2⟩ := hb
  obtain ⟨m, em, m1, m2, mo⟩ := qUS d1.length d2.length
  have more : ∀ {h' v x m'}, m' ≤ B → BigN h' v x (m' + 1) → BigN h' v x (B + 1) := by
    intro h' v x m' hm ⟨neg, p, c, ds, a1, a2, a3, a4, a5, a6, a7⟩
    exact ⟨neg, p, c, ds, a1, a2, a3, a4, a5, by omega, a7⟩
  refine qQa r1 r2 o1 o2 (by omega) (by omega) m1 m2 em (fun hne hlt h' l' K' k' => ?_) fun v h' l' bn => k v h' l' (more (by omega) bn)
  obtain ⟨m', em', m1', m2', mo'⟩ := qUS d2.length d1.length
  have : m' = m := by omega
  subst this
  refine qQa (r2.le l') (r1.le l') o2 o1 (by omega) (by omega) m1' m2' em' (fun _ h3 => by omega) fun v h'' l'' bn => k' v h'' l'' ?_
  rw [Int.add_comm]; exact bn
theorem qW4 {va vb : Value} {x y : Int} {na nb : Nat} {h : Heap} (ha : BigR h va x na) (hb : BigR h vb y nb) (la : na ≤ 1000000) (lb : nb ≤ 1000000) {K : Value → Heap → Prop}
    (k : ∀ h', h.le h' → K (int .i64 (qGF x y)) h') : CallA Tryz.prog qIt [va, vb] h K := by
  obtain ⟨n1, p1, c1, d1, rfl, r1, o1, hx, lc1, lb1⟩ := ha
  obtain ⟨n2, p2, c2, d2, rfl, r2, o2, hy, lc2, lb2⟩ := hb
  refine qSZ _ _ _ _ _ _ _ _ _ _ ?_
  unfold qNt
  intro r hr q hq
  have aa := (At.new h r [.bool n1, slice p1 d1.length c1] 78).ins (x := .cells [.bool n2, slice p2 d2.length c2].toArray 78 (0, 0)) hq
  have ab := At.new (h.ins r (.cells [.bool n1, slice p1 d1.length c1].toArray 78 (0, 0))) q [.bool n2, slice p2 d2.length c2] 78
  have l1 := qFv (x := .cells [.bool n2, slice p2 d2.length c2].toArray 78 (0, 0)) (qt hr (o := .cells [.bool n1, slice p1 d1.length c1].toArray 78 (0, 0))) hq
  refine ⟨_, aa.cell rfl, _, _, _, aa.cell rfl, _, ab.cell rfl, _, _, _, ab.cell rfl, ?_⟩
  refine qVz (x := y) (b := nb) ⟨n2, p2, c2, d2, rfl, r2.le l1, o2, hy, lc2, lb2⟩ (by omega) fun v2 h2 l2 bn2 => ?_
  obtain ⟨n3, p3, c3, d3, rfl, r3, o3, hy3, lc3, lb3, _⟩ := bn2
  refine ⟨_, _, _, _, rfl, .inl l2, ?_⟩
  have l12 := Heap.le_trans l1 l2
  refine qQk (x := x) (y := -y) (na := na) (nb := nb) (B := 1000000) ⟨n1, p1, c1, d1, rfl, r1.le l12, o1, hx, lc1, lb1⟩ ⟨n3, p3, c3, d3, rfl, r3, o3, hy3, lc3, lb3⟩ (by omega) (by omega) (by omega) fun v4 h4 l4 bn4 => ?_
  obtain ⟨n5, p5, c5, d5, rfl, r5, o5, hy5, lc5, lb5, nz5⟩ := bn4
  refine ⟨_, _, _, _, rfl, ?_⟩
  intro u hu
  have uu := At.new h4 u [.bool false, slice none 0 0] 78
  have l14 := Heap.le_trans l12 l4
  have l5 := qFv (x := .cells [.bool false, slice none 0 0].toArray 78 (0, 0)) l14 hu
  have e5 := qAk l14 hu
  have u2 := uu.set (o := 0) (ws := [.bool n5, slice p5 d5.length c5])
  have kk := k _ (qAf (o := 0) (ws := [.bool n5, slice p5 d5.length c5]) l5 e5)
  refine ⟨uu.canSt (by simp), _, _, _, u2.cell rfl, ?_⟩
  have dn := qE8 o5
  refine Br.intro (fun e => Ret.mk ?_) (fun e => ⟨_, u2.cell rfl, Br.intro (fun e6 => Ret.mk ?_) (fun e6 => Ret.mk ?_)⟩)
  · have : d5 = [] := List.length_eq_zero_iff.1 (by simpa using e)
    subst this
    have e0 : sg n5 [] = 0 := by unfold sg; simp [dig]
    have : qGF x y = 0 := by unfold qGF; rw [if_neg (by omega), if_neg (by omega)]
    rw [this] at kk; exact kk
  · subst e6
    have hd : dig d5 ≠ 0 := fun z => by have := (nz5 z).2; cases this
    have e0 : sg true d5 = -dig d5 := rfl
    have : qGF x y = -1 := by unfold qGF; rw [if_neg (by omega), if_pos (by omega)]
    rw [this] at kk; exact kk
  · subst e6
    have hd : dig d5 ≠ 0 := fun z => by
      have := (nz5 z).1
      subst this
      simp at e
    have e0 : sg false d5 = dig d5 := rfl
    have : qGF x y = 1 := by unfold qGF; rw [if_pos (by omega)]
    rw [this] at kk; exact kk
theorem qY3 {va : Value} {x : Int} {na : Nat} {h : Heap} (ha : BigR h va x na) (la : na ≤ 1000000) {K : Value → Heap → Prop} (k : ∀ h', h.le h' → K (tuple #[int .i64 (fit x).1, int .i64 (fit x).2]) h') :
    CallA Tryz.prog qLS [va] h K := by
  obtain ⟨n1, p1, c1, d1, rfl, r1, o1, hx, lc1, lb1⟩ := ha
  refine qSi _ _ _ _ _ _ ?_
  unfold qNo
  intro r hr
  have aa := At.new h r [.bool n1, slice p1 d1.length c1] 78
  have l1 := qt hr (o := .cells [.bool n1, slice p1 d1.length c1].toArray 78 (0, 0))
  refine ⟨_, aa.cell rfl, _, _, _, aa.cell rfl, ?_⟩
  refine qWB ⟨by decide, by decide⟩ fun v2 h2 l2 bn2 => ?_
  obtain ⟨n3, p3, c3, d3, rfl, r3, o3, hy3, lc3, lb3, _⟩ := bn2
  refine ⟨_, _, _, _, rfl, .inl l2, ?_⟩
  have l12 := Heap.le_trans l1 l2
  refine qW4 (x := x) (na := na) ⟨n1, p1, c1, d1, rfl, r1.le l12, o1, hx, lc1, lb1⟩ ⟨n3, p3, c3, d3, rfl, r3, o3, hy3, lc3, lb3⟩ la (by omega) fun h3 l3 => ⟨_, rfl, ?_⟩
  have l13 := Heap.le_trans l12 l3
  refine Br.dec (fun lt => Ret.mk ?_) (fun nlt => ?_)
  · have : x < -9223372036854775808 := by
      unfold qGF at lt
      split at lt
      · omega
      · split at lt <;> omega
    have kk := k h3 l13
    rw [qGI (by unfold I64; omega)] at kk
    exact kk
  have ge : -9223372036854775808 ≤ x := by
    unfold qGF at nlt
    split at nlt
    · omega
    · split at nlt <;> omega
  have aa := (aa.le l2).le l3
  refine ⟨_, aa.cell rfl, _, _, _, aa.cell rfl, ?_⟩
  refine qWB ⟨by decide, by decide⟩ fun v4 h4 l4 bn4 => ?_
  obtain ⟨n5, p5, c5, d5, rfl, r5, o5, hy5, lc5, lb5, _⟩ := bn4
  refine ⟨_, _, _, _, rfl, .inl l4, ?_⟩
  have l14 := Heap.le_trans l13 l4
  refine qW4 (x := x) (na := na) ⟨n1, p1, c1, d1, rfl, r1.le l14, o1, hx, lc1, lb1⟩ ⟨n5, p5, c5, d5, rfl, r5, o5, hy5, lc5, lb5⟩ la (by omega) fun h6 l6 => ⟨_, rfl, ?_⟩
  have l16 := Heap.le_trans l14 l6
  refine Br.dec (fun gt => Ret.mk ?_) (fun ngt => ?_)
  · have : x > 9223372036854775807 := by
      unfold qGF at gt
      split at gt
      · omega
      · split at gt <;> omega
    have kk := k h6 l16
    rw [qGI (by unfold I64; omega)] at kk
    exact kk
  have le : x ≤ 9223372036854775807 := by
    unfold qGF at ngt
    split at ngt
    · omega
    · omega
  have aa := (aa.le l4).le l6
  refine ⟨_, _, _, aa.cell rfl, ?_⟩
  have kk := k h6 l16
  rw [qIG (by unfold I64; omega)] at kk
  have r6 := r1.le l16
  -- the digits, from the highest on
  have loop : ∀ (n : Nat) (acc : Int), n ≤ d1.length → sg n1 d1 = 10000 ^ n * acc + sg n1 (d1.take n) → (acc = 0 ∨ n1 = (decide (acc < 0))) → qGt r acc ((n : Int) - 1) h6 K := by
    intro n
    induction n with
    | zero =>
      intro acc hn e _
      refine qMW _ _ _ _ _ ?_
      unfold qJa
      refine Br.no (by decide) (Ret.mk ?_)
      have : acc = x := by rw [hx, e]; unfold sg; simp [dig]
      rw [this]; exact kk
    | succ n ih =>
      intro acc hn e hs
      refine qMW _ _ _ _ _ ?_
      unfold qJa
      rw [show (((n + 1 : Nat) : Int) - 1) = (n : Int) from by omega]
      refine Br.yes (decide_eq_true (by omega)) ⟨_, aa.cell rfl, ?_⟩
      have hlt : n < d1.length := by omega
      obtain ⟨b, o, ea, hc⟩ := r6.at hlt
      have gd := o1 _ (List.getElem_mem hlt)
      have et := qIK (l := d1) hlt
      have tn := qE8 (qIW o1 n)
      have hP : (0 : Int) < 10000 ^ n := Int.pow_pos (by decide)
      rw [Int.pow_succ, Int.mul_assoc] at e
      generalize hd : d1[n] = d at *
      generalize (10000 : Int) ^ n = P at *
      have hxs : x = sg n1 d1 := hx
      -- what is told stays within an amount's bounds
      refine Br.intro (fun e6 => ⟨_, _, _, aa.cell rfl, by omega, by omega, qB ea ⟨_, by rw [Int.toNat_natCast]; exact hc, ?_⟩⟩) (fun e6 => ⟨_, _, _, aa.cell rfl, by omega, by omega, qB ea ⟨_, by rw [Int.toNat_natCast]; exact hc, ?_⟩⟩)
      · subst e6
        have e7 : sg true (d1.take (n + 1)) = sg true (d1.take n) - P * d := by unfold sg; simp only [if_true]; omega
        rw [e7] at e
        have e8 : P * (10000 * acc - d) = P * (10000 * acc) - P * d := Int.mul_sub _ _ _
        have e9 : sg true d1 = P * (10000 * acc - d) + sg true (d1.take n) := by omega
        have e10 : sg true (d1.take n) = -dig (d1.take n) := rfl
        have tl := qII o1 n
        have hacc : acc ≤ 0 := by
          rcases hs with h | h
          · omega
          · have : acc < 0 := by simpa using h.symm
            omega
        have hb1 : -9223372036854775808 ≤ 10000 * acc - d := by
          refine Classical.byContradiction fun hh => ?_
          have h2 : 10000 * acc - d ≤ -9223372036854775809 := by omega
          have h3 : P * (10000 * acc - d) ≤ 1 * (10000 * acc - d) := by
            have := Int.mul_le_mul_of_nonneg_right (show (1 : Int) ≤ P by omega) (show 0 ≤ -(10000 * acc - d) by omega)
            rw [Int.mul_neg, Int.mul_neg] at this
            omega
          omega
        have w1 : IntKind.wrap .i64 (IntKind.wrap .i64 (10000 * acc) - d) = 10000 * acc - d := by
          rw [qK (n := 10000 * acc) (by omega) (by omega), qK (by omega) (by omega)]
        rw [w1, qK (n := (n : Int) - 1) (by omega) (by omega)]
        refine ih _ (by omega) e9 ?_
        by_cases h0 : 10000 * acc - d = 0
        · exact .inl h0
        · exact .inr (by simp; omega)
      · subst e6
        have e7 : sg false (d1.take (n + 1)) = sg false (d1.take n) + P * d := by unfold sg; simp only [Bool.false_eq_true, if_false]; omega
        rw [e7] at e
        have e8 : P * (10000 * acc + d) = P * (10000 * acc) + P * d := Int.mul_add _ _ _
        have e9 : sg false d1 = P * (10000 * acc + d) + sg false (d1.take n) := by omega
        have e10 : sg false (d1.take n) = dig (d1.take n) := rfl
        have hacc : 0 ≤ acc := by
          rcases hs with h | h
          · omega
          · simpa using h.symm
        have hb1 : 10000 * acc + d ≤ 9223372036854775807 := by
          refine Classical.byContradiction fun hh => ?_
          have h3 : 1 * (10000 * acc + d) ≤ P * (10000 * acc + d) := Int.mul_le_mul_of_nonneg_right (by omega) (by omega)
          omega
        have w1 : IntKind.wrap .i64 (IntKind.wrap .i64 (10000 * acc) + d) = 10000 * acc + d := by
          rw [qK (n := 10000 * acc) (by omega) (by omega), qK (by omega) (by omega)]
        rw [w1, qK (n := (n : Int) - 1) (by omega) (by omega)]
        refine ih _ (by omega) e9 ?_
        by_cases h0 : 10000 * acc + d = 0
        · exact .inl h0
        · exact .inr (by simp; omega)
  have lb := lb1
  rw [qK (by omega) (by omega)]
  exact loop d1.length 0 (Nat.le_refl _) (by rw [List.take_length]; simp) (.inl rfl)
end Go.Proofs.YtjihfieahkbohaaGreat

/- The reference's sum of many amounts, all at once and step by step. -/
namespace Go.Proofs.YtjihfieahkbohaaGreat
open Go Go.Sy Go.Value
set_option linter.unusedVariables false
set_option linter.unusedSimpArgs false

theorem qR8 {h : Heap} {q : Option Addr} {l : List Int} {b : Nat} {x : Bool} {p : Option Addr} {n c : Nat} {ws : List Value} (r : Ints .i64 h q l) (a : At h b [.bool x, slice p n c]) : Ints .i64 (h.setN b 0 ws) q l := by
  by_cases hl : l = []
  · subst hl; exact .inl rfl
  have hq := qNb r a hl
  rcases r with r | ⟨b', o, e, r⟩
  · exact .inl r
  · refine .inr ⟨b', o, e, fun j hj => ?_⟩
    have := r j hj
    unfold Heap.cell at this ⊢
    rw [qEK (fun e2 => hq o (by rw [e, e2]))]
    exact this
end Go.Proofs.YtjihfieahkbohaaGreat

/- Who is behind, as the reference tells it. -/
namespace Go.Proofs.YtjihfieahkbohaaGreat
open Go Go.Sy Go.Value
set_option linter.unusedVariables false
set_option linter.unusedSimpArgs false

theorem qVh {h : Heap} {s c b : Nat} {neg : Bool} {p : Option Addr} {ds : List Int} {n x : Int} (hn : I64 n) (ss : At h s [.bool neg, slice p ds.length c]) (rd : Ints .i64 h p ds) (ok : okD ds) (e : sg neg ds = x) (hc : ds.length ≤ c) (hb : ds.length ≤ b) (hb2 : 5 ≤ b) (hb3 : b ≤ 100000) {J : Heap → Prop}
    (k : ∀ h2 neg' p' c' ds', h.le h2 → At (h2.setN s 0 [.bool neg', slice p' (List.length ds') c']) s [.bool neg', slice p' ds'.length c'] → Ints .i64 (h2.setN s 0 [.bool neg', slice p' ds'.length c']) p' ds' → okD ds' → sg neg' ds' = x + n → ds'.length ≤ c' → ds'.length ≤ b + 1 → J (h2.setN s 0 [.bool neg', slice p' ds'.length c'])) :
    CallA Tryz.prog qDV [.int .i64 n] h fun (v : Value) (h_1 : Heap) => ∃ (b_2 : Bool), ∃ (a_1 : Option Addr), ∃ (n_2 : Nat), ∃ (m_2 : Nat), v = agg #[Value.bool b_2, slice a_1 n_2 m_2] ∧ (Heap.le h h_1 ∨ qDz [s] h h_1) ∧
      CallA Tryz.prog qCR [agg #[Value.bool neg, slice p ds.length c], agg #[Value.bool b_2, slice a_1 n_2 m_2]] h_1 fun (v : Value) (h : Heap) => ∃ (b_3 : Bool), ∃ (a : Option Addr), ∃ (n : Nat), ∃ (m_3 : Nat), v = agg #[Value.bool b_3, slice a n m_3] ∧ Heap.canSt h s 0 2 ∧ J (Heap.setN h s 0 [Value.bool b_3, slice a n m_3]) := by
  refine qWB hn fun v1 h1 l1 bn1 => ?_
  have br1 := bn1.raw
  obtain ⟨n1, p1, c1, d1, rfl, r1, o1, x1, lc1, lb1, _⟩ := bn1
  refine ⟨_, _, _, _, rfl, .inl l1, ?_⟩
  refine qQk (x := sg neg ds) (na := b) (B := b) ⟨neg, p, c, ds, rfl, rd.le l1, ok, rfl, hc, hb⟩ br1 (by omega) (by omega) (by omega) fun v2 h2 l2 bn2 => ?_
  obtain ⟨n2, p2, c2, d2, rfl, r2, o2, x2, lc2, lb2, _⟩ := bn2
  have ss2 := ss.le (Heap.le_trans l1 l2)
  refine ⟨_, _, _, _, rfl, ss2.canSt (by simp), ?_⟩
  have ss3 := ss2.set (o := 0) (ws := [.bool n2, slice p2 d2.length c2])
  exact k h2 n2 p2 c2 d2 (Heap.le_trans l1 l2) ss3 (qR8 r2 ss2) o2 (by rw [← x2, e]) lc2 lb2
section
variable {g : Heap} {K : Value → Heap → Prop} {q pp : Option Addr} {D : List Du} {PL : List NRow} {dc pc : Nat} {now : Int} {mo wi : Nat}
end
section
variable {h : Heap} {K : Value → Heap → Prop} {q pp : Option Addr} {D : List Du} {PL : List NRow} {dc pc : Nat} {now : Int}
end
end Go.Proofs.YtjihfieahkbohaaGreat

/- Members' nets, as the reference tells them. -/
namespace Go.Proofs.YtjihfieahkbohaaGreat
open Go Go.Sy Go.Value
set_option linter.unusedVariables false
set_option linter.unusedSimpArgs false

def BigB (h : Heap) (s : Nat) (x : Int) (b : Nat) : Prop := ∃ neg p c ds, At h s [.bool neg, slice p (List.length ds) c] ∧ Ints .i64 h p ds ∧ okD ds ∧ sg neg ds = x ∧ ds.length ≤ c ∧ ds.length ≤ b
theorem BigB.le {h h' : Heap} {s b : Nat} {x : Int} (B : BigB h s x b) (l : h.le h') : BigB h' s x b := by
  obtain ⟨neg, p, c, ds, a, r, q⟩ := B
  exact ⟨neg, p, c, ds, a.le l, r.le l, q⟩
theorem BigB.more {h : Heap} {s b b' : Nat} {x : Int} (B : BigB h s x b) (l : b ≤ b') : BigB h s x b' := by
  obtain ⟨neg, p, c, ds, a, r, q1, q2, q3, q4⟩ := B
  exact ⟨neg, p, c, ds, a, r, q1, q2, q3, Nat.le_trans q4 l⟩
theorem BigB.ne {h : Heap} {s b r : Nat} {x : Int} (B : BigB h s x b) (e : h r = none) : s ≠ r := by
  obtain ⟨neg, p, c, ds, a, _⟩ := B
  exact a.ne e
def Fr (s : Nat) (h h' : Heap) : Prop := ∃ h2, h.le h2 ∧ (h' = h2 ∨ ∃ ws, h' = h2.setN s 0 ws)
theorem Fr.at {s b : Nat} {h h' : Heap} {xs : List Value} (A : At h b xs) (hne : b ≠ s) (F : Fr s h h') : At h' b xs := by
  obtain ⟨h2, l, rfl | ⟨ws, rfl⟩⟩ := F
  · exact A.le l
  · exact (A.le l).set_ne hne
theorem Fr.own {s c : Nat} {g h h' : Heap} {z vs : List Value} {p : Option Addr} (O : OwnL g h z p c vs) (hne : p ≠ some ⟨s, 0, none⟩) (F : Fr s h h') : OwnL g h' z p c vs := by
  obtain ⟨h2, l, rfl | ⟨ws, rfl⟩⟩ := F
  · exact O.le l
  · exact (O.le l).set_ne hne
theorem Fr.le {s : Nat} {g h h' : Heap} (l : g.le h) (hg : g s = none) (F : Fr s h h') : g.le h' := by
  obtain ⟨h2, l2, rfl | ⟨ws, rfl⟩⟩ := F
  · exact Heap.le_trans l l2
  · exact qAf (Heap.le_trans l l2) hg
theorem qPg {H : Heap} {s db b FC FM FV : Nat} {x u v w c m : Int} {d : Dl} {sf : Int → Int} (Dx : At H db (dV d)) (Bx : BigB H s x b) (h1 : (dV d)[FC]? = some (.int .i64 u)) (h2 : (dV d)[FM]? = some (.int .i64 v)) (h3 : (dV d)[FV]? = some (.int .i64 w)) (hw : I64 (sf w)) (hb2 : 5 ≤ b) (hb3 : b ≤ 100000) {J : Heap → Prop}
    (k : ∀ H', Fr s H H' → BigB H' s (x + if u = c ∧ v = m then sf w else 0) (b + 1) → J H') :
    ∃ (n : Int), Heap.cell H db FC = some (int IntKind.i64 n) ∧ Br (n == c) (∃ (n : Int), Heap.cell H db FM = some (int IntKind.i64 n) ∧ Br (n == m) (∃ (b_1 : Bool), Heap.cell H s 0 = some (Value.bool b_1) ∧ ∃ (a : Option Addr), ∃ (n : Nat), ∃ (m_1 : Nat), Heap.cell H s 1 = some (slice a n m_1) ∧ ∃ (n_1 : Int), Heap.cell H db FV = some (int IntKind.i64 n_1) ∧
      CallA Tryz.prog qDV [int IntKind.i64 (sf n_1)] H fun (v : Value) (h_1 : Heap) => ∃ (b_2 : Bool), ∃ (a_1 : Option Addr), ∃ (n_2 : Nat), ∃ (m_2 : Nat), v = agg #[Value.bool b_2, slice a_1 n_2 m_2] ∧ (Heap.le H h_1 ∨ qDz [s] H h_1) ∧
        CallA Tryz.prog qCR [agg #[Value.bool b_1, slice a n m_1], agg #[Value.bool b_2, slice a_1 n_2 m_2]] h_1 fun (v : Value) (h : Heap) => ∃ (b_3 : Bool), ∃ (a : Option Addr), ∃ (n : Nat), ∃ (m_3 : Nat), v = agg #[Value.bool b_3, slice a n m_3] ∧ Heap.canSt h s 0 2 ∧ J (Heap.setN h s 0 [Value.bool b_3, slice a n m_3])) (J H)) (J H) := by
  have no : ¬ (u = c ∧ v = m) → J H := fun hn => k H ⟨H, H.le_refl, .inl rfl⟩ (by rw [if_neg hn, Int.add_zero]; exact Bx.more (by omega))
  refine ⟨_, Dx.cell h1, Br.intro (fun g1 => ⟨_, Dx.cell h2, Br.intro (fun g2 => ?_) fun g2 => no ?_⟩) fun g1 => no ?_⟩
  · have g1 : u = c := by simpa using g1
    have g2 : v = m := by simpa using g2
    rw [if_pos ⟨g1, g2⟩] at k
    obtain ⟨neg, p, cp, ds, ss, rd, ok, e, q1, q2⟩ := Bx
    refine ⟨_, ss.cell rfl, _, _, _, ss.cell rfl, _, Dx.cell h3, ?_⟩
    exact qVh (J := J) (b := b) (n := sf w) hw ss rd ok e q1 q2 hb2 hb3 fun h2 neg' p' c' ds' l2 ss' rd' ok' e' h1' h2' => k _ ⟨h2, l2, .inr ⟨_, rfl⟩⟩ ⟨neg', p', c', ds', ss', rd', ok', e', h1', h2'⟩
  · have g2 : ¬ v = m := by simpa using g2
    exact fun e => g2 e.2
  · have g1 : ¬ u = c := by simpa using g1
    exact fun e => g1 e.1
theorem qW0 (x : En) {o : Nat} (ho : o < 7) : (rV x)[o]? = (dV x.d)[o]? := by
  rw [show rV x = dV x.d ++ [.int .i64 x.st, .bool (byA x), .bool (byB x), .int .i64 x.ord] from rfl, List.getElem?_append_left ho]
section
variable {g G : Heap} {K : Value → Heap → Prop} {q : Nat} {S : Bk} {lp op : Option Addr} {c0 oc on : Nat} {n w : Nat}
theorem qZa (B : RBk G q S lp c0) (ok : S.Ok) {m c s : Nat} (hs : G s = none) {row : List Int} {rp : Option Addr} {rc : Nat} (hrp : rp ≠ some ⟨s, 0, none⟩) (hrow : row.length ≤ 1000) (hc : c ≤ 1000)
    (k3 : ¬ I64 (qFY S.L m c) → ∀ h', G.le h' → K (tuple #[slice none 0 0, .int .i64 3]) h')
    (k : I64 (qFY S.L m c) → ∀ h' rp' rc', G.le h' → OwnL G h' [.int .i64 0] rp' rc' (qf .i64 (row ++ [qFY S.L m c])) → qG0 (some ⟨q, 0, none⟩) n w op on oc m rp' (row ++ [qFY S.L m c]).length rc' ((c + 1 : Nat) : Int) h' K) :
    ∀ (a j : Nat) (h : Heap), a + j = S.L.length → G.le h → BigB h s (qFY (S.L.take j) m c) (5 + 4 * j) → OwnL G h [.int .i64 0] rp rc (qf .i64 row) →
      qIL (some ⟨q, 0, none⟩) n w op on oc m rp row.length rc c s j h K := by
  have hn := ok.n
  intro a
  induction a with
  | zero =>
    intro j h hj l Bx O
    refine qMb _ _ _ _ _ _ _ _ _ _ _ _ _ _ _ ?_
    unfold qJe
    rw [List.take_of_length_le (by omega)] at Bx
    obtain ⟨neg, p, cp, ds, ss, rd, okd, e, h1, h2⟩ := Bx
    refine qB rfl ⟨_, _, _, (B.le l).ap.cell rfl, Br.no (by simp; omega) ⟨_, ss.cell rfl, _, _, _, ss.cell rfl, qY3 (x := qFY S.L m c) (na := 5 + 4 * j) ⟨neg, p, cp, ds, rfl, rd, okd, e.symm, h1, h2⟩ (by omega) fun h3 l3 => ⟨_, _, rfl, ?_⟩⟩⟩
    have l03 := Heap.le_trans l l3
    by_cases hov : I64 (qFY S.L m c)
    · rw [qIG hov]
      refine Br.no rfl (qJi (ws := [.int .i64 (qFY S.L m c)]) (O.le l3) (by decide) l03 (by omega) rfl rfl (by rw [qw, List.length_singleton, Nat.mul_one]) fun r5 h5 p' c' h' hr5 l5 l' O' keep how => ?_)
      rw [w1 (j := c) (by omega)]
      have := k hov h' p' c' l' (by rw [qDY]; exact O')
      rw [List.length_append] at this
      exact this
    · rw [qGI hov]
      exact Br.yes rfl (Ret.mk (k3 hov h3 l03))
  | succ a ih =>
    intro j h hj l Bx O
    refine qMb _ _ _ _ _ _ _ _ _ _ _ _ _ _ _ ?_
    unfold qJe
    have hx : S.L[j]? = some S.L[j] := List.getElem?_eq_getElem (by omega)
    have hxm : S.L[j] ∈ S.L := List.getElem_mem _
    generalize S.L[j] = x at *
    have sn := qVT (m := m) (c := c) hx
    have may := ok.may x hxm
    have i64 := ok.i64 x hxm
    unfold qHP at may
    have Bk := B.le l
    refine qB rfl ⟨_, _, _, Bk.ap.cell rfl, Br.yes (by simp; omega) (qB rfl ⟨_, _, _, Bk.ap.cell rfl, ax qEW Bk.arr rfl rfl hx (by decide) fun b o _ hc1 => ldD (x := x.d) (fun o ho => (hc1 o (by omega)).trans (qW0 x ho)) ?_⟩)⟩
    refine qGU (vs := dV x.d) rfl fun r h4 hr l4 A4 cs4 => ⟨cs4, ?_⟩
    have l04 := Heap.le_trans l l4
    have Bk4 := B.le l04
    have O4 := O.le l4
    have rs : r ≠ s := Ne.symm (Bx.ne hr)
    have B4 := Bx.le l4
    have fin : ∀ H', G.le H' → OwnL G H' [.int .i64 0] rp rc (qf .i64 row) → BigB H' s (qFY (S.L.take (j + 1)) m c) (5 + 4 * (j + 1)) → qC7 (some ⟨q, 0, none⟩) n w op on oc m rp row.length rc c s j H' K := fun H' l' O' B' => by
      refine qOm _ _ _ _ _ _ _ _ _ _ _ _ _ _ _ ?_
      unfold qKf
      rw [w1 (j := j) (by omega)]
      exact ih (j + 1) H' (by omega) l' B' O'
    refine qB rfl ⟨_, _, _, Bk4.ap.cell rfl, ax qEW Bk4.arr rfl rfl hx (by decide) fun b o _ hc2 => ⟨_, hc2 7 (by decide), Br.intro (fun g => ?_) fun g => ?_⟩⟩
    · have g : x.st ≠ 2 := by simpa using g
      refine fin _ l04 O4 (by rw [sn, show vEn x m c = 0 by unfold vEn; rw [if_neg g], Int.add_zero]; exact B4.more (by omega))
    have g : x.st = 2 := by simpa using g
    have ev : vEn x m c = wD x.d m c := by unfold vEn; rw [if_pos g]
    rw [qZN] at ev
    have n1 : IntKind.wrap .i64 (0 - x.d.sell) = -x.d.sell := by rw [qK (by omega) (by omega)]; omega
    have n2 : IntKind.wrap .i64 (0 - x.d.buy) = -x.d.buy := by rw [qK (by omega) (by omega)]; omega
    refine qPg (sf := fun z => IntKind.wrap .i64 (0 - z)) (J := fun h => qFk (some ⟨q, 0, none⟩) n w op on oc m rp row.length rc c s j r h K) (w := x.d.sell) (b := 5 + 4 * j) A4 B4 rfl rfl rfl (by rw [n1]; unfold I64; omega) (by omega) (by omega) fun H1 F1 B1 => ?_
    have lA := Fr.le l04 hs F1
    have OA := Fr.own O4 hrp F1
    have AA := Fr.at A4 rs F1
    refine qOg _ _ _ _ _ _ _ _ _ _ _ _ _ _ _ _ ?_
    unfold qKc
    refine qPg (sf := fun z => z) (J := fun h => qFj (some ⟨q, 0, none⟩) n w op on oc m rp row.length rc c s j r h K) (w := x.d.sell) (b := 5 + 4 * j + 1) AA B1 rfl rfl rfl (by unfold I64; omega) (by omega) (by omega) fun H2 F2 B2 => ?_
    have lB := Fr.le lA hs F2
    have OB := Fr.own OA hrp F2
    have AB := Fr.at AA rs F2
    refine qOh _ _ _ _ _ _ _ _ _ _ _ _ _ _ _ _ ?_
    unfold qKj
    refine qPg (sf := fun z => z) (J := fun h => qFW (some ⟨q, 0, none⟩) n w op on oc m rp row.length rc c s j r h K) (w := x.d.buy) (b := 5 + 4 * j + 1 + 1) AB B2 rfl rfl rfl (by unfold I64; omega) (by omega) (by omega) fun H3 F3 B3 => ?_
    have lC := Fr.le lB hs F3
    have OC := Fr.own OB hrp F3
    have AC := Fr.at AB rs F3
    refine qOk _ _ _ _ _ _ _ _ _ _ _ _ _ _ _ _ ?_
    unfold qKa
    refine qPg (sf := fun z => IntKind.wrap .i64 (0 - z)) (J := fun h => qC7 (some ⟨q, 0, none⟩) n w op on oc m rp row.length rc c s j h K) (w := x.d.buy) (b := 5 + 4 * j + 1 + 1 + 1) AC B3 rfl rfl rfl (by rw [n2]; unfold I64; omega) (by omega) (by omega) fun H4 F4 B4 => ?_
    refine fin H4 (Fr.le lC hs F4) (Fr.own OC hrp F4) ?_
    rw [n1, n2] at B4
    rw [sn, ev]
    simp only [← Int.add_assoc]
    exact B4
theorem qZY (B : RBk G q S lp c0) (ok : S.Ok) {m : Nat} {Q : List NRow} {pp : Option Addr} {pc : Nat} (P : Pd g G pp pc Q) (lg : g.le G) (hQ : Q.length ≤ 1000) (hm : m ≤ 1000) (hw : w ≤ 8)
    (k3 : ∀ c, c < w → ¬ I64 (qFY S.L m c) → ∀ h', g.le h' → K (tuple #[slice none 0 0, .int .i64 3]) h')
    (k : (∀ c, c < w → I64 (qFY S.L m c)) → ∀ h' pp' pc' Q', g.le h' → Pd g h' pp' pc' Q' → mxN Q' = mxN Q ++ [qJd S.L w m] → qFw (some ⟨q, 0, none⟩) n w pp' Q'.length pc' ((m + 1 : Nat) : Int) h' K) :
    ∀ (a c : Nat) (h : Heap) (rp : Option Addr) (rc : Nat), a + c = w → G.le h → (∀ c', c' < c → I64 (qFY S.L m c')) → OwnL G h [.int .i64 0] rp rc (qf .i64 (qJd S.L c m)) →
      qG0 (some ⟨q, 0, none⟩) n w pp Q.length pc m rp (qJd S.L c m).length rc c h K := by
  have rl : ∀ c, (qJd S.L c m).length = c := fun c => by unfold qJd; rw [List.length_map, List.length_range]
  intro a
  induction a with
  | zero =>
    intro c h rp rc hc l hs O
    refine qMD _ _ _ _ _ _ _ _ _ _ _ _ _ ?_
    unfold qJL
    have hc : c = w := by omega
    subst hc
    refine Br.no (decide_eq_false (by omega)) (P.push lg l O hQ fun h' pp' pc' l' P' => ?_)
    rw [w1 (j := m) (by omega)]
    have := k hs h' pp' pc' _ l' P' (by unfold mxN; rw [List.map_append]; rfl)
    rw [List.length_append] at this
    exact this
  | succ a ih =>
    intro c h rp rc hc l hs O
    refine qMD _ _ _ _ _ _ _ _ _ _ _ _ _ ?_
    unfold qJL
    have e : qJd S.L (c + 1) m = qJd S.L c m ++ [qFY S.L m c] := by unfold qJd; rw [List.range_succ, List.map_append]; rfl
    refine Br.yes (decide_eq_true (by omega)) (qGU (vs := [.bool false, slice none 0 0]) rfl fun r h4 hr l4 A4 cs4 => ⟨cs4, ?_⟩)
    refine qZa (G := G) B ok (qAk l hr) (fun e => O.fresh hr e) (by rw [rl]; omega) (by omega) (fun hov h' l' => k3 c (by omega) hov h' (Heap.le_trans lg l')) (fun hI h' rp' rc' l' O' => ?_) S.L.length 0 _ (by omega) (Heap.le_trans l l4) ⟨false, none, 0, [], A4, .inl rfl, (fun d hd => by cases hd), rfl, Nat.le_refl _, by simp⟩ (O.le l4)
    rw [← e] at O' ⊢
    exact ih (c + 1) h' rp' rc' (by omega) l' (fun c' hc' => by
      by_cases h : c' = c
      · rw [h]; exact hI
      · exact hs c' (by omega)) O'
theorem qZf (B : RBk g q S lp c0) (ok : S.Ok) (hn : n ≤ 16) (hw : w ≤ 8)
    (k3 : ∀ m c, m < n → c < w → ¬ I64 (qFY S.L m c) → ∀ h', g.le h' → K (tuple #[slice none 0 0, .int .i64 3]) h')
    (k : (∀ m, m < n → ∀ c, c < w → I64 (qFY S.L m c)) → ∀ h' pp pc Q, g.le h' → Nets h' pp Q → mxN Q = (List.range n).map (qJd S.L w) → K (tuple #[slice pp Q.length pc, .int .i64 0]) h') :
    ∀ (a m : Nat) (h : Heap) (pp : Option Addr) (pc : Nat) (Q : List NRow), a + m = n → g.le h → Pd g h pp pc Q → mxN Q = (List.range m).map (qJd S.L w) → (∀ m', m' < m → ∀ c, c < w → I64 (qFY S.L m' c)) →
      qFw (some ⟨q, 0, none⟩) n w pp Q.length pc m h K := by
  intro a
  induction a with
  | zero =>
    intro m h pp pc Q hm l P e hs
    refine qMa _ _ _ _ _ _ _ _ _ ?_
    unfold qJc
    have hm : m = n := by omega
    subst hm
    exact Br.no (decide_eq_false (by omega)) (Ret.mk (k hs h pp pc Q l P.nets e))
  | succ a ih =>
    intro m h pp pc Q hm l P e hs
    refine qMa _ _ _ _ _ _ _ _ _ ?_
    unfold qJc
    have hQ : Q.length = m := by
      have := congrArg List.length e
      unfold mxN at this
      rw [List.length_map, List.length_map, List.length_range] at this
      exact this
    refine Br.yes (decide_eq_true (by omega)) ?_
    intro r hr
    have lr := @qt h r (.cells [].toArray 2 (0, 0)) hr
    refine qZY (G := h) (B.le l) ok P l (by omega) (by omega) hw (fun c hc hov h' l' => k3 m c (by omega) hc hov h' l') (fun hI h' pp' pc' Q' l' P' e' => ?_) w 0 _ (some ⟨r, 0, none⟩) 0 (by omega) (qt hr) (fun c' hc' => absurd hc' (by omega)) (qQL (T := 2) (z := [.int .i64 0]) hr)
    exact ih (m + 1) h' pp' pc' Q' (by omega) l' P' (by rw [e', e, List.range_succ, List.map_append]; rfl) (fun m' hm' => by
      by_cases h : m' = m
      · rw [h]; exact hI
      · exact hs m' (by omega))
theorem qZV (B : RBk g q S lp c0) (ok : S.Ok) {ms cs : Int} (k1 : qLz S.L ms cs = false → ∀ h', g.le h' → K (tuple #[slice none 0 0, .int .i64 1]) h')
    (k : qLz S.L ms cs = true → ∀ h', g.le h' → qO h' [] 50 fun (r : Nat) (h : Heap) => qFw (some ⟨q, 0, none⟩) ms cs (some ⟨r, 0, none⟩) 0 0 0 h K) :
    ∀ (a j : Nat) (h : Heap), a + j = S.L.length → g.le h → qLz (S.L.take j) ms cs = true → qGy (some ⟨q, 0, none⟩) ms cs j h K := by
  have hn := ok.n
  intro a
  induction a with
  | zero =>
    intro j h hj l hs
    refine qMT _ _ _ _ _ _ ?_
    unfold qJK
    rw [List.take_of_length_le (by omega)] at hs
    exact qB rfl ⟨_, _, _, (B.le l).ap.cell rfl, Br.no (by simp; omega) (k hs h l)⟩
  | succ a ih =>
    intro j h hj l hs
    refine qMT _ _ _ _ _ _ ?_
    unfold qJK
    have hx : S.L[j]? = some S.L[j] := List.getElem?_eq_getElem (by omega)
    have hxm : S.L[j] ∈ S.L := List.getElem_mem _
    generalize S.L[j] = x at *
    have sn := qUT (ms := ms) (cs := cs) hx
    rw [hs, Bool.true_and] at sn
    have Bk := B.le l
    refine qB rfl ⟨_, _, _, Bk.ap.cell rfl, Br.yes (by simp; omega) (qB rfl ⟨_, _, _, Bk.ap.cell rfl, ax qEW Bk.arr rfl rfl hx (by decide) fun b o _ hc1 => ldD (x := x.d) (fun o ho => (hc1 o (by omega)).trans (qW0 x ho)) ?_⟩)⟩
    refine qGU (vs := dV x.d) rfl fun r h4 hr l4 A4 cs4 => ⟨cs4, ?_⟩
    have l04 := Heap.le_trans l l4
    have Bk4 := B.le l04
    rw [w1 (j := j) (by omega)]
    refine qB rfl ⟨_, _, _, Bk4.ap.cell rfl, ax qEW Bk4.arr rfl rfl hx (by decide) fun b o _ hc2 => ⟨_, hc2 7 (by decide), Br.intro (fun g => ?_) fun g => ?_⟩⟩
    · have g2 : x.st = 2 := by simpa using g
      clear g
      have bad : ¬ (x.d.a < ms ∧ x.d.b < ms ∧ x.d.sc < cs ∧ x.d.bc < cs) → ∀ H, g.le H → Ret H K (tuple #[slice none 0 0, .int .i64 1]) := fun hb H lH => Ret.mk (k1 (by
        unfold qLz
        rw [List.all_eq_false]
        refine ⟨x, List.mem_filter.2 ⟨hxm, decide_eq_true g2⟩, ?_⟩
        unfold inD
        rw [decide_eq_true_eq]
        exact hb) H lH)
      refine ⟨_, A4.cell rfl, Br.dec (fun g1 => bad (by omega) _ l04) fun g1 => ⟨_, A4.cell rfl, Br.dec (fun g2 => bad (by omega) _ l04) fun g2 => ⟨_, A4.cell rfl, Br.dec (fun g3 => bad (by omega) _ l04) fun g3 => ⟨_, A4.cell rfl, Br.dec (fun g4 => bad (by omega) _ l04) fun g4 => ?_⟩⟩⟩⟩
      refine ih (j + 1) _ (by omega) l04 ?_
      rw [sn]
      unfold inD
      rw [decide_eq_true (show x.d.a < ms ∧ x.d.b < ms ∧ x.d.sc < cs ∧ x.d.bc < cs by omega), Bool.or_true]
    · have g : x.st ≠ 2 := by simpa using g
      exact ih (j + 1) _ (by omega) l04 (by rw [sn, decide_eq_true g, Bool.true_or])
theorem qYg {h : Heap} (R : RB h q S) {ms cs : Int} (k : ∀ h' p L c, h.le h' → Nets h' p L → mxN L = (qIm S ms cs).1 → K (tuple #[slice p L.length c, .int .i64 (qIm S ms cs).2]) h') :
    CallA Tryz.prog qLL [pointer (some ⟨q, 0, none⟩), .int .i64 ms, .int .i64 cs] h K := by
  obtain ⟨ok, lp, c0, B⟩ := R
  refine qSc _ _ _ _ _ ?_
  unfold qNU
  have bad : ¬ (1 ≤ ms ∧ ms ≤ 16 ∧ 1 ≤ cs ∧ cs ≤ 8) → Ret h K (tuple #[slice none 0 0, .int .i64 1]) := fun hb => Ret.mk (by
    unfold qIm at k
    rw [if_pos hb] at k
    exact k h none [] 0 h.le_refl ⟨.inl rfl, fun x hx => by cases hx⟩ rfl)
  refine Br.dec (fun g => bad (by omega)) fun g1 => Br.dec (fun g => bad (by omega)) fun g2 => Br.dec (fun g => bad (by omega)) fun g3 => Br.dec (fun g => bad (by omega)) fun g4 => ?_
  obtain ⟨n, rfl⟩ : ∃ n : Nat, ms = (n : Int) := ⟨ms.toNat, by omega⟩
  obtain ⟨w, rfl⟩ : ∃ w : Nat, cs = (w : Int) := ⟨cs.toNat, by omega⟩
  rw [qVb ok n w (by omega) (by omega)] at k
  refine qZV (g := h) B ok (fun hb h' l' => ?_) (fun hb h' l' => ?_) S.L.length 0 h (by omega) h.le_refl rfl
  · rw [if_pos hb] at k
    exact k h' none [] 0 l' ⟨.inl rfl, fun x hx => by cases hx⟩ rfl
  rw [if_neg (by rw [hb]; decide)] at k
  intro r hr
  refine qZf (g := h) B ok (by omega) (by omega) (fun m c hm hc hov h3 l3 => ?_) (fun hI h3 pp pc Q l3 N e => ?_) n 0 _ (some ⟨r, 0, none⟩) 0 [] (by omega) (Heap.le_trans l' (qt hr)) ?_ rfl (fun m' hm' => absurd hm' (by omega))
  · rw [if_pos (Bool.eq_false_iff.2 fun x => hov (qRu.1 x m hm c hc))] at k
    exact k h3 none [] 0 l3 ⟨.inl rfl, fun x hx => by cases hx⟩ rfl
  · rw [if_neg (by rw [qRu.2 hI]; decide)] at k
    exact k h3 pp Q pc l3 N e
  · exact ⟨.inr ⟨r, [], rfl, qAk l' hr, At.new h' r [] 50, by simp⟩, fun i x e => (by simp at e), fun i x b e => (by simp at e), fun i j x y b _ e => (by simp at e)⟩
end
end Go.Proofs.YtjihfieahkbohaaGreat
