import Derived.Test.YtjihfieahkbohaaGreatM15
import Derived.Test.YtjihfieahkbohaaGreatM05
import Derived.Test.YtjihfieahkbohaaGreatM02
import Derived.Test.YtjihfieahkbohaaGreatM09
import Derived.Test.YtjihfieahkbohaaGreatM11
/- The reference's whole numbers of any size: parted, digit by digit. -/
namespace Go.Proofs.YtjihfieahkbohaaGreat
open Go Go.Sy Go.Value
set_option linter.unusedVariables false
set_option linter.unusedSimpArgs false

structure DivSt (h0 : Heap) (a b t6 rest q m : Nat) (na nb : Bool) (pa pb : Option Addr) (ca cb : Nat) (da db : List Int) (W : Nat) (qs : List Int) (R : Int) (h : Heap) : Prop where
  le : h0.le h
  aa : At h a [.bool na, slice pa da.length ca]
  ab : At h b [.bool nb, slice pb db.length cb]
  tt : At h t6 [.bool false, slice none 0 0]
  aq : At h q [.bool na, slice (some ⟨m, 0, none⟩) da.length da.length]
  am : At h m (qR .i64 qs)
  len : qs.length = da.length
  ok : okD qs
  rr : ∃ p c ds, At h rest [.bool false, slice p (List.length ds) c] ∧ Ints .i64 (h.del m) p ds ∧ okD ds ∧ dig ds = R ∧ ds.length ≤ c ∧ ds.length ≤ W ∧ (R = 0 → ds = [])
section
variable {h0 : Heap} {a b t6 rest q m : Nat} {na nb : Bool} {pa pb : Option Addr} {ca cb : Nat} {da db : List Int} {up : Bool}
theorem DivSt.grow {W : Nat} {qs : List Int} {R : Int} {h h' : Heap} (s : DivSt h0 a b t6 rest q m na nb pa pb ca cb da db W qs R h) (l : h.le h') : DivSt h0 a b t6 rest q m na nb pa pb ca cb da db W qs R h' := by
  obtain ⟨p, c, ds, x1, x2, x3⟩ := s.rr
  exact ⟨Heap.le_trans s.le l, s.aa.le l, s.ab.le l, s.tt.le l, s.aq.le l, s.am.le l, s.len, s.ok, p, c, ds, x1.le l, x2.le (qP1 l), x3⟩
theorem qXA (rb : Ints .i64 h0 pb db) (ob : okD db) (lb : db.length ≤ 100) (lcb : db.length ≤ cb) (hm0 : h0 m = none) (hr0 : h0 rest = none) (d1 : a ≠ m) (d2 : b ≠ m) (d3 : t6 ≠ m) (d4 : q ≠ m) (d5 : rest ≠ m) (e1 : a ≠ rest) (e2 : b ≠ rest) (e3 : t6 ≠ rest) (e4 : q ≠ rest)
    {W : Nat} (hW : W ≤ 100000) (hW2 : db.length + 6 ≤ W) {i : Nat} (hi : i < da.length) {K : Value → Heap → Prop} {qs : List Int} {R : Int} (hB : 0 < dig db)
    (k : ∀ low h', 1 ≤ low → low < 10000 → low * dig db ≤ R → R < (low + 1) * dig db → DivSt h0 a b t6 rest q m na nb pa pb ca cb da db (W + 1) (qs.set i low) (R - low * dig db) h' → qGP up a b t6 rest q (i : Int) h' K) :
    ∀ (f : Nat) (low high : Int) (h : Heap), 1 ≤ low → low < high → high ≤ 10000 → high - low ≤ (f : Int) + 1 → low * dig db ≤ R → R < high * dig db → DivSt h0 a b t6 rest q m na nb pa pb ca cb da db W qs R h →
      qGO up a b t6 rest q (i : Int) low high h K := by
  intro f
  induction f with
  | zero =>
    intro low high h l1 l2 l3 l4 r1 r2 s
    have hh : high = low + 1 := by omega
    subst hh
    refine qNJ _ _ _ _ _ _ _ _ _ _ _ ?_
    unfold qKX
    rw [qH (n := low + 1 - low) (by omega) (by omega)]
    refine Br.no (decide_eq_false (by omega)) ?_
    have hlen := s.len
    have cs : h.canSt m (0 + (i : Int).toNat) 1 := s.am.canSt (by rw [qd, Int.toNat_natCast]; omega)
    refine ⟨_, _, _, s.aq.cell rfl, by omega, by omega, qD rfl ⟨cs, ?_⟩⟩
    rw [Int.toNat_natCast, Nat.zero_add]
    have am2 := s.am.set (o := i) (ws := [int .i64 low])
    rw [qRx] at am2
    obtain ⟨p, c, ds, x1, x2, x3, x4, x5, x6, x7⟩ := s.rr
    have sl := qj (o := i) (ws := [int .i64 low]) s.le hm0
    have aa2 := s.aa.set_ne (o := i) (ws := [int .i64 low]) d1
    have ab2 := s.ab.set_ne (o := i) (ws := [int .i64 low]) d2
    have tt2 := s.tt.set_ne (o := i) (ws := [int .i64 low]) d3
    have aq2 := s.aq.set_ne (o := i) (ws := [int .i64 low]) d4
    have ar2 := x1.set_ne (o := i) (ws := [int .i64 low]) d5
    rw [← qUS (o := i) (ws := [int .i64 low])] at x2
    generalize h.setN m i [int .i64 low] = g at *
    refine ⟨_, ar2.cell rfl, _, _, _, ar2.cell rfl, _, _, _, ab2.cell rfl, ?_⟩
    refine CallA.off am2 (qLP ⟨by omega, by omega⟩ fun v1 g1 y1 bn1 => fun g1' z1 n1 k1 => ?_)
    have w1 := qK7 (Heap.le_trans y1 z1) k1
    have br1 := (bn1.le (qI5 z1 n1)).raw
    obtain ⟨u1, q1, c1, ds1, rfl, _⟩ := bn1
    refine ⟨_, _, _, _, rfl, .inl w1, ?_⟩
    have rbg := (rb.le (qI5 sl hm0))
    refine CallA.off (am2.le w1) (qMV (y := dig db) (nb := db.length) br1 ⟨false, pb, cb, db, rfl, rbg.le (qP1 w1), ob, rfl, lcb, Nat.le_refl _⟩ (by omega) fun v2 g2 y2 bn2 => fun g2' z2 n2 k2 => ?_)
    have w2 := qK7 (Heap.le_trans y2 z2) k2
    have br2 := (bn2.le (qI5 z2 n2)).raw
    obtain ⟨u2, q2, c2, ds2, rfl, _⟩ := bn2
    refine ⟨_, _, _, _, rfl, .inl w2, ?_⟩
    have w12 := Heap.le_trans w1 w2
    refine CallA.off (am2.le w12) (qQJ br2 (by omega) fun v3 g3 y3 bn3 => fun g3' z3 n3 k3 => ?_)
    have w3 := qK7 (Heap.le_trans y3 z3) k3
    have br3 := (bn3.le (qI5 z3 n3)).raw
    obtain ⟨u3, q3, c3, ds3, rfl, _⟩ := bn3
    refine ⟨_, _, _, _, rfl, .inl w3, ?_⟩
    have w13 := Heap.le_trans w12 w3
    refine CallA.off (am2.le w13) (qG5 (x := R) (na := W) (B := W) ⟨false, p, c, ds, rfl, x2.le (qP1 w13), x3, by rw [← x4]; rfl, x5, x6⟩ br3 (Nat.le_refl _) (by omega) (by omega) fun v4 g4 y4 bn4 => fun g4' z4 n4 k4 => ?_)
    have w4 := qK7 (Heap.le_trans y4 z4) k4
    have bn4' := bn4.le (qI5 z4 n4)
    obtain ⟨u4, q4, c4, ds4, rfl, r4, o4, v4, lc4, lb4, nz4⟩ := bn4'
    have w14 := Heap.le_trans w13 w4
    have ar3 := ar2.le w14
    have nn := qBb o4
    have hu : u4 = false := by
      cases u4 with
      | false => rfl
      | true =>
        have : sg true ds4 = -dig ds4 := rfl
        have z : dig ds4 = 0 := by omega
        exact (nz4 z).2
    subst hu
    refine ⟨_, _, _, _, rfl, ar3.canSt (by simp), ?_⟩
    have am4 := (am2.le w14).set_ne (o := 0) (ws := [.bool false, slice q4 ds4.length c4]) d5.symm
    refine k low _ l1 (by omega) r1 (by omega) ⟨qj (Heap.le_trans sl w14) hr0, (aa2.le w14).set_ne e1, (ab2.le w14).set_ne e2, (tt2.le w14).set_ne e3, (aq2.le w14).set_ne e4, am4, by rw [List.length_set]; exact s.len, qUJ s.ok _ (by omega) (by omega), q4, c4, ds4, ar3.set, ?_, o4, ?_, lc4, lb4, fun z => ?_⟩
    · rw [qSc d5]
      exact qH1 r4 (ar3.del d5)
    · have : sg false ds4 = dig ds4 := rfl
      omega
    · have : sg false ds4 = dig ds4 := rfl
      exact (nz4 (by omega)).1
  | succ f ih =>
    intro low high h l1 l2 l3 l4 r1 r2 s
    by_cases hgap : high - low ≤ 1
    · exact ih low high h l1 l2 l3 (by omega) r1 r2 s
    refine qNJ _ _ _ _ _ _ _ _ _ _ _ ?_
    unfold qKX
    rw [qH (n := high - low) (by omega) (by omega)]
    obtain ⟨p, c, ds, x1, x2, x3, x4, x5, x6, x7⟩ := s.rr
    refine Br.yes (decide_eq_true (by omega)) ⟨_, _, _, s.ab.cell rfl, _, x1.cell rfl, _, _, _, x1.cell rfl, ?_⟩
    have em : IntKind.wrap .i64 (Int.tdiv (IntKind.wrap .i64 (low + high)) 2) = (low + high) / 2 := by
      rw [qH (n := low + high) (by omega) (by omega), Int.tdiv_eq_ediv_of_nonneg (by omega), qH (by omega) (by omega)]
    rw [em]
    have m1 : low < (low + high) / 2 := by omega
    have m2 : (low + high) / 2 < high := by omega
    have m3 : (low + high) / 2 - low ≤ (f : Int) + 1 := by omega
    have m4 : high - (low + high) / 2 ≤ (f : Int) + 1 := by omega
    generalize (low + high) / 2 = mid at *
    refine qLP ⟨by omega, by omega⟩ fun v1 g1 y1 bn1 => ?_
    have br1 := bn1.raw
    obtain ⟨u1, q1, c1, ds1, rfl, _⟩ := bn1
    refine ⟨_, _, _, _, rfl, .inl y1, ?_⟩
    refine qMV (y := dig db) (nb := db.length) br1 ⟨false, pb, cb, db, rfl, rb.le (Heap.le_trans s.le y1), ob, rfl, lcb, Nat.le_refl _⟩ (by omega) fun v2 g2 y2 bn2 => ?_
    obtain ⟨u2, q2, c2, ds2, rfl, r22, o2, v2, lc2, lb2, nz2⟩ := bn2
    refine ⟨_, _, _, _, rfl, .inl y2, ?_⟩
    have y12 := Heap.le_trans y1 y2
    have x2' : Ints .i64 g2 p ds := (x2.le (qJo h m)).le y12
    have nn := qBb o2
    have hpos : 0 ≤ mid * dig db := Int.mul_nonneg (by omega) (by omega)
    have ed : dig ds2 = mid * dig db := by
      cases u2 with
      | false => exact v2.symm
      | true =>
        have : sg true ds2 = -dig ds2 := rfl
        omega
    refine qPw r22 x2' o2 x3 (by omega) (by omega) fun g3 y3 => ⟨_, rfl, ?_⟩
    have s3 := s.grow (Heap.le_trans y12 y3)
    rw [ed, x4]
    refine Br.dec (fun le => ?_) (fun nle => ?_)
    · have : mid * dig db ≤ R := by
        unfold qDp at le
        split at le
        · omega
        · omega
      exact ih mid high g3 (by omega) m2 l3 m4 this r2 s3
    · have : R < mid * dig db := by
        unfold qDp at nle
        split at nle
        · omega
        · split at nle <;> omega
      exact ih low mid g3 l1 m1 (by omega) m3 r1 this s3
theorem DivSt.more {W W' : Nat} {qs : List Int} {R : Int} {h : Heap} (s : DivSt h0 a b t6 rest q m na nb pa pb ca cb da db W qs R h) (l : W ≤ W') : DivSt h0 a b t6 rest q m na nb pa pb ca cb da db W' qs R h := by
  obtain ⟨p, c, ds, x1, x2, x3, x4, x5, x6, x7⟩ := s.rr
  exact ⟨s.le, s.aa, s.ab, s.tt, s.aq, s.am, s.len, s.ok, p, c, ds, x1, x2, x3, x4, x5, by omega, x7⟩
theorem qSW : ∀ {qs : List Int} {i : Nat}, qs.getD i 0 = 0 → qs.set i 0 = qs
  | [], _, _ => rfl
  | x :: l, 0, h => by simp at h; simp [h]
  | x :: l, i + 1, h => by simp only [List.getD_cons_succ] at h; rw [List.set_cons_succ, qSW h]
theorem qYl (rb : Ints .i64 h0 pb db) (ob : okD db) (lb : db.length ≤ 100) (lcb : db.length ≤ cb) (hm0 : h0 m = none) (hr0 : h0 rest = none) (d1 : a ≠ m) (d2 : b ≠ m) (d3 : t6 ≠ m) (d4 : q ≠ m) (d5 : rest ≠ m) (e1 : a ≠ rest) (e2 : b ≠ rest) (e3 : t6 ≠ rest) (e4 : q ≠ rest)
    {W : Nat} (hW : W ≤ 100000) (hW2 : db.length + 6 ≤ W) {i : Nat} (hi : i < da.length) (hda : da.length ≤ 1000) {K : Value → Heap → Prop} {qs : List Int} {R : Int} (hB : 0 < dig db) (h0R : 0 ≤ R) (hR : R < 10000 * dig db) (hz : qs.getD i 0 = 0)
    (k : ∀ low h', 0 ≤ low → low < 10000 → low * dig db ≤ R → R < (low + 1) * dig db → DivSt h0 a b t6 rest q m na nb pa pb ca cb da db (W + 1) (qs.set i low) (R - low * dig db) h' → qEA up a b t6 rest q ((i : Int) - 1) h' K)
    {h : Heap} (s : DivSt h0 a b t6 rest q m na nb pa pb ca cb da db W qs R h) : qGP up a b t6 rest q (i : Int) h K := by
  -- looking once more
  have look : ∀ (W' : Nat) (R' : Int) (qs' : List Int) (h : Heap), W' ≤ 100001 → DivSt h0 a b t6 rest q m na nb pa pb ca cb da db W' qs' R' h →
      (R' < dig db → ∀ h', h.le h' → qEA up a b t6 rest q ((i : Int) - 1) h' K) → (dig db ≤ R' → ∀ h', h.le h' → qGO up a b t6 rest q (i : Int) 1 10000 h' K) → qGP up a b t6 rest q (i : Int) h K := by
    intro W' R' qs' h hW' s c1 c2
    refine qRZ _ _ _ _ _ _ _ _ _ ?_
    unfold qNc
    obtain ⟨p, c, ds, x1, x2, x3, x4, x5, x6, x7⟩ := s.rr
    refine ⟨_, x1.cell rfl, _, _, _, x1.cell rfl, _, s.ab.cell rfl, _, _, _, s.ab.cell rfl, ?_⟩
    refine qPw (x2.le (qJo h m)) (rb.le s.le) x3 ob (by omega) (by omega) fun g y => ⟨_, rfl, ?_⟩
    rw [x4]
    refine Br.dec (fun ge => c2 ?_ g y) (fun nge => ?_)
    · unfold qDp at ge
      split at ge
      · omega
      · split at ge <;> omega
    · rw [qH (n := (i : Int) - 1) (by omega) (by omega)]
      refine c1 ?_ g y
      unfold qDp at nge
      split at nge
      · omega
      · split at nge <;> omega
  refine look W R qs h (by omega) s (fun lt h' l => ?_) (fun ge h' l => ?_)
  · refine k 0 h' (by omega) (by omega) (by omega) (by omega) ?_
    rw [qSW hz, Int.zero_mul, Int.sub_zero]
    exact (s.grow l).more (by omega)
  · refine qXA (up := up) rb ob lb lcb hm0 hr0 d1 d2 d3 d4 d5 e1 e2 e3 e4 hW hW2 hi hB (fun low h2 g1 g2 g3 g4 s2 => ?_) 10000 1 10000 h' (by omega) (by omega) (by omega) (by omega) (by omega) hR (s.grow l)
    rw [Int.add_mul, Int.one_mul] at g4
    refine look (W + 1) _ _ h2 (by omega) s2 (fun _ h3 l3 => k low h3 (by omega) g2 g3 (by rw [Int.add_mul, Int.one_mul]; exact g4) (s2.grow l3)) (fun ge2 => by omega)
theorem qTh {qs : List Int} {i j : Nat} {v : Int} (e : i ≠ j) : (qs.set i v).getD j 0 = qs.getD j 0 := by
  rw [List.getD_eq_getElem?_getD, List.getD_eq_getElem?_getD, List.getElem?_set_ne e]
theorem qXe (ra : Ints .i64 h0 pa da) (oa : okD da) (rb : Ints .i64 h0 pb db) (ob : okD db) (lb : db.length ≤ 100) (lcb : db.length ≤ cb) (hm0 : h0 m = none) (hr0 : h0 rest = none) (d1 : a ≠ m) (d2 : b ≠ m) (d3 : t6 ≠ m) (d4 : q ≠ m) (d5 : rest ≠ m) (e1 : a ≠ rest) (e2 : b ≠ rest) (e3 : t6 ≠ rest) (e4 : q ≠ rest)
    (hda : da.length ≤ 1000) {K : Value → Heap → Prop} (hB : 0 < dig db)
    (kend : ∀ qs R h, DivSt h0 a b t6 rest q m na nb pa pb ca cb da db 10000 qs R h → 0 ≤ R → R < dig db → dig qs * dig db + R = dig da → qEA up a b t6 rest q (-1) h K) :
    ∀ (n : Nat) (qs : List Int) (R : Int) (h : Heap), n ≤ da.length → DivSt h0 a b t6 rest q m na nb pa pb ca cb da db (200 + 2 * (da.length - n)) qs R h → 0 ≤ R → R < dig db → (∀ j, j < n → qs.getD j 0 = 0) →
      dig (qs.drop n) * dig db + R = dig (da.drop n) → qEA up a b t6 rest q ((n : Int) - 1) h K := by
  intro n
  induction n with
  | zero =>
    intro qs R h hn s r0 r1 hz e
    exact kend qs R h (s.more (by omega)) r0 r1 e
  | succ n ih =>
    intro qs R h hn s r0 r1 hz e
    rw [show (((n + 1 : Nat) : Int) - 1) = (n : Int) from by omega]
    refine qNU _ _ _ _ _ _ _ _ _ ?_
    unfold qKb
    have hlt : n < da.length := by omega
    obtain ⟨b1, o1, ea, hca⟩ := (ra.le s.le).at hlt
    obtain ⟨p, c, ds, x1, x2, x3, x4, x5, x6, x7⟩ := s.rr
    have gd := oa _ (List.getElem_mem hlt)
    refine Br.yes (decide_eq_true (by omega)) ⟨_, _, _, s.aa.cell rfl, by omega, by omega, qD ea ⟨_, by rw [Int.toNat_natCast]; exact hca, ?_⟩⟩
    refine ⟨_, _, _, x1.cell rfl, ?_⟩
    have edrop : dig (da.drop n) = da[n] + 10000 * dig (da.drop (n + 1)) := by rw [List.drop_eq_getElem_cons hlt]; rfl
    generalize da[n] = d at *
    intro r hr
    have nm : m ≠ r := s.am.ne hr
    have s1 := s.grow (qi hr (o := .cells [int .i64 d].toArray 3 (0, 0)))
    have x1b := x1.ins (x := .cells [int .i64 d].toArray 3 (0, 0)) hr
    have x2b : Ints .i64 (h.ins r (.cells [int .i64 d].toArray 3 (0, 0))) p ds := (x2.le (qJo h m)).le (qi hr)
    have n1 : rdL (h.ins r (.cells [int .i64 d].toArray 3 (0, 0))) (some ⟨r, 0, none⟩) [int .i64 d] := qL6 _ _ _ _ _
    have rne := x1.ne hr
    refine AppA.mk [int .i64 d] (qR .i64 ds) (by omega) (by rw [qd]; simp) x2b (qJG _ _) rfl n1 ?_ ?_
    · intro hc
      exact .inl (by have : ds = [] := List.length_eq_zero_iff.1 (by omega)
                     subst this; rfl)
    intro p' c' h' hcap rd keep how
    have lh : h.le h' := fun x y hx => keep x y (qi hr x y hx) (fun o e2 => by cases e2; rw [hr] at hx; cases hx)
    have s2 := s.grow lh
    have hp' : ∀ o, p' ≠ some ⟨m, o, none⟩ := by
      intro o e2
      rcases how with ⟨e3, _, _⟩ | ⟨_, r', e3, hr', _⟩
      · rw [e3] at e2; cases e2; exact nm rfl
      · rw [e3] at e2; cases e2
        exact s1.am.ne hr' rfl
    have i2 : Ints .i64 (h'.del m) p' (d :: ds) := qO9 (show rdL h' p' (qR .i64 (d :: ds)) from rd) hp'
    have ok2 : okD (d :: ds) := fun v hv => by
      rcases List.mem_cons.1 hv with e2 | e2
      · rw [e2]; exact gd
      · exact x3 v e2
    have el : 1 + ds.length = (d :: ds).length := by simp; omega
    rw [el]
    refine CallA.off s2.am (qQW i2 ok2 (by simp; omega) (by simp; omega) fun v1 g1 y1 bn1 => fun g1' z1 n1 k1 => ?_)
    have w1 := qK7 (Heap.le_trans y1 z1) k1
    have bn1' := bn1.le (qI5 z1 n1)
    obtain ⟨u1, q1, c1, ds1, rfl, r1', o1', v1, lc1, lb1, nz1⟩ := bn1'
    have s3 := s2.grow w1
    have x13 := (x1.le lh).le w1
    refine ⟨_, _, _, _, rfl, x13.canSt (by simp), ?_⟩
    have esg : sg false (d :: ds) = d + 10000 * R := by
      have : sg false (d :: ds) = d + 10000 * dig ds := rfl
      rw [this, x4]
    rw [esg] at v1
    have nn := qBb o1'
    have hu : u1 = false := by
      cases u1 with
      | false => rfl
      | true =>
        have : sg true ds1 = -dig ds1 := rfl
        have z : dig ds1 = 0 := by omega
        exact (nz1 z).2
    subst hu
    have v1 : d + 10000 * R = dig ds1 := v1
    have st : DivSt h0 a b t6 rest q m na nb pa pb ca cb da db (201 + 2 * (da.length - (n + 1))) qs (d + 10000 * R) (g1'.setN rest 0 [.bool false, slice q1 ds1.length c1]) := by
      refine ⟨qj s3.le hr0, s3.aa.set_ne e1, s3.ab.set_ne e2, s3.tt.set_ne e3, s3.aq.set_ne e4, s3.am.set_ne d5.symm, s3.len, s3.ok, q1, c1, ds1, x13.set, ?_, o1', v1.symm, lc1, ?_, fun z => ?_⟩
      · rw [qSc d5]
        exact qH1 r1' (x13.del d5)
      · simp only [List.length_cons] at lb1; omega
      · exact (nz1 (by omega)).1
    refine qYl (up := up) rb ob lb lcb hm0 hr0 d1 d2 d3 d4 d5 e1 e2 e3 e4 (by omega) (by omega) hlt hda hB (by omega) (by omega) (hz n (by omega)) (fun low h2 g1 g2 g3 g4 s4 => ?_) st
    rw [Int.add_mul, Int.one_mul] at g4
    refine ih (qs.set n low) _ h2 (by omega) (s4.more (by omega)) (by omega) (by omega) (fun j hj => by rw [qTh (by omega)]; exact hz j (by omega)) ?_
    have hq : n < (qs.set n low).length := by rw [List.length_set, s.len]; exact hlt
    rw [List.drop_eq_getElem_cons hq, edrop, ← e]
    have e5 : (qs.set n low)[n] = low := by simp
    have e6 : (qs.set n low).drop (n + 1) = qs.drop (n + 1) := by rw [List.drop_set_of_lt (by omega)]
    rw [e5, e6]
    simp only [dig]
    rw [Int.add_mul, Int.mul_assoc]
    omega
theorem qZK {Q B R : Int} (hB : 0 < B) (r0 : 0 ≤ R) (r1 : R < B) : (Q * B + R) / B = Q ∧ (-(Q * B + R)) / B = (if R = 0 then -Q else -Q - 1) := by
  refine ⟨((Int.ediv_emod_unique hB).2 ⟨by rw [Int.mul_comm B Q]; omega, r0, r1⟩).1, ?_⟩
  by_cases h : R = 0
  · rw [if_pos h]
    exact ((Int.ediv_emod_unique (r := 0) hB).2 ⟨by rw [Int.mul_neg, Int.mul_comm B Q]; omega, by omega, hB⟩).1
  · rw [if_neg h]
    exact ((Int.ediv_emod_unique (r := B - R) hB).2 ⟨by rw [Int.mul_sub, Int.mul_neg, Int.mul_comm B Q]; omega, by omega, by omega⟩).1
theorem qYt (ht0 : h0 t6 = none) (hq0 : h0 q = none) (d4 : q ≠ m) (f1 : a ≠ q) (f2 : rest ≠ q) (f3 : t6 ≠ q) (hda : da.length ≤ 1000) {K : Value → Heap → Prop} (hB : 0 < dig db)
    (k : ∀ v h', h0.le h' → BigN h' v (dv (sg na da) (dig db) up) 1001 → K v h') {qs : List Int} {R : Int} {h : Heap} (s : DivSt h0 a b t6 rest q m na nb pa pb ca cb da db 10000 qs R h) (r0 : 0 ≤ R) (r1 : R < dig db)
    (e : dig qs * dig db + R = dig da) : qEA up a b t6 rest q (-1) h K := by
  refine qNU _ _ _ _ _ _ _ _ _ ?_
  unfold qKb
  have hlen := s.len
  have rq : Ints .i64 h (some ⟨m, 0, none⟩) qs := by
    have : At h m (qR .i64 qs ++ []) := by rw [List.append_nil]; exact s.am
    exact this.toRd
  have aq := s.aq
  rw [← hlen] at aq
  refine Br.no (by decide) ⟨_, aq.cell rfl, _, _, _, aq.cell rfl, qQW rq s.ok (Nat.le_refl _) (by omega) fun v1 g y bn => ?_⟩
  obtain ⟨u1, q1, c1, ds1, rfl, r1', o1, v1, lc1, lb1, nz1⟩ := bn
  have s1 := s.grow y
  obtain ⟨p, c, ds, x1, x2, x3, x4, x5, x6, x7⟩ := s1.rr
  have aq1 := s1.aq
  refine ⟨_, _, _, _, rfl, aq1.canSt (by simp), ?_⟩
  have G0 := qj (o := 0) (ws := [.bool u1, slice q1 ds1.length c1]) s1.le hq0
  have aq2 : At (g.setN q 0 [.bool u1, slice q1 ds1.length c1]) q [.bool u1, slice q1 ds1.length c1] := aq1.set
  have ar2 := x1.set_ne (o := 0) (ws := [.bool u1, slice q1 ds1.length c1]) f2
  have aa2 := s1.aa.set_ne (o := 0) (ws := [.bool u1, slice q1 ds1.length c1]) f1
  have at2 := s1.tt.set_ne (o := 0) (ws := [.bool u1, slice q1 ds1.length c1]) f3
  have i2 := qH1 (ws := [.bool u1, slice q1 ds1.length c1]) r1' aq1
  generalize g.setN q 0 [.bool u1, slice q1 ds1.length c1] = G at *
  have nrm : BigN G (agg #[.bool u1, slice q1 ds1.length c1]) (sg na qs) 1000 := ⟨u1, q1, c1, ds1, rfl, i2, o1, v1, lc1, by omega, nz1⟩
  have val := qZK (Q := dig qs) hB r0 r1
  rw [e] at val
  -- as it is
  have plain : dv (sg na da) (dig db) up = sg na qs → (∃ (b_2 : Bool), Heap.cell G q 0 = some (Value.bool b_2) ∧ ∃ (a : Option Addr), ∃ (n_3 : Nat), ∃ (m_3 : Nat), Heap.cell G q 1 = some (slice a n_3 m_3) ∧ Heap.canSt G t6 0 2 ∧
      ∃ (b_3 : Bool), Heap.cell (Heap.setN G t6 0 [Value.bool b_2, slice a n_3 m_3]) t6 0 = some (Value.bool b_3) ∧ ∃ (a_5 : Option Addr), ∃ (n_4 : Nat), ∃ (m_4 : Nat),
        Heap.cell (Heap.setN G t6 0 [Value.bool b_2, slice a n_3 m_3]) t6 1 = some (slice a_5 n_4 m_4) ∧ Ret (Heap.setN G t6 0 [Value.bool b_2, slice a n_3 m_3]) K (agg #[Value.bool b_3, slice a_5 n_4 m_4])) := by
    intro hv
    refine ⟨_, aq2.cell rfl, _, _, _, aq2.cell rfl, qKe ht0 G0 at2 fun h' l' keep => k _ _ l' ?_⟩
    rw [hv]
    exact ⟨u1, q1, c1, ds1, rfl, keep _ _ i2, o1, v1, lc1, by omega, nz1⟩
  -- or one more, or less
  have beside : ∀ (one : Int), I64 one → dv (sg na da) (dig db) up = sg na qs + one → (∃ (b_2 : Bool), Heap.cell G q 0 = some (Value.bool b_2) ∧ ∃ (a : Option Addr), ∃ (n_2 : Nat), ∃ (m_2 : Nat), Heap.cell G q 1 = some (slice a n_2 m_2) ∧
      CallA Tryz.prog qAk [int IntKind.i64 one] G fun (v : Value) (h_1 : Heap) => ∃ (b_3 : Bool), ∃ (a_4 : Option Addr), ∃ (n_3 : Nat), ∃ (m_3 : Nat), v = agg #[Value.bool b_3, slice a_4 n_3 m_3] ∧ (Heap.le G h_1 ∨ qBN [q] G h_1) ∧
        CallA Tryz.prog qAn [agg #[Value.bool b_2, slice a n_2 m_2], agg #[Value.bool b_3, slice a_4 n_3 m_3]] h_1 fun (v : Value) (h : Heap) => ∃ (b : Bool), ∃ (a : Option Addr), ∃ (n : Nat), ∃ (m : Nat), v = agg #[Value.bool b, slice a n m] ∧
          Heap.canSt h t6 0 2 ∧ ∃ (b_4 : Bool), Heap.cell (Heap.setN h t6 0 [Value.bool b, slice a n m]) t6 0 = some (Value.bool b_4) ∧ ∃ (a_5 : Option Addr), ∃ (n_4 : Nat), ∃ (m_4 : Nat),
            Heap.cell (Heap.setN h t6 0 [Value.bool b, slice a n m]) t6 1 = some (slice a_5 n_4 m_4) ∧ Ret (Heap.setN h t6 0 [Value.bool b, slice a n m]) K (agg #[Value.bool b_4, slice a_5 n_4 m_4])) := by
    intro one h1 hv
    refine ⟨_, aq2.cell rfl, _, _, _, aq2.cell rfl, qLP h1 fun v2 g2 y2 bn2 => ?_⟩
    have br2 := bn2.raw
    obtain ⟨u2, q2, c2, ds2, rfl, _⟩ := bn2
    refine ⟨_, _, _, _, rfl, .inl y2, qG5 (B := 1000) (nrm.raw.le y2) br2 (by omega) (by omega) (by omega) fun v3 g3 y3 bn3 => ?_⟩
    obtain ⟨u3, q3, c3, ds3, rfl, r3, o3, v3, lc3, lb3, nz3⟩ := bn3
    have y23 := Heap.le_trans y2 y3
    refine ⟨_, _, _, _, rfl, qKe ht0 (Heap.le_trans G0 y23) (at2.le y23) fun h' l' keep => k _ _ l' ?_⟩
    rw [hv]
    exact ⟨u3, q3, c3, ds3, rfl, keep _ _ r3, o3, v3, lc3, by omega, nz3⟩
  refine ⟨_, _, _, ar2.cell rfl, ?_⟩
  by_cases hR : R = 0
  · have e0 : ds = [] := x7 hR
    subst e0
    rw [if_pos hR] at val
    refine Br.no (by decide) ⟨_, _, _, ar2.cell rfl, Br.no (by decide) (plain ?_)⟩
    unfold dv sg
    cases na <;> cases up <;> simp [val.1, val.2]
  · have e0 : 0 < ds.length := by
      refine List.length_pos_iff.2 fun z => ?_
      subst z
      exact hR x4.symm
    rw [if_neg hR] at val
    have yes : decide ((ds.length : Int) > 0) = true := decide_eq_true (by omega)
    refine Br.yes yes ⟨_, aa2.cell rfl, ?_⟩
    cases na with
    | false =>
      refine Br.yes rfl ?_
      cases up with
      | true => exact Br.yes rfl (beside 1 ⟨by decide, by decide⟩ (by unfold dv sg; simp [val.1, val.2]; omega))
      | false => exact Br.no rfl ⟨_, _, _, ar2.cell rfl, Br.yes yes ⟨_, aa2.cell rfl, Br.no rfl (plain (by unfold dv sg; simp [val.1, val.2]))⟩⟩
    | true =>
      refine Br.no rfl ⟨_, _, _, ar2.cell rfl, Br.yes yes ⟨_, aa2.cell rfl, Br.yes rfl ?_⟩⟩
      cases up with
      | true => exact Br.no rfl (plain (by unfold dv sg; simp [val.1, val.2]))
      | false => exact Br.yes rfl (beside (-1) ⟨by decide, by decide⟩ (by unfold dv sg; simp [val.1, val.2]; omega))
end
end Go.Proofs.YtjihfieahkbohaaGreat

/- The reference's quotient and parted product. -/
namespace Go.Proofs.YtjihfieahkbohaaGreat
open Go Go.Sy Go.Value
set_option linter.unusedVariables false
set_option linter.unusedSimpArgs false

theorem qWa {va vb : Value} {x y : Int} {na nb : Nat} {h : Heap} (ha : BigR h va x na) (hb : BigR h vb y nb) (la : na ≤ 1000) (lb : nb ≤ 100) (hy : 0 < y) {up : Bool} {K : Value → Heap → Prop}
    (k : ∀ v h', h.le h' → BigN h' v (dv x y up) 1001 → K v h') : CallA Tryz.prog qMN [va, vb, .bool up] h K := by
  obtain ⟨n1, p1, c1, d1, rfl, r1, o1, hx, lc1, lb1⟩ := ha
  obtain ⟨n2, p2, c2, d2, rfl, r2, o2, hy2, lc2, lb2⟩ := hb
  have dn := qBb o2
  have e2 : n2 = false := by
    cases n2 with
    | false => rfl
    | true =>
      have : sg true d2 = -dig d2 := rfl
      omega
  subst e2
  have hy3 : y = dig d2 := hy2
  refine qTj _ _ _ _ _ _ _ _ _ _ _ ?_
  unfold qOe
  intro r hr s hs t ht u hu
  have aa := (((At.new h r [.bool n1, slice p1 d1.length c1] 78).ins (x := .cells [.bool false, slice p2 d2.length c2].toArray 78 (0, 0)) hs).ins (x := .cells [.bool false, slice none 0 0].toArray 78 (0, 0)) ht)
  have ab := (At.new (h.ins r (.cells [.bool n1, slice p1 d1.length c1].toArray 78 (0, 0))) s [.bool false, slice p2 d2.length c2] 78).ins (x := .cells [.bool false, slice none 0 0].toArray 78 (0, 0)) ht
  have tt := At.new ((h.ins r (.cells [.bool n1, slice p1 d1.length c1].toArray 78 (0, 0))).ins s (.cells [.bool false, slice p2 d2.length c2].toArray 78 (0, 0))) t [.bool false, slice none 0 0] 78
  have l1 := qBs (x := .cells [.bool false, slice p2 d2.length c2].toArray 78 (0, 0)) (qi hr (o := .cells [.bool n1, slice p1 d1.length c1].toArray 78 (0, 0))) hs
  have l2 := qBs (x := .cells [.bool false, slice none 0 0].toArray 78 (0, 0)) l1 ht
  have et := qm l1 ht
  generalize ((h.ins r (.cells [.bool n1, slice p1 d1.length c1].toArray 78 (0, 0))).ins s (.cells [.bool false, slice p2 d2.length c2].toArray 78 (0, 0))).ins t (.cells [.bool false, slice none 0 0].toArray 78 (0, 0)) = g2 at *
  have rr := At.new g2 u [.bool false, slice none 0 0] 78
  have m1 := aa.ne hu
  have m2 := ab.ne hu
  have m3 := tt.ne hu
  have aa := (aa.ins (x := .cells [.bool false, slice none 0 0].toArray 78 (0, 0)) hu).set_ne (o := 0) (ws := [.bool false, slice none 0 0]) m1
  have ab := (ab.ins (x := .cells [.bool false, slice none 0 0].toArray 78 (0, 0)) hu).set_ne (o := 0) (ws := [.bool false, slice none 0 0]) m2
  have tt := (tt.ins (x := .cells [.bool false, slice none 0 0].toArray 78 (0, 0)) hu).set_ne (o := 0) (ws := [.bool false, slice none 0 0]) m3
  have eu := qm l2 hu
  have l3 := qj (o := 0) (ws := [.bool false, slice none 0 0]) (qBs (x := .cells [.bool false, slice none 0 0].toArray 78 (0, 0)) l2 hu) eu
  refine ⟨rr.canSt (by simp), ?_⟩
  have rr : At ((g2.ins u (.cells [.bool false, slice none 0 0].toArray 78 (0, 0))).setN u 0 [.bool false, slice none 0 0]) u [.bool false, slice none 0 0] := rr.set
  generalize (g2.ins u (.cells [.bool false, slice none 0 0].toArray 78 (0, 0))).setN u 0 [.bool false, slice none 0 0] = g3 at *
  refine ⟨_, aa.cell rfl, _, _, _, aa.cell rfl, by omega, Int.le_refl _, by omega, by omega, ?_⟩
  rw [Int.toNat_natCast, qNh]
  intro m hm o ho
  have am := (At.new g3 m (qR .i64 (List.replicate d1.length 0)) 3).ins (x := .cells [.bool false, slice none 0 0].toArray 78 (0, 0)) ho
  have q0 : m ≠ o := (At.new _ _ _ _).ne ho
  have k1 := aa.ne hm
  have k2 := ab.ne hm
  have k3 := tt.ne hm
  have k4 := rr.ne hm
  have aa := aa.ins (x := .cells (qR .i64 (List.replicate d1.length 0)).toArray 3 (0, 0)) hm
  have ab := ab.ins (x := .cells (qR .i64 (List.replicate d1.length 0)).toArray 3 (0, 0)) hm
  have tt := tt.ins (x := .cells (qR .i64 (List.replicate d1.length 0)).toArray 3 (0, 0)) hm
  have rr := rr.ins (x := .cells (qR .i64 (List.replicate d1.length 0)).toArray 3 (0, 0)) hm
  have q1 := aa.ne ho
  have q2 := ab.ne ho
  have q3 := tt.ne ho
  have q4 := rr.ne ho
  have em := qm l3 hm
  have l4 := qBs (x := .cells (qR .i64 (List.replicate d1.length 0)).toArray 3 (0, 0)) l3 hm
  have eo := qm l4 ho
  have l5 := qj (o := 0) (ws := [.bool n1, slice (some ⟨m, 0, none⟩) d1.length d1.length]) (qBs (x := .cells [.bool false, slice none 0 0].toArray 78 (0, 0)) l4 ho) eo
  have oo := At.new (g3.ins m (.cells (qR .i64 (List.replicate d1.length 0)).toArray 3 (0, 0))) o [.bool false, slice none 0 0] 78
  have aa := (aa.ins (x := .cells [.bool false, slice none 0 0].toArray 78 (0, 0)) ho).set_ne (o := 0) (ws := [.bool n1, slice (some ⟨m, 0, none⟩) d1.length d1.length]) q1
  have ab := (ab.ins (x := .cells [.bool false, slice none 0 0].toArray 78 (0, 0)) ho).set_ne (o := 0) (ws := [.bool n1, slice (some ⟨m, 0, none⟩) d1.length d1.length]) q2
  have tt := (tt.ins (x := .cells [.bool false, slice none 0 0].toArray 78 (0, 0)) ho).set_ne (o := 0) (ws := [.bool n1, slice (some ⟨m, 0, none⟩) d1.length d1.length]) q3
  have rr := (rr.ins (x := .cells [.bool false, slice none 0 0].toArray 78 (0, 0)) ho).set_ne (o := 0) (ws := [.bool n1, slice (some ⟨m, 0, none⟩) d1.length d1.length]) q4
  have am := am.set_ne (o := 0) (ws := [.bool n1, slice (some ⟨m, 0, none⟩) d1.length d1.length]) q0
  refine ⟨oo.canSt (by simp), _, _, _, aa.cell rfl, ?_⟩
  rw [qH (by omega) (by omega)]
  have st : DivSt h r s t u o m n1 false p1 p2 c1 c2 d1 d2 (200 + 2 * (d1.length - d1.length)) (List.replicate d1.length 0) 0 ((Heap.ins (g3.ins m (.cells (qR .i64 (List.replicate d1.length 0)).toArray 3 (0, 0))) o (.cells [.bool false, slice none 0 0].toArray 78 (0, 0))).setN o 0 [.bool n1, slice (some ⟨m, 0, none⟩) d1.length d1.length]) :=
    ⟨l5, aa, ab, tt, oo.set, am, by simp, qRv _, none, 0, [], rr, .inl rfl, fun d hd => (by cases hd), rfl, by simp, by simp, fun _ => rfl⟩
  have hB : 0 < dig d2 := by omega
  refine qXe (up := up) r1 o1 r2 o2 (by omega) lc2 em eu k1 k2 k3 (fun e => q0 e.symm) k4 m1 m2 m3 (fun e => q4 e.symm) (by omega) hB (fun qs R g sg2 r0 rlt e => ?_) d1.length _ 0 _ (Nat.le_refl _) st (Int.le_refl _) hB (fun j hj => ?_) ?_
  · refine qYt (up := up) et eo (fun e => q0 e.symm) q1 q4 q3 (by omega) hB (fun v h' l bn => k v h' l ?_) sg2 r0 rlt e
    rw [hx, hy3]; exact bn
  · rw [List.getD_eq_getElem?_getD, List.getElem?_replicate, if_pos hj]; rfl
  · rw [List.drop_of_length_le (by simp), List.drop_of_length_le (Nat.le_refl _)]; simp [dig]
end Go.Proofs.YtjihfieahkbohaaGreat

/- The reference's shares: walked, first half. -/
namespace Go.Proofs.YtjihfieahkbohaaGreat
open Go Go.Sy Go.Value
set_option linter.unusedVariables false
set_option linter.unusedSimpArgs false

theorem ixb {k : IntKind} {h : Heap} {a : Option Addr} {l : List Int} {N : Nat} (I : Ints k h a l) (hn : l.length = N) {j : Nat} {i : Int} (hi : i = (j : Int)) {x : Int} (hx : l[j]? = some x) {Q : Nat → Int → Prop} (kk : ∀ b, Q b x) :
    0 ≤ i ∧ i < (N : Int) ∧ qA a fun b o => ∃ n, h.cell b (o + i.toNat) = some (.int k n) ∧ Q b n := by
  subst hi hn
  have hj : j < l.length := (List.getElem?_eq_some_iff.1 hx).1
  obtain ⟨b, o, e, hc⟩ := I.at hj
  refine ⟨by omega, by omega, qD e ⟨x, ?_, kk b⟩⟩
  have : l[j] = x := by rw [List.getElem?_eq_getElem hj] at hx; exact Option.some.inj hx
  rw [Int.toNat_natCast, hc, this]
theorem stb {P : Program} {f : FuncId} {args : List Value} {g h : Heap} {K : Value → Heap → Prop} (l : g.le h)
    (c : CallA P f args g fun v g' => g.le g' ∧ ∀ h', g'.le h' → h.le h' → (∀ r o, h r = some o → g r = none → g' r = none) → K v h') : CallA P f args h K :=
  (c.frame2 l).mono fun v h' ⟨g', k, l', keep, off⟩ => k.2 h' l' (fun r o e => by
    cases hg : g r with
    | none => exact keep r o e hg
    | some y => have := l r y hg; rw [e] at this; cases this; exact l' r _ (k.1 r _ hg)) off
theorem qUM {g h g' h' : Heap} {z : List Value} {p : Option Addr} {c : Nat} {vs : List Value} (x : OwnL g h z p c vs) (l : h.le h') (off : ∀ r o, h r = some o → g r = none → g' r = none) : OwnL g' h' z p c vs := by
  rcases x with x | ⟨r, sp, e, e0, a, k⟩
  · exact .inl x
  · obtain ⟨T, ea⟩ := a
    exact .inr ⟨r, sp, e, off r _ ea e0, At.le ⟨T, ea⟩ l, k⟩
theorem qQd {g h g' : Heap} {b : Nat} {vs : List Value} (a : At h b vs) (e : g b = none) (off : ∀ r o, h r = some o → g r = none → g' r = none) : g' b = none := by
  obtain ⟨T, ea⟩ := a
  exact off b _ ea e
theorem qVL {h0 h : Heap} {p : Option Addr} {c j : Nat} {z vs ws : List Value} {T t : TypeId} {J : Option Addr → Nat → Heap → Prop} (x : OwnL h0 h z p c vs) (hz : 0 < z.length) (l0 : h0.le h) (hj : j ≤ 1000) (hw : ws.length = z.length) (aw : qAU ws = true) (hv : vs.length = j * z.length)
    (k : ∀ p' c' h', h0.le h' → OwnL h0 h' z p' c' (vs ++ ws) →
      (∀ z' q cq lq, OwnL h0 h z' q cq lq → Dj p q → OwnL h0 h' z' q cq lq ∧ Dj p' q) → (∀ b xs, At h b xs → p ≠ some ⟨b, 0, none⟩ → At h' b xs ∧ p' ≠ some ⟨b, 0, none⟩) → J p' c' h') :
    qL h ws T fun r h1 => AppA z t h1 p j c 1 (some ⟨r, 0, none⟩) J := by
  refine qKm x hz l0 (by omega) hw aw hv fun r h1 p' c' h' hr l1 l' w keep how => ?_
  have A : ∀ b xs, At h b xs → p ≠ some ⟨b, 0, none⟩ → At h' b xs ∧ p' ≠ some ⟨b, 0, none⟩ := fun b xs a e => ⟨qMA keep (a.le l1) e, qPT how (a.le l1) e⟩
  refine k p' c' h' l' w (fun z' q cq lq o d => ⟨o.mv fun b xs e a => (A b xs a fun e2 => d b e2 e).1, fun B e1 e2 => ?_⟩) A
  rcases o with ⟨_, e, _⟩ | ⟨s, sp, e, _, a, _⟩
  · rw [e] at e2; cases e2
  · rw [e] at e2
    have e2 : s = B := by simpa using e2
    subst e2
    exact (A s _ a fun e3 => d s e3 e).2 e1
abbrev BV := Bool × Option Addr × Nat × Nat
def bv (w : BV) : Value := agg #[.bool w.1, slice w.2.1 w.2.2.1 w.2.2.2]
def bc (w : BV) : List Value := [.bool w.1, slice w.2.1 w.2.2.1 w.2.2.2]
theorem qTD (w : BV) : (bc w).length = 2 := rfl
theorem qIT {h : Heap} {v : Value} {x : Int} {b : Nat} (n : BigR h v x b) : ∃ w : BV, v = bv w := by
  obtain ⟨neg, p, c, ds, rfl, _⟩ := n
  exact ⟨(neg, p, ds.length, c), rfl⟩
structure R1 (h0 g h : Heap) (sb gb : Nat) (sv gv : BV) (op lp : Option Addr) (oc lc : Nat) (ol : List Int) (vs : List BV) : Prop where
  l0 : h0.le g
  l : g.le h
  sA : At h sb (bc sv)
  gA : At h gb (bc gv)
  gN : g gb = none
  oO : OwnL g h [.int .i64 0] op oc (qR .i64 ol)
  oL : OwnL g h [.bool false, slice none 0 0] lp lc (vs.flatMap bc)
  d : Dj op lp
  no : op ≠ some ⟨gb, 0, none⟩
  nl : lp ≠ some ⟨gb, 0, none⟩
  so : op ≠ some ⟨sb, 0, none⟩
  sl : lp ≠ some ⟨sb, 0, none⟩
  gs : sb ≠ gb
section
variable {h0 g h g' h' : Heap} {sb gb : Nat} {sv gv : BV} {op lp : Option Addr} {oc lc : Nat} {ol : List Int} {vs : List BV}
theorem R1.call (S : R1 h0 g h sb gb sv gv op lp oc lc ol vs) (lg : g.le g') (l1 : g'.le h') (lh : h.le h') (off : ∀ r o, h r = some o → g r = none → g' r = none) : R1 h0 g' h' sb gb sv gv op lp oc lc ol vs :=
  ⟨Heap.le_trans S.l0 lg, l1, S.sA.le lh, S.gA.le lh, qQd S.gA S.gN off, qUM S.oO lh off, qUM S.oL lh off, S.d, S.no, S.nl, S.so, S.sl, S.gs⟩
theorem R1.grow (S : R1 h0 g h sb gb sv gv op lp oc lc ol vs) (lh : h.le h') : R1 h0 g h' sb gb sv gv op lp oc lc ol vs :=
  ⟨S.l0, Heap.le_trans S.l lh, S.sA.le lh, S.gA.le lh, S.gN, S.oO.le lh, S.oL.le lh, S.d, S.no, S.nl, S.so, S.sl, S.gs⟩
end
theorem qZL (vs : List BV) : (vs.flatMap bc).length = vs.length * 2 := qAO qTD vs
def Bgs (g : Heap) (vs : List BV) (rs : List Int) : Prop := vs.length = rs.length ∧ ∀ i v, vs[i]? = some v → BigR g (bv v) (rs.getD i 0) 5000
theorem Bgs.le {g g' : Heap} {vs : List BV} {rs : List Int} (b : Bgs g vs rs) (l : g.le g') : Bgs g' vs rs := ⟨b.1, fun i v e => (b.2 i v e).le l⟩
theorem Bgs.snoc {g : Heap} {vs : List BV} {rs : List Int} {v : BV} {x : Int} (b : Bgs g vs rs) (n : BigR g (bv v) x 5000) : Bgs g (vs ++ [v]) (rs ++ [x]) := by
  refine ⟨by rw [List.length_append, List.length_append, b.1]; rfl, fun i w e => ?_⟩
  rw [List.getD_eq_getElem?_getD]
  by_cases hi : i < vs.length
  · rw [List.getElem?_append_left hi] at e
    rw [List.getElem?_append_left (by rw [← b.1]; exact hi), ← List.getD_eq_getElem?_getD]
    exact b.2 i w e
  · have hl := (List.getElem?_eq_some_iff.1 e).1
    rw [List.length_append] at hl
    have hl : i = vs.length := by simp at hl; omega
    subst hl
    rw [List.getElem?_append_right (Nat.le_refl _), Nat.sub_self] at e
    have e : v = w := by simpa using e
    subst e
    rw [b.1, List.getElem?_append_right (Nat.le_refl _), Nat.sub_self]
    exact n
section
variable {h0 : Heap} {K : Value → Heap → Prop}
theorem qVt {q : Option Addr} {ws : List Int} {n c : Nat} {t s : Int} (I : Ints .i64 h0 q ws) (hn : ws.length = n) (hn2 : n ≤ 64) (hI : qAq ws) (ht : I64 t) (h0t : 0 ≤ t) (hw : geL ws) (hs : s = qM ws) (hs0 : 0 < s) {sb gb : Nat} {sv : BV}
    (k : ∀ g h gv op lp oc lc vs, R1 h0 g h sb gb sv gv op lp oc lc (qx t s ws) vs → BigR g (bv sv) s 100 → BigR g (bv gv) (qM (qx t s ws)) 2000 → Bgs g vs (qCp t s ws) →
      qL h (qAM n [.bool false]) 4 fun (r : Nat) (h : Heap) => qEQ t q n c op n oc lp n lc gb (some { block := r, off := 0 }) n n h K) :
    ∀ (m j : Nat) (g h : Heap) (gv : BV) (op lp : Option Addr) (oc lc : Nat) (vs : List BV), m + j = n → R1 h0 g h sb gb sv gv op lp oc lc (qx t s (ws.take j)) vs →
      BigR g (bv sv) s 100 → BigR g (bv gv) (qM (qx t s (ws.take j))) (1001 + j) → Bgs g vs (qCp t s (ws.take j)) →
    qF7 t q n c sb op j oc lp j lc gb (j : Int) h K := by
  intro m
  induction m with
  | zero =>
    intro j g h gv op lp oc lc vs hj S bs bg bl
    refine qLq _ _ _ _ _ _ _ _ _ _ _ _ _ _ _ ?_
    unfold qI2
    have hjn : j = n := by omega
    subst hjn
    rw [List.take_of_length_le (by omega)] at S bg bl
    refine Br.no (by simp) ⟨by omega, by omega, by omega, by omega, ?_⟩
    rw [Int.toNat_natCast]
    exact k g h gv op lp oc lc vs S bs (bg.more (by omega)) bl
  | succ m ih =>
    intro j g h gv op lp oc lc vs hj S bs bg bl
    refine qLq _ _ _ _ _ _ _ _ _ _ _ _ _ _ _ ?_
    unfold qI2
    have hx : ws[j]? = some ws[j] := List.getElem?_eq_getElem (by omega)
    have hmem : ws[j] ∈ ws := List.getElem_mem _
    have e1 : ws.take (j + 1) = ws.take j ++ [ws[j]] := by rw [List.take_add_one, hx]; rfl
    have hwj := hw _ hmem
    have hws := (qKu hw).2 _ hmem
    have hIj := hI _ hmem
    have eb : qx t s (ws.take (j + 1)) = qx t s (ws.take j) ++ [t * ws[j] / s] := by rw [e1]; unfold qx; rw [List.map_append]; rfl
    have er : qCp t s (ws.take (j + 1)) = qCp t s (ws.take j) ++ [t * ws[j] % s] := by rw [e1]; unfold qCp; rw [List.map_append]; rfl
    have l1 : (qx t s (ws.take j)).length = j := by rw [qG6, List.length_take]; omega
    have l2 : (qCp t s (ws.take j)).length = j := by rw [qIA, List.length_take]; omega
    have nx := fun g h gv op lp oc lc vs => ih (j + 1) g h gv op lp oc lc vs (by omega)
    rw [eb, er, qHg] at nx
    generalize ws[j] = w at *
    have hq0 : 0 ≤ t * w / s := Int.ediv_nonneg (Int.mul_nonneg h0t hwj) (by omega)
    have hqt : t * w / s ≤ t := Int.ediv_le_of_le_mul hs0 (Int.mul_le_mul_of_nonneg_left (by omega) h0t)
    have hdm : t * w + -(t * w / s * s) = t * w % s := by have h1 := Int.mul_ediv_add_emod (t * w) s; have h2 := Int.mul_comm s (t * w / s); omega
    generalize hBL : qx t s (ws.take j) = BL at *
    generalize hRL : qCp t s (ws.take j) = RL at *
    refine Br.yes (by simp; omega) (ixb ((I.le S.l0).le S.l) hn rfl hx fun bq => ?_)
    refine stb S.l (qLP ht fun v1 g1 lg1 b1 => ⟨lg1, fun h1 m1 lh1 off1 => ?_⟩)
    have S := S.call lg1 m1 lh1 off1
    obtain ⟨w1, rfl⟩ := qIT b1.raw
    refine ⟨_, _, _, _, rfl, .inl lh1, stb S.l (qLP hIj fun v2 g2 lg2 b2 => ⟨lg2, fun h2 m2 lh2 off2 => ?_⟩)⟩
    have S := S.call lg2 m2 lh2 off2
    obtain ⟨w2, rfl⟩ := qIT b2.raw
    refine ⟨_, _, _, _, rfl, stb S.l (qMV (b1.raw.le lg2) b2.raw (by omega) fun v3 g3 lg3 b3 => ⟨lg3, fun h3 m3 lh3 off3 => ?_⟩)⟩
    have S := S.call lg3 m3 lh3 off3
    obtain ⟨w3, rfl⟩ := qIT b3.raw
    have bs3 := bs.le (Heap.le_trans lg1 (Heap.le_trans lg2 lg3))
    refine ⟨_, _, _, _, rfl, qFm (vs := bc w3) rfl fun r4 h4 hr4 lh4 A4 st4 => ⟨st4, _, A4.cell rfl, _, _, _, A4.cell rfl, ?_⟩⟩
    have S4 := S
    have S := S.grow lh4
    refine ⟨_, S.sA.cell rfl, _, _, _, S.sA.cell rfl, stb S.l (qWa (up := false) b3.raw bs3 (by omega) (by omega) hs0 fun v5 g5 lg5 b5 => ⟨lg5, fun h5 m5 lh5 off5 => ?_⟩)⟩
    have S := S.call lg5 m5 lh5 off5
    have A4 := A4.le lh5
    obtain ⟨w5, rfl⟩ := qIT b5.raw
    have edv : dv (t * w) s false = t * w / s := rfl
    rw [edv] at b5
    refine ⟨_, _, _, _, rfl, qFm (vs := bc w5) rfl fun r6 h6 hr6 lh6 A6 st6 => ⟨st6, _, A6.cell rfl, _, _, _, A6.cell rfl, ?_⟩⟩
    have S6 := S
    have S := S.grow lh6
    have A4 := A4.le lh6
    refine stb S.l (qUZ b5.raw (by omega) fun g7 lg7 => ⟨lg7, fun h7 m7 lh7 off7 => ?_⟩)
    have S := S.call lg7 m7 lh7 off7
    have A4 := A4.le lh7
    have A6 := A6.le lh7
    rw [qHQ (show I64 (t * w / s) by unfold I64 at *; omega)]
    refine ⟨_, _, rfl, ?_⟩
    have ne4 : op ≠ some ⟨r4, 0, none⟩ := S4.oO.fresh hr4
    have ne6 : op ≠ some ⟨r6, 0, none⟩ := S6.oO.fresh hr6
    have nl4 : lp ≠ some ⟨r4, 0, none⟩ := S4.oL.fresh hr4
    have nl6 : lp ≠ some ⟨r6, 0, none⟩ := S6.oL.fresh hr6
    refine qVL (ws := [.int .i64 (t * w / s)]) S.oO (by decide) S.l (by omega) rfl rfl (by rw [qd, l1]; simp) fun op' oc' h8 m8 w8 keep8 K8 => ?_
    obtain ⟨A4, ne4'⟩ := K8 _ _ A4 ne4
    obtain ⟨A6, ne6'⟩ := K8 _ _ A6 ne6
    obtain ⟨sA, so⟩ := K8 _ _ S.sA S.so
    obtain ⟨gA, no⟩ := K8 _ _ S.gA S.no
    obtain ⟨oL, d⟩ := keep8 _ _ _ _ S.oL S.d
    have S : R1 h0 g7 h8 sb gb sv gv op' lp oc' lc (BL ++ [t * w / s]) vs := ⟨S.l0, m8, sA, gA, S.gN, by rw [qDB]; exact w8, oL, d, no, S.nl, so, S.sl, S.gs⟩
    have b5 := b5.le lg7
    have b3 := (b3.le lg5).le lg7
    have bs := (bs3.le lg5).le lg7
    refine ⟨_, A4.cell rfl, _, _, _, A4.cell rfl, _, A6.cell rfl, _, _, _, A6.cell rfl, _, S.sA.cell rfl, _, _, _, S.sA.cell rfl, ?_⟩
    refine stb S.l (qMV b5.raw bs (by omega) fun v9 g9 lg9 b9 => ⟨lg9, fun h9 m9 lh9 off9 => ?_⟩)
    have S := S.call lg9 m9 lh9 off9
    obtain ⟨w9, rfl⟩ := qIT b9.raw
    refine ⟨_, _, _, _, rfl, .inl lh9, stb S.l (qQJ b9.raw (by omega) fun v10 g10 lg10 b10 => ⟨lg10, fun h10 m10 lh10 off10 => ?_⟩)⟩
    have S := S.call lg10 m10 lh10 off10
    obtain ⟨w10, rfl⟩ := qIT b10.raw
    refine ⟨_, _, _, _, rfl, .inl lh10, stb S.l (qG5 ((b3.le lg9).le lg10).raw b10.raw (B := 1102) (by omega) (by omega) (by omega) fun v11 g11 lg11 b11 => ⟨lg11, fun h11 m11 lh11 off11 => ?_⟩)⟩
    have S := S.call lg11 m11 lh11 off11
    obtain ⟨w11, rfl⟩ := qIT b11.raw
    rw [hdm] at b11
    have A6 := ((A6.le lh9).le lh10).le lh11
    refine ⟨_, _, _, _, rfl, ?_⟩
    refine qVL (ws := bc w11) S.oL (by decide) S.l (by omega) rfl rfl (by rw [qZL, bl.1, l2]; rfl) fun lp' lc' h12 m12 w12 keep12 K12 => ?_
    obtain ⟨A6, _⟩ := K12 _ _ A6 nl6
    obtain ⟨sA, sl⟩ := K12 _ _ S.sA S.sl
    obtain ⟨gA, nl⟩ := K12 _ _ S.gA S.nl
    obtain ⟨oO, d⟩ := keep12 _ _ _ _ S.oO S.d.symm
    have S : R1 h0 g11 h12 sb gb sv gv op' lp' oc' lc' (BL ++ [t * w / s]) (vs ++ [w11]) := ⟨S.l0, m12, sA, gA, S.gN, oO, by rw [List.flatMap_append, List.flatMap_singleton]; exact w12, d.symm, S.no, nl, S.so, sl, S.gs⟩
    have lgA : g7.le g11 := Heap.le_trans lg9 (Heap.le_trans lg10 lg11)
    have lgB : g.le g11 := Heap.le_trans lg1 (Heap.le_trans lg2 (Heap.le_trans lg3 (Heap.le_trans lg5 (Heap.le_trans lg7 lgA))))
    refine ⟨_, S.gA.cell rfl, _, _, _, S.gA.cell rfl, _, A6.cell rfl, _, _, _, A6.cell rfl, ?_⟩
    refine stb S.l (qG5 (bg.le lgB) (b5.le lgA).raw (B := 1001 + j) (by omega) (by omega) (by omega) fun v13 g13 lg13 b13 => ⟨lg13, fun h13 m13 lh13 off13 => ?_⟩)
    have S := S.call lg13 m13 lh13 off13
    obtain ⟨w13, rfl⟩ := qIT b13.raw
    refine ⟨_, _, _, _, rfl, S.gA.canSt (Nat.le_refl _), ?_⟩
    rw [wp1 (by omega)]
    have gA' : At (h13.setN gb 0 (bc w13)) gb (bc w13) := S.gA.set (o := 0)
    have S' : R1 h0 g13 (h13.setN gb 0 (bc w13)) sb gb sv w13 op' lp' oc' lc' (BL ++ [t * w / s]) (vs ++ [w11]) :=
      ⟨S.l0, qj S.l S.gN, S.sA.set_ne S.gs, gA', S.gN, S.oO.set_ne S.no, S.oL.set_ne S.nl, S.d, S.no, S.nl, S.so, S.sl, S.gs⟩
    have e14 : qM [t * w / s] = t * w / s := by simp [qM]
    rw [e14] at nx
    exact nx g13 _ w13 op' lp' oc' lc' (vs ++ [w11]) S' ((bs.le lgA).le lg13) (b13.raw.more (by omega)) ((((bl.le lgB).snoc (b11.raw.more (by omega)))).le lg13)
end
end Go.Proofs.YtjihfieahkbohaaGreat

/- The reference's shares: walked, second half. -/
namespace Go.Proofs.YtjihfieahkbohaaGreat
open Go Go.Sy Go.Value
set_option linter.unusedVariables false
set_option linter.unusedSimpArgs false

def boS (M : List Bool) : List Value := M.map Value.bool
theorem qZO (M : List Bool) : (boS M).length = M.length := by simp [boS]
theorem qYu {M : List Bool} {i : Nat} {v : Bool} (h : i < M.length) : qBE (boS M) i [.bool v] = boS (M.set i v) := by
  rw [qBE, qBE, qE8, boS, boS, List.map_set]
theorem qYx {h : Heap} {mb i : Nat} {M : List Bool} {b : Bool} (A : At h mb (boS M)) (e : M[i]? = some b) : h.cell mb i = some (.bool b) := A.cell (by rw [boS, List.getElem?_map, e]; rfl)
/-! who is next -/
theorem qY6 {rs : List Int} {n m : Nat} (hm : m < n) {a : Int} (ha : 0 ≤ a ∧ a < (n : Int)) (h1 : a ∉ (qEC rs n).take m) (h2 : ∀ i : Int, 0 ≤ i → i < (n : Int) → i ∉ (qEC rs n).take m → i = a ∨ ltO rs a i = true) :
    (qEC rs n).take (m + 1) = (qEC rs n).take m ++ [a] := by
  have hs := qTq rs n
  have hl := qKh rs n
  have nd := qQm rs n
  have hmem : ∀ x, x ∈ qEC rs n ↔ 0 ≤ x ∧ x < (n : Int) := fun x => qQH
  generalize qEC rs n = o at *
  have hx : o[m]? = some o[m] := List.getElem?_eq_getElem (by omega)
  rw [List.take_add_one, hx]
  congr 1
  have hdrop : o.drop m = o[m] :: o.drop (m + 1) := List.drop_eq_getElem_cons (by omega)
  have ho : o = o.take m ++ o[m] :: o.drop (m + 1) := by rw [← hdrop, List.take_append_drop]
  have hin : o[m] ∈ o := List.getElem_mem _
  have h0 := (hmem _).1 hin
  generalize hz : o[m] = z at *
  have nz : z ∉ o.take m := fun hc => by
    rw [ho, List.nodup_append] at nd
    exact nd.2.2 z hc z (List.mem_cons_self ..) rfl
  have : a = z := by
    rcases h2 z h0.1 h0.2 nz with e | e
    · exact e.symm
    · have hao := (hmem a).2 ha
      rw [ho] at hao
      rcases List.mem_append.1 hao with g | g
      · exact absurd g h1
      · rcases List.mem_cons.1 g with g | g
        · exact g
        · rw [ho, List.pairwise_append, List.pairwise_cons] at hs
          rw [hs.2.1.1 a g] at e
          cases e
  rw [this]; rfl
structure R2 (h0 g h : Heap) (gb ob mb : Nat) (gv : BV) (ol : List Int) (osp : List Value) (M : List Bool) : Prop where
  l0 : h0.le g
  l : g.le h
  gA : At h gb (bc gv)
  gN : g gb = none
  oA : At h ob (qR .i64 ol ++ osp)
  oN : g ob = none
  mA : At h mb (boS M)
  mN : g mb = none
  n1 : ob ≠ gb
  n2 : mb ≠ gb
  n3 : mb ≠ ob
theorem R2.call {h0 g h g' h' : Heap} {gb ob mb : Nat} {gv : BV} {ol : List Int} {osp : List Value} {M : List Bool} (S : R2 h0 g h gb ob mb gv ol osp M) (lg : g.le g') (l1 : g'.le h') (lh : h.le h') (off : ∀ r o, h r = some o → g r = none → g' r = none) : R2 h0 g' h' gb ob mb gv ol osp M :=
  ⟨Heap.le_trans S.l0 lg, l1, S.gA.le lh, qQd S.gA S.gN off, S.oA.le lh, qQd S.oA S.oN off, S.mA.le lh, qQd S.mA S.mN off, S.n1, S.n2, S.n3⟩
def MarkS (M : List Bool) (P : List Int) (n : Nat) : Prop := M.length = n ∧ ∀ i, i < n → M[i]? = some (decide ((i : Int) ∈ P))
theorem MarkS.set {M : List Bool} {P : List Int} {n a : Nat} (m : MarkS M P n) (ha : a < n) : MarkS (M.set a true) (P ++ [(a : Int)]) n := by
  refine ⟨by rw [List.length_set]; exact m.1, fun i hi => ?_⟩
  rw [List.getElem?_set]
  by_cases e : a = i
  · subst e
    rw [if_pos rfl, if_pos (by rw [m.1]; exact ha)]
    simp
  · rw [if_neg e, m.2 i hi]
    have : ((i : Int) ∈ P ++ [(a : Int)]) ↔ (i : Int) ∈ P := by
      rw [List.mem_append, List.mem_singleton]
      exact ⟨fun x => x.elim id fun x => by omega, .inl⟩
    rw [decide_eq_decide.2 this]
def qbT (rs : List Int) (P : List Int) (at' : Int) (i : Nat) : Prop :=
  (at' = -1 ∧ ∀ i' : Nat, i' < i → (i' : Int) ∈ P) ∨ ∃ a : Nat, at' = (a : Int) ∧ a < i ∧ (a : Int) ∉ P ∧ ∀ i' : Nat, i' < i → (i' : Int) ∉ P → i' = a ∨ ltO rs (a : Int) (i' : Int) = true
theorem qSn {x y : Int} : (decide (qDp x y < 0) = true) ↔ x < y := by
  unfold qDp; rw [decide_eq_true_eq]; split <;> (try split) <;> omega
theorem qTK {x y : Int} : (decide (qDp x y > 0) = true) ↔ x > y := by
  unfold qDp; rw [decide_eq_true_eq]; split <;> (try split) <;> omega
section
variable {h0 : Heap} {K : Value → Heap → Prop}
theorem qaU {t : Int} {q lp : Option Addr} {n c oc lc gb ob mb : Nat} {rs ol P : List Int} {vs : List BV} {osp : List Value} {M : List Bool} {gv : BV} {x : Int} {bd : Nat} (hn : n ≤ 64) (hvs : vs.length = n) (hol : ol.length = n) (hg : geL ol) (hsum : qM ol + 1 ≤ 9223372036854775807) (hbd : 5 ≤ bd ∧ bd ≤ 100000)
    (hM : MarkS M P n) (hex : ∃ i : Nat, i < n ∧ (i : Int) ∉ P)
    (k : ∀ g h gv' (a : Nat), a < n → (a : Int) ∉ P → (∀ i : Nat, i < n → (i : Int) ∉ P → i = a ∨ ltO rs (a : Int) (i : Int) = true) → R2 h0 g h gb ob mb gv' (qJy ol (a : Int)) osp (M.set a true) → Arr bc g lp vs → Bgs g vs rs → BigR g (bv gv') (x + 1) (bd + 1) →
      qEQ t q n c (some ⟨ob, 0, none⟩) n oc lp n lc gb (some ⟨mb, 0, none⟩) n n h K) :
    ∀ (m i : Nat) (g h : Heap) (at' : Int), m + i = n → R2 h0 g h gb ob mb gv ol osp M → Arr bc g lp vs → Bgs g vs rs → BigR g (bv gv) x bd → qbT rs P at' i →
    qDO t q n c (some ⟨ob, 0, none⟩) n oc lp n lc gb (some ⟨mb, 0, none⟩) n n at' (i : Int) h K := by
  intro m
  induction m with
  | zero =>
    intro i g h at' hi S bl bL bg C
    refine qLl _ _ _ _ _ _ _ _ _ _ _ _ _ _ _ _ _ _ ?_
    unfold qIp
    have hin : i = n := by omega
    subst hin
    rcases C with ⟨_, C⟩ | ⟨a, rfl, ha, hap, C⟩
    · obtain ⟨i', h1, h2⟩ := hex
      exact absurd (C i' h1) h2
    have hm0 : a < M.length := by rw [hM.1]; exact ha
    have z : ∀ y : Nat, 0 + ((y : Nat) : Int).toNat = y := fun y => by rw [Int.toNat_natCast, Nat.zero_add]
    refine Br.no (by simp) ⟨by omega, by omega, qD rfl ⟨by rw [z]; exact S.mA.canSt (by rw [qZO]; omega), by omega, by omega, ?_⟩⟩
    rw [z]
    have mA := S.mA.set (o := a) (ws := [.bool true])
    rw [qYu hm0] at mA
    have oA := S.oA.set_ne (o := a) (ws := [.bool true]) (b' := mb) (Ne.symm S.n3)
    have gA := S.gA.set_ne (o := a) (ws := [.bool true]) (b' := mb) (Ne.symm S.n2)
    have l1 : g.le (h.setN mb a [.bool true]) := qj S.l S.mN
    generalize h.setN mb a [.bool true] = h1 at *
    have hg2 : ol[a]? = some (ol.getD a 0) := by rw [List.getD_eq_getElem?_getD, List.getElem?_eq_getElem (by omega)]; rfl
    have hb : 0 ≤ ol.getD a 0 ∧ ol.getD a 0 ≤ qM ol := ⟨hg _ (List.mem_of_getElem? hg2), (qKu hg).2 _ (List.mem_of_getElem? hg2)⟩
    have c1 : h1.cell ob a = some (.int .i64 (ol.getD a 0)) := oA.cell (by
      rw [List.getElem?_append_left (by rw [qd]; omega), qD5, List.getElem?_map, hg2]; rfl)
    refine qD rfl ⟨_, by rw [z]; exact c1, by omega, by omega, qD rfl ⟨by rw [z]; exact oA.canSt (by rw [List.length_append, qd]; omega), ?_⟩⟩
    rw [z, qH (n := ol.getD a 0 + 1) (by omega) (by omega)]
    have oA2 := oA.set (o := a) (ws := [.int .i64 (ol.getD a 0 + 1)])
    rw [qQ2 (by omega)] at oA2
    have mA2 := mA.set_ne (o := a) (ws := [.int .i64 (ol.getD a 0 + 1)]) S.n3
    have gA2 := gA.set_ne (o := a) (ws := [.int .i64 (ol.getD a 0 + 1)]) (Ne.symm S.n1)
    have l2 : g.le (h1.setN ob a [.int .i64 (ol.getD a 0 + 1)]) := qj l1 S.oN
    generalize h1.setN ob a [.int .i64 (ol.getD a 0 + 1)] = h2 at *
    have S : R2 h0 g h2 gb ob mb gv (qJy ol (a : Int)) osp (M.set a true) := ⟨S.l0, l2, gA2, S.gN, oA2, S.oN, mA2, S.mN, S.n1, S.n2, S.n3⟩
    refine ⟨_, S.gA.cell rfl, _, _, _, S.gA.cell rfl, stb S.l (qLP (by unfold I64; omega) fun v3 g3 lg3 b3 => ⟨lg3, fun h3 m3 lh3 off3 => ?_⟩)⟩
    have S := S.call lg3 m3 lh3 off3
    obtain ⟨w3, rfl⟩ := qIT b3.raw
    refine ⟨_, _, _, _, rfl, .inl lh3, stb S.l (qG5 (bg.le lg3) b3.raw (B := bd) (by omega) (by omega) (by omega) fun v4 g4 lg4 b4 => ⟨lg4, fun h4 m4 lh4 off4 => ?_⟩)⟩
    have S := S.call lg4 m4 lh4 off4
    obtain ⟨w4, rfl⟩ := qIT b4.raw
    refine ⟨_, _, _, _, rfl, S.gA.canSt (Nat.le_refl _), ?_⟩
    have gA' : At (h4.setN gb 0 (bc w4)) gb (bc w4) := S.gA.set (o := 0)
    have lg := Heap.le_trans lg3 lg4
    exact k g4 _ w4 a ha hap C ⟨S.l0, qj S.l S.gN, gA', S.gN, S.oA.set_ne S.n1, S.oN, S.mA.set_ne S.n2, S.mN, S.n1, S.n2, S.n3⟩ (bl.le lg) (bL.le lg) b4.raw
  | succ m ih =>
    intro i g h at' hi S bl bL bg C
    refine qLl _ _ _ _ _ _ _ _ _ _ _ _ _ _ _ _ _ _ ?_
    unfold qIp
    have z : ∀ y : Nat, 0 + ((y : Nat) : Int).toNat = y := fun y => by rw [Int.toNat_natCast, Nat.zero_add]
    rw [wp1 (by omega)]
    refine Br.yes (by simp; omega) ⟨by omega, by omega, qD rfl ⟨_, by rw [z]; exact qYx S.mA (hM.2 i (by omega)), ?_⟩⟩
    by_cases hp : (i : Int) ∈ P
    · rw [decide_eq_true hp]
      refine Br.no rfl (ih (i + 1) g h at' (by omega) S bl bL bg ?_)
      rcases C with ⟨e, C⟩ | ⟨a, e, ha, hap, C⟩
      · exact .inl ⟨e, fun i' h' => by
          by_cases e2 : i' = i
          · rw [e2]; exact hp
          · exact C i' (by omega)⟩
      · exact .inr ⟨a, e, by omega, hap, fun i' h' hn => by
          by_cases e2 : i' = i
          · rw [e2] at hn; exact absurd hp hn
          · exact C i' (by omega) hn⟩
    rw [decide_eq_false hp]
    refine Br.yes rfl ?_
    rcases C with ⟨rfl, C⟩ | ⟨a, rfl, ha, hap, C⟩
    · exact Br.yes (by decide) (ih (i + 1) g h _ (by omega) S bl bL bg (.inr ⟨i, rfl, by omega, hp, fun i' h' hn => by
        by_cases e2 : i' = i
        · exact .inl e2
        · exact absurd (C i' (by omega)) hn⟩))
    have xi : vs[i]? = some vs[i] := List.getElem?_eq_getElem (by omega)
    have xa : vs[a]? = some vs[a] := List.getElem?_eq_getElem (by omega)
    have Bi := bL.2 i _ xi
    have Ba := bL.2 a _ xa
    refine Br.no (by simp) (ax qTD (bl.le S.l) hvs rfl xi (by decide) fun b o _ r => ⟨_, by have := r 0 (by decide); exact this, _, _, _, by have := r 1 (by decide); exact this, ax qTD (bl.le S.l) hvs rfl xa (by decide) fun b2 o2 _ r2 => ⟨_, by have := r2 0 (by decide); exact this, _, _, _, by have := r2 1 (by decide); exact this, ?_⟩⟩)
    refine stb S.l (qQi Bi Ba (by omega) (by omega) fun g1 lg1 => ⟨lg1, fun h1 m1 lh1 off1 => ⟨_, rfl, ?_⟩⟩)
    have S := S.call lg1 m1 lh1 off1
    have rd : ∀ y : Nat, rs.getD ((y : Nat) : Int).toNat 0 = rs.getD y 0 := fun y => by rw [Int.toNat_natCast]
    refine Br.intro (fun g2 => ?_) fun g2 => ?_
    · rw [qTK] at g2
      refine ih (i + 1) g1 h1 _ (by omega) S (bl.le lg1) (bL.le lg1) (bg.le lg1) (.inr ⟨i, rfl, by omega, hp, fun i' h' hn => ?_⟩)
      by_cases e2 : i' = i
      · exact .inl e2
      · right
        rcases C i' (by omega) hn with e3 | e3
        · rw [e3, qJc, rd, rd]; left; omega
        · rw [qJc, rd, rd] at e3 ⊢; omega
    · rw [← Bool.not_eq_true, qTK] at g2
      refine ih (i + 1) g1 h1 _ (by omega) S (bl.le lg1) (bL.le lg1) (bg.le lg1) (.inr ⟨a, rfl, by omega, hap, fun i' h' hn => ?_⟩)
      by_cases e2 : i' = i
      · right
        rw [e2, qJc, rd, rd]; omega
      · exact C i' (by omega) hn
theorem qaO {t : Int} {q lp : Option Addr} {n c oc lc gb ob mb : Nat} {rs bs : List Int} {vs : List BV} {osp : List Value} (hn : n ≤ 64) (ht : I64 t) (hvs : vs.length = n) (hbs : bs.length = n) (hg : geL bs) {mis : Nat} (hmis : mis < n) (hx : qM bs + (mis : Int) = t)
    (k : ∀ h', h0.le h' → At h' ob (qR .i64 (qJW bs ((qEC rs n).take mis)) ++ osp) → K (tuple #[slice (some ⟨ob, 0, none⟩) n oc, .int .i64 0]) h') :
    ∀ (d m : Nat) (g h : Heap) (gv : BV) (M : List Bool), d + m = mis → R2 h0 g h gb ob mb gv (qJW bs ((qEC rs n).take m)) osp M → Arr bc g lp vs → Bgs g vs rs → BigR g (bv gv) (qM bs + (m : Int)) (2000 + m) → MarkS M ((qEC rs n).take m) n →
    qEQ t q n c (some ⟨ob, 0, none⟩) n oc lp n lc gb (some ⟨mb, 0, none⟩) n n h K := by
  intro d
  induction d with
  | zero =>
    intro m g h gv M hd S bl bL bg hM
    refine qLb _ _ _ _ _ _ _ _ _ _ _ _ _ _ _ _ ?_
    unfold qIq
    have hmm : m = mis := by omega
    subst hmm
    refine ⟨_, S.gA.cell rfl, _, _, _, S.gA.cell rfl, stb S.l (qLP ht fun v1 g1 lg1 b1 => ⟨lg1, fun h1 m1 lh1 off1 => ?_⟩)⟩
    have S := S.call lg1 m1 lh1 off1
    obtain ⟨w1, rfl⟩ := qIT b1.raw
    refine ⟨_, _, _, _, rfl, .inl lh1, stb S.l (qQi (bg.le lg1) b1.raw (by omega) (by omega) fun g2 lg2 => ⟨lg2, fun h2 m2 lh2 off2 => ⟨_, rfl, ?_⟩⟩)⟩
    have S := S.call lg2 m2 lh2 off2
    exact Br.no (by rw [← Bool.not_eq_true, qSn]; omega) (Ret.mk (k h2 (Heap.le_trans S.l0 S.l) S.oA))
  | succ d ih =>
    intro m g h gv M hd S bl bL bg hM
    refine qLb _ _ _ _ _ _ _ _ _ _ _ _ _ _ _ _ ?_
    unfold qIq
    refine ⟨_, S.gA.cell rfl, _, _, _, S.gA.cell rfl, stb S.l (qLP ht fun v1 g1 lg1 b1 => ⟨lg1, fun h1 m1 lh1 off1 => ?_⟩)⟩
    have S := S.call lg1 m1 lh1 off1
    obtain ⟨w1, rfl⟩ := qIT b1.raw
    refine ⟨_, _, _, _, rfl, .inl lh1, stb S.l (qQi (bg.le lg1) b1.raw (by omega) (by omega) fun g2 lg2 => ⟨lg2, fun h2 m2 lh2 off2 => ⟨_, rfl, ?_⟩⟩)⟩
    have S := S.call lg2 m2 lh2 off2
    have lg := Heap.le_trans lg1 lg2
    refine Br.yes (by rw [qSn]; omega) ?_
    have hin : ∀ x ∈ (qEC rs n).take m, 0 ≤ x ∧ x < (bs.length : Int) := fun x hx => by rw [hbs]; exact qQH.1 (List.mem_of_mem_take hx)
    have hsm := qSQ ((qEC rs n).take m) bs hin
    have hlt : ((qEC rs n).take m).length = m := by rw [List.length_take, qKh]; omega
    have hex : ∃ i : Nat, i < n ∧ (i : Int) ∉ (qEC rs n).take m := by
      have ho : (qEC rs n)[m]'(by rw [qKh]; omega) ∈ qEC rs n := List.getElem_mem _
      have hr := qQH.1 ho
      refine ⟨((qEC rs n)[m]'(by rw [qKh]; omega)).toNat, by omega, ?_⟩
      rw [Int.toNat_of_nonneg hr.1]
      intro hc
      obtain ⟨j, hj, e⟩ := List.mem_take_iff_getElem.1 hc
      have := List.pairwise_iff_getElem.1 (qQm rs n) j m (by omega) (by rw [qKh]; omega) (by omega)
      exact this e
    unfold I64 at ht
    refine qaU (x := qM bs + (m : Int)) (bd := 2000 + m) hn hvs (by rw [qQG, hbs]) (qUA _ _ hg) (by rw [hsm, hlt]; omega) (by omega) hM hex (fun g3 h3 gv3 a ha hap hmin S3 bl3 bL3 bg3 => ?_) n 0 g2 h2 (-1) (by omega) S (bl.le lg) (bL.le lg) (bg.le lg) (.inl ⟨rfl, fun i' h' => by omega⟩)
    have nx := qY6 (rs := rs) (n := n) (m := m) (by omega) (a := (a : Int)) (by omega) hap fun i hi0 hi1 hi => by
      rcases hmin i.toNat (by omega) (by rw [Int.toNat_of_nonneg hi0]; exact hi) with e | e
      · left; omega
      · right; rw [Int.toNat_of_nonneg hi0] at e; exact e
    refine ih (m + 1) g3 h3 gv3 _ (by omega) ?_ bl3 bL3 ?_ (by rw [nx]; exact hM.set ha)
    · rw [nx, qJW, List.foldl_append]; exact S3
    · have e : qM bs + ((m + 1 : Nat) : Int) = qM bs + (m : Int) + 1 := by omega
      rw [e]; exact bg3
end
end Go.Proofs.YtjihfieahkbohaaGreat
