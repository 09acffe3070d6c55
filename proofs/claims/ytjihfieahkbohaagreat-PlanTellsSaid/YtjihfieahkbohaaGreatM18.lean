import Derived.Test.YtjihfieahkbohaaGreatM17
import Derived.Test.YtjihfieahkbohaaGreatM15
import Derived.Test.YtjihfieahkbohaaGreatM05
import Derived.Test.YtjihfieahkbohaaGreatM11
import Derived.Test.YtjihfieahkbohaaGreatM10
import Derived.Test.YtjihfieahkbohaaGreatM02
/- Who is behind, as the reference tells it. -/
namespace Go.Proofs.YtjihfieahkbohaaGreat
open Go Go.Sy Go.Value
set_option linter.unusedVariables false
set_option linter.unusedSimpArgs false

theorem qXG {h : Heap} {s c b : Nat} {neg : Bool} {p : Option Addr} {ds : List Int} {n x : Int} (hn : I64 n) (ss : At h s [.bool neg, slice p ds.length c]) (rd : Ints .i64 h p ds) (ok : okD ds) (e : sg neg ds = x) (hc : ds.length ≤ c) (hb : ds.length ≤ b) (hb2 : 5 ≤ b) (hb3 : b ≤ 100000) {J : Heap → Prop}
    (k : ∀ h2 neg' p' c' ds', h.le h2 → At (h2.setN s 0 [.bool neg', slice p' (List.length ds') c']) s [.bool neg', slice p' ds'.length c'] → Ints .i64 (h2.setN s 0 [.bool neg', slice p' ds'.length c']) p' ds' → okD ds' → sg neg' ds' = x + n → ds'.length ≤ c' → ds'.length ≤ b + 1 → J (h2.setN s 0 [.bool neg', slice p' ds'.length c'])) :
    CallA Tryz.prog qAk [.int .i64 n] h fun (v : Value) (h_1 : Heap) => ∃ (b_2 : Bool), ∃ (a_1 : Option Addr), ∃ (n_2 : Nat), ∃ (m_2 : Nat), v = agg #[Value.bool b_2, slice a_1 n_2 m_2] ∧ (Heap.le h h_1 ∨ qBN [s] h h_1) ∧
      CallA Tryz.prog qAn [agg #[Value.bool neg, slice p ds.length c], agg #[Value.bool b_2, slice a_1 n_2 m_2]] h_1 fun (v : Value) (h : Heap) => ∃ (b_3 : Bool), ∃ (a : Option Addr), ∃ (n : Nat), ∃ (m_3 : Nat), v = agg #[Value.bool b_3, slice a n m_3] ∧ Heap.canSt h s 0 2 ∧ J (Heap.setN h s 0 [Value.bool b_3, slice a n m_3]) := by
  refine qLP hn fun v1 h1 l1 bn1 => ?_
  have br1 := bn1.raw
  obtain ⟨n1, p1, c1, d1, rfl, r1, o1, x1, lc1, lb1, _⟩ := bn1
  refine ⟨_, _, _, _, rfl, .inl l1, ?_⟩
  refine qG5 (x := sg neg ds) (na := b) (B := b) ⟨neg, p, c, ds, rfl, rd.le l1, ok, rfl, hc, hb⟩ br1 (by omega) (by omega) (by omega) fun v2 h2 l2 bn2 => ?_
  obtain ⟨n2, p2, c2, d2, rfl, r2, o2, x2, lc2, lb2, _⟩ := bn2
  have ss2 := ss.le (Heap.le_trans l1 l2)
  refine ⟨_, _, _, _, rfl, ss2.canSt (by simp), ?_⟩
  have ss3 := ss2.set (o := 0) (ws := [.bool n2, slice p2 d2.length c2])
  exact k h2 n2 p2 c2 d2 (Heap.le_trans l1 l2) ss3 (qH1 r2 ss2) o2 (by rw [← x2, e]) lc2 lb2
section
variable {g : Heap} {K : Value → Heap → Prop} {q pp : Option Addr} {D : List Du} {PL : List NRow} {dc pc : Nat} {now : Int} {mo wi : Nat}
theorem qQl {h : Heap} {op : Option Addr} {oc : Nat} {O : List Du} {m c : Nat} {n t d : Int} (l : g.le h) (hO : OwnL g h z4 op oc (O.flatMap uV)) (hlen : O.length ≤ 1000000) (hc : c ≤ 1000)
    (h1 : 0 < n → n = t - d) (h2 : n ≤ 0 → t - d ≤ 0) {P : List (List Int)} (hd : qDd P m c = d) {F : List Du} (ht : qAR m c F = t)
    (k : ∀ h' op' oc', g.le h' → OwnL g h' z4 op' oc' ((O ++ qJX P now F m c).flatMap uV) → qy q D.length dc pp PL.length pc now mo wi op' (O ++ qJX P now F m c).length oc' m ((c + 1 : Nat) : Int) h' K) :
    Br (decide (n > 0)) (qL h [.int .i64 (m : Int), .int .i64 (c : Int), .int .i64 now, .int .i64 n] 61 fun (r : Nat) (h : Heap) => AppA [.int .i64 0, .int .i64 0, .int .i64 0, .int .i64 0] 61 h op O.length oc 1 (some ⟨r, 0, none⟩) fun (ap : Option Addr) (cp : Nat) (h : Heap) =>
        qy q D.length dc pp PL.length pc now mo wi ap (O.length + 1) cp m (IntKind.wrap .i64 ((c : Int) + 1)) h K)
      (qy q D.length dc pp PL.length pc now mo wi op O.length oc m (IntKind.wrap .i64 ((c : Int) + 1)) h K) := by
  rw [w1 (j := c) (by omega)]
  refine Br.dec (fun g1 => ?_) fun g1 => ?_
  · have e : qJX P now F m c = [⟨m, c, now, n⟩] := by
      unfold qJX qEF
      dsimp only
      rw [ht, hd, if_pos (by have := h1 g1; omega), h1 g1]
    rw [e] at k
    refine qKm (ws := uV ⟨m, c, now, n⟩) hO (by decide) l (by omega) rfl rfl (by rw [qAO qAp]; rfl) fun r h5 p' c' h6 hr l5 l6 O' keep how => ?_
    have := k h6 p' c' l6 (by rw [List.flatMap_append, List.flatMap_cons, List.flatMap_nil, List.append_nil]; exact O')
    rw [List.length_append] at this
    exact this
  · have e : qJX P now F m c = [] := by
      unfold qJX qEF
      dsimp only
      rw [ht, hd, if_neg (by have := h2 (by omega); omega)]
    rw [e, List.append_nil] at k
    exact k h op oc l hO
theorem qXY {m c : Int} {j : Nat} {x : Du} (hx : D[j]? = some x) : qAR m c ((D.take (j + 1)).filter fun x => decide (x.t ≤ now)) = qAR m c ((D.take j).filter fun x => decide (x.t ≤ now)) + if x.t ≤ now ∧ x.m = m ∧ x.c = c then x.n else 0 := by
  rw [List.take_add_one, hx, List.filter_append, qNd]
  congr 1
  by_cases h : x.t ≤ now
  · rw [Option.toList_some, List.filter_cons_of_pos (by simpa using h), List.filter_nil, qSt]
    by_cases h2 : x.m = m ∧ x.c = c
    · rw [if_pos h2, if_pos ⟨h, h2⟩]
    · rw [if_neg h2, if_neg fun e => h2 e.2]
  · rw [Option.toList_some, List.filter_cons_of_neg (by simpa using h), List.filter_nil, if_neg fun e => h e.1]; rfl
theorem qa2 {op : Option Addr} {oc s : Nat} {O : List Du} {m c : Nat} (A : Arr uV g q D) (hs : D.length ≤ 4096) (hD : ∀ x ∈ D, okU x) (N : Nets g pp PL) (hP : ∀ y ∈ PL, qAq y.l) (hg : g s = none) (hne : op ≠ some ⟨s, 0, none⟩) (hlen : O.length ≤ 1000000) (hc : c ≤ 1000)
    (k3 : 9223372036854775807 < qAR m c (D.filter fun x => decide (x.t ≤ now)) → ∀ h', g.le h' → K (tuple #[slice none 0 0, .int .i64 3]) h')
    (k : qAR m c (D.filter fun x => decide (x.t ≤ now)) ≤ 9223372036854775807 → ∀ h' op' oc', g.le h' → OwnL g h' z4 op' oc' ((O ++ qJX (mxN PL) now (D.filter fun x => decide (x.t ≤ now)) m c).flatMap uV) →
      qy q D.length dc pp PL.length pc now mo wi op' (O ++ qJX (mxN PL) now (D.filter fun x => decide (x.t ≤ now)) m c).length oc' m ((c + 1 : Nat) : Int) h' K) :
    ∀ (a j : Nat) (h : Heap) (neg : Bool) (p : Option Addr) (cp : Nat) (ds : List Int), a + j = D.length → g.le h → At h s [.bool neg, slice p ds.length cp] → Ints .i64 h p ds → okD ds → sg neg ds = qAR m c ((D.take j).filter fun x => decide (x.t ≤ now)) → ds.length ≤ cp → ds.length ≤ 5 + j →
      OwnL g h z4 op oc (O.flatMap uV) → qBw q D.length dc pp PL.length pc now mo wi op O.length oc m c s j h K := by
  intro a
  induction a with
  | zero =>
    intro j h neg p cp ds hj l ss rd ok e h1 h2 hO
    refine qLn _ _ _ _ _ _ _ _ _ _ _ _ _ _ _ _ _ _ ?_
    unfold qIm
    rw [List.take_of_length_le (by omega)] at e
    refine Br.no (by simp; omega) ⟨_, ss.cell rfl, _, _, _, ss.cell rfl, qUZ (x := qAR m c (D.filter fun x => decide (x.t ≤ now))) (na := 5 + j) ⟨neg, p, cp, ds, rfl, rd, ok, e.symm, h1, h2⟩ (by omega) fun h3 l3 => ⟨_, _, rfl, ?_⟩⟩
    have l03 := Heap.le_trans l l3
    have hge : 0 ≤ qAR m c (D.filter fun x => decide (x.t ≤ now)) := qRL fun y hy => hD y (List.mem_filter.1 hy).1
    have k := fun x => k x
    generalize hT : qAR m c (D.filter fun x => decide (x.t ≤ now)) = T at *
    by_cases hov : 9223372036854775807 < T
    · rw [qFz (by unfold I64; omega)]
      exact Br.yes rfl (Ret.mk (k3 hov h3 l03))
    rw [qHQ (by unfold I64; omega)]
    have k := k (by omega)
    have row : ∀ y, PL[m]? = some y → (mxN PL).getD m [] = y.l := fun y hy => by unfold mxN; rw [List.getD_eq_getElem?_getD, List.getElem?_map, hy]; rfl
    have pz : ∀ v : Int, ((mxN PL).getD m []).getD c 0 = v → qDd (mxN PL) m c = if 0 > v then 0 else v := fun v hv => by
      unfold qDd
      rw [Int.toNat_natCast, Int.toNat_natCast, hv]
    refine Br.no rfl (Br.dec (fun g1 => ?_) fun g1 => ?_)
    · have hy : PL[m]? = some PL[m] := List.getElem?_eq_getElem (by omega)
      have hym : PL[m] ∈ PL := List.getElem_mem _
      generalize PL[m] = y at *
      have hr := row y hy
      refine nx (N.le l03) rfl rfl hy (Br.dec (fun g2 => ?_) fun g2 => ?_)
      · have hv : y.l[c]? = some (y.l.getD c 0) := by rw [List.getD_eq_getElem?_getD, List.getElem?_eq_getElem (by omega)]; rfl
        have hI := hP y hym _ (List.mem_of_getElem? hv)
        have pd := pz (y.l.getD c 0) (by rw [hr])
        have YI := ((N.2 y hym).le l03)
        generalize y.l.getD c 0 = v at *
        unfold I64 at hI
        refine nx (N.le l03) rfl rfl hy (ix YI rfl rfl hv (Br.dec (fun g3 => ?_) fun g3 => ?_))
        · rw [if_neg (by omega)] at pd
          refine nx (N.le l03) rfl rfl hy (ix YI rfl rfl hv ?_)
          have hw : IntKind.wrap .i64 (T - if T < v then T else v) = T - if T < v then T else v := by
            by_cases h : T < v
            · rw [if_pos h, qH (by omega) (by omega)]
            · rw [if_neg h, qH (by omega) (by omega)]
          rw [hw]
          refine qQl (t := T) (d := v) l03 (hO.le l3) hlen hc (fun h => ?_) (fun h => ?_) pd hT k
          · by_cases h5 : T < v
            · rw [if_pos h5] at h; omega
            · rw [if_neg h5]
          · by_cases h5 : T < v
            · omega
            · rw [if_neg h5] at h; omega
        · have pd : qDd (mxN PL) m c = 0 := by rw [pd]; split <;> omega
          exact qQl (t := T) (d := 0) l03 (hO.le l3) hlen hc (fun h => by omega) (fun h => by omega) pd hT k
      · have pd := pz 0 (by rw [hr, List.getD_eq_getElem?_getD, List.getElem?_eq_none (by omega)]; rfl)
        rw [if_neg (by omega)] at pd
        exact qQl (t := T) (d := 0) l03 (hO.le l3) hlen hc (fun h => by omega) (fun h => by omega) pd hT k
    · have pd := pz 0 (by
        rw [List.getD_eq_getElem?_getD (l := mxN PL), List.getElem?_eq_none (by unfold mxN; rw [List.length_map]; omega)]; rfl)
      rw [if_neg (by omega)] at pd
      exact qQl (t := T) (d := 0) l03 (hO.le l3) hlen hc (fun h => by omega) (fun h => by omega) pd hT k
  | succ a ih =>
    intro j h neg p cp ds hj l ss rd ok e h1 h2 hO
    refine qLn _ _ _ _ _ _ _ _ _ _ _ _ _ _ _ _ _ _ ?_
    unfold qIm
    have hx : D[j]? = some D[j] := List.getElem?_eq_getElem (by omega)
    have hxm : D[j] ∈ D := List.getElem_mem _
    generalize D[j] = x at *
    have sn := qXY (now := now) (m := (m : Int)) (c := (c : Int)) hx
    have hxo := hD x hxm
    unfold okU at hxo
    have A1 := A.le l
    rw [w1 (j := j) (by omega)]
    have skip : ¬ (x.t ≤ now ∧ x.m = (m : Int) ∧ x.c = (c : Int)) → qBw q D.length dc pp PL.length pc now mo wi op O.length oc m c s ((j + 1 : Nat) : Int) h K := fun hn =>
      ih (j + 1) h neg p cp ds (by omega) l ss rd ok (by rw [sn, if_neg hn, e, Int.add_zero]) h1 (by omega) hO
    refine Br.yes (by simp; omega) (ax qAp A1 rfl rfl hx (by decide) fun b o _ hc1 => ⟨_, hc1 2 (by decide), Br.dec (fun g1 => ax qAp A1 rfl rfl hx (by decide) fun b o _ hc2 => ⟨_, hc2 0 (by decide), Br.intro (fun g2 => ax qAp A1 rfl rfl hx (by decide) fun b o _ hc3 => ⟨_, hc3 1 (by decide), Br.intro (fun g3 => ?_) fun g3 => skip ?_⟩) fun g2 => skip ?_⟩) fun g1 => skip ?_⟩)
    · have g2 : x.m = (m : Int) := by simpa using g2
      have g3 : x.c = (c : Int) := by simpa using g3
      refine ⟨_, ss.cell rfl, _, _, _, ss.cell rfl, ax qAp A1 rfl rfl hx (by decide) fun b o _ hc4 => ⟨_, hc4 3 (by decide), ?_⟩⟩
      refine qXG (J := fun h => qBw q D.length dc pp PL.length pc now mo wi op O.length oc m c s ((j + 1 : Nat) : Int) h K) (b := 5 + j) (n := x.n) (by unfold I64; omega) ss rd ok e h1 h2 (by omega) (by omega) fun h2 neg' p' c' ds' l2 ss' rd' ok' e' h1' h2' => ?_
      exact ih (j + 1) _ neg' p' c' ds' (by omega) (qj (Heap.le_trans l l2) hg) ss' rd' ok' (by rw [sn, if_pos ⟨g1, g2, g3⟩, e']) h1' (by omega) ((hO.le l2).set_ne hne)
    · have g3 : ¬ x.c = (c : Int) := by simpa using g3
      exact fun e => g3 e.2.2
    · have g2 : ¬ x.m = (m : Int) := by simpa using g2
      exact fun e => g2 e.2.1
    · exact fun e => g1 e.1
theorem qXg (P : List (List Int)) (now : Int) (F : List Du) (m j : Nat) : qJl P now F m (j + 1) = qJl P now F m j ++ qJX P now F m j := qIW _ _
theorem qXZ (P : List (List Int)) (now : Int) (F : List Du) (w i : Nat) : qFX P now F w (i + 1) = qFX P now F w i ++ qJl P now F i w := qIW _ _
theorem qWv (P : List (List Int)) (now : Int) (F : List Du) (m c : Nat) : (qJX P now F m c).length ≤ 1 := by unfold qJX qEF; split <;> simp
theorem qRh (P : List (List Int)) (now : Int) (F : List Du) (m j : Nat) : (qJl P now F m j).length ≤ j := Nat.le_trans (qJ1 (fun c => qWv P now F m c) j) (by omega)
theorem qWN (P : List (List Int)) (now : Int) (F : List Du) (w i : Nat) : (qFX P now F w i).length ≤ i * w := qJ1 (fun m => qRh P now F m w) i
theorem qbP {m : Nat} (A : Arr uV g q D) (hs : D.length ≤ 4096) (hD : ∀ x ∈ D, okU x) (N : Nets g pp PL) (hP : ∀ y ∈ PL, qAq y.l) (hmo : mo < 30) (hwi : wi < 30) (hm : m ≤ mo)
    (k3 : ∀ m c : Nat, 9223372036854775807 < qAR m c (D.filter fun x => decide (x.t ≤ now)) → ∀ h', g.le h' → K (tuple #[slice none 0 0, .int .i64 3]) h')
    (k : (∀ c, c ≤ wi → qAR m c (D.filter fun x => decide (x.t ≤ now)) ≤ 9223372036854775807) → ∀ h' op' oc', g.le h' → OwnL g h' z4 op' oc' ((qFX (mxN PL) now (D.filter fun x => decide (x.t ≤ now)) (wi + 1) (m + 1)).flatMap uV) →
      qEP q D.length dc pp PL.length pc now mo wi op' (qFX (mxN PL) now (D.filter fun x => decide (x.t ≤ now)) (wi + 1) (m + 1)).length oc' ((m + 1 : Nat) : Int) h' K) :
    ∀ (a c : Nat) (h : Heap) (op : Option Addr) (oc : Nat), a + c = wi + 1 → g.le h → (∀ c', c' < c → qAR m c' (D.filter fun x => decide (x.t ≤ now)) ≤ 9223372036854775807) →
      OwnL g h z4 op oc ((qFX (mxN PL) now (D.filter fun x => decide (x.t ≤ now)) (wi + 1) m ++ qJl (mxN PL) now (D.filter fun x => decide (x.t ≤ now)) m c).flatMap uV) →
      qy q D.length dc pp PL.length pc now mo wi op (qFX (mxN PL) now (D.filter fun x => decide (x.t ≤ now)) (wi + 1) m ++ qJl (mxN PL) now (D.filter fun x => decide (x.t ≤ now)) m c).length oc m c h K := by
  intro a
  induction a with
  | zero =>
    intro c h op oc hc l hs hO
    refine qLg _ _ _ _ _ _ _ _ _ _ _ _ _ _ _ _ ?_
    unfold qIl
    have hc : c = wi + 1 := by omega
    subst hc
    rw [← qXZ] at hO ⊢
    rw [w1 (j := m) (by omega)]
    exact Br.no (decide_eq_false (by omega)) (k (fun c hc => hs c (by omega)) h op oc l hO)
  | succ a ih =>
    intro c h op oc hc l hs' hO
    refine qLg _ _ _ _ _ _ _ _ _ _ _ _ _ _ _ _ ?_
    unfold qIl
    have l1 := qWN (mxN PL) now (D.filter fun x => decide (x.t ≤ now)) (wi + 1) m
    have l2 := qRh (mxN PL) now (D.filter fun x => decide (x.t ≤ now)) m c
    have l3 : m * (wi + 1) ≤ 30 * 30 := Nat.mul_le_mul (by omega) (by omega)
    refine Br.yes (decide_eq_true (by omega)) (qFm (vs := [.bool false, slice none 0 0]) rfl fun r h4 hr l4 A4 cs4 => ⟨cs4, ?_⟩)
    have gr : g r = none := qm l hr
    refine qa2 A hs hD N hP gr (fun e => hO.fresh hr e) (by rw [List.length_append]; omega) (by omega) (k3 m c) (fun hle h' op' oc' l' O' => ?_) D.length 0 _ false none 0 [] (by omega) (Heap.le_trans l l4) A4 (.inl rfl) (fun d hd => by cases hd) rfl (Nat.le_refl _) (by simp) (hO.le l4)
    rw [List.append_assoc, ← qXg] at O' ⊢
    exact ih (c + 1) h' op' oc' (by omega) l' (fun c' hc' => by
      by_cases h : c' = c
      · rw [h]; exact hle
      · exact hs' c' (by omega)) O'
theorem qbB (A : Arr uV g q D) (hs : D.length ≤ 4096) (hD : ∀ x ∈ D, okU x) (N : Nets g pp PL) (hP : ∀ y ∈ PL, qAq y.l) (hmo : mo < 30) (hwi : wi < 30)
    (k3 : ∀ m c : Nat, 9223372036854775807 < qAR m c (D.filter fun x => decide (x.t ≤ now)) → ∀ h', g.le h' → K (tuple #[slice none 0 0, .int .i64 3]) h')
    (k : (∀ m c : Nat, m ≤ mo → c ≤ wi → qAR m c (D.filter fun x => decide (x.t ≤ now)) ≤ 9223372036854775807) → ∀ h' op oc, g.le h' → Arr uV h' op (qFX (mxN PL) now (D.filter fun x => decide (x.t ≤ now)) (wi + 1) (mo + 1)) →
      K (tuple #[slice op (qFX (mxN PL) now (D.filter fun x => decide (x.t ≤ now)) (wi + 1) (mo + 1)).length oc, .int .i64 0]) h') :
    ∀ (a m : Nat) (h : Heap) (op : Option Addr) (oc : Nat), a + m = mo + 1 → g.le h → (∀ m' c : Nat, m' < m → c ≤ wi → qAR m' c (D.filter fun x => decide (x.t ≤ now)) ≤ 9223372036854775807) →
      OwnL g h z4 op oc ((qFX (mxN PL) now (D.filter fun x => decide (x.t ≤ now)) (wi + 1) m).flatMap uV) →
      qEP q D.length dc pp PL.length pc now mo wi op (qFX (mxN PL) now (D.filter fun x => decide (x.t ≤ now)) (wi + 1) m).length oc m h K := by
  intro a
  induction a with
  | zero =>
    intro m h op oc hm l hs' hO
    refine qLp _ _ _ _ _ _ _ _ _ _ _ _ _ _ _ ?_
    unfold qI0
    have hm : m = mo + 1 := by omega
    subst hm
    exact Br.no (decide_eq_false (by omega)) (Ret.mk (k (fun m c h1 h2 => hs' m c (by omega) h2) h op oc l hO.rd))
  | succ a ih =>
    intro m h op oc hm l hs' hO
    refine qLp _ _ _ _ _ _ _ _ _ _ _ _ _ _ _ ?_
    unfold qI0
    refine Br.yes (decide_eq_true (by omega)) ?_
    have := qbP (K := K) (dc := dc) (pc := pc) (m := m) A hs hD N hP hmo hwi (by omega) k3 (fun hle h' op' oc' l' O' => ih (m + 1) h' op' oc' (by omega) l' (fun m' c h1 h2 => by
      by_cases e : m' = m
      · rw [e]; exact hle c h2
      · exact hs' m' c (by omega) h2) O') (wi + 1) 0 h op oc (by omega) l (fun c' hc' => absurd hc' (by omega)) (by rw [show qJl (mxN PL) now (D.filter fun x => decide (x.t ≤ now)) m 0 = [] from rfl, List.append_nil]; exact hO)
    rw [show qJl (mxN PL) now (D.filter fun x => decide (x.t ≤ now)) m 0 = [] from rfl, List.append_nil] at this
    exact this
end
section
variable {h : Heap} {K : Value → Heap → Prop} {q pp : Option Addr} {D : List Du} {PL : List NRow} {dc pc : Nat} {now : Int}
theorem qa8 (A : Arr uV h q D) (hs : D.length ≤ 4096) (h30 : ∀ x ∈ D, x.m < 30 ∧ x.c < 30) (k1 : D.any qEO = true → K (tuple #[slice none 0 0, .int .i64 1]) h)
    (k : D.any qEO = false → ∀ mo wi : Nat, mo < 30 → wi < 30 → (∀ y ∈ D.filter (fun x => decide (x.t ≤ now)), y.m ≤ (mo : Int) ∧ y.c ≤ (wi : Int)) → qL h [] 61 fun r h => qEP q D.length dc pp PL.length pc now mo wi (some ⟨r, 0, none⟩) 0 0 0 h K) :
    ∀ (a j mo wi : Nat), a + j = D.length → mo < 30 → wi < 30 → (D.take j).any qEO = false → (∀ y ∈ (D.take j).filter (fun x => decide (x.t ≤ now)), y.m ≤ (mo : Int) ∧ y.c ≤ (wi : Int)) → qET q D.length dc pp PL.length pc now mo wi j h K := by
  intro a
  induction a with
  | zero =>
    intro j mo wi hj h1 h2 h3 h4
    refine qLh _ _ _ _ _ _ _ _ _ _ _ _ ?_
    unfold qIg
    rw [List.take_of_length_le (by omega)] at h3 h4
    exact Br.no (by simp; omega) (k h3 mo wi h1 h2 h4)
  | succ a ih =>
    intro j mo wi hj h1 h2 h3 h4
    refine qLh _ _ _ _ _ _ _ _ _ _ _ _ ?_
    unfold qIg
    have hx : D[j]? = some D[j] := List.getElem?_eq_getElem (by omega)
    have hxm : D[j] ∈ D := List.getElem_mem _
    have tk : D.take (j + 1) = D.take j ++ [D[j]] := by rw [List.take_add_one, hx]; rfl
    generalize D[j] = x at *
    have hx30 := h30 x hxm
    have bad : x.m < 0 ∨ x.c < 0 ∨ x.n < 1 → Ret h K (tuple #[slice none 0 0, .int .i64 1]) := fun hb => Ret.mk (k1 (by
      rw [List.any_eq_true]
      exact ⟨x, hxm, by unfold qEO; exact decide_eq_true hb⟩))
    rw [w1 (j := j) (by omega)]
    refine Br.yes (by simp; omega) (ax qAp A rfl rfl hx (by decide) fun b o _ hc1 => ⟨_, hc1 0 (by decide), Br.dec (fun g => bad (.inl g)) fun g1 => ax qAp A rfl rfl hx (by decide) fun b o _ hc2 => ⟨_, hc2 1 (by decide), Br.dec (fun g => bad (.inr (.inl g))) fun g2 =>
      ax qAp A rfl rfl hx (by decide) fun b o _ hc3 => ⟨_, hc3 3 (by decide), Br.dec (fun g => bad (.inr (.inr g))) fun g3 => ax qAp A rfl rfl hx (by decide) fun b o _ hc4 => ⟨_, hc4 2 (by decide), Br.dec (fun g4 => ?_) fun g4 => ?_⟩⟩⟩⟩)
    · refine ax qAp A rfl rfl hx (by decide) fun b o _ hc5 => ⟨_, hc5 0 (by decide), ax qAp A rfl rfl hx (by decide) fun b o _ hc6 => ⟨_, hc6 1 (by decide), ?_⟩⟩
      have mx : ∀ (v : Int) (w : Nat), 0 ≤ v → v < 30 → w < 30 → ∃ w' : Nat, (if v > (w : Int) then v else (w : Int)) = (w' : Int) ∧ w' < 30 ∧ w ≤ w' ∧ v ≤ (w' : Int) := fun v w a1 a2 a3 => by
        by_cases hh : v > (w : Int)
        · exact ⟨v.toNat, by rw [if_pos hh]; omega, by omega, by omega, by omega⟩
        · exact ⟨w, by rw [if_neg hh], a3, Nat.le_refl _, by omega⟩
      obtain ⟨mo', e1, a1, a2, a3⟩ := mx x.m mo (by omega) hx30.1 h1
      obtain ⟨wi', e2, b1, b2, b3⟩ := mx x.c wi (by omega) hx30.2 h2
      show qET _ _ _ _ _ _ _ (if x.m > (mo : Int) then x.m else (mo : Int)) (if x.c > (wi : Int) then x.c else (wi : Int)) _ _ _
      rw [e1, e2]
      refine ih (j + 1) mo' wi' (by omega) a1 b1 ?_ fun y hy => ?_
      · rw [tk, List.any_append, h3]
        simp [qEO]
        omega
      · rw [tk, List.filter_append] at hy
        rcases List.mem_append.1 hy with hy | hy
        · have := h4 y hy
          omega
        · have := (List.mem_filter.1 hy).1
          rw [List.mem_singleton] at this
          subst this
          omega
    · refine ih (j + 1) mo wi (by omega) h1 h2 ?_ fun y hy => ?_
      · rw [tk, List.any_append, h3]
        simp [qEO]
        omega
      · rw [tk, List.filter_append] at hy
        rcases List.mem_append.1 hy with hy | hy
        · exact h4 y hy
        · have h5 := List.mem_filter.1 hy
          rw [List.mem_singleton] at h5
          obtain ⟨rfl, h6⟩ := h5
          exact absurd (of_decide_eq_true h6) g4
theorem qWL (A : Arr uV h q D) (hs : D.length ≤ 1000000) (hD : ∀ x ∈ D, I64 x.m ∧ I64 x.c ∧ I64 x.t ∧ I64 x.n) (h30 : ∀ x ∈ D, x.m < 30 ∧ x.c < 30) (N : Nets h pp PL) (hP : ∀ y ∈ PL, qAq y.l)
    (k4 : 4096 < D.length → K (tuple #[slice none 0 0, .int .i64 4]) h) (k1 : D.any qEO = true → K (tuple #[slice none 0 0, .int .i64 1]) h)
    (k3 : D.any qEO = false → ∀ m c : Nat, 9223372036854775807 < qAR m c (D.filter fun x => decide (x.t ≤ now)) → ∀ h', h.le h' → K (tuple #[slice none 0 0, .int .i64 3]) h')
    (k : D.any qEO = false → ∀ mo wi : Nat, (∀ y ∈ D.filter (fun x => decide (x.t ≤ now)), y.m ≤ (mo : Int) ∧ y.c ≤ (wi : Int)) → (∀ m c : Nat, m ≤ mo → c ≤ wi → qAR m c (D.filter fun x => decide (x.t ≤ now)) ≤ 9223372036854775807) → ∀ h' op oc, h.le h' →
      Arr uV h' op (qFX (mxN PL) now (D.filter fun x => decide (x.t ≤ now)) (wi + 1) (mo + 1)) → K (tuple #[slice op (qFX (mxN PL) now (D.filter fun x => decide (x.t ≤ now)) (wi + 1) (mo + 1)).length oc, .int .i64 0]) h') :
    CallA Tryz.prog qHy [slice q D.length dc, slice pp PL.length pc, .int .i64 now] h K := by
  refine qRW _ _ _ _ _ _ _ _ _ ?_
  unfold qMX
  refine Br.dec (fun g1 => Ret.mk (k4 (by omega))) fun g1 => qa8 A (by omega) h30 k1 (fun hb mo wi hmo hwi hle => ?_) D.length 0 0 0 (by omega) (by omega) (by omega) rfl (fun y hy => by simp at hy)
  have ok : ∀ y ∈ D, okU y := fun y hy => by
    have h1 := hD y hy
    rw [List.any_eq_false] at hb
    have h2 := hb y hy
    unfold qEO at h2
    rw [decide_eq_true_eq] at h2
    unfold okU I64 at *
    omega
  intro r hr
  exact qbB (g := h) A (by omega) ok N hP hmo hwi (k3 hb) (fun hf h' op oc l' A' => k hb mo wi hle hf h' op oc l' A') (mo + 1) 0 _ _ _ (by omega) (qi hr) (fun m' c h1 _ => absurd h1 (by omega)) (qPS (T := 61) (z := z4) hr)
end
end Go.Proofs.YtjihfieahkbohaaGreat

/- Nets and dues as they are handed over. -/
namespace Go.Proofs.YtjihfieahkbohaaGreat
open Go Go.Sy Go.Value
set_option linter.unusedVariables false
set_option linter.unusedSimpArgs false

theorem qUC {h : Heap} {p : Option Addr} {n c : Nat} (H : (Sh.sl (.sl (.int .i64))).Has h [.slice p n c]) : n ≤ 9223372036854775807 ∧ ∃ L : List NRow, L.length = n ∧ Nets h p L ∧ (∀ x ∈ L, qAq x.l) ∧ ∀ x ∈ L, x.l.length ≤ 9223372036854775807 := by
  obtain ⟨h1, h2, L, hL, hA, hR⟩ := Sh.Has.list H
  refine ⟨by omega, ?_⟩
  have : ∀ L : List (List Value), (∀ vs ∈ L, vs.length = (Sh.sl (.int .i64)).n ∧ (Sh.sl (.int .i64)).Has h vs) → ∃ l : List NRow, l.length = L.length ∧ L.flatten = l.map nrV ∧ (∀ x ∈ l, Ints .i64 h x.p x.l) ∧ (∀ x ∈ l, qAq x.l) ∧ ∀ x ∈ l, x.l.length ≤ 9223372036854775807 := by
    intro L
    induction L with
    | nil => exact fun _ => ⟨[], rfl, rfl, fun _ hn => (by cases hn), fun _ hn => (by cases hn), fun _ hn => (by cases hn)⟩
    | cons a L ih =>
      intro hA
      obtain ⟨l, e1, e2, e3, e4, e5⟩ := ih (fun vs hv => hA vs (List.mem_cons_of_mem _ hv))
      have ha := (hA a (List.mem_cons_self ..)).2
      have ha2 := ha
      obtain ⟨q, m, cp, rfl, _⟩ := ha2
      obtain ⟨b1, b2, ints, hi, I, hw⟩ := ha.ints
      refine ⟨⟨q, cp, ints⟩ :: l, by simp [e1], ?_, fun x hx => ?_, fun x hx => ?_, fun x hx => ?_⟩
      · rw [List.flatten_cons, e2, List.map_cons, nrV, hi]; rfl
      · rcases List.mem_cons.1 hx with rfl | hx
        · exact I
        · exact e3 x hx
      · rcases List.mem_cons.1 hx with rfl | hx
        · exact fun v hv => I64.of_wf (hw v hv)
        · exact e4 x hx
      · rcases List.mem_cons.1 hx with rfl | hx
        · dsimp only; omega
        · exact e5 x hx
  obtain ⟨l, e1, e2, e3, e4, e5⟩ := this L hA
  exact ⟨l, by rw [e1, hL], ⟨by rw [← e2]; exact hR, e3⟩, e4, e5⟩
theorem qSZ {P : List (List Int)} {now : Int} : ∀ (f : Nat) (W out : List Du), (qEj P now f W out).1.length ≤ out.length + f
  | 0, _, _ => Nat.le_refl _
  | _ + 1, [], out => by
    show out.length ≤ _
    omega
  | f + 1, x :: R, out => by
    unfold qEj
    split
    · simp
    · rename_i s j _
      have := qSZ (P := P) (now := now) f ((x :: R).drop j) (out ++ qEF P now x s)
      have h1 : (qEF P now x s).length ≤ 1 := by unfold qEF; split <;> simp
      rw [List.length_append] at this
      omega
theorem qWF (M : List (List Int)) (ds : List Int) : (qGv M ds).1.length ≤ 2048 := by
  unfold qGv
  split
  · simp
  rename_i g1
  split
  · simp
  rename_i g2
  split
  · simp
  rename_i g3
  split
  · simp
  dsimp only
  have h8 : ∀ l ∈ M, l.length ≤ 8 := fun l hl => Classical.byContradiction fun h => g3 (by
    rw [List.any_eq_true]
    exact ⟨l, hl, decide_eq_true (by omega)⟩)
  have hd : ds.length ≤ 16 := by
    unfold qFU at g1
    simp only [Bool.not_eq_false, Bool.and_eq_true, decide_eq_true_eq] at g1
    exact g1.2.2
  have := qJ1 (f := fun k => qGJ ds k M M.length) (w := 128) (fun k => Nat.le_trans (qMD ds k h8 M.length) (by omega)) ds.length
  unfold qJp
  omega
end Go.Proofs.YtjihfieahkbohaaGreat
