import Derived.Test.YtjihfieahkbohaaM15
/- The law PlanWhole. -/
namespace Go.Proofs.Ytjihfieahkbohaa
open Go Go.Sy Go.Value
set_option linter.unusedVariables false
set_option linter.unusedSimpArgs false

theorem qWJ {h : Heap} {p : Option Addr} {n c : Nat} (H : (Sh.sl (.sl (.int .i64))).Has h [.slice p n c]) : n ≤ 9223372036854775807 ∧ ∃ L : List NRow, L.length = n ∧ Nets h p L ∧ (∀ x ∈ L, qEh x.l) ∧ ∀ x ∈ L, x.l.length ≤ 9223372036854775807 := by
  obtain ⟨h1, h2, L, hL, hA, hR⟩ := Sh.Has.list H
  refine ⟨by omega, ?_⟩
  have : ∀ L : List (List Value), (∀ vs ∈ L, vs.length = (Sh.sl (.int .i64)).n ∧ (Sh.sl (.int .i64)).Has h vs) → ∃ l : List NRow, l.length = L.length ∧ L.flatten = l.map nrV ∧ (∀ x ∈ l, Ints .i64 h x.p x.l) ∧ (∀ x ∈ l, qEh x.l) ∧ ∀ x ∈ l, x.l.length ≤ 9223372036854775807 := by
    intro L
    induction L with
    | nil => exact fun _ => ⟨[], rfl, rfl, fun _ hn => (by cases hn), fun _ hn => (by cases hn), fun _ hn => (by cases hn)⟩
    | cons a L ih =>
      intro hA
      obtain ⟨l, e1, e2, e3, e4, e5⟩ := ih (fun vs hv => hA vs (List.mem_cons_of_mem _ hv))
      have ha := (hA a (List.mem_cons_self ..)).2
      have ha2 := ha
      obtain ⟨q, m, cp, rfl, _⟩ := ha2
      obtain ⟨b1, b2, ints, hi, I, hw⟩ := ha.ints
      refine ⟨⟨q, cp, ints⟩ :: l, by simp [e1], ?_, fun x hx => ?_, fun x hx => ?_, fun x hx => ?_⟩
      · rw [List.flatten_cons, e2, List.map_cons, nrV, hi]; rfl
      · rcases List.mem_cons.1 hx with rfl | hx
        · exact I
        · exact e3 x hx
      · rcases List.mem_cons.1 hx with rfl | hx
        · exact fun v hv => I64.of_wf (hw v hv)
        · exact e4 x hx
      · rcases List.mem_cons.1 hx with rfl | hx
        · dsimp only; omega
        · exact e5 x hx
  obtain ⟨l, e1, e2, e3, e4, e5⟩ := this L hA
  exact ⟨l, by rw [e1, hL], ⟨by rw [← e2]; exact hR, e3⟩, e4, e5⟩
theorem Pd.call {g h : Heap} {pp : Option Addr} {pc : Nat} {Q : List NRow} {K R : Value → Heap → Prop} {f : FuncId} {args : List Value} (P : Pd g h pp pc Q) (lg : g.le h) (cl : CallA Try.prog f args g R) (k : ∀ v g' h', R v g' → g'.le h' → Pd g' h' pp pc Q → K v h') : CallA Try.prog f args h K := by
  refine (cl.frame2 lg).mono fun v h' ⟨g', q, l, e1, e2⟩ => k v g' h' q l ?_
  have mv : ∀ {z p c vs}, OwnL g h z p c vs → OwnL g' h' z p c vs := fun O => by
    rcases O with o | ⟨r, sp, e, e0, ⟨t, a⟩, q⟩
    · exact .inl o
    · exact .inr ⟨r, sp, e, e2 r _ a e0, ⟨t, e1 r _ a e0⟩, q⟩
  exact ⟨mv P.own, fun i x e => mv (P.row i x e), P.ne, P.dj⟩
section
variable {K : Value → Heap → Prop} {pp : Option Addr} {pc : Nat}
theorem qYH {h : Heap} {Q : List NRow} {m : Nat} {x : NRow} (X : Ints .i64 h x.p x.l) (hw : x.l.length ≤ 8) (hz : ∀ v ∈ x.l, v = 0) {t1 t2 : Int} (k : qD7 pp Q.length pc t1 (IntKind.wrap .i64 (t2 + 1)) h K) :
    ∀ (a j : Nat), a + j = x.l.length → qFm pp Q.length pc t1 t2 x.p x.l.length x.c x.l.length j h K := by
  intro a
  induction a with
  | zero =>
    intro j hj
    refine qIx _ _ _ _ _ _ _ _ _ _ _ _ ?_
    unfold qGl
    exact Br.no (by simp; omega) k
  | succ a ih =>
    intro j hj
    refine qIx _ _ _ _ _ _ _ _ _ _ _ _ ?_
    unfold qGl
    have hx : x.l[j]? = some 0 := by
      rw [List.getElem?_eq_getElem (by omega), hz _ (List.getElem_mem _)]
    refine Br.yes (by simp; omega) (ix X rfl rfl hx (Br.no (by decide) ?_))
    rw [w1 (by omega)]
    exact ih (j + 1) (by omega)
theorem qYI {h : Heap} {Q : List NRow} (X : Nets h pp Q) (hQ : Q.length ≤ 16) (hw : ∀ x ∈ Q, x.l.length ≤ 8) (hz : ∀ x ∈ Q, ∀ v ∈ x.l, v = 0) (k : K (.bool true) h) :
    ∀ (a j : Nat), a + j = Q.length → qD7 pp Q.length pc Q.length j h K := by
  intro a
  induction a with
  | zero =>
    intro j hj
    refine qIf _ _ _ _ _ _ _ ?_
    unfold qGq
    exact Br.no (by simp; omega) (Ret.mk k)
  | succ a ih =>
    intro j hj
    refine qIf _ _ _ _ _ _ _ ?_
    unfold qGq
    have hx : Q[j]? = some Q[j] := List.getElem?_eq_getElem (by omega)
    have hm : Q[j] ∈ Q := List.getElem_mem _
    generalize Q[j] = x at *
    refine Br.yes (by simp; omega) (nx X rfl rfl hx (qYH (m := j) (X.2 x hm) (hw x hm) (hz x hm) ?_ x.l.length 0 (by omega)))
    rw [w1 (by omega)]
    exact ih (j + 1) (by omega)
structure Zs (M : List (List Int)) (B : List Du) (j : Nat) (Q : List NRow) : Prop where
  n : Q.length = M.length
  w : ∀ (i : Nat) (x : NRow), Q[i]? = some x → x.l.length = (M.getD i []).length
  v : ∀ (i c : Nat) (x : NRow), Q[i]? = some x → c < x.l.length → ((∃ d ∈ B.take j, d.m = (i : Int) ∧ d.c = (c : Int)) → x.l.getD c 0 = 0) ∧ ((¬ ∃ d ∈ B.take j, d.m = (i : Int) ∧ d.c = (c : Int)) → x.l.getD c 0 = qBU (nAt M i c))
theorem Zs.start {L Q : List NRow} {B : List Du} (e : mxN Q = qII (mxN L)) : Zs (mxN L) B 0 Q := by
  have hn : Q.length = (mxN L).length := by
    have := congrArg List.length e
    unfold qII at this
    rw [List.length_map] at this
    rw [← this]; unfold mxN; rw [List.length_map]
  have row : ∀ (i : Nat) (x : NRow), Q[i]? = some x → x.l = ((mxN L).getD i []).map qBU := fun i x hx => by
    have := congrArg (fun z => z[i]?) e
    unfold qII at this
    rw [List.getElem?_map] at this
    rw [List.getD_eq_getElem?_getD]
    rw [show (mxN Q)[i]? = some x.l by unfold mxN; rw [List.getElem?_map, hx]; rfl] at this
    cases h : (mxN L)[i]? with
    | none => rw [h] at this; cases this
    | some r => rw [h] at this; exact Option.some.inj this
  refine ⟨hn, fun i x hx => by rw [row i x hx, List.length_map], fun i c x hx hc => ⟨fun ⟨d, hd, _⟩ => by simp at hd, fun _ => ?_⟩⟩
  have r := row i x hx
  rw [r] at hc ⊢
  rw [List.length_map] at hc
  unfold nAt
  rw [List.getD_eq_getElem?_getD, List.getElem?_map, List.getD_eq_getElem?_getD (l := (mxN L).getD i []), List.getElem?_eq_getElem hc]; rfl
theorem qQ8 {P : List (List Int)} {now : Int} : ∀ (f : Nat) (W out : List Du), (qGO P now f W out).1.length ≤ out.length + f
  | 0, _, _ => Nat.le_refl _
  | _ + 1, [], out => by
    show out.length ≤ _
    omega
  | f + 1, x :: R, out => by
    unfold qGO
    split
    · simp
    · rename_i s j _
      have := qQ8 (P := P) (now := now) f ((x :: R).drop j) (out ++ qGi P now x s)
      have h1 : (qGi P now x s).length ≤ 1 := by unfold qGi; split <;> simp
      rw [List.length_append] at this
      omega
theorem qX3 {g : Heap} {M : List (List Int)} {B : List Du} {bp : Option Addr} {bc : Nat} (A : Arr uV g bp B) (hM : M.length ≤ 16) (hM8 : ∀ l ∈ M, l.length ≤ 8) (hB : B.length ≤ 1000000)
    (b2 : ∀ d ∈ B, ∃ m c : Nat, m < M.length ∧ c < (M.getD m []).length ∧ d.m = (m : Int) ∧ d.c = (c : Int) ∧ d.n = qBU (nAt M m c)) (b3 : B.Pairwise qF5)
    (b4 : ∀ m c : Nat, m < M.length → c < (M.getD m []).length → qBU (nAt M m c) ≠ 0 → ∃ d ∈ B, d.m = (m : Int) ∧ d.c = (c : Int)) (k : ∀ h, g.le h → K (.bool true) h) :
    ∀ (a j : Nat) (h : Heap) (Q : List NRow), a + j = B.length → g.le h → Pd g h pp pc Q → Zs M B j Q → qFj pp Q.length pc bp B.length bc B.length j h K := by
  intro a
  induction a with
  | zero =>
    intro j h Q hj l P Z
    refine qIj _ _ _ _ _ _ _ _ _ _ ?_
    unfold qGf
    have h8 : ∀ x ∈ Q, x.l.length ≤ 8 := fun x hx => by
      obtain ⟨i, hi⟩ := List.mem_iff_getElem?.1 hx
      rw [Z.w i x hi]
      exact qL5 hM8 i
    refine Br.no (by simp; omega) (qYI P.nets (by rw [Z.n]; exact hM) h8 (fun x hx v hv => ?_) (k h l) Q.length 0 (by omega))
    obtain ⟨i, hi⟩ := List.mem_iff_getElem?.1 hx
    obtain ⟨c, hc⟩ := List.mem_iff_getElem?.1 hv
    have hcl := (List.getElem?_eq_some_iff.1 hc).1
    have hil := (List.getElem?_eq_some_iff.1 hi).1
    have e : x.l.getD c 0 = v := by rw [List.getD_eq_getElem?_getD, hc]; rfl
    obtain ⟨z1, z2⟩ := Z.v i c x hi hcl
    rw [List.take_of_length_le (by omega), e] at z1 z2
    by_cases g : ∃ d ∈ B, d.m = (i : Int) ∧ d.c = (c : Int)
    · exact z1 g
    · rw [z2 g]
      refine Classical.byContradiction fun h0 => g (b4 i c (by rw [← Z.n]; exact hil) (by rw [← Z.w i x hi]; exact hcl) h0)
  | succ a ih =>
    intro j h Q hj l P Z
    refine qIj _ _ _ _ _ _ _ _ _ _ ?_
    unfold qGf
    have hx : B[j]? = some B[j] := List.getElem?_eq_getElem (by omega)
    have hdm : B[j] ∈ B := List.getElem_mem _
    have tk : B.take (j + 1) = B.take j ++ [B[j]] := by rw [List.take_add_one, hx]; rfl
    have es : B = B.take j ++ B[j] :: B.drop (j + 1) := by rw [← List.drop_eq_getElem_cons (by omega), List.take_append_drop]
    have nodup : ∀ d ∈ B.take j, qF5 d B[j] := fun d hd => by
      have b3 := b3
      rw [es, List.pairwise_append] at b3
      exact b3.2.2 d hd B[j] (List.mem_cons_self ..)
    generalize B[j] = d at *
    obtain ⟨m, c, hm, hc, e1, e2, e3⟩ := b2 d hdm
    refine Br.yes (by simp; omega) (ldX (A.le l) rfl rfl hx (qHY (vs := uV d) rfl fun r h4 hr l4 A4 cs4 => ⟨cs4, _, A4.cell rfl, ?_⟩))
    have lg := Heap.le_trans l l4
    have P4 := P.le l4
    have hmQ : m < Q.length := by rw [Z.n]; exact hm
    have hy : Q[m]? = some Q[m] := List.getElem?_eq_getElem hmQ
    generalize Q[m] = y at *
    have hcy : c < y.l.length := by rw [Z.w m y hy]; exact hc
    have hv : y.l[c]? = some (y.l.getD c 0) := by rw [List.getD_eq_getElem?_getD, List.getElem?_eq_getElem hcy]; rfl
    have hym : y ∈ Q := List.mem_of_getElem? hy
    have noj : ¬ ∃ d' ∈ B.take j, d'.m = (m : Int) ∧ d'.c = (c : Int) := fun ⟨d', hd', h1, h2⟩ => by
      have := nodup d' hd'
      unfold qF5 at this
      omega
    have val := (Z.v m c y hy hcy).2 noj
    have N4 := P4.nets
    refine Br.no (decide_eq_false (by omega)) ⟨_, A4.cell rfl, _, A4.cell rfl, nx N4 rfl e1 hy (Br.no (decide_eq_false (by omega)) ⟨_, A4.cell rfl, _, A4.cell rfl, nx N4 rfl e1 hy ⟨_, A4.cell rfl, ix (N4.2 y hym) rfl e2 hv ?_⟩⟩)⟩
    refine Br.no (by rw [val, e3]; simp) ⟨_, A4.cell rfl, nx N4 rfl e1 hy ⟨_, A4.cell rfl, by omega, by omega, ?_⟩⟩
    obtain ⟨b, eb, cs, gb, Pw⟩ := P4.wr hy hcy 0
    refine qD eb ?_
    rw [show d.c.toNat = c by omega, w1 (j := j) (by omega)]
    refine ⟨cs, ?_⟩
    have := ih (j + 1) _ _ (by omega) (qCL lg gb) Pw ⟨by rw [List.length_set]; exact Z.n, fun i x e => ?_, fun i c' x e hc' => ?_⟩
    · rw [List.length_set] at this
      exact this
    · rw [List.getElem?_set] at e
      by_cases h0 : m = i
      · subst h0
        rw [if_pos rfl, if_pos hmQ] at e
        cases e
        rw [List.length_set]
        exact Z.w m y hy
      · rw [if_neg h0] at e
        exact Z.w i x e
    · have ex : (∃ d' ∈ B.take (j + 1), d'.m = (i : Int) ∧ d'.c = (c' : Int)) ↔ ((∃ d' ∈ B.take j, d'.m = (i : Int) ∧ d'.c = (c' : Int)) ∨ (m = i ∧ c = c')) := by
        rw [tk]
        constructor
        · rintro ⟨d', hd', h1, h2⟩
          rcases List.mem_append.1 hd' with hd' | hd'
          · exact .inl ⟨d', hd', h1, h2⟩
          · rw [List.mem_singleton] at hd'
            subst hd'
            exact .inr ⟨by omega, by omega⟩
        · rintro (⟨d', hd', h⟩ | ⟨rfl, rfl⟩)
          · exact ⟨d', List.mem_append_left _ hd', h⟩
          · exact ⟨d, List.mem_append_right _ (List.mem_singleton.2 rfl), e1, e2⟩
      rw [ex]
      rw [List.getElem?_set] at e
      by_cases h0 : m = i
      · subst h0
        rw [if_pos rfl, if_pos hmQ] at e
        cases e
        dsimp only at hc' ⊢
        rw [List.length_set] at hc'
        by_cases h1 : c = c'
        · subst h1
          rw [List.getD_eq_getElem?_getD, List.getElem?_set_self hc']
          exact ⟨fun _ => rfl, fun h => absurd (.inr ⟨rfl, rfl⟩) h⟩
        · have z := Z.v m c' y hy hc'
          rw [List.getD_eq_getElem?_getD, List.getElem?_set_ne h1, ← List.getD_eq_getElem?_getD]
          exact ⟨fun h => z.1 (h.resolve_right fun h => h1 h.2), fun h => z.2 fun h2 => h (.inl h2)⟩
      · rw [if_neg h0] at e
        have z := Z.v i c' x e hc'
        exact ⟨fun h => z.1 (h.resolve_right fun h => h0 h.1), fun h => z.2 fun h2 => h (.inl h2)⟩
theorem qX5 {g : Heap} {L Q : List NRow} {ds : List Int} {D : List Du} {lp q : Option Addr} {lc dc : Nat} {now : Int} (A : Arr uV g lp D) (N : NOk (mxN L) ds) (hD : D = qAT (mxN L) ds) (I : Ints .i64 g q ds) (hI : ∀ t ∈ ds, I64 t) {h : Heap} (l : g.le h) (P : Pd g h pp pc Q) (eQ : mxN Q = qII (mxN L)) (k : ∀ h, g.le h → K (.bool true) h) :
    ∀ (a i : Nat), a + i = D.length + 1 → 1 ≤ i → qCu q ds.length dc now lp D.length lc pp Q.length pc (i : Int) h K := by
  have hlen := N.len
  rw [← hD] at hlen
  have hr := qIK N.d
  have fin : ∀ i : Nat, D.length ≤ i → qCu q ds.length dc now lp D.length lc pp Q.length pc (i : Int) h K := fun i hi => by
    refine qIn _ _ _ _ _ _ _ _ _ _ _ _ _ ?_
    unfold qGv
    have hbad : D.any qHt = false := by rw [hD]; exact N.bad hI
    have hDI : ∀ x ∈ D, I64 x.m ∧ I64 x.c ∧ I64 x.t ∧ I64 x.n := fun x hx => by
      rw [hD] at hx
      have := N.ok hI hx
      unfold okU I64 at *
      omega
    have hQI : ∀ y ∈ Q, qEh y.l := fun y hy v hv => by
      have hm : y.l ∈ qII (mxN L) := by rw [← eQ]; unfold mxN; exact List.mem_map.2 ⟨y, hy, rfl⟩
      unfold qII at hm
      obtain ⟨row, hrow, e⟩ := List.mem_map.1 hm
      rw [← e] at hv
      obtain ⟨n, hn, rfl⟩ := List.mem_map.1 hv
      have := N.i row hrow n hn
      unfold qBU I64
      split <;> omega
    refine Br.no (decide_eq_false (by omega)) ?_
    refine qOE (A.le l) (by omega) hDI P.nets hQI (fun h => by omega) (fun _ h => by rw [hbad] at h; cases h) fun _ _ W h1 q1 c1 hp hs _ l1 A1 => ⟨_, _, _, _, rfl, ?_⟩
    rw [eQ, N.none hI (by rw [← hD]; exact hp) hs] at A1 ⊢
    obtain ⟨u, hu⟩ : ∃ u, ds.length = u + 1 := ⟨ds.length - 1, by omega⟩
    have hw : IntKind.wrap .i64 ((ds.length : Int) - 1) = (u : Int) := by rw [qW (by omega) (by omega)]; omega
    have hy : ds[u]? = some (ds.getD u 0) := by rw [List.getD_eq_getElem?_getD, List.getElem?_eq_getElem (by omega)]; rfl
    rw [hw]
    refine ix (I.le (Heap.le_trans l l1)) rfl rfl hy ?_
    have last : ∀ t ∈ ds, t ≤ ds.getD u 0 := fun t ht => by
      obtain ⟨i, hi⟩ := List.mem_iff_getElem?.1 ht
      have hil := (List.getElem?_eq_some_iff.1 hi).1
      have e : ds.getD i 0 = t := by rw [List.getD_eq_getElem?_getD, hi]; rfl
      rcases Nat.lt_or_ge i u with h | h
      · have := hr.2.2 i u h (by omega)
        omega
      · rw [show u = i by omega]; omega
    refine (P.le l1).call (Heap.le_trans l l1) (qOE (PL := []) (pp := none) (pc := 0) (dc := lc) (now := ds.getD u 0) A (by omega) hDI ⟨.inl rfl, fun x hx => by cases hx⟩ (fun y hy => by cases hy) (K := fun v g' => g.le g' ∧ ∃ B bp bc, v = tuple #[slice bp B.length bc, .int .i64 0] ∧ Arr uV g' bp B ∧ B.length ≤ 1000000 ∧
        (∀ d ∈ B, ∃ m c : Nat, m < (mxN L).length ∧ c < ((mxN L).getD m []).length ∧ d.m = (m : Int) ∧ d.c = (c : Int) ∧ d.n = qBU (nAt (mxN L) m c)) ∧ B.Pairwise qF5 ∧ ∀ m c : Nat, m < (mxN L).length → c < ((mxN L).getD m []).length → qBU (nAt (mxN L) m c) ≠ 0 → ∃ d ∈ B, d.m = (m : Int) ∧ d.c = (c : Int))
        (fun h => by omega) (fun _ h => by rw [hbad] at h; cases h) fun _ _ W g' q2 c2 hp hs _ l2 A2 => ?_) fun v g' h' ⟨lg, B, bp, bc, e, A2, hBl, b2, b3, b4⟩ l2 P2 => ⟨_, _, _, _, e, ?_⟩
    · obtain ⟨B, e, b2, b3, b4⟩ := N.all hI last (by rw [← hD]; exact hp) hs
      rw [show mxN ([] : List NRow) = [] from rfl, e] at A2 ⊢
      refine ⟨l2, B, q2, c2, rfl, A2, ?_, b2, b3, b4⟩
      have h1 := qQ8 (P := []) (now := ds.getD u 0) W.length W []
      have h2 := hp.length_eq
      have h3 := List.length_filter_le (fun x : Du => decide (x.t ≤ ds.getD u 0)) D
      rw [e] at h1
      simp only [List.length_nil] at h1
      omega
    · refine Br.no rfl (Br.no rfl (Br.no rfl ?_))
      exact qX3 A2 N.m N.w hBl b2 b3 b4 (fun h3 l3 => k h3 (Heap.le_trans lg l3)) B.length 0 h' Q (by omega) l2 P2 (Zs.start eQ)
  intro a
  induction a with
  | zero => intro i hi h1; exact fin i (by omega)
  | succ a ih =>
    intro i hi h1
    by_cases hil : D.length ≤ i
    · exact fin i hil
    refine qIn _ _ _ _ _ _ _ _ _ _ _ _ _ ?_
    unfold qGv
    have hx : D[i]? = some D[i] := List.getElem?_eq_getElem (by omega)
    obtain ⟨u, rfl⟩ : ∃ u, i = u + 1 := ⟨i - 1, by omega⟩
    have hy : D[u]? = some D[u] := List.getElem?_eq_getElem (by omega)
    have hle : (D[u]).t ≤ (D[u + 1]).t := by
      have := qRb (M := mxN L) N.d
      rw [← hD, List.pairwise_iff_getElem] at this
      exact this u (u + 1) (by omega) (by omega) (by omega)
    have hw : IntKind.wrap .i64 (((u + 1 : Nat) : Int) - 1) = (u : Int) := by rw [qW (by omega) (by omega)]; omega
    generalize D[u] = x at *
    generalize D[u + 1] = y at *
    rw [hw, w1 (j := u + 1) (by omega)]
    refine Br.yes (decide_eq_true (by omega)) (ax qCN (A.le l) rfl rfl hx (by decide) fun b o _ hc => ⟨_, hc 2 (by decide), ax qCN (A.le l) rfl rfl hy (by decide) fun b o _ hc2 => ⟨_, hc2 2 (by decide), Br.no (decide_eq_false (by omega)) ?_⟩⟩)
    exact ih (u + 1 + 1) (by omega) (by omega)
end
theorem qM3 {h : Heap} {np : Option Addr} {nn nc : Nat} (H : (Sh.sl (.sl (.int .i64))).Has h [.slice np nn nc]) {ds : List Int} {q : Option Addr} {dn dc : Nat} (i : Ints .i64 h q ds) (hn : ds.length = dn) (hl : dn * 8 ≤ 140737488351232) (hI : qEh ds) {now : Int} (ht : I64 now) :
    CallA Try.prog qJh [.slice np nn nc, .slice q dn dc, .int .i64 now] h fun v h' => v = .bool true ∧ h.le h' := by
  obtain ⟨hmax, L, hL, X, hX, hXl⟩ := qWJ H
  subst hL hn
  refine qNm _ _ _ _ _ _ _ _ _ ?_
  unfold qJw
  refine qOx fun h1 l1 => ⟨_, rfl, Br.no rfl ?_⟩
  refine qV5 (X.le l1) rfl hmax ⟨_, rfl, ?_⟩
  cases hb : qLw L with
  | true => exact Br.yes rfl (Ret.mk ⟨rfl, l1⟩)
  | false =>
  unfold qLw at hb
  rw [Bool.or_eq_false_iff, decide_eq_false_iff_not, List.any_eq_false] at hb
  refine Br.no rfl (Br.dec (fun _ => Ret.mk ⟨rfl, l1⟩) fun g1 => ?_)
  refine qML (X.le l1) (by omega) (fun x hx => ⟨?_, hX x hx⟩) (i.le l1) (by omega) fun h2 lp lc l2 A => ⟨_, _, _, _, rfl, ?_⟩
  · have := hb.1 x hx
    rw [decide_eq_true_eq] at this
    omega
  have l02 := Heap.le_trans l1 l2
  have fin : ∀ e : Int, e ≠ 0 → qEZ (mxN L) ds = ([], e) → Br ((qEZ (mxN L) ds).2 != 0) (Ret h2 (fun v h' => v = .bool true ∧ h.le h') (.bool (((qEZ (mxN L) ds).1.length : Int) == 0))) (qCt np L.length nc q ds.length dc now lp (qEZ (mxN L) ds).1.length lc none 0 0 (L.length : Int) 0 h2 fun v h' => v = .bool true ∧ h.le h') := fun e he ee => by
    rw [ee]
    exact Br.yes (by simpa using he) (Ret.mk ⟨rfl, l02⟩)
  by_cases g2 : qG5 ds = false
  · exact fin 1 (by decide) (by unfold qEZ; rw [if_pos g2])
  by_cases g3 : 16 < (mxN L).length
  · exact fin 4 (by decide) (by unfold qEZ; rw [if_neg g2, if_pos g3])
  by_cases g4 : ((mxN L).any fun l => decide ((l.length : Int) > 8)) = true
  · exact fin 4 (by decide) (by unfold qEZ; rw [if_neg g2, if_neg g3, if_pos g4])
  by_cases g5 : ((mxN L).any (qJN (-9223372036854775808))) = true
  · exact fin 3 (by decide) (by unfold qEZ; rw [if_neg g2, if_neg g3, if_neg g4, if_pos g5])
  have e : qEZ (mxN L) ds = (qAT (mxN L) ds, 0) := by unfold qEZ; rw [if_neg g2, if_neg g3, if_neg g4, if_neg g5]
  rw [e] at A ⊢
  dsimp only at A ⊢
  have N : NOk (mxN L) ds := by
    refine ⟨by simpa using g2, by omega, fun l hl => ?_, fun l hl n hn => ?_⟩
    · rw [List.any_eq_true] at g4
      exact Classical.byContradiction fun x => g4 ⟨l, hl, decide_eq_true (by omega)⟩
    · rw [List.any_eq_true] at g5
      have hm := hl
      unfold mxN at hm
      obtain ⟨x, hx, rfl⟩ := List.mem_map.1 hm
      have h1 := hX x hx n hn
      have h2 : n ≠ -9223372036854775808 := fun e2 => g5 ⟨_, hl, by
        unfold qJN
        rw [List.any_eq_true]
        exact ⟨n, hn, by rw [e2]; rfl⟩⟩
      unfold I64 at h1
      omega
  refine Br.no rfl (qX2 (D := qAT (mxN L) ds) (ds := ds) A N rfl (X.le l02) (fun h3 pp pc Q l3 P eQ => ?_) L.length 0 h2 none 0 [] (by omega) h2.le_refl ⟨.nil _ _ _, fun i x e => (by simp at e), fun i x b e => (by simp at e), fun i j x y b _ e => (by simp at e)⟩ rfl rfl)
  exact qX5 A N rfl (i.le l02) hI l3 P eQ (fun h4 l4 => ⟨rfl, Heap.le_trans l02 l4⟩) (qAT (mxN L) ds).length 1 (by omega) (by omega)
end Go.Proofs.Ytjihfieahkbohaa
