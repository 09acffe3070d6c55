import Derived.Test.YtjihfieahkbohaaM14
/- The dues of a member and a currency are together what it must pay in; who paid all is never behind. -/
namespace Go.Proofs.Ytjihfieahkbohaa
open Go Go.Sy Go.Value
set_option linter.unusedVariables false
set_option linter.unusedSimpArgs false

/-! ### plainly -/
def qII (M : List (List Int)) : List (List Int) := M.map fun r => r.map qBU
theorem qW7 {M : List (List Int)} {m c : Nat} : (((qII M).getD m []).getD c 0) = if m < M.length ∧ c < (M.getD m []).length then qBU (nAt M m c) else 0 := by
  have e1 : (qII M).getD m [] = (M.getD m []).map qBU := by
    unfold qII
    rw [List.getD_eq_getElem?_getD, List.getD_eq_getElem?_getD, List.getElem?_map]
    cases M[m]? <;> rfl
  rw [e1]
  unfold nAt
  by_cases hc : c < (M.getD m []).length
  · have hm : m < M.length := by
      rcases Nat.lt_or_ge m M.length with h | h
      · exact h
      · rw [List.getD_eq_getElem?_getD, List.getElem?_eq_none h] at hc
        simp at hc
    rw [if_pos ⟨hm, hc⟩]
    generalize M.getD m [] = r at *
    rw [List.getD_eq_getElem?_getD, List.getD_eq_getElem?_getD, List.getElem?_map, List.getElem?_eq_getElem hc]; rfl
  · rw [if_neg (fun h => hc h.2), List.getD_eq_getElem?_getD, List.getElem?_eq_none (by rw [List.length_map]; omega)]; rfl
theorem qRo (n : Int) : 0 ≤ qBU n := by unfold qBU; split <;> omega
theorem qTi {M : List (List Int)} {m c : Nat} (hm : m < M.length) (hc : c < (M.getD m []).length) : qGL (qII M) m c = qBU (nAt M m c) := by
  unfold qGL
  rw [Int.toNat_natCast, Int.toNat_natCast, qW7, if_pos (show m < M.length ∧ c < (M.getD m []).length from ⟨hm, hc⟩), if_neg (by have := qRo (nAt M m c); omega)]
theorem qPU (m c : Int) : qGL [] m c = 0 := by
  unfold qGL
  simp
structure NOk (M : List (List Int)) (ds : List Int) : Prop where
  d : qG5 ds = true
  m : M.length ≤ 16
  w : ∀ l ∈ M, l.length ≤ 8
  i : ∀ l ∈ M, ∀ n ∈ l, -9223372036854775807 ≤ n ∧ n ≤ 9223372036854775807
section
variable {M : List (List Int)} {ds : List Int}
theorem NOk.num (N : NOk M ds) (m c : Nat) : -9223372036854775807 ≤ nAt M m c ∧ nAt M m c ≤ 9223372036854775807 := by
  unfold nAt
  rw [List.getD_eq_getElem?_getD, List.getD_eq_getElem?_getD]
  cases e : M[m]? with
  | none => simp
  | some l =>
    simp only [Option.getD_some]
    cases e2 : l[c]? with
    | none => simp
    | some n => exact N.i l (List.mem_of_getElem? e) n (List.mem_of_getElem? e2)
theorem NOk.len (N : NOk M ds) : (qAT M ds).length ≤ 2048 := by
  obtain ⟨_, h2, _⟩ := qIK N.d
  have := qLq (f := fun k => qGs ds k M M.length) (w := 128) (fun k => Nat.le_trans (qN0 ds k N.w M.length) (by have := N.m; omega)) ds.length
  unfold qAT
  omega
theorem NOk.due (N : NOk M ds) {x : Du} (h : x ∈ qAT M ds) : ∃ m c : Nat, m < M.length ∧ c < (M.getD m []).length ∧ x.m = (m : Int) ∧ x.c = (c : Int) ∧ 1 ≤ x.n ∧ x.n ≤ 9223372036854775807 ∧ ∃ k, k < ds.length ∧ x.t = ds.getD k 0 := by
  obtain ⟨k, m, c, hk, hm, hc, hx⟩ := qTg h
  obtain ⟨h1, h2, h3, h4, h5, h6⟩ := qL8 hx
  have hd := (qIK N.d).1
  refine ⟨m, c, hm, hc, h1, h2, by omega, ?_, k, hk, h3⟩
  have ha := qMD (ds := ds) hd hm hc
  have hmem : x.n ∈ amU m c (qAT M ds) := by
    unfold amU kfU
    exact List.mem_map.2 ⟨x, List.mem_filter.2 ⟨h, by rw [decide_eq_true_eq]; exact ⟨h1, h2⟩⟩, rfl⟩
  have hle := (qKs (l := amU m c (qAT M ds)) fun y hy => by have := ha.1 y hy; omega).2 _ hmem
  have := N.num m c
  rw [show qK (amU m c (qAT M ds)) = qBU (nAt M m c) from ha.2.2] at hle
  unfold qBU at hle
  split at hle <;> omega
theorem NOk.ok (N : NOk M ds) (hI : ∀ t ∈ ds, I64 t) {x : Du} (h : x ∈ qAT M ds) : okU x := by
  obtain ⟨m, c, hm, hc, h1, h2, h3, h4, k, hk, h5⟩ := N.due h
  have := N.m
  have hw := qL5 N.w m
  refine ⟨by omega, by omega, h3, h4, by unfold I64; omega, by unfold I64; omega, ?_⟩
  rw [h5, List.getD_eq_getElem?_getD, List.getElem?_eq_getElem hk]
  exact hI _ (List.getElem_mem hk)
theorem NOk.bad (N : NOk M ds) (hI : ∀ t ∈ ds, I64 t) : (qAT M ds).any qHt = false := by
  rw [List.any_eq_false]
  intro x hx
  have := N.ok hI hx
  unfold okU at this
  unfold qHt
  rw [decide_eq_true_eq]; omega
theorem NOk.none (N : NOk M ds) (hI : ∀ t ∈ ds, I64 t) {now : Int} {W : List Du} (hp : W.Perm ((qAT M ds).filter fun x => decide (x.t ≤ now))) (hs : qNY W) : qGO (qII M) now W.length W [] = ([], 0) := by
  have mem : ∀ y ∈ W, y ∈ qAT M ds := fun y hy => (List.mem_filter.1 (hp.mem_iff.1 hy)).1
  have ok : ∀ y ∈ qAT M ds, okU y := fun y hy => N.ok hI hy
  have tot : ∀ m c : Nat, m < M.length → c < (M.getD m []).length → qDf m c W ≤ qBU (nAt M m c) := fun m c hm hc => by
    rw [qPo hp, ← (qMD (ds := ds) (qIK N.d).1 hm hc).2.2]
    exact qQf ok
  have pmax : ∀ m c, qBU (nAt M m c) ≤ 9223372036854775807 := fun m c => by
    have := N.num m c
    unfold qBU
    split <;> omega
  obtain ⟨B, b1, b2, _, _⟩ := qPr (P := qII M) (now := now) W.length W [] (Nat.le_refl _) hs (fun y hy => ok y (mem y hy)) fun y hy => by
    obtain ⟨m, c, hm, hc, e1, e2, _⟩ := N.due (mem y hy)
    rw [e1, e2]
    exact Int.le_trans (tot m c hm hc) (pmax m c)
  cases B with
  | nil => exact b1
  | cons d B =>
    obtain ⟨_, h2, h3, y, hy, h4, h5⟩ := b2 d (List.mem_cons_self ..)
    obtain ⟨m, c, hm, hc, e1, e2, _⟩ := N.due (mem y hy)
    rw [← h4, ← h5, e1, e2, qTi hm hc] at h2
    have := tot m c hm hc
    omega
theorem NOk.all (N : NOk M ds) (hI : ∀ t ∈ ds, I64 t) {now : Int} (hnow : ∀ t ∈ ds, t ≤ now) {W : List Du} (hp : W.Perm ((qAT M ds).filter fun x => decide (x.t ≤ now))) (hs : qNY W) :
    ∃ B, qGO [] now W.length W [] = (B, 0) ∧ (∀ d ∈ B, ∃ m c : Nat, m < M.length ∧ c < (M.getD m []).length ∧ d.m = (m : Int) ∧ d.c = (c : Int) ∧ d.n = qBU (nAt M m c)) ∧ B.Pairwise qF5 ∧
      ∀ m c : Nat, m < M.length → c < (M.getD m []).length → qBU (nAt M m c) ≠ 0 → ∃ d ∈ B, d.m = (m : Int) ∧ d.c = (c : Int) := by
  have e : (qAT M ds).filter (fun x => decide (x.t ≤ now)) = qAT M ds := by
    rw [List.filter_eq_self]
    intro x hx
    obtain ⟨m, c, _, _, _, _, _, _, k, hk, h5⟩ := N.due hx
    rw [decide_eq_true_eq, h5, List.getD_eq_getElem?_getD, List.getElem?_eq_getElem hk]
    exact hnow _ (List.getElem_mem hk)
  rw [e] at hp
  have tot : ∀ m c : Nat, m < M.length → c < (M.getD m []).length → qDf m c W = qBU (nAt M m c) := fun m c hm hc => by
    rw [qPo hp, (qMD (ds := ds) (qIK N.d).1 hm hc).2.2]
  obtain ⟨B, b1, b2, b3, b4⟩ := qPr (P := []) (now := now) W.length W [] (Nat.le_refl _) hs (fun y hy => N.ok hI (hp.mem_iff.1 hy)) fun y hy => by
    obtain ⟨m, c, hm, hc, e1, e2, _⟩ := N.due (hp.mem_iff.1 hy)
    rw [e1, e2, tot m c hm hc]
    have := N.num m c
    unfold qBU
    split <;> omega
  refine ⟨B, b1, fun d hd => ?_, b3, fun m c hm hc h0 => ?_⟩
  · obtain ⟨_, h2, h3, y, hy, h4, h5⟩ := b2 d hd
    obtain ⟨m, c, hm, hc, e1, e2, _⟩ := N.due (hp.mem_iff.1 hy)
    refine ⟨m, c, hm, hc, by omega, by omega, ?_⟩
    rw [h2, qPU, ← h4, ← h5, e1, e2, tot m c hm hc]; omega
  · have ht := tot m c hm hc
    have hne : ∃ x ∈ W, x.m = (m : Int) ∧ x.c = (c : Int) := Classical.byContradiction fun hno => by
      rw [qLK fun x hx h => hno ⟨x, hx, h⟩] at ht
      exact h0 ht.symm
    obtain ⟨x, hx, e1, e2⟩ := hne
    obtain ⟨d, hd, c1, c2⟩ := b4 x hx (by
      rw [qPU, e1, e2, ht]
      have := qRo (nAt M m c)
      omega)
    exact ⟨d, hd, by omega, by omega⟩
end
/-! ### the lists of what was paid -/
section
variable {K : Value → Heap → Prop} {np q lp : Option Addr} {nc dn dc lc : Nat} {now : Int} {D : List Du} {L : List NRow} {ds : List Int}
theorem qX9 {hr : Heap} (A : Arr uV hr lp D) (N : NOk (mxN L) ds) (hD : D = qAT (mxN L) ds) {m : Nat} {x : NRow} (hx : L[m]? = some x) (X : Ints .i64 hr x.p x.l) {pp : Option Addr} {pn pc nn : Nat} {t50 t51 : Int}
    (k : ∀ h rp rc, hr.le h → OwnL hr h [.int .i64 0] rp rc (qg .i64 (x.l.map qBU)) → qd h [.slice rp (x.l.map qBU).length rc] 59 fun r h => AppA [.slice none 0 0] 59 h pp pn pc 1 (some ⟨r, 0, none⟩) fun ap cp h => qCt np nn nc q dn dc now lp D.length lc ap (pn + 1) cp t50 (IntKind.wrap .i64 (t51 + 1)) h K) :
    ∀ (a j : Nat) (h : Heap) (rp : Option Addr) (rc : Nat), a + j = x.l.length → hr.le h → OwnL hr h [.int .i64 0] rp rc (qg .i64 ((x.l.take j).map qBU)) →
    qD8 np nn nc q dn dc now lp D.length lc pp pn pc m rp ((x.l.take j).map qBU).length rc t50 t51 x.p x.l.length x.c x.l.length j h K := by
  have hml : m < (mxN L).length := by unfold mxN; rw [List.length_map]; exact (List.getElem?_eq_some_iff.1 hx).1
  have hrow : (mxN L).getD m [] = x.l := by unfold mxN; rw [List.getD_eq_getElem?_getD, List.getElem?_map, hx]; rfl
  have hw := qL5 N.w m
  rw [hrow] at hw
  have hd := (qIK N.d).1
  have hlen := N.len
  intro a
  induction a with
  | zero =>
    intro j h rp rc hj l O
    refine qIm _ _ _ _ _ _ _ _ _ _ _ _ _ _ _ _ _ _ _ _ _ _ _ _ _ _ ?_
    unfold qGh
    rw [List.take_of_length_le (by omega)] at O ⊢
    exact Br.no (by simp; omega) (k h rp rc l O)
  | succ a ih =>
    intro j h rp rc hj l O
    refine qIm _ _ _ _ _ _ _ _ _ _ _ _ _ _ _ _ _ _ _ _ _ _ _ _ _ _ ?_
    unfold qGh
    have hjl : j < x.l.length := by omega
    have hv : x.l[j]? = some (nAt (mxN L) m j) := by
      unfold nAt
      rw [hrow, List.getD_eq_getElem?_getD, List.getElem?_eq_getElem hjl]; rfl
    have tk : (x.l.take (j + 1)).map qBU = (x.l.take j).map qBU ++ [qBU (nAt (mxN L) m j)] := by rw [List.take_add_one, hv, List.map_append]; rfl
    obtain ⟨f1, f2, f3⟩ := qMD (ds := ds) hd hml (show j < ((mxN L).getD m []).length by rw [hrow]; exact hjl)
    rw [← hD] at f1 f2 f3
    have hlt : ((x.l.take j).map qBU).length = j := by rw [List.length_map, List.length_take]; omega
    have fI : qEh (amU m j D) := fun y hy => by
      unfold amU kfU at hy
      obtain ⟨z, hz, rfl⟩ := List.mem_map.1 hy
      have hz := (List.mem_filter.1 hz).1
      rw [hD] at hz
      obtain ⟨_, _, _, _, _, _, h3, h4, _⟩ := N.due hz
      unfold I64; omega
    refine Br.yes (by simp; omega) (ix (X.le l) rfl rfl hv ?_)
    have := qYN (K := K) (hs := h) (A.le l) (by rw [hD]; omega) f1 f2 f3 fI (N.num m j) (np := np) (nn := nn) (nc := nc) (q := q) (dn := dn) (dc := dc) (now := now) (lc := lc) (pp := pp) (pn := pn) (pc := pc) (rp := rp) (rn := ((x.l.take j).map qBU).length) (rc := rc) (t50 := t50) (t51 := t51) (t58 := (x.l.length : Int)) (t59 := (j : Int)) (tp := x.p) (tn := x.l.length) (tc := x.c) (fun h4 l4 => ?_) D.length 0 h none 0 (by omega) h.le_refl (.nil _ _ _)
    · exact this
    · refine qJT (ws := [.int .i64 (qBU (nAt (mxN L) m j))]) (O.le l4) (by decide) (Heap.le_trans l l4) (by omega) rfl rfl (by rw [ql, List.length_singleton, Nat.mul_one]) fun r5 h5 p' c' h' hr5 l5 l' O' keep how => ?_
      rw [w1 (j := j) (by omega)]
      have := ih (j + 1) h' p' c' (by omega) l' (by rw [tk, qES]; exact O')
      rw [tk, List.length_append] at this
      exact this
theorem qX2 {g : Heap} (A : Arr uV g lp D) (N : NOk (mxN L) ds) (hD : D = qAT (mxN L) ds) (NN : Nets g np L)
    (k : ∀ h pp pc Q, g.le h → Pd g h pp pc Q → mxN Q = qII (mxN L) → qCu q dn dc now lp D.length lc pp Q.length pc 1 h K) :
    ∀ (a m : Nat) (h : Heap) (pp : Option Addr) (pc : Nat) (Q : List NRow), a + m = L.length → g.le h → Pd g h pp pc Q → mxN Q = qII ((mxN L).take m) → Q.length = m →
    qCt np L.length nc q dn dc now lp D.length lc pp Q.length pc L.length m h K := by
  have hL : (mxN L).length = L.length := by unfold mxN; rw [List.length_map]
  have h16 := N.m
  rw [hL] at h16
  intro a
  induction a with
  | zero =>
    intro m h pp pc Q hm l P e hq
    refine qId _ _ _ _ _ _ _ _ _ _ _ _ _ _ _ _ _ ?_
    unfold qGm
    rw [List.take_of_length_le (by omega)] at e
    exact Br.no (by simp; omega) (k h pp pc Q l P e)
  | succ a ih =>
    intro m h pp pc Q hm l P e hq
    refine qId _ _ _ _ _ _ _ _ _ _ _ _ _ _ _ _ _ ?_
    unfold qGm
    have hx : L[m]? = some L[m] := List.getElem?_eq_getElem (by omega)
    have hxm : L[m] ∈ L := List.getElem_mem _
    generalize L[m] = x at *
    refine Br.yes (by simp; omega) (nx (NN.le l) rfl rfl hx ?_)
    have := qX9 (K := K) (hr := h) (A.le l) N hD hx ((NN.2 x hxm).le l) (np := np) (nc := nc) (q := q) (dn := dn) (dc := dc) (now := now) (lc := lc) (pp := pp) (pn := Q.length) (pc := pc) (nn := L.length) (t50 := (L.length : Int)) (t51 := (m : Int)) (fun h4 rp rc l4 O4 => ?_) x.l.length 0 h none 0 (by omega) h.le_refl (.nil _ _ _)
    · exact this
    · refine P.push l l4 O4 (by omega) fun h' pp' pc' l' P' => ?_
      rw [w1 (j := m) (by omega)]
      have := ih (m + 1) h' pp' pc' _ (by omega) l' P' (by
        have hxx : (mxN L)[m]? = some x.l := by unfold mxN; rw [List.getElem?_map, hx]; rfl
        rw [List.take_add_one, hxx]
        unfold qII mxN at *
        rw [List.map_append, List.map_append, e]; rfl) (by rw [List.length_append]; simp; omega)
      rw [List.length_append] at this
      exact this
end
end Go.Proofs.Ytjihfieahkbohaa
