import Derived.Test.YtghdadniddoboaaGreatM17
import Derived.Test.YtghdadniddoboaaGreatM16
import Derived.Test.YtghdadniddoboaaGreatM18
import Derived.Test.YtghdadniddoboaaGreatM19
import Derived.Test.YtghdadniddoboaaGreatM06
import Derived.Test.YtghdadniddoboaaGreatM13
import Derived.Test.YtghdadniddoboaaGreatM10
/- The reference's guard in memory, and its tests. -/
namespace Go.Proofs.YtghdadniddoboaaGreat
open Go Go.Sy Go.Value
set_option linter.unusedVariables false
set_option linter.unusedSimpArgs false

theorem cut_rowG {S : Lg} (o : S.Sz) {i : Nat} (hi : i < S.M.length) : (cutM S).getD i [] = rowG S (i : Int) S.cur := by
  have hl : ((cutM S).getD i []).length = S.cur := (cutM_sh o).row (i := i) (by rw [cutM_len]; exact hi)
  refine List.ext_getElem? fun c => ?_
  by_cases hc : c < S.cur
  · have e1 := cutM_rd (S := S) (i := i) hc
    unfold rdM at e1
    rw [List.getD_eq_getElem?_getD, List.getElem?_eq_getElem (by omega)] at e1
    rw [List.getElem?_eq_getElem (by omega)]
    unfold rowG
    rw [List.getElem?_map, List.getElem?_range hc]
    show some _ = some (getG S (i : Int) (c : Int))
    unfold getG
    rw [if_pos (by unfold hasB; exact decide_eq_true (by omega)), Int.toNat_natCast, Int.toNat_natCast]
    exact congrArg some e1
  · rw [List.getElem?_eq_none (by omega), List.getElem?_eq_none (by rw [rowG_len]; omega)]
structure QF where
  q : Nat
  tp : Option Addr
  tc : Nat
  g : XFr
  lq : Option Addr
  lc : Nat
  ls : List LmV
  fb : Nat
  fc : Nat
def QF.D (y : QF) (N b : Nat) : Bool := b == y.q || (b == y.fb || y.g.D N b)
theorem QF.D_t {y : QF} {N b : Nat} (h : y.D N b = true) : b = y.q ∨ b = y.fb ∨ y.g.D N b = true := by
  unfold QF.D at h
  rw [Bool.or_eq_true, Bool.or_eq_true] at h
  rcases h with h | h | h
  · exact .inl (by simpa using h)
  · exact .inr (.inl (by simpa using h))
  · exact .inr (.inr h)
theorem QF.D_q (y : QF) (N : Nat) : y.D N y.q = true := by unfold QF.D; simp
theorem QF.D_fb (y : QF) (N : Nat) : y.D N y.fb = true := by unfold QF.D; simp
theorem QF.D_g {y : QF} {N b : Nat} (h : y.g.D N b = true) : y.D N b = true := by unfold QF.D; rw [h]; simp
structure QD (hb h : Heap) (y : QF) (v : Gu) : Prop where
  base : hb.le h
  fr : ∀ b, y.D v.S.M.length b = true → hb b = none
  aq : At h y.q [.slice y.tp v.T.length y.tc, .pointer (some ⟨y.g.p, 0, none⟩), .slice y.lq y.ls.length y.lc, .slice (some ⟨y.fb, 0, none⟩) v.fl.length y.fc]
  X : XAt h y.g v.S
  af : At h y.fb (boV v.fl)
  qf : y.q ≠ y.fb
  gq : y.g.D v.S.M.length y.q = false
  gf : y.g.D v.S.M.length y.fb = false
  CT : Curs hb y.tp v.T
  al : Arr lmV hb y.lq y.ls
  il : ∀ z ∈ y.ls, LmI hb z
  el : y.ls.map (·.l) = v.L
  ok : v.Ok
theorem lx1 {h : Heap} {p : Option Addr} {l : List LmV} {N : Nat} (C : Arr lmV h p l) (hn : l.length = N) {j : Nat} {i : Int} (hi : i = (j : Int)) {x : LmV} (hx : l[j]? = some x) {Q : Int → Prop} (kk : Q x.l.all) :
    0 ≤ i ∧ i < (N : Int) ∧ withAddr p fun b o => ∃ n, h.cell b (o + i.toNat * 2 + 1) = some (.int .i64 n) ∧ Q n := by
  subst hi
  exact ax (w := 2) lmV_len C hn rfl hx (by decide) fun b o _ g => ⟨_, g 1 (by decide), kk⟩
section
variable {hb h : Heap} {K : Value → Heap → Prop} {y : QF} {v : Gu}
theorem QD.le {h' : Heap} (Q : QD hb h y v) (l : h.le h') : QD hb h' y v := { Q with base := Heap.le_trans Q.base l, aq := Q.aq.le l, X := Q.X.le l, af := Q.af.le l }
theorem QD.atD (Q : QD hb h y v) {b : Nat} (e : y.D v.S.M.length b = true) : ∃ xs, At h b xs := by
  rcases QF.D_t e with rfl | rfl | e
  · exact ⟨_, Q.aq⟩
  · exact ⟨_, Q.af⟩
  · exact Q.X.at e
theorem QD.out (Q : QD hb h y v) {b : Nat} (e : h b = none) : y.D v.S.M.length b = false := noD fun hd => by obtain ⟨xs, a⟩ := Q.atD hd; exact a.ne e rfl
theorem QD.off (Q : QD hb h y v) : hb.le (h.wo (y.D v.S.M.length)) ∧ QD (h.wo (y.D v.S.M.length)) h y v := by
  have l := le_wo Q.base fun b hb => Q.fr b hb
  exact ⟨l, { Q with base := wo_le _ _, fr := fun b hb => wo_none hb, CT := Q.CT.le l, al := Q.al.le l, il := fun z hz => (Q.il z hz).le l }⟩
theorem QD.n (Q : QD hb h y v) : v.fl.length ≤ 16 ∧ 1 ≤ v.fl.length ∧ y.ls.length = v.fl.length := by
  have := Q.ok.o.n16
  have := Q.ok.o.n1
  have := Q.ok.ef
  have := Q.ok.eL
  have e := congrArg List.length Q.el
  rw [List.length_map] at e
  omega
theorem QD.lm (Q : QD hb h y v) {m : Nat} (hm : m < v.fl.length) : ∃ z, y.ls[m]? = some z ∧ z.l = v.lim m ∧ LmI h z ∧ z.l.sh.length = v.T.length ∧ (∀ s ∈ z.l.sh, 0 ≤ s ∧ I64 s) ∧ 0 ≤ z.l.all ∧ I64 z.l.all := by
  have hl : m < y.ls.length := by have := Q.n; omega
  have hm2 : y.ls[m] ∈ y.ls := List.getElem_mem _
  have e : y.ls[m].l = v.lim m := by
    unfold Gu.lim
    rw [← Q.el, List.getD_eq_getElem?_getD, List.getElem?_map, List.getElem?_eq_getElem hl]; rfl
  have hs := Q.ok.sh y.ls[m].l (by rw [← Q.el]; exact List.mem_map_of_mem hm2)
  exact ⟨y.ls[m], List.getElem?_eq_getElem hl, e, (Q.il _ hm2).le Q.base, hs.1, hs.2.1, hs.2.2.1, hs.2.2.2⟩
theorem QD.row (Q : QD hb h y v) {m : Nat} (hm : m < v.fl.length) : ∃ B, y.g.f.a = some ⟨B, 0, none⟩ ∧ h.cell B (0 + m) = some (.slice (some ⟨y.g.f.R m, 0, none⟩) v.T.length (y.g.f.CC m)) ∧ Ints .i64 h (some ⟨y.g.f.R m, 0, none⟩) (v.row m) := by
  have hS : m < v.S.M.length := by have := Q.ok.ef; omega
  obtain ⟨B, e, g⟩ := Q.X.rw.cl (i := m) (by rw [cutM_len]; exact hS)
  have r := Q.X.rw.row m (by rw [cutM_len]; exact hS)
  rw [cut_rowG Q.X.sz hS, Q.ok.ec] at r
  rw [Q.ok.ec] at g
  exact ⟨B, e, g, r.toRd⟩
theorem QD.setF (Q : QD hb h y v) {i : Nat} {t : Bool} (hi : i < v.fl.length) : QD hb (h.setN y.fb i [.bool t]) y (v.setF i t) := by
  have e : (v.setF i t).fl.length = v.fl.length := by show (v.fl.set i t).length = _; rw [List.length_set]
  refine { Q with base := le_setN Q.base (Q.fr _ (y.D_fb _)), aq := ?_, X := Q.X.mv (fun b xs hb a => a.set_ne (fun e => by rw [e, Q.gf] at hb; cases hb)), af := ?_, ok := Q.ok.setF i t }
  · rw [e]; exact Q.aq.set_ne Q.qf
  · have := Q.af.set (o := i) (ws := [.bool t])
    rw [setL_bo hi] at this
    exact this
theorem ifW_7 {T : List Cur} {l : Lm} {row : List Int} {m : Int} {b : List Pst} (h : (ifW T row m b).2.2 ≠ 0) : failsW T l row m b = 7 := by
  unfold ifW at h
  unfold failsW
  split
  · rfl
  rename_i h1
  rw [if_neg h1] at h
  cases hr : movedW m b row with
  | none => rfl
  | some r =>
    rw [hr] at h
    dsimp only at h ⊢
    unfold passR
    split
    · rfl
    split
    · rfl
    rename_i h2 h3
    rw [if_neg h2, if_neg h3] at h
    exact (h rfl).elim
theorem ifW_r {T : List Cur} {row : List Int} {m : Int} {b : List Pst} (h : (ifW T row m b).2.2 = 0) : badC row.length b = false ∧ ∃ r, movedW m b row = some r ∧ (netW T r).2 = 0 ∧ (shW T r).2 = 0 ∧ ifW T row m b = ((netW T r).1, (shW T r).1, 0) := by
  unfold ifW at *
  by_cases h1 : badC row.length b = true
  · rw [if_pos h1] at h; cases h
  rw [if_neg h1] at h ⊢
  cases hr : movedW m b row with
  | none => rw [hr] at h; cases h
  | some r =>
    rw [hr] at h
    dsimp only at h ⊢
    by_cases h2 : (netW T r).2 ≠ 0
    · rw [if_pos h2] at h; cases h
    rw [if_neg h2] at h ⊢
    by_cases h3 : (shW T r).2 ≠ 0
    · rw [if_pos h3] at h; cases h
    rw [if_neg h3]
    exact ⟨by simpa using h1, r, rfl, Classical.byContradiction h2, Classical.byContradiction h3, rfl⟩
section
variable {q : Option Addr} {b : List Pst} {n qc : Nat}
theorem qf_1 (Q : QD hb h y v) {m : Nat} (hm : m < v.fl.length) {z : LmV} (hz : y.ls[m]? = some z) (Iz : LmI h z) (hw : z.l.sh.length = v.T.length) (hs0 : ∀ s ∈ z.l.sh, 0 ≤ s ∧ I64 s) (Xb : Pos h q b) (hn : b.length = n) (hs : n ≤ 1000000) (hbc : ∀ p ∈ b, 0 ≤ p.c ∧ p.c < (v.T.length : Int)) {c : Nat} (hc : c < v.T.length) {bits : Int} {r : List Int}
    (k0 : r.getD c 0 < -(z.l.sh.getD c 0) → K (.int .i64 (IntKind.wrap .i64 (bits + 2))) h) (k1 : ¬ r.getD c 0 < -(z.l.sh.getD c 0) → L_pref10_Guard_Fails_0 (some ⟨y.q, 0, none⟩) (m : Int) q n qc bits ((c + 1 : Nat) : Int) h K) :
    ∀ (d i : Nat) (cur : List Int), d + i = n → cur.length = v.T.length → movedW (m : Int) (b.drop i) cur = some r → L_pref10_Guard_Fails_1 (some ⟨y.q, 0, none⟩) (m : Int) q n qc bits (c : Int) (cur.getD c 0) (i : Int) h K := by
  intro d
  induction d with
  | zero =>
    intro i cur hi hl e
    refine L_pref10_Guard_Fails_1r _ _ _ _ _ _ _ _ _ _ _ ?_
    unfold L_pref10_Guard_Fails_1T
    rw [List.drop_eq_nil_of_le (by omega), movedW] at e
    cases e
    have t8 := (tab_parts Q.ok.tab).2.1
    have hy : z.l.sh[c]? = some (z.l.sh.getD c 0) := by rw [List.getD_eq_getElem?_getD, List.getElem?_eq_getElem (by omega)]; rfl
    have hz' := hs0 _ (List.mem_of_getElem? hy)
    refine Br.no (by simp; omega) (withAddr_intro rfl ⟨_, _, _, Q.aq.cell rfl, lx0 (Q.al.le Q.base) rfl rfl hz (ix Iz.X rfl rfl hy ?_)⟩)
    rw [wrap_i64_id (n := 0 - z.l.sh.getD c 0) (by have := hz'.2; unfold I64 at this; omega) (by omega)]
    refine Br.dec (fun g => Ret.mk (k0 (by omega))) fun g => ?_
    rw [w1 (by omega)]
    exact k1 (by omega)
  | succ d ih =>
    intro i cur hi hl e
    refine L_pref10_Guard_Fails_1r _ _ _ _ _ _ _ _ _ _ _ ?_
    unfold L_pref10_Guard_Fails_1T
    have hx : b[i]? = some b[i] := List.getElem?_eq_getElem (by omega)
    have hmm : b[i] ∈ b := List.getElem_mem _
    rw [List.drop_eq_getElem_cons (by omega : i < b.length), movedW] at e
    have hpc := hbc b[i] hmm
    generalize b[i] = p at *
    have nx := w1 (j := i) (by omega)
    obtain ⟨rm, rc, ra⟩ := px1 Xb hn (i := (i : Int)) rfl hx
    refine Br.yes (by simp; omega) (rm ?_)
    by_cases em : p.m ≠ (m : Int)
    · rw [if_pos em] at e
      refine Br.no (by simpa using em) ?_
      rw [nx]
      exact ih (i + 1) cur (by omega) hl e
    rw [if_neg em] at e
    have em : p.m = (m : Int) := Classical.byContradiction em
    by_cases ef : (fit (cur.getD p.c.toNat 0 + p.a)).2 ≠ 0
    · rw [if_pos ef] at e; cases e
    rw [if_neg ef] at e
    have hf := fit_in ef
    refine Br.yes (by simpa using em) (rc fun _ _ _ => ?_)
    have ih' := ih (i + 1) _ (by omega) (by rw [List.length_set]; exact hl) e
    by_cases ec : p.c = (c : Int)
    · refine Br.yes (by simpa using ec) (ra ?_)
      rw [ec, Int.toNat_natCast] at hf ih'
      rw [nx, wrap_i64_id (n := cur.getD c 0 + p.a) (by unfold I64 at hf; omega) (by unfold I64 at hf; omega)]
      rw [getD_set _ _ _ _ (by omega), if_pos rfl] at ih'
      exact ih'
    · refine Br.no (by simpa using ec) ?_
      rw [nx]
      rw [getD_set _ _ _ _ (by omega), if_neg (by omega)] at ih'
      exact ih'
theorem qf_0 (Q : QD hb h y v) {m : Nat} (hm : m < v.fl.length) {z : LmV} (hz : y.ls[m]? = some z) (Iz : LmI h z) (hw : z.l.sh.length = v.T.length) (hs0 : ∀ s ∈ z.l.sh, 0 ≤ s ∧ I64 s) (Xb : Pos h q b) (hn : b.length = n) (hs : n ≤ 1000000) (hbc : ∀ p ∈ b, 0 ≤ p.c ∧ p.c < (v.T.length : Int)) {bits : Int} (hbits : 0 ≤ bits ∧ bits ≤ 7) {r : List Int} (hr : movedW (m : Int) b (v.row m) = some r)
    (k : K (.int .i64 (bits + if shortB z.l.sh r = true then 2 else 0)) h) :
    ∀ (d c : Nat), d + c = v.T.length → (∀ c', c' < c → ¬ r.getD c' 0 < -(z.l.sh.getD c' 0)) → L_pref10_Guard_Fails_0 (some ⟨y.q, 0, none⟩) (m : Int) q n qc bits (c : Int) h K := by
  have hrl : r.length = v.T.length := by rw [movedW_len _ _ _ _ hr]; exact rowG_len _ _ _
  intro d
  induction d with
  | zero =>
    intro c hc no
    refine L_pref10_Guard_Fails_0r _ _ _ _ _ _ _ _ _ ?_
    unfold L_pref10_Guard_Fails_0T
    refine withAddr_intro rfl ⟨_, _, _, Q.aq.cell rfl, Br.no (by simp; omega) (Ret.mk ?_)⟩
    have : shortB z.l.sh r = false := by
      unfold shortB
      rw [List.any_eq_false]
      intro c' hc'
      have := List.mem_range.1 hc'
      simpa using no c' (by omega)
    rw [this, if_neg (by decide), Int.add_zero] at k
    exact k
  | succ d ih =>
    intro c hc no
    refine L_pref10_Guard_Fails_0r _ _ _ _ _ _ _ _ _ ?_
    unfold L_pref10_Guard_Fails_0T
    obtain ⟨B, ea, gB, I⟩ := Q.row hm
    have hS : m < v.S.M.length := by have := Q.ok.ef; omega
    have hl : (v.row m).length = v.T.length := rowG_len _ _ _
    have hx : (v.row m)[c]? = some ((v.row m).getD c 0) := by rw [List.getD_eq_getElem?_getD, List.getElem?_eq_getElem (by omega)]; rfl
    refine withAddr_intro rfl ⟨_, _, _, Q.aq.cell rfl, Br.yes (by simp; omega) (withAddr_intro rfl ⟨_, Q.aq.cell rfl, withAddr_intro rfl ⟨_, _, _, Q.X.rows, by omega, by omega, withAddr_intro ea ⟨_, _, _, gB, ix I hl rfl hx ?_⟩⟩⟩)⟩
    refine qf_1 Q hm hz Iz hw hs0 Xb hn hs hbc (by omega) (r := r) (fun g => ?_) (fun g => ih (c + 1) (by omega) fun c' hc' => ?_) n 0 (v.row m) rfl hl hr
    · have : shortB z.l.sh r = true := by
        unfold shortB
        rw [List.any_eq_true]
        exact ⟨c, List.mem_range.2 (by omega), decide_eq_true g⟩
      rw [this, if_pos rfl] at k
      rw [wrap_i64_id (by omega) (by omega)]
      exact k
    · by_cases e : c' = c
      · subst e; exact g
      · exact no c' (by omega)
theorem S_qFails (Q : QD hb h y v) {m : Int} (Xb : Pos h q b) (hn : b.length = n) (hs : n ≤ 1000000) (hI : ∀ p ∈ b, I64 p.a) (k : ∀ h', h.le h' → K (.int .i64 (v.fails m b)) h') :
    CallA Tryz.prog fn_pref10_Guard_Fails [pointer (some ⟨y.q, 0, none⟩), .int .i64 m, slice q n qc] h K := by
  refine F_pref10_Guard_Fails _ _ _ _ _ _ _ ?_
  unfold F_pref10_Guard_FailsT
  unfold Gu.fails at k
  refine Br.dec (fun g => ?_) fun g => ?_
  · rw [if_neg (by omega)] at k
    exact Ret.mk (k h h.le_refl)
  refine withAddr_intro rfl ⟨_, _, _, Q.aq.cell rfl, Br.dec (fun g2 => ?_) fun g2 => ?_⟩
  · rw [if_neg (by omega)] at k
    exact Ret.mk (k h h.le_refl)
  obtain ⟨i, rfl⟩ : ∃ i : Nat, m = i := ⟨m.toNat, by omega⟩
  rw [if_pos (by omega), Int.toNat_natCast] at k
  have hi : i < v.fl.length := by omega
  have hS : i < v.S.M.length := by have := Q.ok.ef; omega
  obtain ⟨B, ea, gB, I⟩ := Q.row hi
  obtain ⟨t1, t8, _⟩ := tab_parts Q.ok.tab
  obtain ⟨z, hz, ez, Iz, hw, hs0, _, _⟩ := Q.lm hi
  have hrow := Q.ok.rowI i
  refine withAddr_intro rfl ⟨_, _, _, Q.aq.cell rfl, withAddr_intro rfl ⟨_, Q.aq.cell rfl, withAddr_intro rfl ⟨_, _, _, Q.X.rows, by omega, by omega, withAddr_intro ea ⟨_, _, _, gB, ?_⟩⟩⟩⟩
  refine S_xIf (Q.CT.le Q.base) rfl (all_inb Q.ok.tab) I hrow.1 t1 (by omega) hrow.2 Xb hn hs hI fun h1 l1 => ⟨_, _, _, rfl, ?_⟩
  have Q1 := Q.le l1
  by_cases e : (ifW v.T (v.row i) (i : Int) b).2.2 ≠ 0
  · rw [ifW_7 e] at k
    exact Br.yes (by simpa using e) (Ret.mk (k h1 l1))
  have e : (ifW v.T (v.row i) (i : Int) b).2.2 = 0 := Classical.byContradiction e
  obtain ⟨e1, r, e2, e3, e4, e5⟩ := ifW_r e
  have bd : ∀ p ∈ b, 0 ≤ p.c ∧ p.c < (v.T.length : Int) := fun p hp => by
    rw [hrow.1] at e1
    unfold badC at e1
    rw [List.any_eq_false] at e1
    have := e1 p hp
    simp at this
    omega
  have ef : failsW v.T (v.lim i) (v.row i) (i : Int) b = (if (netW v.T r).1 < 0 then 1 else 0) + (if shortB z.l.sh r = true then 2 else 0) + (if z.l.all < (shW v.T r).1 then 4 else 0) := by
    unfold failsW
    rw [if_neg (by rw [e1]; decide), e2]
    show passR v.T (v.lim i) r = _
    unfold passR
    rw [if_neg (fun x => x e3), if_neg (fun x => x e4), ez]
  rw [ef] at k
  rw [e5]
  have fin : ∀ bits : Int, (0 ≤ bits ∧ bits ≤ 7) → bits = (if (netW v.T r).1 < 0 then 1 else 0) + (if z.l.all < (shW v.T r).1 then 4 else 0) → L_pref10_Guard_Fails_0 (some ⟨y.q, 0, none⟩) (i : Int) q n qc bits ((0 : Nat) : Int) h1 K := fun bits hb1 hb2 => by
    refine qf_0 Q1 hi hz (Iz.le l1) hw hs0 (rdL_le l1 Xb) hn hs bd hb1 e2 ?_ v.T.length 0 rfl (fun c' hc' => absurd hc' (by omega))
    have := k h1 l1
    rw [show (if (netW v.T r).1 < 0 then (1 : Int) else 0) + (if shortB z.l.sh r = true then 2 else 0) + (if z.l.all < (shW v.T r).1 then 4 else 0) = bits + (if shortB z.l.sh r = true then 2 else 0) by rw [hb2]; omega] at this
    exact this
  refine Br.no rfl (Br.dec (fun g1 => ?_) fun g1 => ?_)
  · refine withAddr_intro rfl ⟨_, _, _, Q1.aq.cell rfl, lx1 (Q1.al.le Q1.base) rfl rfl hz (Br.dec (fun g2 => ?_) fun g2 => ?_)⟩
    · exact fin 5 (by decide) (by rw [if_pos g1, if_pos (by omega)]; rfl)
    · exact fin 1 (by decide) (by rw [if_pos g1, if_neg (by omega)]; rfl)
  · refine withAddr_intro rfl ⟨_, _, _, Q1.aq.cell rfl, lx1 (Q1.al.le Q1.base) rfl rfl hz (Br.dec (fun g2 => ?_) fun g2 => ?_)⟩
    · exact fin 4 (by decide) (by rw [if_neg g1, if_pos (by omega)]; rfl)
    · exact fin 0 (by decide) (by rw [if_neg g1, if_neg (by omega)]; rfl)
theorem S_qJudge (Q : QD hb h y v) (k : ∀ h', QD hb h' y v.judge → K (tuple #[]) h') : CallA Tryz.prog fn_pref10_Guard_Judge [pointer (some ⟨y.q, 0, none⟩)] h K := by
  refine F_pref10_Guard_Judge _ _ _ ?_
  unfold F_pref10_Guard_JudgeT
  have loop : ∀ (d j : Nat) (h : Heap), d + j = v.fl.length → QD hb h y (v.judJ j) → L_pref10_Guard_Judge_0 (some ⟨y.q, 0, none⟩) (j : Int) h K := by
    intro d
    induction d with
    | zero =>
      intro j h hj Q
      refine L_pref10_Guard_Judge_0r _ _ _ _ ?_
      unfold L_pref10_Guard_Judge_0T
      have hl : (v.judJ j).fl.length = v.fl.length := filG_len _ _ _ _
      refine withAddr_intro rfl ⟨_, _, _, Q.aq.cell rfl, Br.no (by simp; omega) (Ret.mk ?_)⟩
      obtain rfl : j = v.fl.length := by omega
      rw [v.judJ_all] at Q
      exact k h Q
    | succ d ih =>
      intro j h hj Q
      refine L_pref10_Guard_Judge_0r _ _ _ _ ?_
      unfold L_pref10_Guard_Judge_0T
      have hl : (v.judJ j).fl.length = v.fl.length := filG_len _ _ _ _
      refine withAddr_intro rfl ⟨_, _, _, Q.aq.cell rfl, Br.yes (by simp; omega) (withAddr_intro rfl ⟨_, _, _, Q.aq.cell rfl, S_qFails Q (b := []) (.inl rfl) rfl (by decide) (fun y hy => by cases hy) fun h1 l1 => ⟨_, rfl, .inl l1, by omega, by rw [hl]; omega, withAddr_intro rfl ?_⟩⟩)⟩
      have Q1 := Q.le l1
      refine ⟨Q1.af.canSt (by rw [boV_len, hl, Int.toNat_natCast]; omega), ?_⟩
      have Q2 := Q1.setF (i := j) (t := v.judF j) (by rw [hl]; omega)
      rw [v.judJ_set (by omega)] at Q2
      rw [w1 (by have := Q.n; omega), Int.toNat_natCast, Nat.zero_add, show ((v.judJ j).fails (j : Int) [] != 0) = v.judF j by unfold Gu.judF; rw [fails_fl (v := v.judJ j) (u := v) rfl rfl rfl hl]]
      exact ih (j + 1) _ (by omega) Q2
  exact loop v.fl.length 0 h rfl (by rw [v.judJ_0]; exact Q)
end
end
end Go.Proofs.YtghdadniddoboaaGreat

/- The reference's changed table, and where it lies. -/
namespace Go.Proofs.YtghdadniddoboaaGreat
open Go Go.Sy Go.Value
set_option linter.unusedVariables false
set_option linter.unusedSimpArgs false

theorem S_RWithO {K : Value → Heap → Prop} {h : Heap} {p : Option Addr} {l : List Cur} {n c : Nat} {cur r t : Int} (C : Curs h p l) (hn : l.length = n) (hs : n ≤ 1000000)
    (k : ∀ p' n' c' e h', h.le h' → WResO h h' p' n' e (rWith l cur r t) → K (tuple #[slice p' n' c', .int .i64 e]) h') : CallA Tryz.prog fn_ref03_With [slice p n c, .int .i64 cur, .int .i64 r, .int .i64 t] h K := by
  refine F_ref03_With _ _ _ _ _ _ _ _ ?_
  unfold F_ref03_WithT
  unfold rWith at k
  refine Br.dec (fun e => ?_) (fun e => Br.dec (fun e2 => ?_) (fun e2 => ?_))
  · rw [if_neg (by omega)] at k
    exact Ret.mk (k none 0 0 1 h h.le_refl ⟨rfl, rfl, rfl⟩)
  · rw [if_pos (by omega), List.getElem?_eq_none (by omega)] at k
    exact Ret.mk (k none 0 0 1 h h.le_refl ⟨rfl, rfl, rfl⟩)
  · obtain ⟨j, rfl⟩ := Int.eq_ofNat_of_zero_le (show 0 ≤ cur by omega)
    have hx : l[j]? = some l[j] := List.getElem?_eq_getElem (by omega)
    rw [if_pos (by omega), Int.toNat_natCast, hx] at k
    generalize l[j] = x at *
    dsimp only at k
    intro r0 hr
    refine (own_new (T := 60) (z := [string { data := #[] }, .int .i64 0, .int .i64 0]) hr).push (by decide) (le_ins hr) (by omega) (by rw [curV_length, hn]; rfl) (C.le (le_ins hr)) (allCells_cur _) (by simp) ?_
    intro p' c' h' l' own _ _
    rw [Nat.zero_add, List.nil_append] at *
    rcases own with ⟨e1, _, _⟩ | ⟨b, sp, rfl, e0, B, hcap⟩
    · have := congrArg List.length e1
      rw [curV_length, List.length_nil] at this
      omega
    · rw [Int.toNat_natCast]
      refine ⟨by omega, by omega, withAddr_intro rfl ⟨B.canSt (by rw [List.length_append, curV_length]; omega), by omega, by omega, withAddr_intro rfl ?_⟩⟩
      have B1 := B.set (o := 0 + j * 3 + 1) (ws := [.int .i64 r])
      have e4 : setL (curV l ++ sp) (0 + j * 3 + 1) [.int .i64 r] = curV (l.set j ⟨x.code, r, x.cut⟩) ++ sp := by
        rw [Nat.zero_add]; exact curV_rate r sp l j x hx
      rw [e4] at B1
      refine ⟨B1.canSt (by rw [List.length_append, curV_length, List.length_set]; omega), ?_⟩
      have B2 := B1.set (o := 0 + j * 3 + 2) (ws := [.int .i64 t])
      have e5 : setL (curV (l.set j ⟨x.code, r, x.cut⟩) ++ sp) (0 + j * 3 + 2) [.int .i64 t] = curV (l.set j ⟨x.code, r, t⟩) ++ sp := by
        rw [Nat.zero_add, curV_cut t sp _ j ⟨x.code, r, x.cut⟩ (by rw [List.getElem?_set_self (by omega)]), List.set_set]
      rw [e5] at B2
      have l2 := le_setN (o := 0 + j * 3 + 2) (ws := [.int .i64 t]) (le_setN (o := 0 + j * 3 + 1) (ws := [.int .i64 r]) l' e0) e0
      generalize (h'.setN b (0 + j * 3 + 1) [.int .i64 r]).setN b (0 + j * 3 + 2) [.int .i64 t] = h2 at *
      have C2 : Curs h2 (some ⟨b, 0, none⟩) (l.set j ⟨x.code, r, t⟩) := B2.toRd
      refine S_RCheck C2 (by simpa using hn) ⟨_, rfl, Br.intro (fun g => ?_) (fun g => ?_)⟩
      · rw [if_neg (by simpa using g)] at k
        exact Ret.mk (k none 0 0 1 h2 l2 ⟨rfl, rfl, rfl⟩)
      · rw [if_pos (by simpa using g)] at k
        exact Ret.mk (k _ _ _ _ h2 l2 ⟨⟨b, sp, rfl, e0, B2⟩, by simpa using hn, rfl⟩)
end Go.Proofs.YtghdadniddoboaaGreat

/- The reference's guard: what each call leaves. -/
namespace Go.Proofs.YtghdadniddoboaaGreat
open Go Go.Sy Go.Value
set_option linter.unusedVariables false
set_option linter.unusedSimpArgs false

theorem set_same (l : List Bool) (i : Nat) : l.set i (l.getD i false) = l := by
  refine List.ext_getElem? fun j => ?_
  by_cases e : j = i
  · subst e
    by_cases h : j < l.length
    · rw [List.getElem?_set_self h, List.getD_eq_getElem?_getD, List.getElem?_eq_getElem h]; rfl
    · rw [List.getElem?_eq_none (by rw [List.length_set]; omega), List.getElem?_eq_none (by omega)]
  · rw [List.getElem?_set_ne (fun x => e x.symm)]
structure QF.Sm (h : Heap) (y z : QF) : Prop where
  q : z.q = y.q
  p : z.g.p = y.g.p
  lq : z.lq = y.lq
  ls : z.ls = y.ls
  tp : z.tp = y.tp ∨ ∃ b, z.tp = some ⟨b, 0, none⟩ ∧ h b = none
theorem QF.Sm.refl (h : Heap) (y : QF) : y.Sm h y := ⟨rfl, rfl, rfl, rfl, .inl rfl⟩
section
variable {hb h : Heap} {K : Value → Heap → Prop} {y : QF} {v : Gu}
theorem QD.led (Q : QD hb h y v) {h' : Heap} {S' : Lg} {g' : XFr} (l : (h.wo (y.g.D v.S.M.length)).le h') (X' : XAt h' g' S') (ep : g'.p = y.g.p) (hD : ∀ b, g'.D v.S.M.length b = true → y.g.D v.S.M.length b = true ∨ h b = none) (sz : szB v.S S') (ok : S'.Ok) : QD hb h' { y with g := g' } (v.setS S') := by
  have eN : (v.setS S').S.M.length = v.S.M.length := sz.1
  have l0 : hb.le h' := Heap.le_trans (le_wo Q.base fun b hb => Q.fr b (QF.D_g hb)) l
  have gD : ∀ b, (∃ xs, At h b xs) → y.g.D v.S.M.length b = false → g'.D v.S.M.length b = false := fun b ⟨xs, a⟩ e => noD fun hd => by
    rcases hD b hd with e2 | e2
    · rw [e] at e2; cases e2
    · exact a.ne e2 rfl
  refine { base := l0, fr := fun b hb2 => ?_, aq := ?_, X := X', af := (Q.af.wo Q.gf).le l, qf := Q.qf, gq := ?_, gf := ?_, CT := Q.CT, al := Q.al, il := Q.il, el := Q.el, ok := Q.ok.setS ok sz }
  · rw [eN] at hb2
    rcases QF.D_t hb2 with e | e | e
    · exact Q.fr b (by rw [show b = y.q from e]; exact y.D_q _)
    · exact Q.fr b (by rw [show b = y.fb from e]; exact y.D_fb _)
    · rcases hD b e with e2 | e2
      · exact Q.fr b (QF.D_g e2)
      · exact none_of_le Q.base e2
  · have := (Q.aq.wo Q.gq).le l
    rw [← ep] at this
    exact this
  · rw [eN]; exact gD _ ⟨_, Q.aq⟩ Q.gq
  · rw [eN]; exact gD _ ⟨_, Q.af⟩ Q.gf
theorem has_in' {S : Lg} {m c : Int} : hasB S m c = decide (0 ≤ m ∧ m < (S.M.length : Int) ∧ 0 ≤ c ∧ c < (S.cur : Int)) := rfl
theorem S_one {m c a : Int} (k : ∀ h' r, h.le h' → At h' r (poV [⟨m, c, a⟩]) → K (slice (some ⟨r, 0, none⟩) 1 1) h') : CallA Tryz.prog fn_ref10_one [.int .i64 m, .int .i64 c, .int .i64 a] h K := by
  refine F_ref10_one _ _ _ _ _ ?_
  unfold F_ref10_oneT
  exact newB_at fun r h1 _ l1 A => Ret.mk (k h1 r l1 A)
theorem S_qIn (Q : QD hb h y v) {m c a : Int} (ha : I64 a) (k : ∀ h' y', QD hb h' y' (rIn v m c a).2 → y.Sm h y' → K (.int .i64 (rIn v m c a).1) h') :
    CallA Tryz.prog fn_pref10_Guard_In [pointer (some ⟨y.q, 0, none⟩), .int .i64 m, .int .i64 c, .int .i64 a] h K := by
  refine F_pref10_Guard_In _ _ _ _ _ _ ?_
  unfold F_pref10_Guard_InT
  unfold rIn at k
  have ef := Q.ok.ef
  refine withAddr_intro rfl ⟨_, Q.aq.cell rfl, S_xHas Q.X ⟨_, rfl, ?_⟩⟩
  by_cases hg : 0 ≤ m ∧ m < (v.fl.length : Int) ∧ 0 ≤ c ∧ c < (v.S.cur : Int) ∧ 1 ≤ a
  · rw [if_neg (fun e => e hg)] at k
    obtain ⟨i, rfl⟩ : ∃ i : Nat, m = i := ⟨m.toNat, by omega⟩
    rw [Int.toNat_natCast] at k
    have hi : i < v.fl.length := by omega
    have hS : i < v.S.M.length := by omega
    obtain ⟨t1, t8, _⟩ := tab_parts Q.ok.tab
    have hrow := Q.ok.rowI i
    obtain ⟨B, ea, gB, I⟩ := Q.row hi
    refine Br.no (by rw [has_in', decide_eq_true (by omega)]; rfl) (Br.no (by simp; omega) (withAddr_intro rfl ⟨_, _, _, Q.aq.cell rfl, withAddr_intro rfl ⟨_, Q.aq.cell rfl, withAddr_intro rfl ⟨_, _, _, Q.X.rows, by omega, by omega, withAddr_intro ea ⟨_, _, _, gB, S_one fun h1 r l1 Ar => ⟨_, _, _, rfl, .inl l1, ?_⟩⟩⟩⟩⟩))
    have Q1 := Q.le l1
    refine S_xIf (b := [⟨(i : Int), c, a⟩]) (Q1.CT.le Q1.base) rfl (all_inb Q.ok.tab) (I.le l1) hrow.1 t1 (by omega) hrow.2 (at_rd0 Ar) rfl (by decide) (fun p hp => by rw [List.mem_singleton] at hp; subst hp; exact ha) fun h2 l2 => ⟨_, _, _, rfl, ?_⟩
    have Q2 := Q1.le l2
    by_cases e1 : (ifW v.T (v.row i) (i : Int) [⟨(i : Int), c, a⟩]).2.2 ≠ 0
    · rw [if_pos e1] at k
      exact Br.yes (by simpa using e1) (Ret.mk (k h2 y Q2 (.refl h y)))
    rw [if_neg e1] at k
    refine Br.no (by simpa using e1) (withAddr_intro rfl ⟨_, Q2.aq.cell rfl, S_xIn (wo_le _ _) (fun b hb => wo_none hb) Q2.X ha fun h3 l3 X3 => ⟨_, rfl, ?_⟩⟩)
    have Q3 := Q2.led l3 X3 rfl (fun b hb => .inl hb) (inG_sz v.S (i : Int) c a) (inG_ok Q.ok.o _ _ _)
    by_cases e2 : (inG v.S (i : Int) c a).1 ≠ 0
    · rw [if_pos e2] at k
      rw [inG_err e2] at Q3
      exact Br.no (by simpa using e2) (Ret.mk (k h3 y Q3 (.refl h y)))
    rw [if_neg e2] at k
    have e2 : (inG v.S (i : Int) c a).1 = 0 := Classical.byContradiction e2
    rw [e2]
    refine Br.yes rfl (S_qFails Q3 (b := []) (.inl rfl) rfl (by decide) (fun y hy => by cases hy) fun h4 l4 => ⟨_, rfl, ?_⟩)
    have Q4 := Q3.le l4
    by_cases e3 : (v.setS (inG v.S (i : Int) c a).2).fails (i : Int) [] = 0
    · rw [e3] at k ⊢
      refine Br.yes rfl (withAddr_intro rfl ⟨_, _, _, Q4.aq.cell rfl, by omega, hg.2.1, withAddr_intro rfl ⟨Q4.af.canSt (by rw [boV_len, Int.toNat_natCast]; show 0 + i + 1 ≤ v.fl.length; omega), Ret.mk ?_⟩⟩)
      rw [Int.toNat_natCast, Nat.zero_add]
      have := Q4.setF (i := i) (t := false) hi
      rw [show (v.fl.getD i false && ((0 : Int) != 0)) = false by simp] at k
      exact k _ y this (.refl h y)
    · rw [show ((v.setS (inG v.S (i : Int) c a).2).fails (i : Int) [] != 0) = true by simpa using e3, Bool.and_true] at k
      have es : (v.setS (inG v.S (i : Int) c a).2).setF i (v.fl.getD i false) = v.setS (inG v.S (i : Int) c a).2 := by
        show { v.setS (inG v.S (i : Int) c a).2 with fl := v.fl.set i (v.fl.getD i false) } = _
        rw [set_same]; rfl
      rw [es] at k
      exact Br.no (by simpa using e3) (Ret.mk (k h4 y Q4 (.refl h y)))
  · rw [if_pos hg] at k
    have fin := k h y Q (.refl h y)
    refine Br.intro (fun _ => Ret.mk fin) fun g1 => Br.dec (fun _ => Ret.mk fin) fun g2 => ?_
    have g1 : hasB v.S m c = true := by simpa using g1
    rw [has_in', decide_eq_true_eq] at g1
    exact (hg (by omega)).elim
theorem S_qOut (Q : QD hb h y v) {m c a : Int} (ha : I64 a) (k : ∀ h' y', QD hb h' y' (rOut v m c a).2 → y.Sm h y' → K (.int .i64 (rOut v m c a).1) h') :
    CallA Tryz.prog fn_pref10_Guard_Out [pointer (some ⟨y.q, 0, none⟩), .int .i64 m, .int .i64 c, .int .i64 a] h K := by
  refine F_pref10_Guard_Out _ _ _ _ _ _ ?_
  unfold F_pref10_Guard_OutT
  unfold rOut at k
  have ef := Q.ok.ef
  refine withAddr_intro rfl ⟨_, Q.aq.cell rfl, S_xHas Q.X ⟨_, rfl, ?_⟩⟩
  by_cases hg : 0 ≤ m ∧ m < (v.fl.length : Int) ∧ 0 ≤ c ∧ c < (v.S.cur : Int) ∧ 1 ≤ a
  · rw [if_neg (fun e => e hg)] at k
    obtain ⟨i, rfl⟩ : ∃ i : Nat, m = i := ⟨m.toNat, by omega⟩
    rw [Int.toNat_natCast] at k
    have hi : i < v.fl.length := by omega
    have hh : hasB v.S (i : Int) c = true := by rw [has_in', decide_eq_true (by omega)]
    refine Br.no (by rw [hh]; rfl) (Br.no (by simp; omega) (withAddr_intro rfl ⟨_, _, _, Q.aq.cell rfl, by omega, hg.2.1, withAddr_intro rfl ⟨_, Q.af.cell (v := .bool (v.fl.getD i false)) (by rw [Int.toNat_natCast, Nat.zero_add]; exact boV_get hi), ?_⟩⟩))
    cases hb2 : v.fl.getD i false with
    | true =>
      rw [if_pos hb2] at k
      exact Br.yes rfl (Ret.mk (k h y Q (.refl h y)))
    | false =>
      rw [if_neg (by rw [hb2]; decide)] at k
      have ea : IntKind.wrap .i64 (0 - a) = -a := by
        unfold I64 at ha
        rw [wrap_i64_id (by omega) (by omega)]; omega
      rw [ea]
      refine Br.no rfl (S_one fun h1 r l1 Ar => ⟨_, _, _, rfl, ?_⟩)
      have Q1 := Q.le l1
      have eg : getG v.S (i : Int) c = rdM v.S.M i c.toNat := by unfold getG; rw [if_pos hh, Int.toNat_natCast]
      have en : nosG v.S c = v.S.N.getD c.toNat 0 := by
        unfold nosG
        rw [if_pos (by rw [has_in', decide_eq_true (by omega)])]
      refine S_qFails (b := [⟨(i : Int), c, -a⟩]) Q1 (at_rd0 Ar) rfl (by decide) (fun p hp => by rw [List.mem_singleton] at hp; subst hp; unfold I64 at ha ⊢; show _ ≤ -a ∧ -a ≤ _; omega) fun h2 l2 => ⟨_, rfl, ?_⟩
      have Q2 := Q1.le l2
      by_cases e1 : v.fails (i : Int) [⟨(i : Int), c, -a⟩] ≠ 0
      · refine Br.yes (by simpa using e1) (Ret.mk ?_)
        split at k
        · exact k h2 y Q2 (.refl h y)
        split at k
        · exact k h2 y Q2 (.refl h y)
        exact k h2 y Q2 (.refl h y)
      refine Br.no (by simpa using e1) (withAddr_intro rfl ⟨_, Q2.aq.cell rfl, S_xOut (wo_le _ _) (fun b hb => wo_none hb) Q2.X ha fun h3 l3 X3 => ⟨_, rfl, Ret.mk ?_⟩⟩)
      have Q3 := Q2.led l3 X3 rfl (fun b hb => .inl hb) (outG_sz v.S (i : Int) c a) (outG_ok Q.ok.o _ _ _)
      have o1 : getG v.S (i : Int) c < a → outG v.S (i : Int) c a = (10, v.S) := fun g => by
        unfold outG
        rw [if_neg (by rw [hh]; decide), if_neg (by omega), if_pos (by rw [Int.toNat_natCast]; omega)]
      have o2 : ¬ getG v.S (i : Int) c < a → nosG v.S c < a → outG v.S (i : Int) c a = (10, v.S) := fun g g2 => by
        unfold outG
        rw [if_neg (by rw [hh]; decide), if_neg (by omega), if_neg (by rw [Int.toNat_natCast]; omega), if_pos (by omega)]
      split at k
      · rename_i g
        rw [o1 g] at Q3 ⊢
        exact k h3 y Q3 (.refl h y)
      rename_i g
      split at k
      · rename_i g2
        rw [o2 g g2] at Q3 ⊢
        exact k h3 y Q3 (.refl h y)
      exact k h3 y Q3 (.refl h y)
  · rw [if_pos hg] at k
    have fin := k h y Q (.refl h y)
    refine Br.intro (fun _ => Ret.mk fin) fun g1 => Br.dec (fun _ => Ret.mk fin) fun g2 => ?_
    have g1 : hasB v.S m c = true := by simpa using g1
    rw [has_in', decide_eq_true_eq] at g1
    exact (hg (by omega)).elim
section
variable {q : Option Addr} {b : List Pst} {n qc : Nat}
theorem q_anew {r : Int × Lg} (Q : QD hb h y (v.setS r.2)) (er : r.1 ≠ 0 → r.2 = v.S) (k : ∀ h', QD hb h' y (rAnew v r).2 → K (.int .i64 (rAnew v r).1) h') :
    Br (r.1 == 0) (CallA Tryz.prog fn_pref10_Guard_Judge [pointer (some ⟨y.q, 0, none⟩)] h fun w h => w = tuple #[] ∧ Ret h K (.int .i64 r.1)) (Ret h K (.int .i64 r.1)) := by
  unfold rAnew at k
  by_cases e : r.1 = 0
  · refine Br.yes (by rw [e]; rfl) (S_qJudge Q fun h1 Q1 => ⟨rfl, Ret.mk ?_⟩)
    have kk := k h1
    rw [if_pos e] at kk
    exact kk Q1
  · refine Br.no (by simpa using e) (Ret.mk ?_)
    have kk := k h
    rw [if_neg e] at kk
    rw [er e] at Q
    exact kk Q
theorem S_qTake (Q : QD hb h y v) (Xb : Pos h q b) (hn : b.length = n) (hs : n ≤ 1000) (hI : ∀ x ∈ b, I64 x.m ∧ I64 x.c ∧ I64 x.a) (k : ∀ h' y', QD hb h' y' (rAnew v (postG v.S b)).2 → y.Sm h y' → K (.int .i64 (rAnew v (postG v.S b)).1) h') :
    CallA Tryz.prog fn_pref10_Guard_Take [pointer (some ⟨y.q, 0, none⟩), slice q n qc] h K := by
  refine F_pref10_Guard_Take _ _ _ _ _ _ ?_
  unfold F_pref10_Guard_TakeT
  refine withAddr_intro rfl ⟨_, Q.aq.cell rfl, S_xPost (wo_le _ _) (fun b hb => wo_none hb) Q.X Xb hn hs hI fun h3 g' l3 X3 ep hD => ⟨_, rfl, ?_⟩⟩
  have Q3 := Q.led l3 X3 ep hD (postG_sz v.S b) (postG_ok Q.ok.o _)
  exact q_anew (y := { y with g := g' }) Q3 postG_err fun h' Q' => k h' _ Q' ⟨rfl, ep, rfl, rfl, .inl rfl⟩
theorem S_qSwap (Q : QD hb h y v) {m g w a c : Int} (ha : I64 a) (hc : I64 c) (k : ∀ h' y', QD hb h' y' (rAnew v (swapG v.S m g w a c)).2 → y.Sm h y' → K (.int .i64 (rAnew v (swapG v.S m g w a c)).1) h') :
    CallA Tryz.prog fn_pref10_Guard_Swap [pointer (some ⟨y.q, 0, none⟩), .int .i64 m, .int .i64 g, .int .i64 w, .int .i64 a, .int .i64 c] h K := by
  refine F_pref10_Guard_Swap _ _ _ _ _ _ _ _ ?_
  unfold F_pref10_Guard_SwapT
  refine withAddr_intro rfl ⟨_, Q.aq.cell rfl, S_xSwap (wo_le _ _) (fun b hb => wo_none hb) Q.X ha hc fun h3 l3 X3 => ⟨_, rfl, ?_⟩⟩
  have Q3 := Q.led l3 X3 rfl (fun b hb => .inl hb) (swapG_sz v.S m g w a c) (swapG_ok Q.ok.o m g w a c)
  exact q_anew (y := { y with g := y.g }) Q3 swapG_err fun h' Q' => k h' _ Q' (.refl h y)
theorem S_qBook (Q : QD hb h y v) (Xb : Pos h q b) (hn : b.length = n) (hs : n ≤ 1000) (hI : ∀ x ∈ b, I64 x.m ∧ I64 x.c ∧ I64 x.a) (k : ∀ h' y', QD hb h' y' (rBook v b).2 → y.Sm h y' → K (.int .i64 (rBook v b).1) h') :
    CallA Tryz.prog fn_pref10_Guard_Book [pointer (some ⟨y.q, 0, none⟩), slice q n qc] h K := by
  refine F_pref10_Guard_Book _ _ _ _ _ _ ?_
  unfold F_pref10_Guard_BookT
  unfold rBook at k
  refine withAddr_intro rfl ⟨_, Q.aq.cell rfl, S_xCopy Q.X fun h1 g1 l1 X1 d1 => ⟨_, rfl, ?_⟩⟩
  refine S_xPost l1 d1 X1 (rdL_le l1 Xb) hn hs hI fun h2 g2 l2 X2 ep2 hD2 => ⟨_, rfl, ?_⟩
  have Q2 := Q.le l2
  by_cases e1 : (postG v.S b).1 ≠ 0
  · rw [if_pos e1] at k
    exact Br.yes (by simpa using e1) (Ret.mk (k h2 y Q2 (.refl h y)))
  rw [if_neg e1] at k
  have e1 : (postG v.S b).1 = 0 := Classical.byContradiction e1
  obtain ⟨pin, _, _⟩ := post_in e1
  refine Br.no (by rw [e1]; rfl) ?_
  have loop : ∀ (d j : Nat) (g : Heap), d + j = n → QD hb g y v → h.le g → (b.drop j).any (fun p => v.fl.getD p.m.toNat false || (v.fails p.m b != 0)) = b.any (fun p => v.fl.getD p.m.toNat false || (v.fails p.m b != 0)) → L_pref10_Guard_Book_0 (some ⟨y.q, 0, none⟩) q n qc (j : Int) g K := by
    intro d
    induction d with
    | zero =>
      intro j g hj Q lg e
      refine L_pref10_Guard_Book_0r _ _ _ _ _ _ _ ?_
      unfold L_pref10_Guard_Book_0T
      rw [List.drop_eq_nil_of_le (by omega), List.any_nil] at e
      rw [← e, if_neg (by decide)] at k
      refine Br.no (by simp; omega) (withAddr_intro rfl ⟨_, Q.aq.cell rfl, S_xPost (wo_le _ _) (fun b hb => wo_none hb) Q.X (rdL_le lg Xb) hn hs hI fun h3 g' l3 X3 ep hD => ⟨_, rfl, Ret.mk ?_⟩⟩)
      have Q3 := Q.led l3 X3 ep hD (postG_sz v.S b) (postG_ok Q.ok.o _)
      rw [e1]
      exact k h3 _ Q3 ⟨rfl, ep, rfl, rfl, .inl rfl⟩
    | succ d ih =>
      intro j g hj Q lg e
      refine L_pref10_Guard_Book_0r _ _ _ _ _ _ _ ?_
      unfold L_pref10_Guard_Book_0T
      have hx : b[j]? = some b[j] := List.getElem?_eq_getElem (by omega)
      have hp := pin _ (List.getElem_mem (by omega : j < b.length))
      rw [List.drop_eq_getElem_cons (by omega : j < b.length), List.any_cons] at e
      generalize b[j] = p at *
      have ef := Q.ok.ef
      have hm : 0 ≤ p.m ∧ p.m < (v.fl.length : Int) := by omega
      obtain ⟨rm, _, _⟩ := px1 (rdL_le lg Xb) hn (i := (j : Int)) rfl hx
      refine Br.yes (by simp; omega) (withAddr_intro rfl ⟨_, _, _, Q.aq.cell rfl, rm ⟨hm.1, hm.2, withAddr_intro rfl ⟨_, Q.af.cell (v := .bool (v.fl.getD p.m.toNat false)) (by rw [Nat.zero_add]; exact boV_get (by omega)), ?_⟩⟩⟩)
      cases hf : v.fl.getD p.m.toNat false with
      | true =>
        rw [hf, Bool.true_or, Bool.true_or] at e
        rw [← e, if_pos rfl] at k
        exact Br.yes rfl (Ret.mk (k g y Q (.refl h y)))
      | false =>
        rw [hf, Bool.false_or] at e
        refine Br.no rfl (rm (S_qFails Q (rdL_le lg Xb) hn (by omega) (fun x hx => (hI x hx).2.2) fun h3 l3 => ⟨_, rfl, ?_⟩))
        by_cases e3 : v.fails p.m b ≠ 0
        · rw [show (v.fails p.m b != 0) = true by simpa using e3, Bool.true_or] at e
          rw [← e, if_pos rfl] at k
          exact Br.yes (by simpa using e3) (Ret.mk (k h3 y (Q.le l3) (.refl h y)))
        · rw [show (v.fails p.m b != 0) = false by simpa using e3, Bool.false_or] at e
          refine Br.no (by simpa using e3) ?_
          rw [w1 (by omega)]
          exact ih (j + 1) h3 (by omega) (Q.le l3) (Heap.le_trans lg l3) e
  exact loop n 0 h2 rfl Q2 l2 rfl
end
theorem q_turn (Q : QD hb h y v) {cur r t : Int} {o : Option (List Cur)} (ho : rWith v.T cur r t = o) (hw : ∀ T', o = some T' → tabE T' = 0 ∧ T'.length = v.T.length)
    (k : ∀ hb' h' y', hb.le hb' → QD hb' h' y' (rTurn v o).2 → y.Sm h y' → K (.int .i64 (rTurn v o).1) h') :
    CallA Tryz.prog fn_ref03_With [slice y.tp v.T.length y.tc, .int .i64 cur, .int .i64 r, .int .i64 t] h fun w h => ∃ a n m n_2, w = tuple #[slice a n m, .int .i64 n_2] ∧ CallA Tryz.prog fn_pref10_Guard_turn [pointer (some ⟨y.q, 0, none⟩), slice a n m, .int .i64 n_2] h fun w h => ∃ n, w = .int .i64 n ∧ Ret h K (.int .i64 n) := by
  obtain ⟨t1, t8, _⟩ := tab_parts Q.ok.tab
  refine S_RWithO (Q.CT.le Q.base) rfl (by omega) fun p' n' c' e' h1 l1 wr => ⟨_, _, _, _, rfl, ?_⟩
  refine F_pref10_Guard_turn _ _ _ _ _ _ _ ?_
  unfold F_pref10_Guard_turnT
  rw [ho] at wr
  have Q1 := Q.le l1
  unfold rTurn at k
  cases o with
  | none =>
    obtain ⟨_, _, rfl⟩ := wr
    exact Br.no rfl (Ret.mk ⟨_, rfl, Ret.mk (k hb h1 y hb.le_refl Q1 (.refl h y))⟩)
  | some T' =>
    obtain ⟨⟨b, sp, rfl, z, Ab⟩, hn', rfl⟩ := wr
    obtain ⟨ht, hl⟩ := hw T' rfl
    obtain ⟨l2, Q2⟩ := Q1.off
    have Ab2 := Ab.wo (Q.out z)
    refine Br.yes rfl (withAddr_intro rfl ⟨Q2.aq.canSt (by simp), ?_⟩)
    have zq : (h1.wo (y.D v.S.M.length)) y.q = none := wo_none (y.D_q _)
    subst hn'
    have aq2 : At (h1.setN y.q 0 [slice (some ⟨b, 0, none⟩) T'.length c']) y.q [.slice (some ⟨b, 0, none⟩) T'.length c', .pointer (some ⟨y.g.p, 0, none⟩), .slice y.lq y.ls.length y.lc, .slice (some ⟨y.fb, 0, none⟩) v.fl.length y.fc] := Q1.aq.set (o := 0) (ws := [slice (some ⟨b, 0, none⟩) T'.length c'])
    have Q3 : QD (h1.wo (y.D v.S.M.length)) (h1.setN y.q 0 [slice (some ⟨b, 0, none⟩) T'.length c']) { y with tp := some ⟨b, 0, none⟩, tc := c' } (v.setT T') :=
      { base := le_setN Q2.base zq, fr := Q2.fr, aq := aq2, X := Q1.X.mv (fun x xs hx a => a.set_ne (fun e => by rw [e, Q1.gq] at hx; cases hx)), af := Q1.af.set_ne (fun e => Q1.qf e.symm), qf := Q1.qf, gq := Q1.gq, gf := Q1.gf, CT := Ab2.toRd, al := Q2.al, il := Q2.il, el := Q2.el, ok := Q.ok.setT ht hl }
    exact S_qJudge (y := { y with tp := some ⟨b, 0, none⟩, tc := c' }) Q3 fun h4 Q4 => ⟨rfl, Ret.mk ⟨_, rfl, Ret.mk (k _ h4 _ l2 Q4 ⟨rfl, rfl, rfl, rfl, .inr ⟨b, rfl, z⟩⟩)⟩⟩
theorem S_qRate (Q : QD hb h y v) {c r : Int} (k : ∀ hb' h' y', hb.le hb' → QD hb' h' y' (rTurn v (wRate v.T c r)).2 → y.Sm h y' → K (.int .i64 (rTurn v (wRate v.T c r)).1) h') :
    CallA Tryz.prog fn_pref10_Guard_Rate [pointer (some ⟨y.q, 0, none⟩), .int .i64 c, .int .i64 r] h K := by
  refine F_pref10_Guard_Rate _ _ _ _ _ ?_
  unfold F_pref10_Guard_RateT
  have hw : ∀ T', wRate v.T c r = some T' → tabE T' = 0 ∧ T'.length = v.T.length := fun T' e => by
    have := wRate_tab Q.ok.tab c r
    rw [e] at this
    exact this
  refine Br.dec (fun g1 => withAddr_intro rfl ⟨_, _, _, Q.aq.cell rfl, Br.dec (fun g2 => withAddr_intro rfl ⟨_, _, _, Q.aq.cell rfl, ?_⟩) fun g2 => withAddr_intro rfl ⟨_, _, _, Q.aq.cell rfl, ?_⟩⟩) fun g1 => withAddr_intro rfl ⟨_, _, _, Q.aq.cell rfl, ?_⟩
  · have hx : v.T[c.toNat]? = some v.T[c.toNat] := List.getElem?_eq_getElem (by omega)
    generalize v.T[c.toNat] = z at *
    refine cx2 (Q.CT.le Q.base) rfl (j := c.toNat) (by omega) hx (withAddr_intro rfl ⟨_, _, _, Q.aq.cell rfl, ?_⟩)
    exact q_turn Q (rWith_rate Q.ok.tab fun w _ hw' => by rw [hx] at hw'; cases hw'; rfl) hw k
  · exact q_turn Q (rWith_rate Q.ok.tab fun w _ hw' => by rw [List.getElem?_eq_none (by omega)] at hw'; cases hw') hw k
  · exact q_turn Q (rWith_rate Q.ok.tab fun w h0 hw' => (g1 h0).elim) hw k
theorem S_qCut (Q : QD hb h y v) {c r : Int} (k : ∀ hb' h' y', hb.le hb' → QD hb' h' y' (rTurn v (wCut v.T c r)).2 → y.Sm h y' → K (.int .i64 (rTurn v (wCut v.T c r)).1) h') :
    CallA Tryz.prog fn_pref10_Guard_Cut [pointer (some ⟨y.q, 0, none⟩), .int .i64 c, .int .i64 r] h K := by
  refine F_pref10_Guard_Cut _ _ _ _ _ ?_
  unfold F_pref10_Guard_CutT
  have hw : ∀ T', wCut v.T c r = some T' → tabE T' = 0 ∧ T'.length = v.T.length := fun T' e => by
    have := wCut_tab Q.ok.tab c r
    rw [e] at this
    exact this
  refine Br.dec (fun g1 => withAddr_intro rfl ⟨_, _, _, Q.aq.cell rfl, Br.dec (fun g2 => withAddr_intro rfl ⟨_, _, _, Q.aq.cell rfl, ?_⟩) fun g2 => withAddr_intro rfl ⟨_, _, _, Q.aq.cell rfl, ?_⟩⟩) fun g1 => withAddr_intro rfl ⟨_, _, _, Q.aq.cell rfl, ?_⟩
  · have hx : v.T[c.toNat]? = some v.T[c.toNat] := List.getElem?_eq_getElem (by omega)
    generalize v.T[c.toNat] = z at *
    refine cx1 (Q.CT.le Q.base) rfl (j := c.toNat) (by omega) hx (withAddr_intro rfl ⟨_, _, _, Q.aq.cell rfl, ?_⟩)
    exact q_turn Q (rWith_cut Q.ok.tab fun w _ hw' => by rw [hx] at hw'; cases hw'; rfl) hw k
  · exact q_turn Q (rWith_cut Q.ok.tab fun w _ hw' => by rw [List.getElem?_eq_none (by omega)] at hw'; cases hw') hw k
  · exact q_turn Q (rWith_cut Q.ok.tab fun w h0 hw' => (g1 h0).elim) hw k
end
end Go.Proofs.YtghdadniddoboaaGreat

/- The reference's guard is made. -/
namespace Go.Proofs.YtghdadniddoboaaGreat
open Go Go.Sy Go.Value
set_option linter.unusedVariables false
set_option linter.unusedSimpArgs false

section
variable {h : Heap} {K : Value → Heap → Prop} {g : XFr} {S : Lg} {lq : Option Addr} {ls : List LmV} {n lc : Nat}
theorem fitL_eq {w : Nat} {l : Lm} (h1 : l.sh.length = w) (h2 : 0 ≤ l.all) (hw : 1 ≤ w) : fitL w l = l.sh.all fun y => decide (0 ≤ y) := by
  unfold fitL
  rw [decide_eq_true h1, decide_eq_true h2, decide_eq_false (by omega : ¬ w = 0), Bool.true_and, Bool.true_and, Bool.false_or]
theorem qfits_1 (X : XAt h g S) (A : Arr lmV h lq ls) (hn : ls.length = n) {i : Nat} {z : LmV} (hz : ls[i]? = some z) (Iz : LmI h z) (h1 : z.l.sh.length = S.cur)
    (k0 : (z.l.sh.all fun y => decide (0 ≤ y)) = false → K (.bool false) h) (k1 : (z.l.sh.all fun y => decide (0 ≤ y)) = true → L_ref10_Fits_0 (some ⟨g.p, 0, none⟩) lq n lc (IntKind.wrap .i64 ((i : Int) + 1)) h K) :
    ∀ (d c : Nat), d + c = S.cur → (z.l.sh.drop c).all (fun y => decide (0 ≤ y)) = z.l.sh.all (fun y => decide (0 ≤ y)) → L_ref10_Fits_1 (some ⟨g.p, 0, none⟩) lq n lc (i : Int) (c : Int) h K := by
  have c8 := X.sz.c8
  intro d
  induction d with
  | zero =>
    intro c hc e
    refine L_ref10_Fits_1r _ _ _ _ _ _ _ _ ?_
    unfold L_ref10_Fits_1T
    rw [List.drop_eq_nil_of_le (by omega), List.all_nil] at e
    exact withAddr_intro rfl ⟨_, _, _, X.nos, Br.no (by simp; omega) (k1 e.symm)⟩
  | succ d ih =>
    intro c hc e
    refine L_ref10_Fits_1r _ _ _ _ _ _ _ _ ?_
    unfold L_ref10_Fits_1T
    have hx : z.l.sh[c]? = some z.l.sh[c] := List.getElem?_eq_getElem (by omega)
    rw [List.drop_eq_getElem_cons (by omega : c < z.l.sh.length), List.all_cons] at e
    generalize z.l.sh[c] = t at *
    refine withAddr_intro rfl ⟨_, _, _, X.nos, Br.yes (by simp; omega) (lx0 A hn rfl hz (ix Iz.X rfl rfl hx (Br.dec (fun g1 => Ret.mk ?_) fun g1 => ?_)))⟩
    · rw [decide_eq_false (by omega), Bool.false_and] at e
      exact k0 e.symm
    · rw [decide_eq_true (by omega), Bool.true_and] at e
      rw [w1 (by omega)]
      exact ih (c + 1) (by omega) e
theorem S_qFits (X : XAt h g S) (A : Arr lmV h lq ls) (hn : ls.length = n) (hs : n ≤ 1000000) (hI : ∀ z ∈ ls, LmI h z) (k : K (.bool (decide (ls.length = S.M.length) && !badL S.cur ls)) h) :
    CallA Tryz.prog fn_ref10_Fits [pointer (some ⟨g.p, 0, none⟩), slice lq n lc] h K := by
  refine F_ref10_Fits _ _ _ _ _ _ ?_
  unfold F_ref10_FitsT
  have c1 := X.sz.c1
  refine withAddr_intro rfl ⟨_, _, _, X.rows, ?_⟩
  by_cases e0 : ls.length = S.M.length
  · rw [decide_eq_true e0, Bool.true_and] at k
    refine Br.no (by simp; omega) ?_
    have loop : ∀ (d i : Nat), d + i = n → badL S.cur (ls.drop i) = badL S.cur ls → L_ref10_Fits_0 (some ⟨g.p, 0, none⟩) lq n lc (i : Int) h K := by
      intro d
      induction d with
      | zero =>
        intro i hi e
        refine L_ref10_Fits_0r _ _ _ _ _ _ _ ?_
        unfold L_ref10_Fits_0T
        rw [List.drop_eq_nil_of_le (by omega)] at e
        rw [← e] at k
        exact Br.no (by simp; omega) (Ret.mk k)
      | succ d ih =>
        intro i hi e
        refine L_ref10_Fits_0r _ _ _ _ _ _ _ ?_
        unfold L_ref10_Fits_0T
        have hx : ls[i]? = some ls[i] := List.getElem?_eq_getElem (by omega)
        have hm : ls[i] ∈ ls := List.getElem_mem _
        rw [List.drop_eq_getElem_cons (by omega : i < ls.length)] at e
        generalize ls[i] = z at *
        have e5 : badL S.cur (z :: ls.drop (i + 1)) = (!fitL S.cur z.l || badL S.cur (ls.drop (i + 1))) := by unfold badL; rw [List.any_cons]
        rw [e5] at e
        have bad : fitL S.cur z.l = false → K (.bool false) h := fun e6 => by
          rw [e6, Bool.not_false, Bool.true_or] at e
          rw [← e] at k
          exact k
        refine Br.yes (by simp; omega) (lx0 A hn rfl hx (withAddr_intro rfl ⟨_, _, _, X.nos, ?_⟩))
        by_cases h1 : z.l.sh.length = S.cur
        · refine Br.no (by simp; omega) (lx1 A hn rfl hx (Br.dec (fun g1 => Ret.mk (bad ?_)) fun g1 => ?_))
          · unfold fitL
            rw [decide_eq_false (by omega : ¬ 0 ≤ z.l.all)]; simp
          · refine qfits_1 X A hn hx (hI z hm) h1 (fun e6 => bad (by rw [fitL_eq h1 (by omega) c1]; exact e6)) (fun e6 => ?_) S.cur 0 rfl rfl
            rw [w1 (by omega)]
            rw [fitL_eq h1 (by omega) c1, e6, Bool.not_true, Bool.false_or] at e
            exact ih (i + 1) (by omega) e
        · refine Br.yes (by simp; omega) (Ret.mk (bad ?_))
          unfold fitL
          rw [decide_eq_false h1]; simp
    exact loop n 0 rfl rfl
  · rw [decide_eq_false e0, Bool.false_and] at k
    exact Br.yes (by simp; omega) (Ret.mk k)
theorem S_qNew {h0 : Heap} {T : List Cur} {tp : Option Addr} {tn tc : Nat} (l0 : h0.le h) (fr : ∀ b, g.D S.M.length b = true → h0 b = none) (X : XAt h g S) (oS : S.Ok) (CT : Curs h0 tp T) (hT : T.length = tn) (A : Arr lmV h0 lq ls) (hn : ls.length = n) (hs : n ≤ 1000000) (hI : ∀ z ∈ ls, LmI h0 z)
    (k1 : newE T S ls ≠ 0 → ∀ h', h.le h' → K (tuple #[pointer none, .int .i64 (newE T S ls)]) h')
    (k2 : newE T S ls = 0 → ∀ h' y, QD h0 h' y (newU T S ls) → y.g = g → (h.wo (g.D S.M.length)).le h' → (∀ b, y.D S.M.length b = true → g.D S.M.length b = true ∨ h b = none) → K (tuple #[pointer (some ⟨y.q, 0, none⟩), .int .i64 0]) h') :
    CallA Tryz.prog fn_ref10_New [slice tp tn tc, pointer (some ⟨g.p, 0, none⟩), slice lq n lc] h K := by
  refine F_ref10_New _ _ _ _ _ _ _ _ _ ?_
  unfold F_ref10_NewT
  unfold newE at k1 k2
  refine S_RCheck (CT.le l0) hT ⟨_, rfl, ?_⟩
  by_cases e1 : tabE T ≠ 0
  · rw [if_pos e1] at k1
    exact Br.yes (by simpa using e1) (Ret.mk (k1 e1 h h.le_refl))
  rw [if_neg e1] at k1 k2
  have e1 : tabE T = 0 := Classical.byContradiction e1
  refine Br.no (by rw [e1]; rfl) (withAddr_intro rfl ⟨_, _, _, X.nos, ?_⟩)
  by_cases e2 : S.cur ≠ T.length
  · rw [if_pos e2] at k1
    exact Br.yes (by simp; omega) (Ret.mk (k1 (by decide) h h.le_refl))
  rw [if_neg e2] at k1 k2
  have e2 : S.cur = T.length := Classical.byContradiction e2
  refine Br.no (by simp; omega) (S_qFits X (A.le l0) hn hs (fun z hz => (hI z hz).le l0) ⟨_, rfl, ?_⟩)
  by_cases e3 : ls.length ≠ S.M.length
  · rw [if_pos e3] at k1
    rw [decide_eq_false e3]
    exact Br.yes rfl (Ret.mk (k1 (by decide) h h.le_refl))
  rw [if_neg e3] at k1 k2
  have e3 : ls.length = S.M.length := Classical.byContradiction e3
  rw [decide_eq_true e3, Bool.true_and]
  cases e4 : badL S.cur ls with
  | true =>
    rw [e4, if_pos rfl] at k1
    exact Br.yes rfl (Ret.mk (k1 (by decide) h h.le_refl))
  | false =>
    rw [e4] at k2
    have fit : ∀ z ∈ ls, z.l.sh.length = S.cur ∧ 0 ≤ z.l.all ∧ ∀ y ∈ z.l.sh, 0 ≤ y := fun z hz => by
      unfold badL at e4
      rw [List.any_eq_false] at e4
      have := e4 z hz
      have c1 := oS.c1
      unfold fitL at this
      simp only [Bool.not_eq_true', Bool.not_eq_false, Bool.and_eq_true, Bool.or_eq_true, decide_eq_true_eq, List.all_eq_true] at this
      refine ⟨this.1, this.2.1, fun y hy => ?_⟩
      rcases this.2.2 with h | h
      · omega
      · exact h y hy
    refine Br.no rfl ⟨by omega, by omega, by omega, by omega, newB_at fun fb h1 zf l1 Af => newB_at fun q h2 zq l2 Aq => ?_⟩
    rw [Int.toNat_natCast] at Aq
    rw [Int.toNat_natCast, repL_bo, ← hn, e3] at Af
    have l12 := Heap.le_trans l1 l2
    have ok : Gu.Ok ⟨S, T, ls.map (·.l), List.replicate S.M.length false⟩ := by
      refine { o := oS, ef := List.length_replicate, eL := by show (ls.map _).length = _; rw [List.length_map]; exact e3, ec := e2, tab := e1, sh := fun l hl => ?_ }
      obtain ⟨z, hz, rfl⟩ := List.mem_map.1 hl
      obtain ⟨f1, f2, f3⟩ := fit z hz
      exact ⟨f1.trans e2, fun y hy => ⟨f3 y hy, (hI z hz).i y hy⟩, f2, (hI z hz).all⟩
    have gout : ∀ {b : Nat}, h b = none → g.D S.M.length b = false := fun e => X.fresh e
    have dD : ∀ b, QF.D ⟨q, tp, tc, g, lq, lc, ls, fb, n⟩ S.M.length b = true → g.D S.M.length b = true ∨ h b = none := fun b hb => by
      rcases QF.D_t hb with e | e | e
      · exact .inr (by rw [show b = q from e]; exact none_of_le l1 zq)
      · exact .inr (by rw [show b = fb from e]; exact zf)
      · exact .inl e
    have Q : QD h0 h2 ⟨q, tp, tc, g, lq, lc, ls, fb, n⟩ ⟨S, T, ls.map (·.l), List.replicate S.M.length false⟩ := by
      refine { base := Heap.le_trans l0 l12, fr := fun b hb => ?_, aq := ?_, X := X.le l12, af := Af.le l2, qf := fun e => Af.ne zq e.symm, gq := gout (none_of_le l1 zq), gf := gout zf, CT := CT, al := A, il := hI, el := rfl, ok := ok }
      · rcases dD b hb with e | e
        · exact fr b e
        · exact none_of_le l0 e
      · show At _ q [.slice tp T.length tc, _, .slice lq ls.length lc, .slice (some ⟨fb, 0, none⟩) (List.replicate S.M.length false).length n]
        rw [List.length_replicate, hT, hn, ← e3, hn]
        exact Aq
    refine S_qJudge (y := ⟨q, tp, tc, g, lq, lc, ls, fb, n⟩) Q.off.2 fun h3 Q3 => ⟨rfl, Ret.mk ?_⟩
    have lk : (h.wo (g.D S.M.length)).le h3 := fun b o hb => by
      cases hd : g.D S.M.length b with
      | true => rw [wo_none hd] at hb; cases hb
      | false =>
        rw [wo_get hd] at hb
        refine Q3.base b o ?_
        rw [wo_get]
        · exact l12 b o hb
        · refine noD fun hy => ?_
          rcases dD b hy with e | e
          · rw [hd] at e; cases e
          · rw [hb] at e; cases e
    refine k2 rfl h3 ⟨q, tp, tc, g, lq, lc, ls, fb, n⟩ { Q3 with base := Heap.le_trans (le_wo l0 fr) lk, fr := fun b hb => ?_, CT := CT, al := A, il := hI } rfl lk dD
    rcases dD b hb with e | e
    · exact fr b e
    · exact none_of_le l0 e
end
end Go.Proofs.YtghdadniddoboaaGreat
