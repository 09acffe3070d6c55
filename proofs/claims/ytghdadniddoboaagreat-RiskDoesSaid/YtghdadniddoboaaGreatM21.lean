import Derived.Test.YtghdadniddoboaaGreatM18
import Derived.Test.YtghdadniddoboaaGreatM20
import Derived.Test.YtghdadniddoboaaGreatM06
/- The law RiskDoes. -/
namespace Go.Proofs.YtghdadniddoboaaGreat
open Go Go.Sy Go.Value
set_option linter.unusedVariables false
set_option linter.unusedSimpArgs false

theorem cell_no {h : Heap} {b i : Nat} (e : h b = none) : h.cell b i = none := by unfold Heap.cell; rw [e]
theorem rd_some {h : Heap} {b o : Nat} {vs : List Value} (r : rdL h (some ⟨b, o, none⟩) vs) (hv : 0 < vs.length) : h b ≠ none := fun e => by
  rcases r with e2 | ⟨b', o', e2, g⟩
  · rw [e2] at hv; simp at hv
  · cases e2
    have := g 0 hv
    rw [cell_no e, List.getElem?_eq_getElem hv] at this
    cases this
theorem at_uniq {h : Heap} {b : Nat} {vs ws : List Value} (a : At h b vs) (c : At h b ws) : vs = ws := by
  obtain ⟨T, e1⟩ := a
  obtain ⟨U, e2⟩ := c
  rw [e1] at e2
  have := Option.some.inj e2
  injection this with h1 h2 h3
  have := congrArg Array.toList h1
  simpa using this
theorem rd_uniq {h : Heap} {p : Option Addr} {vs ws : List Value} (a : rdL h p vs) (c : rdL h p ws) (hl : vs.length = ws.length) : vs = ws := by
  rcases a with rfl | ⟨b, o, e, r⟩
  · exact (List.length_eq_zero_iff.1 hl.symm).symm
  rcases c with rfl | ⟨b', o', e', r'⟩
  · exact List.length_eq_zero_iff.1 hl
  rw [e] at e'
  cases e'
  refine List.ext_getElem? fun j => ?_
  by_cases hj : j < vs.length
  · rw [← r j hj, r' j (by omega)]
  · rw [List.getElem?_eq_none (by omega), List.getElem?_eq_none (by omega)]
section
variable {h0 h : Heap} {K : Value → Heap → Prop} {x : GuF} {u v : Gu} {y : QF}
theorem GD.cB_c (G : GD h0 h x u) {b : Nat} (hb : x.cB b) : x.c b ≠ none := by
  have n := G.n
  obtain ⟨t1, _, _⟩ := tab_parts G.ok.tab
  rcases hb with rfl | ⟨o, e⟩ | ⟨z, hz, o, e⟩
  · exact fun e => G.ag.ne e rfl
  · have r := G.al
    unfold Arr at r
    rw [e] at r
    exact rd_some r (by rw [arr_len lmV_len]; omega)
  · have r := (G.il z hz).X
    unfold Ints at r
    rw [e] at r
    have hs := (G.ok.sh z.l (by rw [← G.el]; exact List.mem_map_of_mem hz)).1
    exact rd_some r (by rw [intsV_length]; omega)
theorem GD.cB_h (G : GD h0 h x u) {b : Nat} (hb : x.cB b) : h b ≠ none := fun e => G.cB_c hb (none_of_le G.ch e)
theorem GD.cB_E (G : GD h0 h x u) {b : Nat} (hb : x.cB b) : x.E u.S.M.length b = false := noD fun hd => G.cB_c hb (G.noneE hd)
theorem GD.mvT (G : GD h0 h x u) {h' : Heap} (D : Nat → Bool) (l : (h.wo D).le h') (dE : ∀ b, x.E u.S.M.length b = true → D b = false) (dc : ∀ b, x.cB b → D b = false) :
    GD (h'.wo (x.E u.S.M.length)) h' { x with c := h'.wo (x.E u.S.M.length), k := h'.wo (LWD x.p x.B x.f u.S.M.length) } u := by
  have keep : ∀ {b xs}, D b = false → At h b xs → At h' b xs := fun e a => (a.wo e).le l
  refine { base := Heap.le_refl _, ck := wo_wo fun b hb => (GuF.E_f hb).1, nf := wo_none (x.E_fb _), ag := (keep (dc _ (.inl rfl)) G.g).wo (G.cB_E (.inl rfl)), al := ?_, il := fun z hz => ?_, el := G.el, af := (keep (dE _ (x.E_fb _)) G.f).wo (noD fun hd => G.af.ne (G.outK hd) rfl), ew := G.ew, W := G.W.mv (wo_le _ _) (fun b xs hb a => keep (dE b (GuF.E_L hb)) a) (fun b hb => wo_none hb), ok := G.ok, told := G.told }
  · have c : ∀ b o, x.lp = some ⟨b, o, none⟩ → x.cB b := fun b o e => .inr (.inl ⟨o, e⟩)
    exact rd_wo (rdL_le l (rd_wo (rdL_le G.ch G.al) fun b o e => dc b (c b o e))) fun b o e => G.cB_E (c b o e)
  · have c : ∀ b o, z.a = some ⟨b, o, none⟩ → x.cB b := fun b o e => .inr (.inr ⟨z, hz, o, e⟩)
    exact { G.il z hz with X := rd_wo (rdL_le l (rd_wo (rdL_le G.ch (G.il z hz).X) fun b o e => dc b (c b o e))) fun b o e => G.cB_E (c b o e) }
theorem cB_of {h1 h2 h' : Heap} {x' : GuF} {u' : Gu} (G : GD h1 h2 x u) {h3 : Heap} (G' : GD h3 h' x' u') (lc : x.c.le h') (eg : x'.g = x.g) : ∀ b, x'.cB b → x.cB b := by
  have a1 := G.ag.le lc
  have a2 := G'.g
  rw [eg] at a2
  have e := at_uniq a1 a2
  injection e with _ e
  injection e with _ e
  injection e with e _
  injection e with e1 e2 e3
  have r1 := rdL_le lc G.al
  have r2 := rdL_le G'.ch G'.al
  rw [← e1] at r2
  have el := rd_uniq r1 r2 (by rw [arr_len lmV_len, arr_len lmV_len, e2])
  intro b hb
  rcases hb with hb | ⟨o, hb⟩ | ⟨z, hz, o, hb⟩
  · exact .inl (hb.trans eg)
  · exact .inr (.inl ⟨o, by rw [e1]; exact hb⟩)
  · obtain ⟨j, hj, ez⟩ := List.mem_iff_getElem.1 hz
    have hj2 : j < x.ls.length := by omega
    have g1 := arr_get lmV_len x.ls j 0 _ (List.getElem?_eq_getElem hj2) (by decide)
    have g2 := arr_get lmV_len x'.ls j 0 _ (List.getElem?_eq_getElem hj) (by decide)
    rw [el, g2] at g1
    have g1 := Option.some.inj g1
    injection g1 with g3 _ _
    refine .inr (.inr ⟨x.ls[j], List.getElem_mem _, o, ?_⟩)
    rw [← g3, ez]
    exact hb
theorem QD.mv {hb h' : Heap} (Q : QD hb h y v) (l : hb.le h') (k : ∀ b xs, y.D v.S.M.length b = true → At h b xs → At h' b xs) : QD hb h' y v :=
  { Q with base := l, aq := k _ _ (y.D_q _) Q.aq, X := Q.X.mv fun b xs hb a => k b xs (QF.D_g hb) a, af := k _ _ (y.D_fb _) Q.af }
structure Pair (he h : Heap) (x : GuF) (u : Gu) (y : QF) (v : Gu) : Prop where
  gx : ∃ h1, GD h1 h x u
  qd : ∃ hb, QD hb h y v ∧ he.le hb ∧ ∀ b, x.E u.S.M.length b = true → hb b = none
  dE : ∀ b, y.D v.S.M.length b = true → x.E u.S.M.length b = false
  dc : ∀ b, y.D v.S.M.length b = true → ¬ x.cB b
theorem Pair.le {he h' : Heap} (P : Pair he h x u y v) (l : h.le h') : Pair he h' x u y v := by
  obtain ⟨h1, G⟩ := P.gx
  obtain ⟨hb, Q, lb, xb⟩ := P.qd
  exact ⟨⟨h1, G.le l⟩, ⟨hb, Q.le l, lb, xb⟩, P.dE, P.dc⟩
theorem Pair.b {he : Heap} (P : Pair he h x u y v) : he.le h := by
  obtain ⟨hb, Q, lb, _⟩ := P.qd
  exact Heap.le_trans lb Q.base
theorem pair_x {he : Heap} (P : Pair he h x u y v) {o : OpR} (Xo : Pos he o.p o.b) (hI : OpI o) (hb20 : o.b.length ≤ 20) {r : Nat} {ov : List Value} (Ar : At h r ov) (hr : x.E u.S.M.length r = false)
    (k : ∀ h' x', Pair he h' x' (doR u o).2 y v → x'.g = x.g → x'.p = x.p → At h' r ov → K (.int .i64 (doR u o).1) h') :
    CallA Tryz.prog fn_law10_do [pointer (some ⟨x.g, 0, none⟩), agg #[.int .i64 o.d, .int .i64 o.m, .int .i64 o.c, .int .i64 o.g, .int .i64 o.a, .int .i64 o.gv, .slice o.p o.b.length o.cp]] h K := by
  obtain ⟨h1, G⟩ := P.gx
  obtain ⟨hb, Q, lb, xb⟩ := P.qd
  have lQ : hb.le (h.wo (x.E u.S.M.length)) := le_wo Q.base xb
  refine S_do10 (x := { x with c := h.wo (x.E u.S.M.length), k := h.wo (LWD x.p x.B x.f u.S.M.length) }) G.top.2 (rdL_le (Heap.le_trans lb lQ) Xo) hI hb20 fun h' x' G' e1 e2 => ?_
  have lw := G'.b
  have nE : ∀ b, x'.E (doR u o).2.S.M.length b = true → (h.wo (x.E u.S.M.length)) b = none := fun b hb2 => none_of_le G'.base (G'.noneE hb2)
  refine k h' x' ⟨⟨_, G'⟩, ⟨hb, Q.mv (Heap.le_trans lQ lw) (fun b xs hd a => (a.wo (P.dE b hd)).le lw), lb, fun b hb2 => none_of_le lQ (nE b hb2)⟩, fun b hd => noD fun hx => ?_, fun b hd hc => P.dc b hd (cB_of G.top.2 G' lw e1 b hc)⟩ e1 e2 ((Ar.wo hr).le lw)
  obtain ⟨xs, a⟩ := Q.atD hd
  exact (a.wo (P.dE b hd)).ne (nE b hx) rfl
theorem Pair.yop {he hb' h' : Heap} {y' : QF} {v' : Gu} (P : Pair he h x u y v) (lq : (h.wo (y.D v.S.M.length)).le hb') (Q' : QD hb' h' y' v') (sm : y.Sm h y') :
    ∃ x', Pair he h' x' u y' v' ∧ x'.g = x.g ∧ x'.p = x.p := by
  obtain ⟨h1, G⟩ := P.gx
  obtain ⟨hb, Q, lb, xb⟩ := P.qd
  have G2 := G.mvT (y.D v.S.M.length) (Heap.le_trans lq Q'.base) (fun b hx => noD fun hd => by rw [P.dE b hd] at hx; cases hx) (fun b hc => noD fun hd => P.dc b hd hc)
  have some_E : ∀ b, hb b ≠ none → x.E u.S.M.length b = false := fun b hn => noD fun hd => hn (xb b hd)
  have old : ∀ b, y'.D v'.S.M.length b = true → y.D v.S.M.length b = true ∨ h b = none := fun b hd => by
    have z := none_of_le lq (Q'.fr b hd)
    cases e : y.D v.S.M.length b with
    | true => exact .inl rfl
    | false => rw [wo_get e] at z; exact .inr z
  obtain ⟨t1, _, _⟩ := tab_parts Q.ok.tab
  have nq := Q.n
  refine ⟨{ x with c := h'.wo (x.E u.S.M.length), k := h'.wo (LWD x.p x.B x.f u.S.M.length) }, ⟨⟨_, G2⟩, ⟨hb'.wo (x.E u.S.M.length), { Q' with base := Heap.le_trans (wo_le _ _) Q'.base, fr := fun b hd => none_of_le (wo_le _ _) (Q'.fr b hd), CT := rd_wo Q'.CT fun b o e => ?_, al := rd_wo Q'.al fun b o e => ?_, il := fun z hz => { Q'.il z hz with X := rd_wo (Q'.il z hz).X fun b o e => ?_ } }, le_wo (Heap.le_trans lb (Heap.le_trans Q.off.1 lq)) (fun b hx => none_of_le lb (xb b hx)), fun b hx => wo_none hx⟩, fun b hd => ?_, fun b hd hc => ?_⟩, rfl, rfl⟩
  · rcases sm.tp with e2 | ⟨b2, e2, z2⟩
    · rw [e2] at e
      have r := Q.CT
      unfold Curs at r
      rw [e] at r
      exact some_E b (rd_some r (by rw [curV_length]; omega))
    · rw [e2] at e
      cases e
      exact G.outE z2
  · rw [sm.lq] at e
    have r := Q.al
    unfold Arr at r
    rw [e] at r
    exact some_E b (rd_some r (by rw [arr_len lmV_len]; omega))
  · rw [sm.ls] at hz
    have r := (Q.il z hz).X
    unfold Ints at r
    rw [e] at r
    have hs := (Q.ok.sh z.l (by rw [← Q.el]; exact List.mem_map_of_mem hz)).1
    exact some_E b (rd_some r (by rw [intsV_length]; omega))
  · rcases old b hd with e | e
    · exact P.dE b e
    · exact G.outE e
  · rcases old b hd with e | e
    · exact P.dc b e hc
    · exact G.cB_h hc e
theorem S_gWorths (G : GR h0 h x u) (k : K (.pointer (some ⟨x.f.b 0, 0, none⟩)) h) : CallA Tryz.prog fn_prisk_Guard_Worths [pointer (some ⟨x.g, 0, none⟩)] h K := by
  refine F_prisk_Guard_Worths _ _ _ ?_
  unfold F_prisk_Guard_WorthsT
  refine withAddr_intro rfl ⟨_, G.g.cell rfl, Ret.mk ?_⟩
  rw [G.ew] at k
  exact k
end
section
variable {he : Heap} {lq : Option Addr} {N lc : Nat} {q : Option Addr} {l : List OpR} {n qc : Nat} {mem : Int} {mq : Option Addr} {more : List Pst} {mn mc : Nat}
theorem does_1 {K : Value → Heap → Prop} {x : GuF} {u : Gu} {y : QF} {i : Int} (hN : u.fl.length = N) (k : ∀ h', Pair he h' x u y u → L_law10_RiskDoes_0 lq N lc q n qc mem mq mn mc (some ⟨x.p, 0, none⟩) (some ⟨y.g.p, 0, none⟩) (some ⟨x.g, 0, none⟩) (some ⟨y.q, 0, none⟩) (IntKind.wrap .i64 (i + 1)) h' K) :
    ∀ (d m : Nat) (h : Heap), d + m = N → Pair he h x u y u → L_law10_RiskDoes_1 lq N lc q n qc mem mq mn mc (some ⟨x.p, 0, none⟩) (some ⟨y.g.p, 0, none⟩) (some ⟨x.g, 0, none⟩) (some ⟨y.q, 0, none⟩) i (m : Int) h K := by
  intro d
  induction d with
  | zero =>
    intro m h hm P
    refine L_law10_RiskDoes_1r _ _ _ _ _ _ _ _ _ _ _ _ _ _ _ _ _ _ ?_
    unfold L_law10_RiskDoes_1T
    exact Br.no (by simp; omega) (k h P)
  | succ d ih =>
    intro m h hm P
    refine L_law10_RiskDoes_1r _ _ _ _ _ _ _ _ _ _ _ _ _ _ _ _ _ _ ?_
    unfold L_law10_RiskDoes_1T
    obtain ⟨h1, G⟩ := P.gx
    obtain ⟨hb, Q, _, _⟩ := P.qd
    have hmu : m < u.fl.length := by omega
    refine Br.yes (by simp; omega) (withAddr_intro rfl ⟨_, _, _, Q.aq.cell rfl, by omega, by omega, withAddr_intro rfl ⟨_, Q.af.cell (v := .bool (u.fl.getD m false)) (by rw [Int.toNat_natCast, Nat.zero_add]; exact boV_get hmu), S_gFlagged G.toGR ⟨_, rfl, .inl h.le_refl, ?_⟩⟩⟩)
    rw [flag_at hmu]
    refine Br.no (by simp) (S_gFails G (b := []) (.inl rfl) rfl (by decide) (fun y hy => by cases hy) fun h2 l2 => ⟨_, rfl, S_qFails (Q.le l2) (b := []) (.inl rfl) rfl (by decide) (fun y hy => by cases hy) fun h3 l3 => ⟨_, rfl, Br.no (by simp) ?_⟩⟩)
    rw [w1 (by have := G.n; omega)]
    exact ih (m + 1) h3 (by omega) (P.le (Heap.le_trans l2 l3))
theorem does_33 {K : Value → Heap → Prop} {h : Heap} {x : GuF} {u : Gu} {y : QF} {i e : Int} (hN : u.fl.length = N) (Xm : Pos he mq more) (hmn : more.length = mn) (hms : mn ≤ 20) (hmI : ∀ p ∈ more, I64 p.a) (P : Pair he h x u y u)
    (k : ∀ h', Pair he h' x u y u → L_law10_RiskDoes_0 lq N lc q n qc mem mq mn mc (some ⟨x.p, 0, none⟩) (some ⟨y.g.p, 0, none⟩) (some ⟨x.g, 0, none⟩) (some ⟨y.q, 0, none⟩) (IntKind.wrap .i64 (i + 1)) h' K) :
    L_law10_RiskDoes_1033 lq N lc q n qc mem mq mn mc (some ⟨x.p, 0, none⟩) (some ⟨y.g.p, 0, none⟩) (some ⟨x.g, 0, none⟩) (some ⟨y.q, 0, none⟩) i e e h K := by
  refine L_law10_RiskDoes_1033r _ _ _ _ _ _ _ _ _ _ _ _ _ _ _ _ _ _ _ ?_
  unfold L_law10_RiskDoes_1033T
  obtain ⟨h1, G⟩ := P.gx
  obtain ⟨hb, Q, lb, _⟩ := P.qd
  refine Br.no (by simp) (S_lText G.W.LA fun h2 l2 => ⟨_, rfl, S_xText (Q.le l2).X fun h3 l3 => ⟨_, rfl, Br.no (by rw [beq_self_eq_true]; rfl) ?_⟩⟩)
  have P3 := P.le (Heap.le_trans l2 l3)
  have G3 := G.le (Heap.le_trans l2 l3)
  have Q3 := Q.le (Heap.le_trans l2 l3)
  refine S_gFails G3 (rdL_le P3.b Xm) hmn (by omega) hmI fun h4 l4 => ⟨_, rfl, S_qFails (Q3.le l4) (rdL_le (P3.le l4).b Xm) hmn (by omega) hmI fun h5 l5 => ⟨_, rfl, Br.no (by simp) ?_⟩⟩
  have l45 := Heap.le_trans l4 l5
  have G5 := G3.le l45
  have Q5 := Q3.le l45
  obtain ⟨t1, t8, _⟩ := tab_parts G.ok.tab
  refine withAddr_intro rfl ⟨_, _, _, Q5.aq.cell rfl, S_gWorths G5.toGR ⟨_, rfl, .inl h5.le_refl, S_wTable G5.W.X (by omega) fun p' c' h6 l6 own => ⟨_, _, _, rfl, .inl l6, ?_⟩⟩⟩
  refine S_RSame (o := some u.T) (e1 := 0) (e2 := 0) ⟨own.rd, rfl, rfl⟩ ⟨Q5.CT.le (Heap.le_trans Q5.base l6), rfl, rfl⟩ (by omega) ⟨_, rfl, Br.no rfl ?_⟩
  exact does_1 hN k N 0 h6 rfl ((P3.le l45).le l6)
theorem does_0 (X : Ops he q l) (hn : l.length = n) (hs : n ≤ 1000) (hI : ∀ y ∈ l, OpI y) (hb20 : ∀ y ∈ l, y.b.length ≤ 20) (Xm : Pos he mq more) (hmn : more.length = mn) (hms : mn ≤ 20) (hmI : ∀ p ∈ more, I64 p.a) :
    ∀ (m j : Nat) (h : Heap) (x : GuF) (u : Gu) (y : QF), m + j = n → Pair he h x u y u → u.fl.length = N → L_law10_RiskDoes_0 lq N lc q n qc mem mq mn mc (some ⟨x.p, 0, none⟩) (some ⟨y.g.p, 0, none⟩) (some ⟨x.g, 0, none⟩) (some ⟨y.q, 0, none⟩) (j : Int) h (GoodR he) := by
  intro m
  induction m with
  | zero =>
    intro j h x u y hj P hN
    refine L_law10_RiskDoes_0r _ _ _ _ _ _ _ _ _ _ _ _ _ _ _ _ _ ?_
    unfold L_law10_RiskDoes_0T
    exact Br.yes rfl (Br.no (by simp; omega) (goodR P.b))
  | succ m ih =>
    intro j h x u y hj P hN
    refine L_law10_RiskDoes_0r _ _ _ _ _ _ _ _ _ _ _ _ _ _ _ _ _ ?_
    unfold L_law10_RiskDoes_0T
    have hx : l[j]? = some l[j] := List.getElem?_eq_getElem (by omega)
    have hmem : l[j] ∈ l := List.getElem_mem _
    generalize l[j] = o at *
    have oI := hI o hmem
    have ob := hb20 o hmem
    refine Br.yes rfl (Br.yes (by simp; omega) (ox (X.le P.b) hn rfl hx (newB_cp (vs := opV1 o) rfl fun r h1 hr l1 A cs => ⟨cs, ?_⟩)))
    obtain ⟨hG, G0⟩ := P.gx
    have rE := G0.outE hr
    show ∃ n_7, (h1.setN r 0 (opV1 o)).cell r 0 = some (.int .i64 n_7) ∧ _
    have P1 := P.le l1
    generalize hh3 : h1.setN r 0 (opV1 o) = H at *
    have hh4 : h1.setN r 0 [.int .i64 o.d, .int .i64 o.m, .int .i64 o.c, .int .i64 o.g, .int .i64 o.a, .int .i64 o.gv, .slice o.p o.b.length o.cp] = H := hh3
    rw [hh4]
    refine ⟨_, A.cell rfl, _, A.cell rfl, _, A.cell rfl, _, A.cell rfl, _, A.cell rfl, _, A.cell rfl, _, _, _, A.cell rfl, ?_⟩
    refine pair_x P1 (X.2 o hmem) oI ob A rE fun h2 x2 P2 e2 p2 A2 => ⟨_, rfl, _, A2.cell rfl, ?_⟩
    have A2 : At h2 r [.int .i64 o.d, .int .i64 o.m, .int .i64 o.c, .int .i64 o.g, .int .i64 o.a, .int .i64 o.gv, .slice o.p o.b.length o.cp] := A2
    rw [← e2, ← p2]
    obtain ⟨len', ok'⟩ := doR_len u G0.ok o
    have fin : ∀ {h3 : Heap} {hb' : Heap} {y' : QF}, (h2.wo (y.D u.S.M.length)).le hb' → QD hb' h3 y' (doR u o).2 → y.Sm h2 y' → L_law10_RiskDoes_1033 lq N lc q n qc mem mq mn mc (some ⟨x2.p, 0, none⟩) (some ⟨y.g.p, 0, none⟩) (some ⟨x2.g, 0, none⟩) (some ⟨y.q, 0, none⟩) (j : Int) (doR u o).1 (doR u o).1 h3 (GoodR he) := fun lq' Q' sm => by
      obtain ⟨x3, P3, g3, p3⟩ := P2.yop lq' Q' sm
      rw [← g3, ← p3, ← sm.p, ← sm.q]
      refine does_33 (len'.trans hN) Xm hmn hms hmI P3 fun h4 P4 => ?_
      rw [w1 (by omega)]
      exact ih (j + 1) h4 x3 _ _ (by omega) P4 (len'.trans hN)
    obtain ⟨hb, Q, lb, _⟩ := P2.qd
    have Qo := Q.off.2
    unfold doR at fin ⊢
    by_cases d0 : o.d = 0
    · simp only [if_pos d0] at fin ⊢
      exact Br.yes (by simpa using d0) ⟨_, A2.cell rfl, _, A2.cell rfl, _, A2.cell rfl, S_qIn Qo oI.a fun h3 y' Q' sm => ⟨_, rfl, fin (Heap.le_refl _) Q' sm⟩⟩
    simp only [if_neg d0] at fin ⊢
    refine Br.no (by simpa using d0) ?_
    by_cases d1 : o.d = 1
    · simp only [if_pos d1] at fin ⊢
      exact Br.yes (by simpa using d1) ⟨_, A2.cell rfl, _, A2.cell rfl, _, A2.cell rfl, S_qOut Qo oI.a fun h3 y' Q' sm => ⟨_, rfl, fin (Heap.le_refl _) Q' sm⟩⟩
    simp only [if_neg d1] at fin ⊢
    refine Br.no (by simpa using d1) ?_
    by_cases d2 : o.d = 2
    · simp only [if_pos d2] at fin ⊢
      exact Br.yes (by simpa using d2) ⟨_, A2.cell rfl, _, A2.cell rfl, S_qRate Qo fun hb' h3 y' lq' Q' sm => ⟨_, rfl, fin lq' Q' sm⟩⟩
    simp only [if_neg d2] at fin ⊢
    refine Br.no (by simpa using d2) ?_
    by_cases d3 : o.d = 3
    · simp only [if_pos d3] at fin ⊢
      exact Br.yes (by simpa using d3) ⟨_, A2.cell rfl, _, A2.cell rfl, S_qCut Qo fun hb' h3 y' lq' Q' sm => ⟨_, rfl, fin lq' Q' sm⟩⟩
    simp only [if_neg d3] at fin ⊢
    refine Br.no (by simpa using d3) ?_
    have Xb := rdL_le P2.b (X.2 o hmem)
    by_cases d5 : o.d = 5
    · simp only [if_pos d5] at fin ⊢
      exact Br.yes (by simpa using d5) ⟨_, _, _, A2.cell rfl, S_qTake Qo Xb rfl (by omega) oI.b fun h3 y' Q' sm => ⟨_, rfl, fin (Heap.le_refl _) Q' sm⟩⟩
    simp only [if_neg d5] at fin ⊢
    refine Br.no (by simpa using d5) ?_
    by_cases d6 : o.d = 6
    · simp only [if_pos d6] at fin ⊢
      exact Br.yes (by simpa using d6) ⟨_, A2.cell rfl, _, A2.cell rfl, _, A2.cell rfl, _, A2.cell rfl, _, A2.cell rfl, S_qSwap Qo oI.a oI.gv fun h3 y' Q' sm => ⟨_, rfl, fin (Heap.le_refl _) Q' sm⟩⟩
    simp only [if_neg d6] at fin ⊢
    exact Br.no (by simpa using d6) ⟨_, _, _, A2.cell rfl, S_qBook Qo Xb rfl (by omega) oI.b fun h3 y' Q' sm => ⟨_, rfl, fin (Heap.le_refl _) Q' sm⟩⟩
end
theorem law10_RiskDoes_ok {h : Heap} {tp : Option Addr} {tn tc : Nat} (HT : curSh.Has h [.slice tp tn tc]) {lq : Option Addr} {ln lc : Nat} (HL : (Sh.sl lmSt).Has h [.slice lq ln lc]) {q : Option Addr} {n qc : Nat} (HO : opsSh.Has h [.slice q n qc]) {mem : Int} (hmem : I64 mem) {mq : Option Addr} {mn mc : Nat} (HM : (Sh.sl poSh).Has h [.slice mq mn mc]) :
    CallA Tryz.prog fn_law10_RiskDoes [slice tp tn tc, slice lq ln lc, slice q n qc, .int .i64 mem, slice mq mn mc] h fun v h' => v = .bool true ∧ h.le h' := by
  obtain ⟨tmax, T, hT, CT, _⟩ := curs_of HT
  obtain ⟨lmax, ls, hls, XL, hLI⟩ := lm_of HL
  obtain ⟨omax, l, hl, X, hI, _⟩ := ops_of HO
  obtain ⟨_, mmax, more, hmore, Xm, hmI⟩ := pos_of HM
  refine F_law10_RiskDoes _ _ _ _ _ _ _ _ _ _ _ _ _ _ _ ?_
  unfold F_law10_RiskDoesT
  refine S_law10_awake fun h1 l1 => ⟨_, rfl, Br.no rfl (S_large10 (XL.le l1) hls lmax (X.le l1) hl omax fun b hb => ⟨_, rfl, ?_⟩)⟩
  cases b with
  | true => exact Br.yes rfl (goodR l1)
  | false =>
    obtain ⟨h30, t20, l20, hb20, hs20⟩ := hb rfl
    refine Br.no rfl (Br.dec (fun _ => goodR l1) fun g20 => ?_)
    have good0 : ∀ {h' : Heap} {r : Option Addr} {l2 : Option Addr} {s2 : Option Addr}, h.le h' → L_law10_RiskDoes_0 lq ln lc q n qc mem mq mn mc l2 r none s2 0 h' (GoodR h) := fun l' => by
      refine L_law10_RiskDoes_0r _ _ _ _ _ _ _ _ _ _ _ _ _ _ _ _ _ ?_
      unfold L_law10_RiskDoes_0T
      exact Br.no rfl (goodR l')
    refine S_lNew (fun hbad => ⟨_, _, rfl, ?_⟩) fun a w ea ew a1 a16 w1' w8 h2 p B C sp l2 A np nB => ⟨_, _, rfl, ?_⟩
    · refine S_xNew (fun _ => ⟨_, _, rfl, Br.yes rfl (Br.yes rfl (goodR l1))⟩) fun a w ea ew _ _ _ _ => absurd ⟨by omega, by omega, by omega, by omega⟩ hbad
    · refine S_xNew (fun hbad => absurd ⟨by omega, by omega, by omega, by omega⟩ hbad) fun a' w' ea' ew' _ _ _ _ h3 g l3 Xg gf => ⟨_, _, rfl, Br.no rfl (Br.no rfl ?_)⟩
      have : a' = a := by omega
      subst this
      have : w' = w := by omega
      subst this
      have eN : (newG a' w').M.length = a' := by unfold newG; rw [List.length_replicate]
      have oS := newG_ok a1 a16 w1' w8
      have D3 : ∀ b, (b == p || b == B) = true → b = p ∨ b = B := fun b hb => by simpa using hb
      have gne : ∀ b, g.D a' b = true → (b == p || b == B) = false := fun b hb => noD fun hd => by
        rcases D3 b hd with rfl | rfl
        · exact A.ap.ne (gf _ hb) rfl
        · exact A.ab.ne (gf _ hb) rfl
      have l13 := Heap.le_trans l2 l3
      have lb : h1.le (h3.wo fun b => b == p || b == B) := le_wo l13 fun b hb => by
        rcases D3 b hb with rfl | rfl
        · exact np
        · exact nB
      have lhb := Heap.le_trans l1 lb
      have Xk : ∀ h', (h3.wo fun b => b == p || b == B).le h' → XAt h' g (newG a' w') := fun h' l' => Xg.mv fun b xs hb a => (a.wo (gne b (by rw [eN] at hb; exact hb))).le l'
      have gD1 : ∀ b, g.D (newG a' w').M.length b = true → h1 b = none := fun b hb => none_of_le l2 (gf b (by rw [eN] at hb; exact hb))
      have sh1 : ∀ y ∈ ls, y.l.sh.length ≤ 1000000 := fun y hy => by have := hs20 y hy; omega
      refine S_rNewX (h0 := h3.wo fun b => b == p || b == B) (wo_le _ _) (CT.le (Heap.le_trans l1 l13)) hT (by omega) (A.le l3) (wo_none (by simp)) (wo_none (by simp)) oS (XL.le lhb) hls (by omega) (fun y hy => (hLI y hy).le lhb) sh1 (fun ne h4 l4 _ => ⟨_, _, rfl, ?_⟩) fun e0 h4 x G ep fx => ⟨_, _, rfl, ?_⟩
      · refine S_qNew (h0 := h1) (Heap.le_trans lb l4) gD1 (Xk h4 l4) oS (CT.le l1) hT (XL.le l1) hls (by omega) (fun y hy => (hLI y hy).le l1) (fun _ h5 l5 => ⟨_, _, rfl, Br.no (by simp) (Br.no rfl (good0 (Heap.le_trans lhb (Heap.le_trans l4 l5))))⟩) (fun e => (ne e).elim)
      · refine S_qNew (h0 := h1) (Heap.le_trans lb G.b) gD1 (Xk h4 G.b) oS (CT.le l1) hT (XL.le l1) hls (by omega) (fun y hy => (hLI y hy).le l1) (fun ne => (ne e0).elim) fun _ h5 y Q yg l5 dD => ⟨_, _, rfl, Br.no rfl (Br.no rfl ?_)⟩
        have gA : ∀ b, g.D (newG a' w').M.length b = true → ∃ xs, At (h3.wo fun b => b == p || b == B) b xs := fun b hb => by
          obtain ⟨xs, a⟩ := Xg.at hb
          exact ⟨xs, a.wo (gne b (by rw [eN] at hb; exact hb))⟩
        have xz : ∀ b, x.E (newU T (newG a' w') ls).S.M.length b = true → (h3.wo fun b => b == p || b == B) b = none := fun b hb => none_of_le G.base (G.noneE hb)
        have dE : ∀ b, x.E (newU T (newG a' w') ls).S.M.length b = true → g.D (newG a' w').M.length b = false := fun b hb => noD fun hd => by
          obtain ⟨xs, a⟩ := gA b hd
          exact a.ne (xz b hb) rfl
        have dc : ∀ b, x.cB b → g.D (newG a' w').M.length b = false := fun b hc => noD fun hd => by
          obtain ⟨xs, a⟩ := gA b hd
          exact a.ne (fx b hc) rfl
        have P : Pair h h5 { x with c := h5.wo (x.E (newU T (newG a' w') ls).S.M.length), k := h5.wo (LWD x.p x.B x.f (newU T (newG a' w') ls).S.M.length) } (newU T (newG a' w') ls) y (newU T (newG a' w') ls) := by
          refine ⟨⟨_, G.mvT _ l5 dE dc⟩, ⟨h1, Q, l1, fun b hb => none_of_le lb (xz b hb)⟩, fun b hd => noD fun hx => ?_, fun b hd hc => ?_⟩
          · rcases dD b hd with e | e
            · rw [dE b hx] at e; cases e
            · have := G.outE e
              rw [show x.E (newU T (newG a' w') ls).S.M.length b = true from hx] at this
              cases this
          · rcases dD b hd with e | e
            · rw [dc b hc] at e; cases e
            · exact G.cB_h hc e
        have lenU := newU_len T (n := a') (w := w') ls
        have eln : a' = ln := by
          have e0 := e0
          unfold newE at e0
          by_cases q1 : tabE T ≠ 0
          · rw [if_pos q1] at e0; exact (q1 e0).elim
          rw [if_neg q1] at e0
          by_cases q2 : (newG a' w').cur ≠ T.length
          · rw [if_pos q2] at e0; cases e0
          rw [if_neg q2] at e0
          by_cases q3 : ls.length ≠ (newG a' w').M.length
          · rw [if_pos q3] at e0; cases e0
          have q3 : ls.length = (newG a' w').M.length := Classical.byContradiction q3
          rw [eN] at q3
          omega
        rw [← ep, ← yg]
        exact does_0 (he := h) X hl (by omega) hI hb20 Xm hmore (by omega) (fun p hp => (hmI p hp).2.2) n 0 h5 { x with c := h5.wo (x.E (newU T (newG a' w') ls).S.M.length), k := h5.wo (LWD x.p x.B x.f (newU T (newG a' w') ls).S.M.length) } (newU T (newG a' w') ls) y rfl P (lenU.trans eln)
end Go.Proofs.YtghdadniddoboaaGreat
