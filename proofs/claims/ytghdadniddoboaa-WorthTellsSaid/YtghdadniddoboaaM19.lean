import Derived.Test.YtghdadniddoboaaM18
/- The law WorthTells: operations, and the whole. -/
namespace Go.Proofs.Ytghdadniddoboaa
open Go Go.Sy Go.Value
set_option linter.unusedVariables false
set_option linter.unusedSimpArgs false

section
variable {N w : Nat} {mq : Option Addr} {more : List Pst} {mn mc : Nat} {q : Option Addr} {l : List OpW} {n qc : Nat}
/-- what comes behind an operation -/
def After (K : Value → Heap → Prop) (N w : Nat) (mq : Option Addr) (mn mc : Nat) (q : Option Addr) (n qc : Nat) (j : Int) (g0 : Heap) (s' : St9) (e : Int) (x : TF) : Prop :=
  ∀ (h0 h' : Heap) (x' : TF) (tp : Option Addr) (tc : Nat), g0.le h0 → Curs h0 tp s'.T → Tri h0 h' s' s'.S s'.R N w x' → x'.p = x.p → x'.g.p = x.g.p → x'.f.b 0 = x.f.b 0 → L_law09_WorthTells_1046 tp w tc mq mn mc (N : Int) (some ⟨x.p, 0, none⟩) (some ⟨x.g.p, 0, none⟩) (some ⟨x.f.b 0, 0, none⟩) (some ⟨x'.s, 0, none⟩) e e q n qc (n : Int) j h' K
variable {K : Value → Heap → Prop} {j : Int} {g0 h : Heap} {s s' : St9} {x : TF} {tp : Option Addr} {tc : Nat} {o : OpW} {r : Nat}
theorem tells_34 {v : Int} (CT : Curs g0 tp s.T) (eT : s.T.length = w) (ht : tabE s.T = 0) (Q : Tri g0 h ⟨s.S, turnT s.T (wRate s.T o.c o.a), s.R⟩ s.S s.R N w x) (A : At h r [.int .i64 o.d, .int .i64 o.m, .int .i64 o.c, .int .i64 o.a, .slice o.p o.b.length o.cp]) (hv : ∀ y, 0 ≤ o.c → s.T[o.c.toNat]? = some y → v = y.cut) (kk : After K N w mq mn mc q n qc j g0 ⟨s.S, turnT s.T (wRate s.T o.c o.a), s.R⟩ (turnE (wRate s.T o.c o.a)) x) :
    L_law09_WorthTells_1034 tp w tc mq mn mc (N : Int) (some ⟨x.p, 0, none⟩) (some ⟨x.g.p, 0, none⟩) (some ⟨x.f.b 0, 0, none⟩) (some ⟨x.s, 0, none⟩) r (turnE (wRate s.T o.c o.a)) v q n qc (n : Int) j h K := by
  obtain ⟨t1, t8, _⟩ := tab_parts ht
  refine L_law09_WorthTells_1034r _ _ _ _ _ _ _ _ _ _ _ _ _ _ _ _ _ _ _ _ _ ?_
  unfold L_law09_WorthTells_1034T
  refine ⟨_, A.cell rfl, _, A.cell rfl, S_RWithO (CT.le Q.W.base) eT (by omega) fun p' n' c' e' h1 l1 wr => ⟨_, _, _, _, rfl, ?_⟩⟩
  rw [rWith_rate ht hv] at wr
  unfold After at kk
  cases hc : wRate s.T o.c o.a with
  | none =>
    rw [hc] at wr kk Q
    obtain ⟨_, _, rfl⟩ := wr
    exact Br.no rfl (kk g0 h1 x tp tc g0.le_refl CT (Q.le l1) rfl rfl rfl)
  | some T' =>
    rw [hc] at wr kk Q
    obtain ⟨⟨b, sp, rfl, z, Ab⟩, hn', rfl⟩ := wr
    obtain ⟨l2, Q2⟩ := (Q.le l1).top
    have Ab2 := Ab.wo (Q.out z)
    have ew : n' = w := hn'.symm.trans Q.eT
    subst ew
    exact Br.yes rfl (kk _ h1 x _ _ l2 Ab2.toRd Q2 rfl rfl rfl)
theorem tells_42 {v : Int} (CT : Curs g0 tp s.T) (eT : s.T.length = w) (ht : tabE s.T = 0) (Q : Tri g0 h ⟨s.S, turnT s.T (wCut s.T o.c o.a), s.R⟩ s.S s.R N w x) (A : At h r [.int .i64 o.d, .int .i64 o.m, .int .i64 o.c, .int .i64 o.a, .slice o.p o.b.length o.cp]) (hv : ∀ y, 0 ≤ o.c → s.T[o.c.toNat]? = some y → v = y.rate) (kk : After K N w mq mn mc q n qc j g0 ⟨s.S, turnT s.T (wCut s.T o.c o.a), s.R⟩ (turnE (wCut s.T o.c o.a)) x) :
    L_law09_WorthTells_1042 tp w tc mq mn mc (N : Int) (some ⟨x.p, 0, none⟩) (some ⟨x.g.p, 0, none⟩) (some ⟨x.f.b 0, 0, none⟩) (some ⟨x.s, 0, none⟩) r (turnE (wCut s.T o.c o.a)) v q n qc (n : Int) j h K := by
  obtain ⟨t1, t8, _⟩ := tab_parts ht
  refine L_law09_WorthTells_1042r _ _ _ _ _ _ _ _ _ _ _ _ _ _ _ _ _ _ _ _ _ ?_
  unfold L_law09_WorthTells_1042T
  refine ⟨_, A.cell rfl, _, A.cell rfl, S_RWithO (CT.le Q.W.base) eT (by omega) fun p' n' c' e' h1 l1 wr => ⟨_, _, _, _, rfl, ?_⟩⟩
  rw [rWith_cut ht hv] at wr
  unfold After at kk
  cases hc : wCut s.T o.c o.a with
  | none =>
    rw [hc] at wr kk Q
    obtain ⟨_, _, rfl⟩ := wr
    exact Br.no rfl (kk g0 h1 x tp tc g0.le_refl CT (Q.le l1) rfl rfl rfl)
  | some T' =>
    rw [hc] at wr kk Q
    obtain ⟨⟨b, sp, rfl, z, Ab⟩, hn', rfl⟩ := wr
    obtain ⟨l2, Q2⟩ := (Q.le l1).top
    have Ab2 := Ab.wo (Q.out z)
    have ew : n' = w := hn'.symm.trans Q.eT
    subst ew
    exact Br.yes rfl (kk _ h1 x _ _ l2 Ab2.toRd Q2 rfl rfl rfl)
theorem tells_22 (CT : Curs g0 tp s.T) (hN : 1 ≤ N) (hN2 : N ≤ 16) (ht : tabE s.T = 0) (oI : OpWI g0 o) (ob : o.b.length ≤ 20) {e : Int} (ed : doW N s o = (e, s')) (Q : Tri g0 h s' s.S s.R N w x) (A : At g0 r (opwV o)) (kk : After K N w mq mn mc q n qc j g0 s' e x) :
    L_law09_WorthTells_1022 tp w tc mq mn mc (N : Int) (some ⟨x.p, 0, none⟩) (some ⟨x.g.p, 0, none⟩) (some ⟨x.f.b 0, 0, none⟩) (some ⟨x.s, 0, none⟩) r e 0 q n qc (n : Int) j o.d h K := by
  obtain ⟨t1, t8, _⟩ := tab_parts ht
  have eT : s.T.length = w := by
    rw [← Q.eT, ← (show (doW N s o).2 = s' by rw [ed])]
    unfold doW
    split
    · rfl
    split
    · rfl
    split
    · rfl
    split
    · exact (wRate_tab ht _ _).2.symm
    split
    · exact (wCut_tab ht _ _).2.symm
    · rfl
  have Ah : ∀ {h'}, g0.le h' → At h' r [.int .i64 o.d, .int .i64 o.m, .int .i64 o.c, .int .i64 o.a, .slice o.p o.b.length o.cp] := fun l => A.le l
  have A1 := Ah Q.W.base
  refine L_law09_WorthTells_1022r _ _ _ _ _ _ _ _ _ _ _ _ _ _ _ _ _ _ _ _ _ _ ?_
  unfold L_law09_WorthTells_1022T
  unfold doW at ed
  by_cases d0 : o.d = 0
  · rw [if_pos d0] at ed
    cases ed
    refine Br.yes (by simpa using d0) (Br.yes (by simpa using d0) ⟨_, A1.cell rfl, _, A1.cell rfl, _, A1.cell rfl, S_inT Q oI.a fun h1 Q1 => ⟨_, rfl, _, (Ah Q1.W.base).cell rfl, Br.yes (by simpa using d0) ⟨_, (Ah Q1.W.base).cell rfl, ?_⟩⟩⟩)
    by_cases hm : 0 ≤ o.m ∧ o.m < (N : Int)
    · refine Br.yes (by simpa using hm.1) ⟨_, (Ah Q1.W.base).cell rfl, Br.yes (by simpa using hm.2) ?_⟩
      refine L_law09_WorthTells_1026r _ _ _ _ _ _ _ _ _ _ _ _ _ _ _ _ _ _ _ _ _ ?_
      unfold L_law09_WorthTells_1026T
      refine tells_row (P := fun h' => L_law09_WorthTells_1046 tp w tc mq mn mc (N : Int) (some ⟨x.p, 0, none⟩) (some ⟨x.g.p, 0, none⟩) (some ⟨x.f.b 0, 0, none⟩) (some ⟨x.s, 0, none⟩) _ _ q n qc (n : Int) j h' K) Q1 (m := o.m.toNat) (by omega) (by omega) (Ah Q1.W.base) rfl (by omega) (by omega) fun h2 h' x' _ Q' e1 e2 e3 e4 => ?_
      rw [← e4]
      refine kk g0 h' x' tp tc g0.le_refl CT (Q'.cong fun i hi => ?_) e1 (by rw [e3]) (by rw [e2])
      show _ = movR _ s.T.length N s.R o.m i
      unfold movR
      rw [if_pos hm, eT, Int.toNat_of_nonneg hm.1]
    · have hR : movR (inG s.S o.m o.c o.a).2 s.T.length N s.R o.m = s.R := by unfold movR; rw [if_neg hm]
      have fin := kk g0 h1 x tp tc g0.le_refl CT (Q1.cong fun i hi => (congrFun hR i).symm) rfl rfl rfl
      refine Br.dec (fun g1 => ⟨_, (Ah Q1.W.base).cell rfl, Br.dec (fun g2 => (hm ⟨g1, g2⟩).elim) fun _ => fin⟩) fun _ => fin
  rw [if_neg d0] at ed
  refine Br.no (by simpa using d0) ?_
  by_cases d4 : o.d = 4
  · rw [if_pos d4] at ed
    cases ed
    exact Br.yes (by simpa using d4) ⟨_, A1.cell rfl, _, A1.cell rfl, _, A1.cell rfl, S_inT Q oI.a fun h1 Q1 => ⟨_, rfl, _, (Ah Q1.W.base).cell rfl, Br.no (by simpa using d0) (kk g0 h1 x tp tc g0.le_refl CT Q1 rfl rfl rfl)⟩⟩
  rw [if_neg d4] at ed
  refine Br.no (by simpa using d4) ?_
  refine L_law09_WorthTells_1027r _ _ _ _ _ _ _ _ _ _ _ _ _ _ _ _ _ _ _ _ _ _ ?_
  unfold L_law09_WorthTells_1027T
  by_cases d1 : o.d = 1
  · rw [if_pos d1] at ed
    cases ed
    refine Br.yes (by simpa using d1) ⟨_, _, _, A1.cell rfl, S_postT Q (rdL_le Q.W.base oI.X) rfl (by omega) oI.b fun h1 x1 Q1 e1 e2 e3 => ⟨_, rfl, ?_⟩⟩
    rw [← e3]
    refine S_copyT Q1 fun h2 x2 Q2 c1 c2 c3 => ⟨_, rfl, ?_⟩
    rw [e3]
    refine kk g0 h2 x2 tp tc g0.le_refl CT (Q2.cong fun i hi => ?_) (c1.trans e1) (by rw [c3, e3]) (by rw [c2, e2])
    show _ = allR _ s.T.length N s.R N i
    unfold allR
    rw [if_pos hi, eT]
  rw [if_neg d1] at ed
  refine Br.no (by simpa using d1) ?_
  by_cases d2 : o.d = 2
  · rw [if_pos d2] at ed
    cases ed
    refine Br.yes (by simpa using d2) ⟨_, A1.cell rfl, ?_⟩
    refine Br.dec (fun g1 => ⟨_, A1.cell rfl, Br.dec (fun g2 => ?_) fun g2 => ?_⟩) fun g1 => ?_
    · have hx : s.T[o.c.toNat]? = some s.T[o.c.toNat] := List.getElem?_eq_getElem (by omega)
      generalize s.T[o.c.toNat] = y at *
      refine ⟨_, A1.cell rfl, cx2 (CT.le Q.W.base) eT (j := o.c.toNat) (by omega) hx ?_⟩
      exact tells_34 CT eT ht Q (Ah Q.W.base) (fun z _ hz => by rw [hx] at hz; cases hz; rfl) kk
    · exact tells_34 CT eT ht Q (Ah Q.W.base) (fun z _ hz => by rw [List.getElem?_eq_none (by omega)] at hz; cases hz) kk
    · exact tells_34 CT eT ht Q (Ah Q.W.base) (fun z h0 hz => (g1 h0).elim) kk
  rw [if_neg d2] at ed
  refine Br.no (by simpa using d2) ?_
  refine L_law09_WorthTells_1038r _ _ _ _ _ _ _ _ _ _ _ _ _ _ _ _ _ _ _ _ _ _ ?_
  unfold L_law09_WorthTells_1038T
  by_cases d3 : o.d = 3
  · rw [if_pos d3] at ed
    cases ed
    refine Br.yes (by simpa using d3) ⟨_, A1.cell rfl, ?_⟩
    refine Br.dec (fun g1 => ⟨_, A1.cell rfl, Br.dec (fun g2 => ?_) fun g2 => ?_⟩) fun g1 => ?_
    · have hx : s.T[o.c.toNat]? = some s.T[o.c.toNat] := List.getElem?_eq_getElem (by omega)
      generalize s.T[o.c.toNat] = y at *
      refine ⟨_, A1.cell rfl, cx1 (CT.le Q.W.base) eT (j := o.c.toNat) (by omega) hx ?_⟩
      exact tells_42 CT eT ht Q (Ah Q.W.base) (fun z _ hz => by rw [hx] at hz; cases hz; rfl) kk
    · exact tells_42 CT eT ht Q (Ah Q.W.base) (fun z _ hz => by rw [List.getElem?_eq_none (by omega)] at hz; cases hz) kk
    · exact tells_42 CT eT ht Q (Ah Q.W.base) (fun z h0 hz => (g1 h0).elim) kk
  rw [if_neg d3] at ed
  cases ed
  refine Br.no (by simpa using d3) ⟨_, A1.cell rfl, ?_⟩
  by_cases hm : 0 ≤ o.m ∧ o.m < (N : Int)
  · refine Br.yes (by simpa using hm.1) ⟨_, A1.cell rfl, Br.yes (by simpa using hm.2) ?_⟩
    refine L_law09_WorthTells_1021r _ _ _ _ _ _ _ _ _ _ _ _ _ _ _ _ _ _ _ _ _ ?_
    unfold L_law09_WorthTells_1021T
    refine tells_row (P := fun h' => L_law09_WorthTells_1046 tp w tc mq mn mc (N : Int) (some ⟨x.p, 0, none⟩) (some ⟨x.g.p, 0, none⟩) (some ⟨x.f.b 0, 0, none⟩) (some ⟨x.s, 0, none⟩) _ _ q n qc (n : Int) j h' K) Q (m := o.m.toNat) (by omega) (by omega) A1 rfl (by omega) (by omega) fun h2 h' x' _ Q' e1 e2 e3 e4 => ?_
    rw [← e4]
    refine kk g0 h' x' tp tc g0.le_refl CT (Q'.cong fun i hi => ?_) e1 (by rw [e3]) (by rw [e2])
    show _ = movR _ s.T.length N s.R o.m i
    unfold movR
    rw [if_pos hm, eT, Int.toNat_of_nonneg hm.1]
  · have hR : movR s.S s.T.length N s.R o.m = s.R := by unfold movR; rw [if_neg hm]
    have fin := kk g0 h x tp tc g0.le_refl CT (Q.cong fun i hi => (congrFun hR i).symm) rfl rfl rfl
    refine Br.dec (fun g1 => ⟨_, A1.cell rfl, Br.dec (fun g2 => (hm ⟨g1, g2⟩).elim) fun _ => fin⟩) fun _ => fin
theorem tells_0 {he : Heap} (hN : 1 ≤ N) (hN2 : N ≤ 16) (X : Arr opwV he q l) (hn : l.length = n) (hs : n ≤ 1000) (hI : ∀ y ∈ l, OpWI he y) (hb : ∀ y ∈ l, y.b.length ≤ 20) (Xm : Pos he mq more) (hmn : more.length = mn) (hms : mn ≤ 20) (hmI : ∀ y ∈ more, I64 y.a) :
    ∀ (m j : Nat) (h0 h : Heap) (s : St9) (x : TF) (tp : Option Addr) (tc : Nat), m + j = n → he.le h0 → Curs h0 tp s.T → Tri h0 h s s.S s.R N w x → L_law09_WorthTells_0 tp w tc mq mn mc (N : Int) (some ⟨x.p, 0, none⟩) (some ⟨x.g.p, 0, none⟩) (some ⟨x.f.b 0, 0, none⟩) (some ⟨x.s, 0, none⟩) q n qc (n : Int) (j : Int) h (GoodW he) := by
  intro m
  induction m with
  | zero =>
    intro j h0 h s x tp tc hj l0 CT Q
    refine L_law09_WorthTells_0r _ _ _ _ _ _ _ _ _ _ _ _ _ _ _ _ _ _ ?_
    unfold L_law09_WorthTells_0T
    exact Br.no (by simp; omega) (goodW (Heap.le_trans l0 Q.W.base))
  | succ m ih =>
    intro j h0 h s x tp tc hj l0 CT Q
    refine L_law09_WorthTells_0r _ _ _ _ _ _ _ _ _ _ _ _ _ _ _ _ _ _ ?_
    unfold L_law09_WorthTells_0T
    have hx : l[j]? = some l[j] := List.getElem?_eq_getElem (by omega)
    have hmem : l[j] ∈ l := List.getElem_mem _
    generalize l[j] = o at *
    have oI := hI o hmem
    have ob := hb o hmem
    refine Br.yes (by simp; omega) (owx (X.le (Heap.le_trans l0 Q.W.base)) hn rfl hx (newB_cp (vs := [int .i64 o.d, int .i64 o.m, int .i64 o.c, int .i64 o.a, slice o.p o.b.length o.cp]) rfl fun r h1 hr l1 A cs => ⟨cs, _, A.cell rfl, _, A.cell rfl, _, A.cell rfl, _, A.cell rfl, _, _, _, A.cell rfl, ?_⟩))
    generalize h1.setN r 0 [int .i64 o.d, int .i64 o.m, int .i64 o.c, int .i64 o.a, slice o.p o.b.length o.cp] = H at *
    obtain ⟨l2, Q2⟩ := (Q.le l1).top
    have A2 : At (H.wo (x.D N)) r (opwV o) := A.wo (Q.out hr)
    generalize H.wo (x.D N) = g0 at *
    refine S_doT Q2 (oI.le (Heap.le_trans l0 l2)) ob fun h3 x3 Q3 e1 e2 e3 e4 => ⟨_, rfl, _, (A2.le Q3.W.base).cell rfl, ?_⟩
    rw [← e1, ← e2, ← e4, ← e3]
    refine tells_22 (CT.le l2) hN hN2 Q.W.tab (oI.le (Heap.le_trans l0 l2)) ob rfl Q3 A2 fun h0' h' x' tp' tc' l3 CT' Q' c1 c2 c3 => ?_
    have l4 := Heap.le_trans l0 (Heap.le_trans l2 l3)
    rw [← c1, ← c2, ← c3]
    refine tells_46 hN hN2 CT' rfl (rdL_le l4 Xm) hmn hms hmI Q' fun h'' Q'' => ?_
    rw [w1 (by omega)]
    exact ih (j + 1) h0' h'' _ x' tp' tc' (by omega) l4 CT' Q''
end
theorem law09_WorthTells_ok {h : Heap} {tp : Option Addr} {tn tc : Nat} (HT : curSh.Has h [.slice tp tn tc]) {mem : Int} (hm : (Lit.int .u8 mem).wf = true) {q : Option Addr} {n qc : Nat} (HO : (Sh.sl opwS).Has h [.slice q n qc]) {mq : Option Addr} {mn mc : Nat} (HM : (Sh.sl poSh).Has h [.slice mq mn mc]) :
    CallA Try.prog fn_law09_WorthTells [slice tp tn tc, .int .u8 mem, slice q n qc, slice mq mn mc] h fun v h' => v = .bool true ∧ h.le h' := by
  obtain ⟨tmax, T, hT, CT, _⟩ := curs_of HT
  obtain ⟨omax, l, hl, X, hI⟩ := opw_of HO
  obtain ⟨_, mmax, more, hmore, Xm, hmI⟩ := pos_of HM
  obtain ⟨k, ek, k1, k16⟩ := many_of hm
  refine F_law09_WorthTells _ _ _ _ _ _ _ _ _ _ _ _ ?_
  unfold F_law09_WorthTellsT
  refine S_law09_awake fun h1 l1 => ⟨_, rfl, Br.no rfl (S_large09 (X.le l1) hl omax fun b hb => ⟨_, rfl, ?_⟩)⟩
  cases b with
  | true => exact Br.yes rfl (goodW l1)
  | false =>
    obtain ⟨h30, h20⟩ := hb rfl
    refine Br.no rfl (Br.dec (fun _ => goodW l1) fun g20 => Br.dec (fun _ => goodW l1) fun m20 => ?_)
    rw [ek]
    obtain ⟨v, ev, v1, v8, vt⟩ : ∃ v : Nat, (if (1 : Int) > (if (8 : Int) < (tn : Int) then 8 else (tn : Int)) then 1 else (if (8 : Int) < (tn : Int) then 8 else (tn : Int))) = (v : Int) ∧ 1 ≤ v ∧ v ≤ 8 ∧ (1 ≤ tn → tn ≤ 8 → v = tn) := by
      refine ⟨(if (1 : Int) > (if (8 : Int) < (tn : Int) then 8 else (tn : Int)) then 1 else (if (8 : Int) < (tn : Int) then 8 else (tn : Int))).toNat, ?_, ?_, ?_, fun a b => ?_⟩ <;> (repeat' split) <;> omega
    rw [ev]
    refine S_lNew (fun e => absurd e (by omega)) fun n' w' en ew _ _ _ _ h2 p B C sp l2 A np nB => ⟨_, _, rfl, ?_⟩
    have en : n' = k := by omega
    have ew : w' = v := by omega
    subst en ew
    refine S_xNew (fun e => absurd e (by omega)) fun n2 w2 en2 ew2 _ _ _ _ h3 g l3 Xg gf => ⟨_, _, rfl, ?_⟩
    have en2 : n2 = n' := by omega
    have ew2 : w2 = w' := by omega
    subst en2 ew2
    have l13 := Heap.le_trans l1 (Heap.le_trans l2 l3)
    by_cases e0 : tabE T ≠ 0
    · refine S_wNew (CT.le l13) hT (by omega) (A.le l3) (fun _ h4 l4 => ⟨_, _, rfl, S_RCheck (CT.le (Heap.le_trans l13 l4)) hT ⟨_, rfl, Br.yes (by simpa using e0) (Br.yes rfl (S_RCheck (CT.le (Heap.le_trans l13 l4)) hT ⟨_, rfl, ?_⟩))⟩⟩) (fun e => (e0 e).elim) (fun e => (e0 e).elim)
      rw [show (tabE T == tabE T) = true by simp]
      exact goodW (Heap.le_trans l13 l4)
    have e0 : tabE T = 0 := Classical.byContradiction e0
    obtain ⟨t1, t8, _⟩ := tab_parts e0
    have ew : w2 = tn := vt (by omega) (by omega)
    subst ew
    have eM : (newG n2 w2).M.length = n2 := by unfold newG; rw [List.length_replicate]
    have d3 : ∀ b, (b == p || b == B) = true → b = p ∨ b = B := fun b hb => by simpa using hb
    have lb : h.le (h3.wo fun b => b == p || b == B) := le_wo l13 fun b hb => by
      rcases d3 b hb with rfl | rfl
      · exact none_of_le l1 np
      · exact none_of_le l1 nB
    have gne : ∀ b, g.D n2 b = true → (b == p || b == B) = false := fun b hb => noD fun hd => by
      rcases d3 b hd with rfl | rfl
      · exact A.ap.ne (gf _ hb) rfl
      · exact A.ab.ne (gf _ hb) rfl
    refine S_WNew (h0 := h3.wo fun b => b == p || b == B) (wo_le _ _) (CT.le l13) hT (A.le l3) (wo_none (by simp)) (wo_none (by simp)) e0 rfl fun h4 f W => ⟨_, _, rfl, S_RCheck (CT.le (Heap.le_trans lb W.base)) hT ⟨_, rfl, ?_⟩⟩
    rw [e0]
    rw [eM] at W
    have X4 : XAt h4 g (newG n2 w2) := Xg.mv fun b xs hb a => (a.wo (gne b (by rw [eM] at hb; exact hb))).le W.base
    refine Br.no rfl (Br.no rfl (Br.no rfl (Br.no rfl (S_xCopy X4 fun h5 g' l5 X5 hD => ⟨_, rfl, ?_⟩))))
    rw [eM] at hD
    have W5 := W.le l5
    have X45 := X4.le l5
    have a4 : ∀ b, g.D n2 b = true → ∃ xs, At (h3.wo fun b => b == p || b == B) b xs := fun b hb => by
      obtain ⟨xs, a⟩ := Xg.at (by rw [eM]; exact hb)
      exact ⟨xs, a.wo (gne b hb)⟩
    have hD2 : ∀ b, (b == g'.p || g'.f.D n2 b) = true → g'.D n2 b = true := fun b hb => by
      rw [Bool.or_eq_true] at hb
      rcases hb with e | e
      · rw [show b = g'.p by simpa using e]; exact g'.D_p n2
      · exact XFr.D_f e
    have Q : Tri h h5 ⟨newG n2 w2, T, fun i => rowG (newG n2 w2) (i : Int) T.length⟩ (newG n2 w2) (fun i => rowG (newG n2 w2) (i : Int) T.length) n2 w2 ⟨p, B, C, sp, f, g, g'.p, g'.f, .slice (some ⟨g'.q, 0, none⟩) w2 g'.qc⟩ := by
      refine { W := W5.back lb, X := X45, eT := hT, eN := eM, ec := rfl, f1 := fun b hb => ⟨none_of_le (Heap.le_trans l1 l2) (gf b hb), ?_⟩, sa := ?_, sr := ?_, dp := ?_, f2 := fun b hb => ?_ }
      · have := X5.ap
        rw [eM] at this
        exact this
      · have := X5.rw
        rw [cut_mx X5.sz, eM] at this
        rw [hT]
        exact this
      · have := X5.dp
        rw [eM] at this
        exact this
      · obtain ⟨xs, a⟩ := a4 b hb
        exact noD fun hd => a.ne (W.none' hd) rfl
      · have e := hD b (hD2 b hb)
        exact ⟨none_of_le (Heap.le_trans lb W.base) e, W.out e, noD fun hd => by
          obtain ⟨xs, a⟩ := X4.at (by rw [eM]; exact hd)
          exact a.ne e rfl⟩
    have fin := tells_0 (he := h) (N := n2) (w := w2) (mc := mc) (qc := qc) k1 k16 X hl (by omega) hI h20 Xm hmore (by omega) (fun y hy => (hmI y hy).2.2) n 0 h h5 ⟨newG n2 w2, T, fun i => rowG (newG n2 w2) (i : Int) T.length⟩ ⟨p, B, C, sp, f, g, g'.p, g'.f, .slice (some ⟨g'.q, 0, none⟩) w2 g'.qc⟩ tp tc rfl h.le_refl CT Q
    exact fin
end Go.Proofs.Ytghdadniddoboaa
