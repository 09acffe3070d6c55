import Derived.Test.YtghdadniddoboaaM19
import Derived.Test.YtghdadniddoboaaM06
/- The law RiskHolds. -/
namespace Go.Proofs.Ytghdadniddoboaa
open Go Go.Sy Go.Value
set_option linter.unusedVariables false
set_option linter.unusedSimpArgs false

theorem S_law10_awake {h : Heap} {K : Value → Heap → Prop} (k : ∀ h', h.le h' → K (.bool true) h') : CallA Try.prog fn_law10_awake [] h K := by
  refine F_law10_awake _ _ ?_
  unfold F_law10_awakeT
  refine newB_at fun r h1 hr l1 Ar => ?_
  have Ct : Curs h1 (some ⟨r, 0, none⟩) gT := (show At h1 r (curV gT ++ []) from Ar).toRd
  refine S_lNew (fun e => absurd e (by decide)) fun n w en ew _ _ _ _ h2 p B C sp l2 A2 np nB => ⟨_, _, rfl, ?_⟩
  have en : n = 2 := by omega
  have ew : w = 2 := by omega
  subst en ew
  refine Br.no rfl (newB_at fun r1 h3 z1 l3 A3 => newB_at fun r2 h4 z2 l4 A4 => newB_at fun r3 h5 z3 l5 A5 => ?_)
  have l25 := Heap.le_trans l3 (Heap.le_trans l4 l5)
  have hE : ∀ {b : Nat}, h2 b = none → (fun b => b == p || b == B) b = false := fun e => by
    have e1 := A2.ap.ne e
    have e2 := A2.ab.ne e
    show (_ == p || _ == B) = false
    rw [Bool.or_eq_false_iff]
    exact ⟨by simpa using fun e => e1 e.symm, by simpa using fun e => e2 e.symm⟩
  have z2' := none_of_le l3 z2
  have z3' := none_of_le l3 (none_of_le l4 z3)
  have X1 := At.wo (D := fun b => b == p || b == B) (A3.le (Heap.le_trans l4 l5)) (hE z1)
  have X2 := At.wo (D := fun b => b == p || b == B) (A4.le l5) (hE z2')
  have X3 := At.wo (D := fun b => b == p || b == B) A5 (hE z3')
  have l15 : h1.le (h5.wo fun b => b == p || b == B) := le_wo (Heap.le_trans l2 l25) fun b hb => by
    have hb : b = p ∨ b = B := by simpa using hb
    rcases hb with rfl | rfl
    · exact np
    · exact nB
  have lg : h.le (h5.wo fun b => b == p || b == B) := Heap.le_trans l1 l15
  have ip : ∀ a : Int, -1000 ≤ a → a ≤ 1000 → I64 a := fun a h1 h2 => by unfold I64; omega
  have iA : ∀ {g : Heap}, At g r1 [.int .i64 0, .int .i64 100] → LmI g ⟨some ⟨r1, 0, none⟩, 2, ⟨[0, 100], 50⟩⟩ := fun a => ⟨at_rd0 a, fun y hy => (by
    simp only [List.mem_cons, List.not_mem_nil, or_false] at hy
    rcases hy with rfl | rfl <;> exact ip _ (by decide) (by decide)), ip 50 (by decide) (by decide)⟩
  have iB : ∀ {g : Heap}, At g r2 [.int .i64 0, .int .i64 0] → LmI g ⟨some ⟨r2, 0, none⟩, 2, ⟨[0, 0], 0⟩⟩ := fun a => ⟨at_rd0 a, fun y hy => (by
    simp only [List.mem_cons, List.not_mem_nil, or_false] at hy
    rcases hy with rfl | rfl <;> exact ip _ (by decide) (by decide)), ip 0 (by decide) (by decide)⟩
  have e0 : newE gT (newG 2 2) [⟨some ⟨r1, 0, none⟩, 2, ⟨[0, 100], 50⟩⟩, ⟨some ⟨r2, 0, none⟩, 2, ⟨[0, 0], 0⟩⟩] = 0 := by kernel_rfl
  have e1 : newE gT (newG 2 2) [⟨some ⟨r1, 0, none⟩, 2, ⟨[0, 100], 50⟩⟩] = 1 := by kernel_rfl
  refine S_rNew (h0 := h5.wo fun b => b == p || b == B) (T := gT) (S := newG 2 2) (l0 := [⟨some ⟨r1, 0, none⟩, 2, ⟨[0, 100], 50⟩⟩, ⟨some ⟨r2, 0, none⟩, 2, ⟨[0, 0], 0⟩⟩]) (wo_le _ _) (Ct.le (Heap.le_trans l2 l25)) rfl (by decide) (A2.le l25) (wo_none (by simp)) (wo_none (by simp)) (newG_ok (by decide) (by decide) (by decide) (by decide)) (at_rd0 X3) rfl (by decide) (fun y hy => ?_) (fun y hy => ?_) (fun e => absurd e0 e) fun _ h6 x G ep => ⟨_, _, rfl, by decide, by decide, ?_⟩
  · simp only [List.mem_cons, List.not_mem_nil, or_false] at hy
    rcases hy with rfl | rfl
    · exact iA X1
    · exact iB X2
  · simp only [List.mem_cons, List.not_mem_nil, or_false] at hy
    rcases hy with rfl | rfl <;> exact (show 2 ≤ 1000000 by decide)
  have G : GD _ h6 x gu0 := G
  generalize (h5.wo fun b => b == p || b == B) = g0 at *
  subst ep
  have nE : ∀ {b : Nat} {vs : List Value}, At g0 b vs → (fun b => b == x.p || b == x.B) b = false := fun a => by
    have lk := Heap.le_trans G.base G.ck
    have e1 := a.ne (none_of_le lk G.W.np)
    have e2 := a.ne (none_of_le lk G.W.nB)
    show (_ == x.p || _ == x.B) = false
    rw [Bool.or_eq_false_iff]
    exact ⟨by simpa using e1, by simpa using e2⟩
  have b6 := G.b
  refine S_rNew (h0 := h6.wo fun b => b == x.p || b == x.B) (T := gT) (S := newG 2 2) (l0 := [⟨some ⟨r1, 0, none⟩, 2, ⟨[0, 100], 50⟩⟩]) (wo_le _ _) (Ct.le (Heap.le_trans l15 b6)) rfl (by decide) G.W.LA (wo_none (by simp)) (wo_none (by simp)) (newG_ok (by decide) (by decide) (by decide) (by decide)) (show At _ r3 ([slice (some ⟨r1, 0, none⟩) 2 2, .int .i64 50] ++ [slice (some ⟨r2, 0, none⟩) 2 2, .int .i64 0]) from At.wo (D := fun b => b == x.p || b == x.B) (X3.le b6) (nE X3)).toRd rfl (by decide) (fun y hy => ?_) (fun y hy => ?_) (fun _ h7 l7 LA7 => ⟨_, _, rfl, Br.no rfl ?_⟩) (fun e => by rw [e1] at e; cases e)
  · rw [List.mem_singleton] at hy
    subst hy
    exact iA (At.wo (D := fun b => b == x.p || b == x.B) (X1.le b6) (nE X1))
  · rw [List.mem_singleton] at hy
    subst hy
    exact (show 2 ≤ 1000000 by decide)
  rw [e1]
  have G7 := G.relay l7 LA7
  refine S_gIn G7 (ip _ (by decide) (by decide)) fun h8 x8 G8 a8 q8 => ⟨_, rfl, ?_⟩
  have G8 : GD _ h8 x8 gu1 := G8
  rw [show (rIn gu0 0 0 100).1 = 0 from g_1, ← a8]
  refine S_gIn G8 (ip _ (by decide) (by decide)) fun h9 x9 G9 a9 q9 => ⟨_, rfl, newB_at fun s1 h10 s1z l10 As1 => ?_⟩
  have G9 : GD _ h9 x9 gu2 := G9
  rw [show (rIn gu1 1 1 100).1 = 0 from g_2, ← a9]
  have pI : ∀ (b : List Pst), (∀ y ∈ b, -1000 ≤ y.m ∧ y.m ≤ 1000 ∧ -1000 ≤ y.c ∧ y.c ≤ 1000 ∧ -1000 ≤ y.a ∧ y.a ≤ 1000) → ∀ y ∈ b, I64 y.m ∧ I64 y.c ∧ I64 y.a := fun b hb y hy => by
    have := hb y hy
    exact ⟨ip _ (by omega) (by omega), ip _ (by omega) (by omega), ip _ (by omega) (by omega)⟩
  have i1 := pI gb1 (by decide)
  have i2 := pI gb2 (by decide)
  have i3 := pI gb3 (by decide)
  refine S_gFails (b := gb1) (G9.le l10) (at_rd0 As1) rfl (by decide) (fun y hy => (i1 y hy).2.2) fun h11 l11 => ⟨_, rfl, newB_at fun s2 h12 s2z l12 As2 => ?_⟩
  rw [g_f]
  have G12 := (G9.le l10).le l11
  obtain ⟨g1, y1, lt1, Gt1, yg1, yp1, kp1⟩ := (G12.le l12).topX
  rw [← yg1]
  refine S_gBook (b := gb2) Gt1 (at_rd0 (kp1 _ _ (G12.toGR.outE s2z) As2)) rfl (by decide) i2 fun h13 x13 G13 a13 q13 => ⟨_, rfl, newB_at fun s3 h14 s3z l14 As3 => ?_⟩
  have G13 : GD _ h13 x13 gu3 := G13
  rw [show (rBook gu2 gb2).1 = 0 from g_3]
  rw [← a13]
  obtain ⟨g2, y2, lt2, Gt2, yg2, yp2, kp2⟩ := (G13.le l14).topX
  rw [← yg2]
  refine S_gBook (b := gb3) Gt2 (at_rd0 (kp2 _ _ (G13.toGR.outE s3z) As3)) rfl (by decide) i3 fun h15 x15 G15 a15 q15 => ⟨_, rfl, ?_⟩
  have G15 : GD _ h15 x15 gu4 := G15
  rw [show (rBook gu3 gb3).1 = 10 from g_4]
  rw [← a15]
  refine S_gRate G15 fun h16 x16 G16 a16 q16 => ⟨_, rfl, ?_⟩
  have G16 : GD _ h16 x16 gu5 := G16
  rw [show (rTurn gu4 (wRate gu4.T 1 12600)).1 = 0 from g_5, ← a16]
  refine S_gOut G16 (ip _ (by decide) (by decide)) fun h17 x17 G17 a17 q17 => ⟨_, rfl, ?_⟩
  have G17 : GD _ h17 x17 gu6 := G17
  rw [show (rOut gu5 0 0 1).1 = 10 from g_6, ← a17]
  refine S_gOut G17 (ip _ (by decide) (by decide)) fun h18 x18 G18 a18 q18 => ⟨_, rfl, ?_⟩
  have G18 : GD _ h18 x18 gu7 := G18
  rw [show (rOut gu6 1 1 10).1 = 0 from g_7, ← a18]
  have q : x18.p = x.p := q18.trans (q17.trans (q16.trans ((q15.trans yp2).trans ((q13.trans yp1).trans (q9.trans q8)))))
  refine Br.yes rfl (Br.yes rfl (Br.yes rfl (Br.yes rfl (Br.yes rfl (Br.yes rfl (Br.yes rfl (Br.yes rfl (S_gFlagged G18.toGR ⟨_, rfl, Br.yes g_f0 (S_gFlagged G18.toGR ⟨_, rfl, Br.yes (by rw [g_f1]; rfl) (S_gFlagged G18.toGR ⟨_, rfl, Br.yes (by rw [g_f2]; rfl) (Br.yes rfl (Br.yes rfl ?_))⟩)⟩)⟩))))))))
  rw [← q]
  refine S_lGet G18.W.LA ⟨_, rfl, Ret.mk ?_⟩
  rw [g_get]
  exact k h18 (Heap.le_trans lg (Heap.le_trans lt1 (Heap.le_trans lt2 G18.b)))
def GoodR (h0 : Heap) (v : Value) (h' : Heap) : Prop := v = .bool true ∧ h0.le h'
theorem goodR {h0 h : Heap} (l : h0.le h) : Ret h (GoodR h0) (.bool true) := Ret.mk ⟨rfl, l⟩
theorem bx {h : Heap} {p : Option Addr} {l : List Bool} {N : Nat} (I : rdL h p (boV l)) (hn : l.length = N) {j : Nat} {i : Int} (hi : i = (j : Int)) (hj : j < N) {Q : Bool → Prop} (kk : Q (l.getD j false)) :
    0 ≤ i ∧ i < (N : Int) ∧ withAddr p fun b o => ∃ v, h.cell b (o + i.toNat) = some (.bool v) ∧ Q v := by
  subst hi
  rcases I with e | ⟨b, o, e, r⟩
  · have := congrArg List.length e
    rw [boV_len, List.length_nil] at this
    omega
  · refine ⟨by omega, by omega, withAddr_intro e ⟨_, ?_, kk⟩⟩
    rw [Int.toNat_natCast, r j (by rw [boV_len]; omega), boV_get (by omega)]
theorem flag_at {u : Gu} {m : Nat} (hm : m < u.fl.length) : u.flag (m : Int) = u.fl.getD m false := by
  unfold Gu.flag
  rw [decide_eq_true (by omega), Bool.true_and, Int.toNat_natCast]
theorem doR_len (u : Gu) (o : u.Ok) (x : OpR) : (doR u x).2.fl.length = u.fl.length ∧ (doR u x).2.Ok := by
  have j : ∀ v : Gu, v.judge.fl.length = v.fl.length := fun v => by show (List.map _ _).length = _; rw [List.length_map, List.length_range]
  have tn : ∀ t : Option (List Cur), (∀ T, t = some T → tabE T = 0 ∧ T.length = u.T.length) → (rTurn u t).2.fl.length = u.fl.length ∧ (rTurn u t).2.Ok := fun t ht => by
    unfold rTurn
    cases t with
    | none => exact ⟨rfl, o⟩
    | some T => exact ⟨j _, (o.setT (ht T rfl).1 (ht T rfl).2).judge⟩
  have an : ∀ r : Int × Lg, r.2.Ok → szB u.S r.2 → (rAnew u r).2.fl.length = u.fl.length ∧ (rAnew u r).2.Ok := fun r ho hz => by
    unfold rAnew
    dsimp only
    split
    · exact ⟨j _, (o.setS ho hz).judge⟩
    · exact ⟨rfl, o⟩
  unfold doR
  split
  · by_cases e : (rIn u x.m x.c x.a).1 = 0
    · obtain ⟨i, _, hi, _, _, e2⟩ := rIn_ok e
      rw [e2]
      exact ⟨List.length_set, (o.setS (inG_ok o.o _ _ _) (inG_sz _ _ _ _)).setF _ _⟩
    · rw [rIn_err e]; exact ⟨rfl, o⟩
  split
  · by_cases e : (rOut u x.m x.c x.a).1 = 0
    · obtain ⟨i, _, hi, _, _, _, e2⟩ := rOut_ok e
      rw [e2]
      exact ⟨rfl, o.setS (outG_ok o.o _ _ _) (outG_sz _ _ _ _)⟩
    · rw [rOut_err e]; exact ⟨rfl, o⟩
  split
  · exact tn _ fun T e => by have := wRate_tab o.tab x.c x.a; rw [e] at this; exact this
  split
  · exact tn _ fun T e => by have := wCut_tab o.tab x.c x.a; rw [e] at this; exact this
  split
  · exact an _ (postG_ok o.o _) (postG_sz _ _)
  split
  · exact an _ (swapG_ok o.o _ _ _ _ _) (swapG_sz _ _ _ _ _ _)
  · by_cases e : (rBook u x.b).1 = 0
    · obtain ⟨_, _, e2⟩ := rBook_ok e
      rw [e2]
      exact ⟨rfl, o.setS (postG_ok o.o _) (postG_sz _ _)⟩
    · rw [rBook_err e]; exact ⟨rfl, o⟩
section
variable {K : Value → Heap → Prop} {lq : Option Addr} {N lc : Nat} {q : Option Addr} {l : List OpR} {n qc : Nat}
theorem holds_2 {h0 : Heap} {x : GuF} {u v : Gu} {o : OpR} {r : Nat} {wp : Option Addr} {wc : Nat} {j0 : Int} (hN : u.fl.length = N) (hN2 : v.fl.length = N) (h16 : N ≤ 16) (hd : v.held) (Ar : At h0 r (opV1 o)) (Iw : rdL h0 wp (boV u.fl)) (hf : o.d ≠ 2 → o.d ≠ 3 → o.d ≠ 5 → o.d ≠ 6 → ∀ m : Nat, v.fl.getD m false = true → u.fl.getD m false = true)
    (k : ∀ h', GD h0 h' x v → L_law10_RiskHolds_0 lq N lc (some ⟨x.g, 0, none⟩) q n qc (n : Int) (IntKind.wrap .i64 (j0 + 1)) h' K) :
    ∀ (d j : Nat) (h : Heap), d + j = N → GD h0 h x v → L_law10_RiskHolds_2 lq N lc (some ⟨x.g, 0, none⟩) r wp N wc q n qc (n : Int) j0 (N : Int) (j : Int) h K := by
  intro d
  induction d with
  | zero =>
    intro j h hj G
    refine L_law10_RiskHolds_2r _ _ _ _ _ _ _ _ _ _ _ _ _ _ _ _ _ ?_
    unfold L_law10_RiskHolds_2T
    exact Br.no (by simp; omega) (k h G)
  | succ d ih =>
    intro j h hj G
    refine L_law10_RiskHolds_2r _ _ _ _ _ _ _ _ _ _ _ _ _ _ _ _ _ ?_
    unfold L_law10_RiskHolds_2T
    have hjv : j < v.fl.length := by omega
    have next : ∀ h', GD h0 h' x v → L_law10_RiskHolds_2 lq N lc (some ⟨x.g, 0, none⟩) r wp N wc q n qc (n : Int) j0 (N : Int) (IntKind.wrap .i64 ((j : Int) + 1)) h' K := fun h' G' => by
      rw [w1 (by omega)]
      exact ih (j + 1) h' (by omega) G'
    refine Br.yes (by simp; omega) (S_gFlagged G.toGR ⟨_, rfl, ?_⟩)
    rw [flag_at hjv]
    cases hb : v.fl.getD j false with
    | false =>
      refine Br.yes rfl (S_gFails G (b := []) (.inl rfl) rfl (by decide) (fun y hy => by cases hy) fun h1 l1 => ⟨_, rfl, ?_⟩)
      rw [hd j hjv hb]
      exact Br.no rfl (Br.no rfl (next h1 (G.le l1)))
    | true =>
      have A := Ar.le G.b
      refine Br.no rfl (Br.yes rfl (bx (rdL_le G.b Iw) hN rfl (by omega) ?_))
      cases hu : u.fl.getD j false with
      | true => exact Br.no rfl (next h G)
      | false =>
        refine Br.yes rfl ⟨_, A.cell rfl, ?_⟩
        by_cases e2 : o.d = 2
        · exact Br.no (by simp [e2]) (next h G)
        refine Br.yes (by simpa using e2) ⟨_, A.cell rfl, ?_⟩
        by_cases e3 : o.d = 3
        · exact Br.no (by simp [e3]) (next h G)
        refine Br.yes (by simpa using e3) ⟨_, A.cell rfl, ?_⟩
        by_cases e5 : o.d = 5
        · exact Br.no (by simp [e5]) (next h G)
        refine Br.yes (by simpa using e5) ⟨_, A.cell rfl, ?_⟩
        by_cases e6 : o.d = 6
        · exact Br.no (by simp [e6]) (next h G)
        have := hf e2 e3 e5 e6 j hb
        rw [hu] at this
        cases this
theorem holds_1 {h0 H : Heap} {x : GuF} {u : Gu} {r : Nat} {j0 : Int} (hN : u.fl.length = N) (h16 : N ≤ 16) (G : GD h0 H x u)
    (k : ∀ h' wp wc, H.le h' → OwnL H h' [.bool false] wp wc (boV u.fl) → L_law10_RiskHolds_1 lq N lc (some ⟨x.g, 0, none⟩) r wp N wc q n qc (n : Int) j0 (N : Int) ((N : Nat) : Int) h' K) :
    ∀ (d j : Nat) (h : Heap) (wp : Option Addr) (wc : Nat), d + j = N → H.le h → OwnL H h [.bool false] wp wc (boV (u.fl.take j)) → L_law10_RiskHolds_1 lq N lc (some ⟨x.g, 0, none⟩) r wp j wc q n qc (n : Int) j0 (N : Int) (j : Int) h K := by
  intro d
  induction d with
  | zero =>
    intro j h wp wc hj l own
    obtain rfl : j = N := by omega
    rw [List.take_of_length_le (by omega)] at own
    exact k h wp wc l own
  | succ d ih =>
    intro j h wp wc hj l own
    refine L_law10_RiskHolds_1r _ _ _ _ _ _ _ _ _ _ _ _ _ _ _ _ _ ?_
    unfold L_law10_RiskHolds_1T
    refine Br.yes (by simp; omega) (S_gFlagged (G.le l).toGR ⟨_, rfl, ?_⟩)
    rw [flag_at (by omega)]
    refine push1 own (by decide) l (by omega) rfl rfl (by rw [boV_len, List.length_take]; simp; omega) fun r2 h2 p' c' h3 hr2 l2 l3 own' _ _ => ?_
    rw [w1 (by omega)]
    refine ih (j + 1) h3 p' c' (by omega) l3 ?_
    have hx : u.fl[j]? = some (u.fl.getD j false) := by rw [List.getD_eq_getElem?_getD, List.getElem?_eq_getElem (by omega)]; rfl
    have htk : boV (u.fl.take (j + 1)) = boV (u.fl.take j) ++ [.bool (u.fl.getD j false)] := by
      rw [List.take_add_one, hx]
      unfold boV
      rw [List.map_append]; rfl
    rw [htk]
    exact own'
theorem holds_0 {he : Heap} (X : Ops he q l) (hn : l.length = n) (hs : n ≤ 1000) (hI : ∀ y ∈ l, OpI y) (hb : ∀ y ∈ l, y.b.length ≤ 20) (h16 : N ≤ 16) :
    ∀ (m j : Nat) (h0 h : Heap) (x : GuF) (u : Gu), m + j = n → he.le h0 → GD h0 h x u → u.held → u.fl.length = N → L_law10_RiskHolds_0 lq N lc (some ⟨x.g, 0, none⟩) q n qc (n : Int) (j : Int) h (GoodR he) := by
  intro m
  induction m with
  | zero =>
    intro j h0 h x u hj l0 G hd hN
    refine L_law10_RiskHolds_0r _ _ _ _ _ _ _ _ _ _ _ ?_
    unfold L_law10_RiskHolds_0T
    exact Br.no (by simp; omega) (goodR (Heap.le_trans l0 G.b))
  | succ m ih =>
    intro j h0 h x u hj l0 G hd hN
    refine L_law10_RiskHolds_0r _ _ _ _ _ _ _ _ _ _ _ ?_
    unfold L_law10_RiskHolds_0T
    have hx : l[j]? = some l[j] := List.getElem?_eq_getElem (by omega)
    have hmem : l[j] ∈ l := List.getElem_mem _
    generalize l[j] = o at *
    refine Br.yes (by simp; omega) (ox (X.le (Heap.le_trans l0 G.b)) hn rfl hx (newB_cp (vs := opV1 o) rfl fun r h1 hr l1 A cs => ⟨cs, ?_⟩))
    show L_law10_RiskHolds_1 lq N lc (some ⟨x.g, 0, none⟩) r none 0 0 q n qc (n : Int) (j : Int) (N : Int) ((0 : Nat) : Int) (h1.setN r 0 (opV1 o)) (GoodR he)
    generalize h1.setN r 0 (opV1 o) = H at *
    have G1 := G.le l1
    refine holds_1 hN h16 G1 (fun h2 wp wc l2 own => ?_) N 0 H none 0 rfl H.le_refl (by rw [List.take_zero]; exact OwnL.nil _ _ _)
    refine L_law10_RiskHolds_1r _ _ _ _ _ _ _ _ _ _ _ _ _ _ _ _ _ ?_
    unfold L_law10_RiskHolds_1T
    have G2 := G1.le l2
    have A2 := A.le l2
    obtain ⟨g1, y, lt, Gt, yg, yp, keep⟩ := G2.topX
    have At1 : At g1 r (opV1 o) := keep _ _ (G.toGR.outE hr) A2
    have Iw : rdL g1 wp (boV u.fl) := by
      rcases own with ⟨e, _, _⟩ | ⟨p5, sp5, e5, z5, a5, _⟩
      · rw [e]; exact .inl rfl
      · rw [e5]; exact (keep _ _ (G1.toGR.outE z5) a5).toRd
    have lx1 := Heap.le_trans l0 lt
    obtain ⟨len', ok'⟩ := doR_len u G.ok o
    have hd' := doR_held G.ok hd o
    rw [← yg]
    refine Br.no (by simp) ⟨_, A2.cell rfl, _, A2.cell rfl, _, A2.cell rfl, _, A2.cell rfl, _, A2.cell rfl, _, A2.cell rfl, _, _, _, A2.cell rfl, S_do10 Gt (rdL_le lx1 (X.2 o hmem)) (hI o hmem) (hb o hmem) fun h3 x3 G3 e3 p3 => ⟨_, rfl, _, (At1.le G3.b).cell rfl, ?_⟩⟩
    rw [← e3]
    have fin : L_law10_RiskHolds_2 lq N lc (some ⟨x3.g, 0, none⟩) r wp N wc q n qc (n : Int) (j : Int) (N : Int) ((0 : Nat) : Int) h3 (GoodR he) := by
      refine holds_2 hN (len'.trans hN) h16 hd' At1 Iw (fun e2 e3 e5 e6 m hm => doR_flag e2 e3 e5 e6 hm) (fun h4 G4 => ?_) N 0 h3 rfl G3
      rw [w1 (by omega)]
      exact ih (j + 1) g1 h4 x3 _ (by omega) lx1 G4 hd' (len'.trans hN)
    refine Br.intro (fun g0 => ?_) fun _ => fin
    have g0 : o.d = 0 := by simpa using g0
    refine Br.no ?_ fin
    have : (doR u o).1 = (rIn u o.m o.c o.a).1 := by unfold doR; rw [if_pos g0]
    rw [this]
    have := rIn_10 (u := u) o.m o.c o.a
    simpa using this
end
theorem newU_held (T : List Cur) (S : Lg) (ls : List LmV) : (newU T S ls).held := judge_held _
theorem newU_len (T : List Cur) {n w : Nat} (ls : List LmV) : (newU T (newG n w) ls).fl.length = n := by
  show (List.map _ (List.range (List.replicate (newG n w).M.length false).length)).length = n
  rw [List.length_map, List.length_range, List.length_replicate]
  unfold newG
  rw [List.length_replicate]
theorem law10_RiskHolds_ok {h : Heap} {tp : Option Addr} {tn tc : Nat} (HT : curSh.Has h [.slice tp tn tc]) {lq : Option Addr} {ln lc : Nat} (HL : (Sh.sl lmSt).Has h [.slice lq ln lc]) {q : Option Addr} {n qc : Nat} (HO : opsSh.Has h [.slice q n qc]) :
    CallA Try.prog fn_law10_RiskHolds [slice tp tn tc, slice lq ln lc, slice q n qc] h fun v h' => v = .bool true ∧ h.le h' := by
  obtain ⟨tmax, T, hT, CT, _⟩ := curs_of HT
  obtain ⟨lmax, ls, hls, XL, hLI⟩ := lm_of HL
  obtain ⟨omax, l, hl, X, hI, _⟩ := ops_of HO
  refine F_law10_RiskHolds _ _ _ _ _ _ _ _ _ _ _ ?_
  unfold F_law10_RiskHoldsT
  refine S_law10_awake fun h1 l1 => ⟨_, rfl, Br.no rfl (S_large10 (XL.le l1) hls lmax (X.le l1) hl omax fun b hb => ⟨_, rfl, ?_⟩)⟩
  cases b with
  | true => exact Br.yes rfl (goodR l1)
  | false =>
    obtain ⟨h30, t20, l20, hb20, hs20⟩ := hb rfl
    refine Br.no rfl (S_made10 l1 CT hT (by omega) XL hls (by omega) hLI (fun y hy => by have := hs20 y hy; omega) (fun h2 l2 => ⟨_, rfl, Br.yes rfl (goodR (Heap.le_trans l1 l2))⟩) fun h2 x G n1 n16 _ => ⟨_, rfl, Br.no rfl ?_⟩)
    exact holds_0 X hl (by omega) hI hb20 n16 n 0 h1 h2 x _ rfl l1 G (newU_held _ _ _) (newU_len _ _)
end Go.Proofs.Ytghdadniddoboaa
