import Derived.Test.YtghdadniddoboaaGreatM17
import Derived.Test.YtghdadniddoboaaGreatM12
import Derived.Test.YtghdadniddoboaaGreatM15
import Derived.Test.YtghdadniddoboaaGreatM05
import Derived.Test.YtghdadniddoboaaGreatM11
import Derived.Test.YtghdadniddoboaaGreatM07
import Derived.Test.YtghdadniddoboaaGreatM08
import Derived.Test.YtghdadniddoboaaGreatM06
/- The law RiskHolds. -/

namespace Go.Proofs.YtghdadniddoboaaGreat
open Go Go.Sy Go.Value
set_option linter.unusedVariables false
set_option linter.unusedSimpArgs false

theorem S_law10_awake {h : Heap} {K : Value → Heap → Prop} (k : ∀ h', h.le h' → K (.bool true) h') : CallA Tryz.prog fn_law10_awake [] h K := by
  refine F_law10_awake _ _ ?_
  unfold F_law10_awakeT
  refine newB_at fun r h1 hr l1 Ar => ?_
  have Ct : Curs h1 (some ⟨r, 0, none⟩) gT := (show At h1 r (curV gT ++ []) from Ar).toRd
  refine S_lNew (fun e => absurd e (by decide)) fun n w en ew _ _ _ _ h2 p B C sp l2 A2 np nB => ⟨_, _, rfl, ?_⟩
  have en : n = 2 := by omega
  have ew : w = 2 := by omega
  subst en ew
  refine Br.no rfl (newB_at fun r1 h3 z1 l3 A3 => newB_at fun r2 h4 z2 l4 A4 => newB_at fun r3 h5 z3 l5 A5 => ?_)
  have l25 := Heap.le_trans l3 (Heap.le_trans l4 l5)
  have hE : ∀ {b : Nat}, h2 b = none → (fun b => b == p || b == B) b = false := fun e => by
    have e1 := A2.ap.ne e
    have e2 := A2.ab.ne e
    show (_ == p || _ == B) = false
    rw [Bool.or_eq_false_iff]
    exact ⟨by simpa using fun e => e1 e.symm, by simpa using fun e => e2 e.symm⟩
  have z2' := none_of_le l3 z2
  have z3' := none_of_le l3 (none_of_le l4 z3)
  have X1 := At.wo (D := fun b => b == p || b == B) (A3.le (Heap.le_trans l4 l5)) (hE z1)
  have X2 := At.wo (D := fun b => b == p || b == B) (A4.le l5) (hE z2')
  have X3 := At.wo (D := fun b => b == p || b == B) A5 (hE z3')
  have l15 : h1.le (h5.wo fun b => b == p || b == B) := le_wo (Heap.le_trans l2 l25) fun b hb => by
    have hb : b = p ∨ b = B := by simpa using hb
    rcases hb with rfl | rfl
    · exact np
    · exact nB
  have lg : h.le (h5.wo fun b => b == p || b == B) := Heap.le_trans l1 l15
  have ip : ∀ a : Int, -1000 ≤ a → a ≤ 1000 → I64 a := fun a h1 h2 => by unfold I64; omega
  have iA : ∀ {g : Heap}, At g r1 [.int .i64 0, .int .i64 100] → LmI g ⟨some ⟨r1, 0, none⟩, 2, ⟨[0, 100], 50⟩⟩ := fun a => ⟨at_rd0 a, fun y hy => (by
    simp only [List.mem_cons, List.not_mem_nil, or_false] at hy
    rcases hy with rfl | rfl <;> exact ip _ (by decide) (by decide)), ip 50 (by decide) (by decide)⟩
  have iB : ∀ {g : Heap}, At g r2 [.int .i64 0, .int .i64 0] → LmI g ⟨some ⟨r2, 0, none⟩, 2, ⟨[0, 0], 0⟩⟩ := fun a => ⟨at_rd0 a, fun y hy => (by
    simp only [List.mem_cons, List.not_mem_nil, or_false] at hy
    rcases hy with rfl | rfl <;> exact ip _ (by decide) (by decide)), ip 0 (by decide) (by decide)⟩
  have e0 : newE gT (newG 2 2) [⟨some ⟨r1, 0, none⟩, 2, ⟨[0, 100], 50⟩⟩, ⟨some ⟨r2, 0, none⟩, 2, ⟨[0, 0], 0⟩⟩] = 0 := by kernel_rfl
  have e1 : newE gT (newG 2 2) [⟨some ⟨r1, 0, none⟩, 2, ⟨[0, 100], 50⟩⟩] = 1 := by kernel_rfl
  refine S_rNew (h0 := h5.wo fun b => b == p || b == B) (T := gT) (S := newG 2 2) (l0 := [⟨some ⟨r1, 0, none⟩, 2, ⟨[0, 100], 50⟩⟩, ⟨some ⟨r2, 0, none⟩, 2, ⟨[0, 0], 0⟩⟩]) (wo_le _ _) (Ct.le (Heap.le_trans l2 l25)) rfl (by decide) (A2.le l25) (wo_none (by simp)) (wo_none (by simp)) (newG_ok (by decide) (by decide) (by decide) (by decide)) (at_rd0 X3) rfl (by decide) (fun y hy => ?_) (fun y hy => ?_) (fun e => absurd e0 e) fun _ h6 x G ep => ⟨_, _, rfl, by decide, by decide, ?_⟩
  · simp only [List.mem_cons, List.not_mem_nil, or_false] at hy
    rcases hy with rfl | rfl
    · exact iA X1
    · exact iB X2
  · simp only [List.mem_cons, List.not_mem_nil, or_false] at hy
    rcases hy with rfl | rfl <;> exact (show 2 ≤ 1000000 by decide)
  have G : GD _ h6 x gu0 := G
  generalize (h5.wo fun b => b == p || b == B) = g0 at *
  subst ep
  have nE : ∀ {b : Nat} {vs : List Value}, At g0 b vs → (fun b => b == x.p || b == x.B) b = false := fun a => by
    have lk := Heap.le_trans G.base G.ck
    have e1 := a.ne (none_of_le lk G.W.np)
    have e2 := a.ne (none_of_le lk G.W.nB)
    show (_ == x.p || _ == x.B) = false
    rw [Bool.or_eq_false_iff]
    exact ⟨by simpa using e1, by simpa using e2⟩
  have b6 := G.b
  refine S_rNew (h0 := h6.wo fun b => b == x.p || b == x.B) (T := gT) (S := newG 2 2) (l0 := [⟨some ⟨r1, 0, none⟩, 2, ⟨[0, 100], 50⟩⟩]) (wo_le _ _) (Ct.le (Heap.le_trans l15 b6)) rfl (by decide) G.W.LA (wo_none (by simp)) (wo_none (by simp)) (newG_ok (by decide) (by decide) (by decide) (by decide)) (show At _ r3 ([slice (some ⟨r1, 0, none⟩) 2 2, .int .i64 50] ++ [slice (some ⟨r2, 0, none⟩) 2 2, .int .i64 0]) from At.wo (D := fun b => b == x.p || b == x.B) (X3.le b6) (nE X3)).toRd rfl (by decide) (fun y hy => ?_) (fun y hy => ?_) (fun _ h7 l7 LA7 => ⟨_, _, rfl, Br.no rfl ?_⟩) (fun e => by rw [e1] at e; cases e)
  · rw [List.mem_singleton] at hy
    subst hy
    exact iA (At.wo (D := fun b => b == x.p || b == x.B) (X1.le b6) (nE X1))
  · rw [List.mem_singleton] at hy
    subst hy
    exact (show 2 ≤ 1000000 by decide)
  rw [e1]
  have G7 := G.relay l7 LA7
  refine S_gIn G7 (ip _ (by decide) (by decide)) fun h8 x8 G8 a8 q8 => ⟨_, rfl, ?_⟩
  have G8 : GD _ h8 x8 gu1 := G8
  rw [show (rIn gu0 0 0 100).1 = 0 from g_1, ← a8]
  refine S_gIn G8 (ip _ (by decide) (by decide)) fun h9 x9 G9 a9 q9 => ⟨_, rfl, newB_at fun s1 h10 s1z l10 As1 => ?_⟩
  have G9 : GD _ h9 x9 gu2 := G9
  rw [show (rIn gu1 1 1 100).1 = 0 from g_2, ← a9]
  have pI : ∀ (b : List Pst), (∀ y ∈ b, -1000 ≤ y.m ∧ y.m ≤ 1000 ∧ -1000 ≤ y.c ∧ y.c ≤ 1000 ∧ -1000 ≤ y.a ∧ y.a ≤ 1000) → ∀ y ∈ b, I64 y.m ∧ I64 y.c ∧ I64 y.a := fun b hb y hy => by
    have := hb y hy
    exact ⟨ip _ (by omega) (by omega), ip _ (by omega) (by omega), ip _ (by omega) (by omega)⟩
  have i1 := pI gb1 (by decide)
  have i2 := pI gb2 (by decide)
  have i3 := pI gb3 (by decide)
  refine S_gFails (b := gb1) (G9.le l10) (at_rd0 As1) rfl (by decide) (fun y hy => (i1 y hy).2.2) fun h11 l11 => ⟨_, rfl, newB_at fun s2 h12 s2z l12 As2 => ?_⟩
  rw [g_f]
  have G12 := (G9.le l10).le l11
  obtain ⟨g1, y1, lt1, Gt1, yg1, yp1, kp1⟩ := (G12.le l12).topX
  rw [← yg1]
  refine S_gBook (b := gb2) Gt1 (at_rd0 (kp1 _ _ (G12.toGR.outE s2z) As2)) rfl (by decide) i2 fun h13 x13 G13 a13 q13 => ⟨_, rfl, newB_at fun s3 h14 s3z l14 As3 => ?_⟩
  have G13 : GD _ h13 x13 gu3 := G13
  rw [show (rBook gu2 gb2).1 = 0 from g_3]
  rw [← a13]
  obtain ⟨g2, y2, lt2, Gt2, yg2, yp2, kp2⟩ := (G13.le l14).topX
  rw [← yg2]
  refine S_gBook (b := gb3) Gt2 (at_rd0 (kp2 _ _ (G13.toGR.outE s3z) As3)) rfl (by decide) i3 fun h15 x15 G15 a15 q15 => ⟨_, rfl, ?_⟩
  have G15 : GD _ h15 x15 gu4 := G15
  rw [show (rBook gu3 gb3).1 = 10 from g_4]
  rw [← a15]
  refine S_gRate G15 fun h16 x16 G16 a16 q16 => ⟨_, rfl, ?_⟩
  have G16 : GD _ h16 x16 gu5 := G16
  rw [show (rTurn gu4 (wRate gu4.T 1 12600)).1 = 0 from g_5, ← a16]
  refine S_gOut G16 (ip _ (by decide) (by decide)) fun h17 x17 G17 a17 q17 => ⟨_, rfl, ?_⟩
  have G17 : GD _ h17 x17 gu6 := G17
  rw [show (rOut gu5 0 0 1).1 = 10 from g_6, ← a17]
  refine S_gOut G17 (ip _ (by decide) (by decide)) fun h18 x18 G18 a18 q18 => ⟨_, rfl, ?_⟩
  have G18 : GD _ h18 x18 gu7 := G18
  rw [show (rOut gu6 1 1 10).1 = 0 from g_7, ← a18]
  have q : x18.p = x.p := q18.trans (q17.trans (q16.trans ((q15.trans yp2).trans ((q13.trans yp1).trans (q9.trans q8)))))
  refine Br.yes rfl (Br.yes rfl (Br.yes rfl (Br.yes rfl (Br.yes rfl (Br.yes rfl (Br.yes rfl (Br.yes rfl (S_gFlagged G18.toGR ⟨_, rfl, Br.yes g_f0 (S_gFlagged G18.toGR ⟨_, rfl, Br.yes (by rw [g_f1]; rfl) (S_gFlagged G18.toGR ⟨_, rfl, Br.yes (by rw [g_f2]; rfl) (Br.yes rfl (Br.yes rfl ?_))⟩)⟩)⟩))))))))
  rw [← q]
  refine S_lGet G18.W.LA ⟨_, rfl, Ret.mk ?_⟩
  rw [g_get]
  exact k h18 (Heap.le_trans lg (Heap.le_trans lt1 (Heap.le_trans lt2 G18.b)))
def GoodR (h0 : Heap) (v : Value) (h' : Heap) : Prop := v = .bool true ∧ h0.le h'
theorem goodR {h0 h : Heap} (l : h0.le h) : Ret h (GoodR h0) (.bool true) := Ret.mk ⟨rfl, l⟩
theorem flag_at {u : Gu} {m : Nat} (hm : m < u.fl.length) : u.flag (m : Int) = u.fl.getD m false := by
  unfold Gu.flag
  rw [decide_eq_true (by omega), Bool.true_and, Int.toNat_natCast]
theorem doR_len (u : Gu) (o : u.Ok) (x : OpR) : (doR u x).2.fl.length = u.fl.length ∧ (doR u x).2.Ok := by
  have j : ∀ v : Gu, v.judge.fl.length = v.fl.length := fun v => by show (List.map _ _).length = _; rw [List.length_map, List.length_range]
  have tn : ∀ t : Option (List Cur), (∀ T, t = some T → tabE T = 0 ∧ T.length = u.T.length) → (rTurn u t).2.fl.length = u.fl.length ∧ (rTurn u t).2.Ok := fun t ht => by
    unfold rTurn
    cases t with
    | none => exact ⟨rfl, o⟩
    | some T => exact ⟨j _, (o.setT (ht T rfl).1 (ht T rfl).2).judge⟩
  have an : ∀ r : Int × Lg, r.2.Ok → szB u.S r.2 → (rAnew u r).2.fl.length = u.fl.length ∧ (rAnew u r).2.Ok := fun r ho hz => by
    unfold rAnew
    dsimp only
    split
    · exact ⟨j _, (o.setS ho hz).judge⟩
    · exact ⟨rfl, o⟩
  unfold doR
  split
  · by_cases e : (rIn u x.m x.c x.a).1 = 0
    · obtain ⟨i, _, hi, _, _, e2⟩ := rIn_ok e
      rw [e2]
      exact ⟨List.length_set, (o.setS (inG_ok o.o _ _ _) (inG_sz _ _ _ _)).setF _ _⟩
    · rw [rIn_err e]; exact ⟨rfl, o⟩
  split
  · by_cases e : (rOut u x.m x.c x.a).1 = 0
    · obtain ⟨i, _, hi, _, _, _, e2⟩ := rOut_ok e
      rw [e2]
      exact ⟨rfl, o.setS (outG_ok o.o _ _ _) (outG_sz _ _ _ _)⟩
    · rw [rOut_err e]; exact ⟨rfl, o⟩
  split
  · exact tn _ fun T e => by have := wRate_tab o.tab x.c x.a; rw [e] at this; exact this
  split
  · exact tn _ fun T e => by have := wCut_tab o.tab x.c x.a; rw [e] at this; exact this
  split
  · exact an _ (postG_ok o.o _) (postG_sz _ _)
  split
  · exact an _ (swapG_ok o.o _ _ _ _ _) (swapG_sz _ _ _ _ _ _)
  · by_cases e : (rBook u x.b).1 = 0
    · obtain ⟨_, _, e2⟩ := rBook_ok e
      rw [e2]
      exact ⟨rfl, o.setS (postG_ok o.o _) (postG_sz _ _)⟩
    · rw [rBook_err e]; exact ⟨rfl, o⟩
section
variable {K : Value → Heap → Prop} {lq : Option Addr} {N lc : Nat} {q : Option Addr} {l : List OpR} {n qc : Nat}
end
theorem newU_len (T : List Cur) {n w : Nat} (ls : List LmV) : (newU T (newG n w) ls).fl.length = n := by
  show (List.map _ (List.range (List.replicate (newG n w).M.length false).length)).length = n
  rw [List.length_map, List.length_range, List.length_replicate]
  unfold newG
  rw [List.length_replicate]
end Go.Proofs.YtghdadniddoboaaGreat

/- Two guards side by side; greater limits. -/
namespace Go.Proofs.YtghdadniddoboaaGreat
open Go Go.Sy Go.Value
set_option linter.unusedVariables false
set_option linter.unusedSimpArgs false

section
variable {h0 h : Heap} {K : Value → Heap → Prop} {x y : GuF} {u v : Gu}
theorem GuF.E_t {x : GuF} {N b : Nat} (h : x.E N b = true) : LWD x.p x.B x.f N b = true ∨ b = x.fb := by
  unfold GuF.E at h
  rw [Bool.or_eq_true] at h
  exact h.imp_right fun h => by simpa using h
theorem GuF.E_f {x : GuF} {N b : Nat} (h : x.E N b = false) : LWD x.p x.B x.f N b = false ∧ b ≠ x.fb := by
  unfold GuF.E at h
  rw [Bool.or_eq_false_iff] at h
  exact ⟨h.1, by simpa using h.2⟩
theorem GuF.E_L {x : GuF} {N b : Nat} (h : LWD x.p x.B x.f N b = true) : x.E N b = true := by unfold GuF.E; rw [h, Bool.true_or]
theorem GuF.E_fb (x : GuF) (N : Nat) : x.E N x.fb = true := by unfold GuF.E; simp
theorem GR.noneE (G : GR h0 h x u) {b : Nat} (hb : x.E u.S.M.length b = true) : x.c b = none := by
  rcases GuF.E_t hb with hb | rfl
  · exact none_of_le G.ck (G.outK hb)
  · exact G.nf
structure Two (h0 h : Heap) (x : GuF) (u : Gu) (y : GuF) (v : Gu) : Prop where
  gx : GD h0 h x u
  gy : GD h0 h y v
  xy : ∀ b, x.E u.S.M.length b = true → y.c b = none ∧ y.E v.S.M.length b = false
  yx : ∀ b, y.E v.S.M.length b = true → x.c b = none ∧ x.E u.S.M.length b = false
theorem Two.symm (T : Two h0 h x u y v) : Two h0 h y v x u := ⟨T.gy, T.gx, T.yx, T.xy⟩
theorem Two.le {h' : Heap} (T : Two h0 h x u y v) (l : h.le h') : Two h0 h' x u y v := { T with gx := T.gx.le l, gy := T.gy.le l }
theorem wo_mono {g h : Heap} (l : g.le h) (D : Nat → Bool) : (g.wo D).le (h.wo D) := fun b o hb => by
  cases hd : D b with
  | true => rw [wo_none hd] at hb; cases hb
  | false =>
    rw [wo_get hd] at hb ⊢
    exact l b o hb
theorem GD.less (G : GD h0 h x u) (D : Nat → Bool) (z : ∀ b, D b = true → h0 b = none) (dE : ∀ b, x.E u.S.M.length b = true → D b = false) (dc : ∀ b, x.cB b → D b = false) : GD h0 h { x with c := x.c.wo D, k := x.k.wo D } u := by
  refine { base := le_wo G.base z, ck := wo_mono G.ck D, nf := none_of_le (wo_le _ _) G.nf, ag := G.ag.wo (dc _ (.inl rfl)), al := rd_wo G.al fun b o e => ?_, il := fun y hy => { G.il y hy with X := rd_wo (G.il y hy).X fun b o e => ?_ }, el := G.el, af := G.af.wo (dE _ (x.E_fb _)), ew := G.ew, W := G.W.mv (Heap.le_trans (wo_le _ _) G.W.base) (fun _ _ _ a => a) (fun b hb => none_of_le (wo_le _ _) (G.W.none' hb)), ok := G.ok, told := G.told }
  · exact dc b (.inr (.inl ⟨o, e⟩))
  · exact dc b (.inr (.inr ⟨y, hy, o, e⟩))
end
/-! greater limits -/
structure Rel (u v : Gu) : Prop where
  S : v.S = u.S
  T : v.T = u.T
  n : v.fl.length = u.fl.length
  L : ∀ m c, (u.lim m).sh.getD c 0 ≤ (v.lim m).sh.getD c 0
  A : ∀ m, (u.lim m).all ≤ (v.lim m).all
section
variable {u v : Gu}
theorem Rel.row (R : Rel u v) (m : Nat) : v.row m = u.row m := by unfold Gu.row; rw [R.S, R.T]
end
def big (n : Int) : Int := if 4611686018427387904 > n then 4611686018427387904 else n
end Go.Proofs.YtghdadniddoboaaGreat

/- The reference's net worth, shortage, and both, if a batch were done. -/
namespace Go.Proofs.YtghdadniddoboaaGreat
open Go Go.Sy Go.Value
set_option linter.unusedVariables false
set_option linter.unusedSimpArgs false

theorem chain1 (s x : Int) : chainL s [x] = if (fit (s + x)).2 ≠ 0 then (0, 3) else (s + x, 0) := by
  unfold chainL chainL
  by_cases h : I64 (s + x)
  · rw [fit_ok h, if_pos (c := -9223372036854775808 ≤ s + x ∧ s + x ≤ 9223372036854775807) h, if_neg (by simp)]
  · rw [fit_over h, if_neg (c := -9223372036854775808 ≤ s + x ∧ s + x ≤ 9223372036854775807) h, if_pos (by decide)]
section
variable {h0 : Heap} {K : Value → Heap → Prop} {tp : Option Addr} {T : List Cur} {tn tc : Nat} {q : Option Addr} {row : List Int} {n qc : Nat}
theorem ref_net (C : Curs h0 tp T) (hn : T.length = tn) (ok : T.all inbB = true) (I : Ints .i64 h0 q row) (hr : row.length = n) (hs : n ≤ 1000000) (hI : ∀ y ∈ row, I64 y) (k : ∀ h', h0.le h' → K (tuple #[.int .i64 (netW T row).1, .int .i64 (netW T row).2]) h') :
    ∀ (m j : Nat) (h : Heap) (s : Int), m + j = n → h0.le h → I64 s → chainT s (rowF (toldW T) j (row.drop j)) = netW T row → L_ref09_Net_0 tp tn tc q n qc s (j : Int) h K := by
  intro m
  induction m with
  | zero =>
    intro j h s hj l0 hs0 e
    refine L_ref09_Net_0r _ _ _ _ _ _ _ _ _ _ ?_
    unfold L_ref09_Net_0T
    rw [List.drop_eq_nil_of_le (by omega), rowF, chainT] at e
    rw [← e] at k
    exact Br.no (by simp; omega) (Ret.mk (k h l0))
  | succ m ih =>
    intro j h s hj l0 hs0 e
    refine L_ref09_Net_0r _ _ _ _ _ _ _ _ _ _ ?_
    unfold L_ref09_Net_0T
    have hx : row[j]? = some row[j] := List.getElem?_eq_getElem (by omega)
    have hm : row[j] ∈ row := List.getElem_mem _
    rw [List.drop_eq_getElem_cons (by omega : j < row.length), rowF, chainT] at e
    generalize row[j] = x at *
    refine Br.yes (by simp; omega) (ix (I.le l0) hr rfl hx (S_RWorth (C.le l0) hn ok (hI x hm) fun h1 l1 => ⟨_, _, rfl, ?_⟩))
    have et : worthR T (j : Int) x = toldW T j x := rfl
    rw [et]
    have wI : I64 (toldW T j x).1 := worthR_I _ _ _
    by_cases e1 : (toldW T j x).2 ≠ 0
    · rw [if_pos e1] at e
      rw [← e] at k
      exact Br.yes (by simpa using e1) (Ret.mk (k h1 (Heap.le_trans l0 l1)))
    rw [if_neg e1] at e
    refine Br.no (by simpa using e1) (newB_at fun r h2 hr2 l2 A => ?_)
    have I1 : Ints .i64 h2 (some ⟨r, 0, none⟩) [(toldW T j x).1] := (show At h2 r (intsV .i64 [(toldW T j x).1] ++ []) from A).toRd
    refine S_RChain (l := [(toldW T j x).1]) (by simp) (fun v hv => by rw [List.mem_singleton] at hv; subst hv; exact wI) I1 hs0 fun h3 l3 => ⟨_, _, rfl, ?_⟩
    have l03 := Heap.le_trans l0 (Heap.le_trans l1 (Heap.le_trans l2 l3))
    rw [chain1]
    by_cases e2 : (fit (s + (toldW T j x).1)).2 ≠ 0
    · rw [if_pos e2] at e
      rw [← e] at k
      rw [if_pos e2]
      exact Br.yes rfl (Ret.mk (k h3 l03))
    · rw [if_neg e2] at e
      rw [if_neg e2, w1 (by omega)]
      exact Br.no rfl (ih (j + 1) h3 _ (by omega) l03 (fit_in e2) e)
theorem S_xNet {h : Heap} (C : Curs h tp T) (hn : T.length = tn) (ok : T.all inbB = true) (I : Ints .i64 h q row) (hr : row.length = n) (hs : n ≤ 1000000) (hI : ∀ y ∈ row, I64 y) (k : ∀ h', h.le h' → K (tuple #[.int .i64 (netW T row).1, .int .i64 (netW T row).2]) h') :
    CallA Tryz.prog fn_ref09_Net [slice tp tn tc, slice q n qc] h K := by
  refine F_ref09_Net _ _ _ _ _ _ _ _ ?_
  unfold F_ref09_NetT
  exact ref_net C hn ok I hr hs hI k n 0 h 0 rfl h.le_refl I64_0 rfl
theorem toldS_pos {T : List Cur} {c : Nat} {b : Int} (h : ¬ b < 0) : toldS T c b = (0, 0) := if_neg h
theorem toldS_e {T : List Cur} {c : Nat} {b : Int} (h : b < 0) (h1 : (plainR T (c : Int) b).2 ≠ 0) : (toldS T c b).2 ≠ 0 := by
  unfold toldS
  rw [if_pos h]
  dsimp only
  have p0 : 0 ≤ (plainR T (c : Int) b).2 := by
    unfold plainR
    split
    · unfold md; split
      · decide
      · unfold fit; split <;> simp
    · decide
  split
  · omega
  · exact h1
theorem toldS_f {T : List Cur} {c : Nat} {b : Int} (h : b < 0) (h1 : (plainR T (c : Int) b).2 = 0) : toldS T c b = fit (0 - (plainR T (c : Int) b).1) := by
  unfold toldS
  rw [if_pos h, h1]
  rcases fit_03 (0 - (plainR T (c : Int) b).1) with e | e
  · have e2 : (fit (0 - (plainR T (c : Int) b).1)) = ((fit (0 - (plainR T (c : Int) b).1)).1, (fit (0 - (plainR T (c : Int) b).1)).2) := rfl
    rw [e2, e]
    simp
  · have e2 : (fit (0 - (plainR T (c : Int) b).1)) = ((fit (0 - (plainR T (c : Int) b).1)).1, (fit (0 - (plainR T (c : Int) b).1)).2) := rfl
    rw [e2, e]
    simp
theorem ref_sh (C : Curs h0 tp T) (hn : T.length = tn) (ok : T.all inbB = true) (I : Ints .i64 h0 q row) (hr : row.length = n) (hs : n ≤ 1000000) (hI : ∀ y ∈ row, I64 y) (k : ∀ h', h0.le h' → K (tuple #[.int .i64 (shW T row).1, .int .i64 (shW T row).2]) h') :
    ∀ (m j : Nat) (h : Heap) (s : Int), m + j = n → h0.le h → I64 s → chainT s (rowF (toldS T) j (row.drop j)) = shW T row → L_ref09_Short_0 tp tn tc q n qc s (j : Int) h K := by
  intro m
  induction m with
  | zero =>
    intro j h s hj l0 hs0 e
    refine L_ref09_Short_0r _ _ _ _ _ _ _ _ _ _ ?_
    unfold L_ref09_Short_0T
    rw [List.drop_eq_nil_of_le (by omega), rowF, chainT] at e
    rw [← e] at k
    exact Br.no (by simp; omega) (Ret.mk (k h l0))
  | succ m ih =>
    intro j h s hj l0 hs0 e
    refine L_ref09_Short_0r _ _ _ _ _ _ _ _ _ _ ?_
    unfold L_ref09_Short_0T
    have hx : row[j]? = some row[j] := List.getElem?_eq_getElem (by omega)
    have hm : row[j] ∈ row := List.getElem_mem _
    rw [List.drop_eq_getElem_cons (by omega : j < row.length), rowF, chainT] at e
    generalize row[j] = x at *
    refine Br.yes (by simp; omega) (ix (I.le l0) hr rfl hx (Br.dec (fun g => ?_) fun g => ix (I.le l0) hr rfl hx (S_RPlain (C.le l0) hn ok (hI x hm) fun h1 l1 => ⟨_, _, rfl, ?_⟩)))
    · rw [toldS_pos (by omega), if_neg (by decide), Int.add_zero, fit_ok hs0, if_neg (by simp)] at e
      rw [w1 (by omega)]
      exact ih (j + 1) h s (by omega) l0 hs0 e
    have hneg : x < 0 := by omega
    have l01 := Heap.le_trans l0 l1
    by_cases e1 : (plainR T (j : Int) x).2 ≠ 0
    · rw [if_pos (toldS_e hneg e1)] at e
      rw [← e] at k
      exact Br.yes (by simpa using e1) (Ret.mk (k h1 l01))
    have e1 : (plainR T (j : Int) x).2 = 0 := Classical.byContradiction e1
    rw [toldS_f hneg e1] at e
    refine Br.no (by simpa using e1) (S_Of (plainR_I _ _ _) fun v2 h2 l2 bn => ?_)
    have br := bn.raw
    obtain ⟨n1, p1, c1, d1, rfl, _⟩ := bn
    refine ⟨_, _, _, _, rfl, S_Turned br (by omega) fun v3 h3 l3 bn3 => ?_⟩
    have br3 := bn3.raw
    obtain ⟨n3, p3, c3, d3, rfl, _⟩ := bn3
    refine ⟨_, _, _, _, rfl, S_Fit br3 (by omega) fun h4 l4 => ⟨_, _, rfl, ?_⟩⟩
    have l04 := Heap.le_trans l01 (Heap.le_trans l2 (Heap.le_trans l3 l4))
    rw [show (0 : Int) - (plainR T (j : Int) x).1 = -(plainR T (j : Int) x).1 by omega] at e
    by_cases e2 : (fit (-(plainR T (j : Int) x).1)).2 ≠ 0
    · rw [if_pos e2] at e
      rw [← e] at k
      exact Br.yes (by simpa using e2) (Ret.mk (k h4 l04))
    rw [if_neg e2] at e
    refine Br.no (by simpa using e2) (newB_at fun r h5 hr5 l5 A => ?_)
    have I1 : Ints .i64 h5 (some ⟨r, 0, none⟩) [(fit (-(plainR T (j : Int) x).1)).1] := (show At h5 r (intsV .i64 [(fit (-(plainR T (j : Int) x).1)).1] ++ []) from A).toRd
    refine S_RChain (l := [(fit (-(plainR T (j : Int) x).1)).1]) (by simp) (fun v hv => by rw [List.mem_singleton] at hv; subst hv; exact fit_I' _) I1 hs0 fun h6 l6 => ⟨_, _, rfl, ?_⟩
    have l06 := Heap.le_trans l04 (Heap.le_trans l5 l6)
    rw [chain1]
    by_cases e3 : (fit (s + (fit (-(plainR T (j : Int) x).1)).1)).2 ≠ 0
    · rw [if_pos e3] at e
      rw [← e] at k
      rw [if_pos e3]
      exact Br.yes rfl (Ret.mk (k h6 l06))
    · rw [if_neg e3] at e
      rw [if_neg e3, w1 (by omega)]
      exact Br.no rfl (ih (j + 1) h6 _ (by omega) l06 (fit_in e3) e)
theorem S_xShort {h : Heap} (C : Curs h tp T) (hn : T.length = tn) (ok : T.all inbB = true) (I : Ints .i64 h q row) (hr : row.length = n) (hs : n ≤ 1000000) (hI : ∀ y ∈ row, I64 y) (k : ∀ h', h.le h' → K (tuple #[.int .i64 (shW T row).1, .int .i64 (shW T row).2]) h') :
    CallA Tryz.prog fn_ref09_Short [slice tp tn tc, slice q n qc] h K := by
  refine F_ref09_Short _ _ _ _ _ _ _ _ ?_
  unfold F_ref09_ShortT
  exact ref_sh C hn ok I hr hs hI k n 0 h 0 rfl h.le_refl I64_0 rfl
variable {b : List Pst} {bq : Option Addr} {bn bc : Nat} {m : Int}
theorem xif_1 (C : Curs h0 tp T) (hT : T.length = tn) (ok : T.all inbB = true) (Xb : Pos h0 bq b) (hb : b.length = bn) (hs : bn ≤ 1000000) (hn : n ≤ 1000000) (hr : row.length = n) (hbI : ∀ y ∈ b, I64 y.a) (hbad : ∀ y ∈ b, 0 ≤ y.c ∧ y.c < (n : Int)) {lb lc : Nat} {sp : List Value} (zl : h0 lb = none)
    (k3 : movedW m b row = none → ∀ h', h0.le h' → K (tuple #[int .i64 0, int .i64 0, int .i64 3]) h')
    (k : ∀ c, movedW m b row = some c → ∀ h', h0.le h' → K (if (netW T c).2 ≠ 0 then tuple #[int .i64 0, int .i64 0, int .i64 3] else if (shW T c).2 ≠ 0 then tuple #[int .i64 0, int .i64 0, int .i64 3] else tuple #[int .i64 (netW T c).1, int .i64 (shW T c).1, int .i64 0]) h') :
    ∀ (d j : Nat) (h : Heap) (cur : List Int), d + j = bn → h0.le h → At h lb (intsV .i64 cur ++ sp) → cur.length = n → (∀ y ∈ cur, I64 y) → movedW m (b.drop j) cur = movedW m b row → L_ref09_If_1 tp tn tc m bq bn bc (some ⟨lb, 0, none⟩) n lc (j : Int) h K := by
  intro d
  induction d with
  | zero =>
    intro j h cur hj l0 A hc hI e
    refine L_ref09_If_1r _ _ _ _ _ _ _ _ _ _ _ _ _ ?_
    unfold L_ref09_If_1T
    rw [List.drop_eq_nil_of_le (by omega), movedW] at e
    have kk := k cur e.symm
    refine Br.no (by simp; omega) (S_xNet (C.le l0) hT ok A.toRd hc hn hI fun h1 l1 => ⟨_, _, rfl, S_xShort (C.le (Heap.le_trans l0 l1)) hT ok (A.le l1).toRd hc hn hI fun h2 l2 => ⟨_, _, rfl, ?_⟩⟩)
    have l02 := Heap.le_trans l0 (Heap.le_trans l1 l2)
    by_cases e1 : (netW T cur).2 ≠ 0
    · rw [if_pos e1] at kk
      exact Br.yes (by simpa using e1) (Ret.mk (kk h2 l02))
    rw [if_neg e1] at kk
    refine Br.no (by simpa using e1) ?_
    by_cases e2 : (shW T cur).2 ≠ 0
    · rw [if_pos e2] at kk
      exact Br.yes (by simpa using e2) (Ret.mk (kk h2 l02))
    rw [if_neg e2] at kk
    exact Br.no (by simpa using e2) (Ret.mk (kk h2 l02))
  | succ d ih =>
    intro j h cur hj l0 A hc hI e
    refine L_ref09_If_1r _ _ _ _ _ _ _ _ _ _ _ _ _ ?_
    unfold L_ref09_If_1T
    have hx : b[j]? = some b[j] := List.getElem?_eq_getElem (by omega)
    have hm : b[j] ∈ b := List.getElem_mem _
    rw [List.drop_eq_getElem_cons (by omega : j < b.length), movedW] at e
    generalize b[j] = y at *
    have hya := hbI y hm
    have hyc := hbad y hm
    refine Br.yes (by simp; omega) (px (rdL_le l0 Xb) hb rfl hx (newB_cp (vs := [int .i64 y.m, int .i64 y.c, int .i64 y.a]) rfl fun s h1 zs l1 As cs => ⟨cs, _, As.cell rfl, ?_⟩))
    generalize h1.setN s 0 [int .i64 y.m, int .i64 y.c, int .i64 y.a] = H at *
    have l01 := Heap.le_trans l0 l1
    have A1 := A.le l1
    have nls := A.ne zs
    by_cases hmi : y.m ≠ m
    · rw [if_pos hmi] at e
      rw [w1 (by omega)]
      exact Br.yes (by simpa using hmi) (ih (j + 1) H cur (by omega) l01 A1 hc hI e)
    rw [if_neg hmi] at e
    obtain ⟨c, hcc⟩ : ∃ c : Nat, y.c = (c : Int) := ⟨y.c.toNat, by omega⟩
    have hcl : c < cur.length := by omega
    have hg : cur[c]? = some (cur.getD c 0) := by rw [List.getD_eq_getElem?_getD, List.getElem?_eq_getElem hcl]; rfl
    have hgI : I64 (cur.getD c 0) := hI _ (List.mem_of_getElem? hg)
    rw [hcc, Int.toNat_natCast] at e
    refine Br.no (by simpa using hmi) ⟨_, As.cell rfl, by omega, by omega, withAddr_intro rfl ⟨_, A1.cell (v := int .i64 (cur.getD c 0)) (by rw [hcc, Int.toNat_natCast, Nat.zero_add, List.getElem?_append_left (by rw [intsV_length]; exact hcl), intsV_map, List.getElem?_map, hg]; rfl), _, As.cell rfl, newB_at fun r2 h2 hr2 l2 A2 => ?_⟩⟩
    have I1 : Ints .i64 h2 (some ⟨r2, 0, none⟩) [y.a] := (show At h2 r2 (intsV .i64 [y.a] ++ []) from A2).toRd
    refine S_RChain (l := [y.a]) (by simp) (fun v hv => by rw [List.mem_singleton] at hv; subst hv; exact hya) I1 hgI fun h3 l3 => ⟨_, _, rfl, ?_⟩
    have l23 := Heap.le_trans l2 l3
    have l03 := Heap.le_trans l01 l23
    rw [chain1]
    by_cases e1 : (fit (cur.getD c 0 + y.a)).2 ≠ 0
    · rw [if_pos e1] at e
      rw [if_pos e1]
      exact Br.yes rfl (Ret.mk (k3 e.symm h3 l03))
    · rw [if_neg e1] at e
      rw [if_neg e1]
      have A3 := A1.le l23
      refine Br.no rfl ⟨_, (As.le l23).cell rfl, by omega, by omega, withAddr_intro rfl ⟨A3.canSt (by rw [List.length_append, intsV_length]; omega), ?_⟩⟩
      rw [w1 (by omega), hcc, Int.toNat_natCast, Nat.zero_add]
      refine ih (j + 1) _ (cur.set c (cur.getD c 0 + y.a)) (by omega) (le_setN l03 zl) ?_ (by rw [List.length_set]; exact hc) (fun v hv => ?_) e
      · have := A3.set (o := c) (ws := [int .i64 (cur.getD c 0 + y.a)])
        rw [setL_ints1 hcl] at this
        exact this
      · rcases List.mem_or_eq_of_mem_set hv with hv | rfl
        · exact hI v hv
        · exact fit_in e1
theorem S_xIf {h : Heap} (C : Curs h tp T) (hT : T.length = tn) (ok : T.all inbB = true) (I : Ints .i64 h q row) (hr : row.length = n) (h1n : 1 ≤ n) (hn : n ≤ 1000000) (hI : ∀ y ∈ row, I64 y) (Xb : Pos h bq b) (hb : b.length = bn) (hs : bn ≤ 1000000) (hbI : ∀ y ∈ b, I64 y.a)
    (k : ∀ h', h.le h' → K (tuple #[int .i64 (ifW T row m b).1, int .i64 (ifW T row m b).2.1, int .i64 (ifW T row m b).2.2]) h') :
    CallA Tryz.prog fn_ref09_If [slice tp tn tc, slice q n qc, int .i64 m, slice bq bn bc] h K := by
  refine F_ref09_If _ _ _ _ _ _ _ _ _ _ _ _ ?_
  unfold F_ref09_IfT
  intro r hr0
  refine (own_new (z := [int .i64 0]) hr0).push2 (by decide) (le_ins hr0) (by omega) (by rw [intsV_length, hr]; simp) (I.le (le_ins hr0)) (allCells_ints _ _) (by simp) fun p' c' h1 l1 own _ _ => ?_
  rw [Nat.zero_add]
  rw [List.nil_append] at own
  obtain ⟨lb, sp, rfl, zl, A⟩ := own_blk own (fun e => by have := congrArg List.length e; rw [intsV_length, hr, List.length_nil] at this; omega)
  have loop : ∀ (d j : Nat) (g : Heap), d + j = bn → h.le g → At g lb (intsV .i64 row ++ sp) → badC n b = badC n (b.drop j) → L_ref09_If_0 tp tn tc m bq bn bc (some ⟨lb, 0, none⟩) n c' (j : Int) g K := by
    intro d
    induction d with
    | zero =>
      intro j g hj lg Ag e
      refine L_ref09_If_0r _ _ _ _ _ _ _ _ _ _ _ _ _ ?_
      unfold L_ref09_If_0T
      rw [List.drop_eq_nil_of_le (by omega)] at e
      unfold ifW at k
      rw [hr, e, if_neg (by unfold badC; simp)] at k
      have bd : ∀ y ∈ b, 0 ≤ y.c ∧ y.c < (n : Int) := fun y hy => by
        have e' : badC n b = false := e
        unfold badC at e'
        rw [List.any_eq_false] at e'
        have := e' y hy
        simp at this
        omega
      refine Br.no (by simp; omega) (xif_1 (h0 := h) C hT ok Xb hb hs hn hr hbI bd zl (fun e h' l' => ?_) (fun c e h' l' => ?_) bn 0 g row rfl lg Ag hr hI rfl)
      · rw [e] at k
        exact k h' l'
      · rw [e] at k
        dsimp only at k
        split
        · rename_i g; rw [if_pos g] at k; exact k h' l'
        · rename_i g
          rw [if_neg g] at k
          split
          · rename_i g2; rw [if_pos g2] at k; exact k h' l'
          · rename_i g2; rw [if_neg g2] at k; exact k h' l'
    | succ d ih =>
      intro j g hj lg Ag e
      refine L_ref09_If_0r _ _ _ _ _ _ _ _ _ _ _ _ _ ?_
      unfold L_ref09_If_0T
      have hx : b[j]? = some b[j] := List.getElem?_eq_getElem (by omega)
      rw [List.drop_eq_getElem_cons (by omega : j < b.length)] at e
      generalize b[j] = y at *
      unfold badC at e
      rw [List.any_cons] at e
      have kbad : badC n b = true → ∀ h', h.le h' → K (tuple #[int .i64 0, int .i64 0, int .i64 1]) h' := fun hbd h' l' => by
        have := k h' l'
        unfold ifW at this
        rw [hr, if_pos hbd] at this
        exact this
      refine Br.yes (by simp; omega) (px (rdL_le lg Xb) hb rfl hx (newB_cp (vs := [int .i64 y.m, int .i64 y.c, int .i64 y.a]) rfl fun s g1 zs l1 As cs => ⟨cs, _, As.cell rfl, Br.dec (fun w => ?_) fun w => ⟨_, As.cell rfl, Br.dec (fun w2 => ?_) fun w2 => ?_⟩⟩))
      · exact Ret.mk (kbad (by unfold badC; rw [e, decide_eq_true w]; rfl) _ (Heap.le_trans lg l1))
      · exact Ret.mk (kbad (by unfold badC; rw [e, decide_eq_true w2, Bool.or_true]; rfl) _ (Heap.le_trans lg l1))
      · rw [decide_eq_false w, decide_eq_false w2] at e
        rw [w1 (by omega)]
        exact ih (j + 1) _ (by omega) (Heap.le_trans lg l1) (Ag.le l1) e
  exact loop bn 0 h1 rfl l1 A rfl
end
end Go.Proofs.YtghdadniddoboaaGreat

/- Rows of whole numbers in memory, each in a block of its own, behind a slice. -/
namespace Go.Proofs.YtghdadniddoboaaGreat
open Go Go.Sy Go.Value
set_option linter.unusedVariables false
set_option linter.unusedSimpArgs false

structure Rws where
  a : Option Addr
  C : Nat
  sp : List Value
  R : Nat → Nat
  CC : Nat → Nat
  SP : Nat → List Value
def slV (R CC : Nat → Nat) (w n : Nat) : List Value := (List.range n).map fun i => .slice (some ⟨R i, 0, none⟩) w (CC i)
theorem slV_len (R CC : Nat → Nat) (w n : Nat) : (slV R CC w n).length = n := by unfold slV; rw [List.length_map, List.length_range]
theorem slV_get (R CC : Nat → Nat) (w : Nat) {n i : Nat} (h : i < n) : (slV R CC w n)[i]? = some (.slice (some ⟨R i, 0, none⟩) w (CC i)) := by unfold slV; rw [List.getElem?_map, List.getElem?_range h]; rfl
theorem slV_succ {R CC R' CC' : Nat → Nat} {w n : Nat} (h : ∀ i, i < n → R' i = R i ∧ CC' i = CC i) : slV R' CC' w (n + 1) = slV R CC w n ++ [.slice (some ⟨R' n, 0, none⟩) w (CC' n)] := by
  unfold slV
  rw [List.range_succ, List.map_append]
  congr 1
  refine List.map_congr_left fun i hi => ?_
  obtain ⟨h1, h2⟩ := h i (List.mem_range.1 hi)
  rw [h1, h2]
structure RwsAt (h : Heap) (f : Rws) (M : Mx) (w : Nat) : Prop where
  pr : M.length = 0 ∨ ∃ B, f.a = some ⟨B, 0, none⟩ ∧ At h B (slV f.R f.CC w M.length ++ f.sp)
  nb : ∀ B, f.a = some ⟨B, 0, none⟩ → ∀ i, i < M.length → f.R i ≠ B
  row : ∀ i, i < M.length → At h (f.R i) (intsV .i64 (M.getD i []) ++ f.SP i)
  inj : ∀ i j, i < M.length → j < M.length → f.R i = f.R j → i = j
  sh : shM M M.length w
def Rws.D (f : Rws) (n x : Nat) : Bool := (decide (0 < n) && (match f.a with | some ⟨B, 0, Option.none⟩ => B == x | _ => false)) || (List.range n).any fun i => f.R i == x
theorem Rws.D_t {f : Rws} {n x : Nat} (h : f.D n x = true) : (0 < n ∧ f.a = some ⟨x, 0, none⟩) ∨ ∃ i, i < n ∧ f.R i = x := by
  unfold Rws.D at h
  rw [Bool.or_eq_true, Bool.and_eq_true, List.any_eq_true] at h
  rcases h with ⟨h1, h2⟩ | ⟨i, hi, h⟩
  · split at h2
    · rename_i B e
      have : B = x := by simpa using h2
      exact .inl ⟨by simpa using h1, by rw [e, this]⟩
    · cases h2
  · exact .inr ⟨i, List.mem_range.1 hi, by simpa using h⟩
theorem Rws.D_row (f : Rws) {n i : Nat} (hi : i < n) : f.D n (f.R i) = true := by
  unfold Rws.D
  rw [Bool.or_eq_true, List.any_eq_true]
  exact .inr ⟨i, List.mem_range.2 hi, by simp⟩
theorem Rws.D_a {f : Rws} {n B : Nat} (h0 : 0 < n) (e : f.a = some ⟨B, 0, none⟩) : f.D n B = true := by
  unfold Rws.D
  rw [e]; simp [h0]
section
variable {h h0 : Heap} {f : Rws} {M : Mx} {w : Nat}
theorem RwsAt.mv {h' : Heap} (A : RwsAt h f M w) (k : ∀ b xs, f.D M.length b = true → At h b xs → At h' b xs) : RwsAt h' f M w := by
  refine { A with pr := ?_, row := fun i hi => k _ _ (f.D_row hi) (A.row i hi) }
  rcases A.pr with e | ⟨B, e, a⟩
  · exact .inl e
  · by_cases h0 : 0 < M.length
    · exact .inr ⟨B, e, k _ _ (Rws.D_a h0 e) a⟩
    · exact .inl (by omega)
theorem RwsAt.le {h' : Heap} (A : RwsAt h f M w) (l : h.le h') : RwsAt h' f M w := A.mv fun b xs _ a => a.le l
theorem RwsAt.at (A : RwsAt h f M w) {x : Nat} (e : f.D M.length x = true) : ∃ xs, At h x xs := by
  rcases Rws.D_t e with ⟨h0, e2⟩ | ⟨i, hi, rfl⟩
  · rcases A.pr with e3 | ⟨B, e3, a⟩
    · omega
    · rw [e2] at e3; cases e3; exact ⟨_, a⟩
  · exact ⟨_, A.row i hi⟩
theorem RwsAt.fresh (A : RwsAt h f M w) {x : Nat} (e : h x = none) : f.D M.length x = false := by
  cases hd : f.D M.length x with
  | false => rfl
  | true => obtain ⟨xs, a⟩ := A.at hd; exact (a.ne e rfl).elim
theorem RwsAt.cl (A : RwsAt h f M w) {i : Nat} (hi : i < M.length) : ∃ B, f.a = some ⟨B, 0, none⟩ ∧ h.cell B (0 + i) = some (.slice (some ⟨f.R i, 0, none⟩) w (f.CC i)) := by
  obtain ⟨B, e, a⟩ := A.pr.resolve_left (by omega)
  exact ⟨B, e, a.cell (by rw [Nat.zero_add, List.getElem?_append_left (by rw [slV_len]; exact hi), slV_get _ _ _ hi])⟩
theorem RwsAt.amt (A : RwsAt h f M w) {i c : Nat} (hi : i < M.length) (hc : c < w) : h.cell (f.R i) (0 + c) = some (.int .i64 (rdM M i c)) := by
  refine (A.row i hi).cell ?_
  have hl := A.sh.row hi
  rw [Nat.zero_add, List.getElem?_append_left (by rw [intsV_length]; omega), intsV_map, List.getElem?_map, List.getElem?_eq_getElem (by omega)]
  unfold rdM
  simp only [Option.map_some]
  congr 2
  rw [List.getD_eq_getElem?_getD (l := M.getD i []), List.getElem?_eq_getElem (by omega)]; rfl
theorem RwsAt.st (A : RwsAt h f M w) {i c : Nat} (hi : i < M.length) (hc : c < w) : h.canSt (f.R i) (0 + c) 1 := (A.row i hi).canSt (by rw [List.length_append, intsV_length, A.sh.row hi]; omega)
theorem setL_ints' {l : List Int} {sp : List Value} {c : Nat} {v : Int} (h : c < l.length) : setL (intsV .i64 l ++ sp) c [.int .i64 v] = intsV .i64 (l.set c v) ++ sp := by
  rw [setL, setL, setT_eq, List.set_append_left _ _ (by rw [intsV_length]; omega), intsV_map, intsV_map, List.map_set]
theorem RwsAt.wr (A : RwsAt h f M w) {i c : Nat} {v : Int} (hi : i < M.length) (hc : c < w) : RwsAt (h.setN (f.R i) (0 + c) [.int .i64 v]) f (wrM M i c v) w := by
  have hl : (wrM M i c v).length = M.length := (A.sh.wr hi).1
  have hrow := A.sh.row hi
  refine ⟨?_, ?_, ?_, ?_, ?_⟩
  · obtain ⟨B, e, a⟩ := A.pr.resolve_left (by omega)
    rw [hl]
    exact .inr ⟨B, e, a.set_ne (fun x => A.nb B e i hi x.symm)⟩
  · rw [hl]; exact A.nb
  · rw [hl]
    intro j hj
    by_cases e : j = i
    · subst e
      have := (A.row j hj).set (o := 0 + c) (ws := [.int .i64 v])
      rw [Nat.zero_add, setL_ints' (by omega)] at this
      have eg : (wrM M j c v).getD j [] = (M.getD j []).set c v := by
        unfold wrM
        rw [List.getD_eq_getElem?_getD, List.getElem?_set_self hj]; rfl
      rw [eg, Nat.zero_add]
      exact this
    · have eg : (wrM M i c v).getD j [] = M.getD j [] := by
        unfold wrM
        rw [List.getD_eq_getElem?_getD, List.getElem?_set_ne (fun x => e x.symm), ← List.getD_eq_getElem?_getD]
      rw [eg]
      exact (A.row j hj).set_ne (fun x => e (A.inj j i hj hi x))
  · rw [hl]; exact A.inj
  · rw [hl]; exact A.sh.wr hi
theorem RwsAt.get (A : RwsAt h f M w) {i c : Nat} (hi : i < M.length) (hc : c < w) {Q : Int → Prop} (kk : Q (rdM M i c)) :
    withAddr f.a fun b o => ∃ a n m, h.cell b (o + (i : Int).toNat) = some (.slice a n m) ∧ 0 ≤ (c : Int) ∧ (c : Int) < (n : Int) ∧ withAddr a fun b o => ∃ n, h.cell b (o + (c : Int).toNat) = some (.int .i64 n) ∧ Q n := by
  obtain ⟨B, e, g⟩ := A.cl hi
  exact withAddr_intro e ⟨_, _, _, g, by omega, by omega, withAddr_intro rfl ⟨_, A.amt hi hc, kk⟩⟩
end
structure RwB (h0 h : Heap) (a : Option Addr) (C : Nat) (R CC : Nat → Nat) (SP : Nat → List Value) (M : Mx) (w : Nat) : Prop where
  base : h0.le h
  own : OwnL h0 h [.slice none 0 0] a C (slV R CC w M.length)
  row : ∀ i, i < M.length → At h (R i) (intsV .i64 (M.getD i []) ++ SP i)
  nr : ∀ i, i < M.length → h0 (R i) = none
  inj : ∀ i j, i < M.length → j < M.length → R i = R j → i = j
  na : ∀ i, i < M.length → a ≠ some ⟨R i, 0, none⟩
  sh : ∀ r ∈ M, r.length = w
section
variable {h0 h : Heap} {a : Option Addr} {C w : Nat} {R CC : Nat → Nat} {SP : Nat → List Value} {M : Mx}
theorem RwB.nil (h0 h : Heap) (l : h0.le h) (w : Nat) : RwB h0 h none 0 (fun _ => 0) (fun _ => 0) (fun _ => []) [] w := ⟨l, OwnL.nil _ _ _, fun i hi => absurd hi (by simp), fun i hi => absurd hi (by simp), fun i _ hi => absurd hi (by simp), fun i hi => absurd hi (by simp), fun r hr => by cases hr⟩
theorem RwB.le {h' : Heap} (I : RwB h0 h a C R CC SP M w) (l : h.le h') : RwB h0 h' a C R CC SP M w := { I with base := Heap.le_trans I.base l, own := I.own.le l, row := fun i hi => (I.row i hi).le l }
theorem RwB.set (I : RwB h0 h a C R CC SP M w) {x o : Nat} {ws : List Value} (nx : h0 x = none) (n1 : a ≠ some ⟨x, 0, none⟩) (n2 : ∀ i, i < M.length → R i ≠ x) : RwB h0 (h.setN x o ws) a C R CC SP M w :=
  { I with base := le_setN I.base nx, own := I.own.set_ne n1, row := fun i hi => (I.row i hi).set_ne (n2 i hi) }
theorem RwB.push {t : TypeId} (I : RwB h0 h a C R CC SP M w) {r c : Nat} {row : List Int} {sp : List Value} (nr : h0 r = none) (ar : At h r (intsV .i64 row ++ sp)) (na : a ≠ some ⟨r, 0, none⟩) (nR : ∀ i, i < M.length → R i ≠ r) (hw : row.length = w) (hs : M.length ≤ 1000000) {T : TypeId} {J : Nat → Heap → Option Addr → Nat → Heap → Prop} {n : Nat} (hn : M.length = n)
    (k : ∀ s h1 a' C' h', h s = none → h.le h1 → RwB h0 h' a' C' (fun i => if i = M.length then r else R i) (fun i => if i = M.length then c else CC i) (fun i => if i = M.length then sp else SP i) (M ++ [row]) w →
      (∀ b y, h1 b = some y → a ≠ some ⟨b, 0, none⟩ → h' b = some y) → (a' = a ∨ ∃ s, a' = some ⟨s, 0, none⟩ ∧ h1 s = none) → J s h1 a' C' h') :
    newB h [.slice (some ⟨r, 0, none⟩) w c] T fun s h1 => AppA [.slice none 0 0] t h1 a n C 1 (some ⟨s, 0, none⟩) (J s h1) := by
  subst hn
  refine push1 I.own (by decide) I.base (by omega) rfl rfl (by rw [slV_len]; simp) fun s h1 a' C' h' hs1 l1 l' w' keep how => k s h1 a' C' h' hs1 l1 ⟨l', ?_, fun i hi => ?_, fun i hi => ?_, fun i j hi hj e => ?_, fun i hi => ?_, fun x hx => ?_⟩ keep how
  · rw [List.length_append, List.length_singleton, slV_succ (R := R) (CC := CC) fun i hi => ⟨if_neg (by omega), if_neg (by omega)⟩, if_pos rfl, if_pos rfl]
    exact w'
  · rw [List.length_append, List.length_singleton] at hi
    by_cases e : i = M.length
    · subst e
      rw [if_pos rfl, if_pos rfl, List.getD_eq_getElem?_getD, List.getElem?_append_right (Nat.le_refl _), Nat.sub_self]
      exact keepAt keep (ar.le l1) na
    · rw [if_neg e, if_neg e, List.getD_eq_getElem?_getD, List.getElem?_append_left (by omega), ← List.getD_eq_getElem?_getD]
      exact keepAt keep ((I.row i (by omega)).le l1) (I.na i (by omega))
  · rw [List.length_append, List.length_singleton] at hi
    by_cases e : i = M.length
    · rw [if_pos e]; exact nr
    · rw [if_neg e]; exact I.nr i (by omega)
  · rw [List.length_append, List.length_singleton] at hi hj
    by_cases e1 : i = M.length
    · by_cases e2 : j = M.length
      · omega
      · rw [if_pos e1, if_neg e2] at e; exact (nR j (by omega) e.symm).elim
    · by_cases e2 : j = M.length
      · rw [if_neg e1, if_pos e2] at e; exact (nR i (by omega) e).elim
      · rw [if_neg e1, if_neg e2] at e; exact I.inj i j (by omega) (by omega) e
  · rw [List.length_append, List.length_singleton] at hi
    by_cases e : i = M.length
    · rw [if_pos e]; exact push_ne how (ar.le l1) na
    · rw [if_neg e]; exact push_ne how ((I.row i (by omega)).le l1) (I.na i (by omega))
  · rcases List.mem_append.1 hx with hx | hx
    · exact I.sh x hx
    · rw [List.mem_singleton] at hx; rw [hx]; exact hw
theorem RwB.fin (I : RwB h0 h a C R CC SP M w) : ∃ qs, RwsAt h ⟨a, C, qs, R, CC, SP⟩ M w ∧ ∀ x, (⟨a, C, qs, R, CC, SP⟩ : Rws).D M.length x = true → h0 x = none := by
  rcases I.own with ⟨e1, e2, e3⟩ | ⟨B, sp, e1, e2, e3, e4⟩
  · have h0' : M.length = 0 := by
      have := congrArg List.length e1
      rw [slV_len, List.length_nil] at this; exact this
    exact ⟨[], ⟨.inl h0', fun B e i hi => absurd hi (by omega), I.row, I.inj, ⟨rfl, I.sh⟩⟩, fun x hx => by
      rcases Rws.D_t hx with ⟨q, _⟩ | ⟨i, q, _⟩ <;> omega⟩
  · refine ⟨sp, ⟨.inr ⟨B, e1, e3⟩, fun B' e i hi e5 => ?_, I.row, I.inj, ⟨rfl, I.sh⟩⟩, fun x hx => ?_⟩
    · have e : a = some ⟨B', 0, none⟩ := e
      exact I.na i hi (by rw [e, ← e5])
    · rcases Rws.D_t hx with ⟨_, q⟩ | ⟨i, q, rfl⟩
      · have q : a = some ⟨x, 0, none⟩ := q
        rw [e1] at q; cases q; exact e2
      · exact I.nr i q
theorem RwB.fresh (I : RwB h0 h a C R CC SP M w) {r : Nat} (hr : h r = none) : a ≠ some ⟨r, 0, none⟩ ∧ ∀ i, i < M.length → R i ≠ r := ⟨I.own.fresh hr, fun i hi => (I.row i hi).ne hr⟩
end
end Go.Proofs.YtghdadniddoboaaGreat

/- The reference's ledger in memory: what is asked, pay-ins and pay-outs, and swaps. -/
namespace Go.Proofs.YtghdadniddoboaaGreat
open Go Go.Sy Go.Value
set_option linter.unusedVariables false
set_option linter.unusedSimpArgs false

/-! rows as wide as there are currencies -/
def cutM (S : Lg) : Mx := S.M.map (·.take S.cur)
theorem cutM_len (S : Lg) : (cutM S).length = S.M.length := by unfold cutM; rw [List.length_map]
theorem cutM_rd {S : Lg} {i c : Nat} (hc : c < S.cur) : rdM (cutM S) i c = rdM S.M i c := by
  unfold rdM cutM
  rw [List.getD_eq_getElem?_getD (l := S.M.map _), List.getElem?_map, List.getD_eq_getElem?_getD (l := S.M)]
  cases S.M[i]? with
  | none => rfl
  | some r =>
    show (r.take S.cur).getD c 0 = r.getD c 0
    rw [List.getD_eq_getElem?_getD, List.getElem?_take, if_pos hc, ← List.getD_eq_getElem?_getD]
theorem cutM_sh {S : Lg} (o : S.Sz) : shM (cutM S) (cutM S).length S.cur := ⟨rfl, fun r hr => by
  unfold cutM at hr
  obtain ⟨y, hy, rfl⟩ := List.mem_map.1 hr
  have h8 := o.sh.2 y hy
  have := o.c8
  rw [List.length_take]; omega⟩
theorem cutM_wr {S : Lg} {i c : Nat} {v : Int} (hc : c < S.cur) : cutM (wrG S i c v) = wrM (cutM S) i c v := by
  have e : (cutM S).getD i [] = ((S.M.getD i []).take S.cur) := by
    unfold cutM
    rw [List.getD_eq_getElem?_getD, List.getElem?_map, List.getD_eq_getElem?_getD]
    cases S.M[i]? with
    | none => simp
    | some r => rfl
  unfold wrM
  rw [e]
  unfold cutM wrG wrM
  dsimp only
  rw [List.map_set, List.take_set]
structure XFr where
  p : Nat
  f : Rws
  q : Nat
  qc : Nat
  qs : List Value
structure XAt (h : Heap) (g : XFr) (S : Lg) : Prop where
  ap : At h g.p [.slice g.f.a S.M.length g.f.C, .slice (some ⟨g.q, 0, none⟩) S.cur g.qc]
  rw : RwsAt h g.f (cutM S) S.cur
  nd : At h g.q (intsV .i64 (S.N.take S.cur) ++ g.qs)
  dp : g.f.D S.M.length g.p = false
  qp : g.q ≠ g.p
  dq : g.f.D S.M.length g.q = false
  sz : S.Sz
def XFr.D (g : XFr) (n x : Nat) : Bool := x == g.p || x == g.q || g.f.D n x
theorem XFr.D_t {g : XFr} {n x : Nat} (h : g.D n x = true) : x = g.p ∨ x = g.q ∨ g.f.D n x = true := by
  unfold XFr.D at h
  rw [Bool.or_eq_true, Bool.or_eq_true] at h
  rcases h with (h | h) | h
  · exact .inl (by simpa using h)
  · exact .inr (.inl (by simpa using h))
  · exact .inr (.inr h)
theorem XFr.D_p (g : XFr) (n : Nat) : g.D n g.p = true := by unfold XFr.D; simp
theorem XFr.D_q (g : XFr) (n : Nat) : g.D n g.q = true := by unfold XFr.D; simp
theorem XFr.D_f {g : XFr} {n x : Nat} (h : g.f.D n x = true) : g.D n x = true := by unfold XFr.D; rw [h, Bool.or_true]
theorem S_fit2 {a b : Int} (ha : I64 a) (hb : I64 b) {h : Heap} {Q : Int → Int → Heap → Prop} (k : ∀ h', h.le h' → Q (fit (a + b)).1 (fit (a + b)).2 h') :
    CallA Tryz.prog fn_ref01_Of [.int .i64 a] h fun (v : Value) (h : Heap) => ∃ (b1 : Bool), ∃ (a1 : Option Addr), ∃ (n : Nat), ∃ (m : Nat), v = agg #[Value.bool b1, slice a1 n m] ∧
      CallA Tryz.prog fn_ref01_Of [.int .i64 b] h fun (v : Value) (h : Heap) => ∃ (b2 : Bool), ∃ (a2 : Option Addr), ∃ (n2 : Nat), ∃ (m2 : Nat), v = agg #[Value.bool b2, slice a2 n2 m2] ∧
        CallA Tryz.prog fn_ref01_Add [agg #[Value.bool b1, slice a1 n m], agg #[Value.bool b2, slice a2 n2 m2]] h fun (v : Value) (h : Heap) => ∃ (b3 : Bool), ∃ (a3 : Option Addr), ∃ (n3 : Nat), ∃ (m3 : Nat), v = agg #[Value.bool b3, slice a3 n3 m3] ∧
          CallA Tryz.prog fn_ref01_Fit [agg #[Value.bool b3, slice a3 n3 m3]] h fun (v : Value) (h : Heap) => ∃ (x : Int), ∃ (e : Int), v = tuple #[.int .i64 x, .int .i64 e] ∧ Q x e h := by
  refine S_Of ha fun v1 h1 l1 bn1 => ?_
  have br1 := bn1.raw
  obtain ⟨n1, p1, c1, d1, rfl, _⟩ := bn1
  refine ⟨_, _, _, _, rfl, S_Of hb fun v2 h2 l2 bn2 => ?_⟩
  have br2 := bn2.raw
  obtain ⟨n2, p2, c2, d2, rfl, _⟩ := bn2
  refine ⟨_, _, _, _, rfl, S_Add_Big (br1.le l2) br2 (Nat.le_refl _) (Nat.le_refl _) (by omega) fun v3 h3 l3 bn3 => ?_⟩
  have br3 := bn3.raw
  obtain ⟨n3, p3, c3, d3, rfl, _⟩ := bn3
  exact ⟨_, _, _, _, rfl, S_Fit br3 (by omega) fun h4 l4 => ⟨_, _, rfl, k h4 (Heap.le_trans l1 (Heap.le_trans l2 (Heap.le_trans l3 l4)))⟩⟩
section
variable {h0 h : Heap} {K : Value → Heap → Prop} {g : XFr} {S : Lg}
theorem XAt.mv {h' : Heap} (A : XAt h g S) (k : ∀ b xs, g.D S.M.length b = true → At h b xs → At h' b xs) : XAt h' g S :=
  { A with ap := k _ _ (g.D_p _) A.ap, rw := A.rw.mv fun b xs d a => k b xs (XFr.D_f (by rw [← cutM_len]; exact d)) a, nd := k _ _ (g.D_q _) A.nd }
theorem XAt.le {h' : Heap} (A : XAt h g S) (l : h.le h') : XAt h' g S := A.mv fun b xs _ a => a.le l
theorem XAt.at (A : XAt h g S) {x : Nat} (e : g.D S.M.length x = true) : ∃ xs, At h x xs := by
  rcases XFr.D_t e with rfl | rfl | e2
  · exact ⟨_, A.ap⟩
  · exact ⟨_, A.nd⟩
  · exact A.rw.at (by rw [cutM_len]; exact e2)
theorem XAt.fresh (A : XAt h g S) {x : Nat} (e : h x = none) : g.D S.M.length x = false := by
  cases hd : g.D S.M.length x with
  | false => rfl
  | true => obtain ⟨xs, a⟩ := A.at hd; exact (a.ne e rfl).elim
theorem XAt.rows (A : XAt h g S) : h.cell g.p 0 = some (.slice g.f.a S.M.length g.f.C) := A.ap.cell rfl
theorem XAt.nos (A : XAt h g S) : h.cell g.p (0 + 1) = some (.slice (some ⟨g.q, 0, none⟩) S.cur g.qc) := A.ap.cell rfl
theorem XAt.getM (A : XAt h g S) {i c : Nat} (hi : i < S.M.length) (hc : c < S.cur) {Q : Int → Prop} (kk : Q (rdM S.M i c)) :
    withAddr (some ⟨g.p, 0, none⟩) fun b o => ∃ a n m, h.cell b o = some (.slice a n m) ∧ 0 ≤ (i : Int) ∧ (i : Int) < (n : Int) ∧ withAddr a fun b o => ∃ a n m, h.cell b (o + (i : Int).toNat) = some (.slice a n m) ∧ 0 ≤ (c : Int) ∧ (c : Int) < (n : Int) ∧ withAddr a fun b o => ∃ n, h.cell b (o + (c : Int).toNat) = some (.int .i64 n) ∧ Q n :=
  withAddr_intro rfl ⟨_, _, _, A.rows, by omega, by omega, A.rw.get (by rw [cutM_len]; exact hi) hc (by rw [cutM_rd hc]; exact kk)⟩
theorem XAt.nat (A : XAt h g S) {c : Nat} (hc : c < S.cur) : h.cell g.q (0 + c) = some (.int .i64 (S.N.getD c 0)) := by
  have h8 := A.sz.N8
  have c8 := A.sz.c8
  refine A.nd.cell ?_
  rw [Nat.zero_add, List.getElem?_append_left (by rw [intsV_length, List.length_take]; omega), intsV_map, List.getElem?_map, List.getElem?_take, if_pos hc, List.getElem?_eq_getElem (by omega), List.getD_eq_getElem?_getD, List.getElem?_eq_getElem (by omega)]; rfl
theorem XAt.getN (A : XAt h g S) {c : Nat} (hc : c < S.cur) {Q : Int → Prop} (kk : Q (S.N.getD c 0)) :
    withAddr (some ⟨g.p, 0, none⟩) fun b o => ∃ a n m, h.cell b (o + 1) = some (.slice a n m) ∧ 0 ≤ (c : Int) ∧ (c : Int) < (n : Int) ∧ withAddr a fun b o => ∃ n, h.cell b (o + (c : Int).toNat) = some (.int .i64 n) ∧ Q n :=
  withAddr_intro rfl ⟨_, _, _, A.nos, by omega, by omega, withAddr_intro rfl ⟨_, A.nat hc, kk⟩⟩
theorem XAt.stN (A : XAt h g S) {c : Nat} (hc : c < S.cur) : h.canSt g.q (0 + c) 1 := A.nd.canSt (by have := A.sz.N8; have := A.sz.c8; rw [List.length_append, intsV_length, List.length_take]; omega)
theorem XAt.wrR (A : XAt h g S) {i c : Nat} {v : Int} (hi : i < S.M.length) (hc : c < S.cur) (hv : I64 v) : XAt (h.setN (g.f.R i) (0 + c) [.int .i64 v]) g (wrG S i c v) := by
  have hl : (wrG S i c v).M.length = S.M.length := (A.sz.sh.wr hi).1
  have hd := g.f.D_row hi
  have hc8 : c < 8 := by have := A.sz.c8; omega
  refine ⟨?_, ?_, A.nd.set_ne fun e => ?_, by rw [hl]; exact A.dp, A.qp, by rw [hl]; exact A.dq, ?_⟩
  · rw [hl]
    exact A.ap.set_ne fun e => by rw [← e, A.dp] at hd; cases hd
  · rw [cutM_wr hc]
    exact A.rw.wr (by rw [cutM_len]; exact hi) hc
  · rw [← e, A.dq] at hd; cases hd
  · have h64 : ∀ j d, I64 (rdM (wrM S.M i c v) j d) := fun j d => by
      rw [rd_wr A.sz.sh hi hc8]; split
      · exact hv
      · exact A.sz.i64 j d
    exact { A.sz with n1 := by rw [hl]; exact A.sz.n1, n16 := by rw [hl]; exact A.sz.n16, sh := by rw [hl]; exact A.sz.sh.wr hi, i64 := h64 }
theorem XAt.wrN (A : XAt h g S) {c : Nat} {v : Int} (hc : c < S.cur) (hv : I64 v) : XAt (h.setN g.q (0 + c) [.int .i64 v]) g (wnG S c v) := by
  have h8 := A.sz.N8
  have c8 := A.sz.c8
  refine ⟨A.ap.set_ne A.qp.symm, A.rw.mv fun b xs d a => a.set_ne fun e => ?_, ?_, A.dp, A.qp, A.dq, ?_⟩
  · rw [cutM_len, e] at d
    have := A.dq
    rw [this] at d; cases d
  · have := A.nd.set (o := 0 + c) (ws := [.int .i64 v])
    rw [Nat.zero_add, setL_ints' (by rw [List.length_take]; omega)] at this
    rw [Nat.zero_add]
    show At _ g.q (intsV .i64 ((S.N.set c v).take S.cur) ++ g.qs)
    rw [List.take_set]
    exact this
  · have h64 : ∀ d, I64 ((S.N.set c v).getD d 0) := fun d => by
      rw [getD_set _ _ _ _ (by omega)]; split
      · exact hv
      · exact A.sz.n64 d
    exact { A.sz with N8 := by show (S.N.set c v).length = 8; rw [List.length_set]; exact h8, n64 := h64 }
theorem XAt.stR (A : XAt h g S) {i c : Nat} (hi : i < S.M.length) (hc : c < S.cur) : h.canSt (g.f.R i) (0 + c) 1 := A.rw.st (by rw [cutM_len]; exact hi) hc
theorem XAt.putM (A : XAt h g S) {i c : Nat} (hi : i < S.M.length) (hc : c < S.cur) {Q : Nat → Nat → Prop} (kk : Q (g.f.R i) 0) :
    withAddr (some ⟨g.p, 0, none⟩) fun b o => ∃ a n m, h.cell b o = some (.slice a n m) ∧ 0 ≤ (i : Int) ∧ (i : Int) < (n : Int) ∧ withAddr a fun b o => ∃ a n m, h.cell b (o + (i : Int).toNat) = some (.slice a n m) ∧ 0 ≤ (c : Int) ∧ (c : Int) < (n : Int) ∧ withAddr a Q := by
  obtain ⟨B, e, hcl⟩ := A.rw.cl (i := i) (by rw [cutM_len]; exact hi)
  exact withAddr_intro rfl ⟨_, _, _, A.rows, by omega, by omega, withAddr_intro e ⟨_, _, _, hcl, by omega, by omega, withAddr_intro rfl kk⟩⟩
theorem XAt.putN (A : XAt h g S) {c : Nat} (hc : c < S.cur) {Q : Nat → Nat → Prop} (kk : Q g.q 0) :
    withAddr (some ⟨g.p, 0, none⟩) fun b o => ∃ a n m, h.cell b (o + 1) = some (.slice a n m) ∧ 0 ≤ (c : Int) ∧ (c : Int) < (n : Int) ∧ withAddr a Q :=
  withAddr_intro rfl ⟨_, _, _, A.nos, by omega, by omega, withAddr_intro rfl kk⟩
theorem S_xHas (A : XAt h g S) {m c : Int} (k : K (.bool (hasB S m c)) h) : CallA Tryz.prog fn_pref08_Ledger_Has [pointer (some ⟨g.p, 0, none⟩), .int .i64 m, .int .i64 c] h K := by
  refine F_pref08_Ledger_Has _ _ _ _ _ ?_
  unfold F_pref08_Ledger_HasT
  unfold hasB at k
  refine Br.dec (fun h1 => withAddr_intro rfl ⟨_, _, _, A.rows, Br.dec (fun h2 => Br.dec (fun h3 => withAddr_intro rfl ⟨_, _, _, A.nos, Ret.mk ?_⟩) fun h3 => Ret.mk ?_) fun h2 => Ret.mk ?_⟩) fun h1 => Ret.mk ?_
  · have e : decide (0 ≤ m ∧ m < (S.M.length : Int) ∧ 0 ≤ c ∧ c < (S.cur : Int)) = decide (c < (S.cur : Int)) := decide_eq_decide.2 ⟨fun x => x.2.2.2, fun x => ⟨h1, h2, h3, x⟩⟩
    rw [e] at k; exact k
  · rw [decide_eq_false (fun x => h3 x.2.2.1)] at k; exact k
  · rw [decide_eq_false (fun x => h2 x.2.1)] at k; exact k
  · rw [decide_eq_false (fun x => h1 x.1)] at k; exact k
section
variable (l0 : h0.le h) (fr : ∀ x, g.D S.M.length x = true → h0 x = none) (A : XAt h g S)
include l0 fr A
theorem S_xIn {m c a : Int} (ha : I64 a) (k : ∀ h', h0.le h' → XAt h' g (inG S m c a).2 → K (.int .i64 (inG S m c a).1) h') : CallA Tryz.prog fn_pref08_Ledger_In [pointer (some ⟨g.p, 0, none⟩), .int .i64 m, .int .i64 c, .int .i64 a] h K := by
  refine F_pref08_Ledger_In _ _ _ _ _ _ ?_
  unfold F_pref08_Ledger_InT
  refine S_xHas A ⟨_, rfl, ?_⟩
  unfold inG at k
  by_cases hb : hasB S m c = false
  · rw [if_pos hb] at k
    rw [hb]
    exact Br.yes rfl (Ret.mk (k h l0 A))
  rw [if_neg hb] at k
  have hb : hasB S m c = true := by simpa using hb
  rw [hb]
  obtain ⟨i, j, rfl, rfl, hi, hj⟩ := hasB_t hb
  refine Br.no rfl (Br.dec (fun h2 => ?_) fun h2 => ?_)
  · rw [if_pos h2] at k
    exact Ret.mk (k h l0 A)
  rw [if_neg h2] at k
  simp only [Int.toNat_natCast] at k
  refine L_pref08_Ledger_In_1003r _ _ _ _ _ _ ?_
  unfold L_pref08_Ledger_In_1003T
  refine A.getM hi hj (S_fit2 (A.sz.i64 i j) ha fun h1 l1 => ?_)
  refine (A.le l1).getN hj (S_fit2 (A.sz.n64 j) ha fun h3 l3 => ?_)
  have l13 := Heap.le_trans l1 l3
  have l03 := Heap.le_trans l0 l13
  have A3 := A.le l13
  by_cases g1 : (fit (rdM S.M i j + a)).2 ≠ 0
  · rw [if_pos g1] at k
    exact Br.yes (by simpa using g1) (Ret.mk (k h3 l03 A3))
  rw [if_neg g1] at k
  by_cases g2 : (fit (S.N.getD j 0 + a)).2 ≠ 0
  · rw [if_pos g2] at k
    exact Br.no (by simpa using g1) (Br.yes (by simpa using g2) (Ret.mk (k h3 l03 A3)))
  rw [if_neg g2] at k
  rw [fit_e g1, fit_e g2]
  refine Br.no (by simpa using g1) (Br.no (by simpa using g2) ?_)
  refine L_pref08_Ledger_In_1007r _ _ _ _ _ _ _ ?_
  unfold L_pref08_Ledger_In_1007T
  have A4 := A3.wrR (v := rdM S.M i j + a) hi hj (fit_in g1)
  have A5 := A4.wrN (v := S.N.getD j 0 + a) hj (fit_in g2)
  exact A3.putM hi hj ⟨A3.stR hi hj, A4.putN hj ⟨A4.stN hj, Ret.mk (k _ (le_setN (le_setN l03 (fr _ (XFr.D_f (g.f.D_row hi)))) (fr _ (g.D_q _))) A5)⟩⟩
theorem S_xOut {m c a : Int} (ha : I64 a) (k : ∀ h', h0.le h' → XAt h' g (outG S m c a).2 → K (.int .i64 (outG S m c a).1) h') : CallA Tryz.prog fn_pref08_Ledger_Out [pointer (some ⟨g.p, 0, none⟩), .int .i64 m, .int .i64 c, .int .i64 a] h K := by
  refine F_pref08_Ledger_Out _ _ _ _ _ _ ?_
  unfold F_pref08_Ledger_OutT
  refine S_xHas A ⟨_, rfl, ?_⟩
  unfold outG at k
  by_cases hb : hasB S m c = false
  · rw [if_pos hb] at k
    rw [hb]
    exact Br.yes rfl (Ret.mk (k h l0 A))
  rw [if_neg hb] at k
  have hb : hasB S m c = true := by simpa using hb
  rw [hb]
  obtain ⟨i, j, rfl, rfl, hi, hj⟩ := hasB_t hb
  refine Br.no rfl (Br.dec (fun h2 => ?_) fun h2 => ?_)
  · rw [if_pos h2] at k
    exact Ret.mk (k h l0 A)
  rw [if_neg h2] at k
  simp only [Int.toNat_natCast] at k
  refine L_pref08_Ledger_Out_1003r _ _ _ _ _ _ ?_
  unfold L_pref08_Ledger_Out_1003T
  have g1 := A.sz.i64 i j
  have g2 := A.sz.n64 j
  unfold I64 at g1 g2 ha
  refine A.getM hi hj (Br.dec (fun h3 => ?_) fun h3 => A.getN hj (Br.dec (fun h4 => ?_) fun h4 => ?_))
  · rw [if_pos h3] at k
    exact Ret.mk (k h l0 A)
  · rw [if_neg h3, if_pos h4] at k
    exact Ret.mk (k h l0 A)
  rw [if_neg h3, if_neg h4] at k
  refine L_pref08_Ledger_Out_1005r _ _ _ _ _ _ ?_
  unfold L_pref08_Ledger_Out_1005T
  have e1 : IntKind.wrap IntKind.i64 (rdM S.M i j - a) = rdM S.M i j - a := wrap_i64_id (by omega) (by omega)
  have e2 : IntKind.wrap IntKind.i64 (S.N.getD j 0 - a) = S.N.getD j 0 - a := wrap_i64_id (by omega) (by omega)
  have A4 := A.wrR (v := rdM S.M i j - a) hi hj (by unfold I64; omega)
  have A5 := A4.wrN (v := S.N.getD j 0 - a) hj (by unfold I64; omega)
  obtain ⟨B, eB, hcl⟩ := A.rw.cl (i := i) (by rw [cutM_len]; exact hi)
  have hcl2 := A.rw.amt (i := i) (c := j) (by rw [cutM_len]; exact hi) hj
  rw [cutM_rd hj] at hcl2
  refine withAddr_intro rfl ⟨_, _, _, A.rows, by omega, by omega, withAddr_intro eB ⟨_, _, _, hcl, withAddr_intro rfl ⟨_, _, _, A.rows, by omega, by omega, withAddr_intro eB ⟨_, _, _, hcl, by omega, by omega, withAddr_intro rfl ⟨_, hcl2, by omega, by omega, withAddr_intro rfl ⟨A.stR hi hj, ?_⟩⟩⟩⟩⟩⟩
  try dsimp only
  simp only [Int.toNat_natCast]
  rw [e1]
  refine withAddr_intro rfl ⟨_, _, _, A4.nos, withAddr_intro rfl ⟨_, _, _, A4.nos, by omega, by (show (j : Int) < (S.cur : Int); omega), withAddr_intro rfl ⟨_, A4.nat hj, by omega, by (show (j : Int) < (S.cur : Int); omega), withAddr_intro rfl ⟨A4.stN hj, Ret.mk ?_⟩⟩⟩⟩
  rw [show (wrG S i j (rdM S.M i j - a)).N.getD j 0 = S.N.getD j 0 from rfl, e2]
  exact k _ (le_setN (le_setN l0 (fr _ (XFr.D_f (g.f.D_row hi)))) (fr _ (g.D_q _))) A5
end
end
end Go.Proofs.YtghdadniddoboaaGreat
