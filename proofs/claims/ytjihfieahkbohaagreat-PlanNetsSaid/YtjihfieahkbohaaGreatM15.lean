import Derived.Test.YtjihfieahkbohaaGreatM14
import Derived.Test.YtjihfieahkbohaaGreatM11
import Derived.Test.YtjihfieahkbohaaGreatM05
import Derived.Test.YtjihfieahkbohaaGreatM02
/- The reference's book of instructions: submitted to, rescinded, settled. -/
namespace Go.Proofs.YtjihfieahkbohaaGreat
open Go Go.Sy Go.Value
set_option linter.unusedVariables false
set_option linter.unusedSimpArgs false

theorem RBk.oth {h : Heap} {q : Nat} {S : Bk} {lp : Option Addr} {c b o : Nat} {ws : List Value} (B : RBk h q S lp c) (h1 : q ≠ b) (h2 : lp ≠ some ⟨b, 0, none⟩) : RBk (h.setN b o ws) q S lp c := ⟨B.ap.set_ne h1, B.ol.set_ne h2, B.np⟩
theorem RBk.wrM {h : Heap} {q : Nat} {S : Bk} {lp : Option Addr} {c : Nat} (B : RBk h q S lp c) (m : Nat) : RBk (h.setN q 3 [.int .i64 (m : Int)]) q { S with mat := m } lp c := ⟨B.ap.set (o := 3) (ws := [.int .i64 (m : Int)]), B.ol.set_ne B.np, B.np⟩
section
variable {h : Heap} {K : Value → Heap → Prop} {q : Nat} {S : Bk} {lp : Option Addr} {c : Nat}
theorem qWF {id : Int} {L : List En} {i : Nat} (h : qAl id L = some i) : atI id L = (i : Int) := by unfold atI; rw [h]
theorem qWm {id : Int} {L : List En} (h : qAl id L = none) : atI id L = -1 := by unfold atI; rw [h]
theorem qQm (P : RB h q S) {d : Dl} (hi : qM2 d) (k : ∀ h', RB h' q (qDG S d).2.2 → K (tuple #[.bool (qDG S d).1, .int .i64 (qDG S d).2.1]) h') :
    CallA Tryz.prog qIf [pointer (some ⟨q, 0, none⟩), dA d] h K := by
  obtain ⟨ok, lp, c, B⟩ := P
  have hn := ok.n
  refine qMt _ _ _ _ _ _ _ _ _ _ ?_
  unfold qIg
  unfold qDG at k
  refine qr fun r h1 hr l1 A => ⟨_, A.cell rfl, _, A.cell rfl, _, A.cell rfl, _, A.cell rfl, _, A.cell rfl, _, A.cell rfl, _, A.cell rfl, ?_⟩
  refine qYn (d := d) (B.le l1) fun h2 l2 => ⟨_, rfl, ?_⟩
  have nq : q ≠ r := B.ap.ne hr
  have A := A.le l2
  have B := B.le (Heap.le_trans l1 l2)

  by_cases gm : qHP S.mem S.cur d
  rotate_left
  · rw [decide_eq_false gm]
    rw [if_neg gm] at k
    exact Br.yes rfl (Ret.mk (k _ ⟨ok, lp, c, B⟩))
  rw [decide_eq_true gm]
  rw [if_pos gm] at k
  refine Br.no rfl ⟨_, A.cell rfl, qZQ B (by omega) ⟨_, rfl, ?_⟩⟩
  cases hp : qAl d.id S.L with
  | none =>
    rw [hp] at k
    dsimp only at k
    rw [qWm hp]
    refine Br.yes (by decide) (qB rfl ⟨_, _, _, B.ap.cell rfl, Br.dec (fun g => ?_) fun g => ?_⟩)
    · rw [if_pos (by omega)] at k
      exact Ret.mk (k _ ⟨ok, lp, c, B⟩)
    rw [if_neg (by omega)] at k
    refine qB rfl ⟨_, _, _, B.ap.cell rfl, _, A.cell rfl, _, A.cell rfl, _, A.cell rfl, _, A.cell rfl, _, A.cell rfl, _, A.cell rfl, _, A.cell rfl, ?_⟩
    intro r2 hr2
    have ow := qQL (T := 76) (z := z11) hr2
    have l2 : h2.le (h2.ins r2 (.cells [].toArray 76 (0, 0))) := qt hr2
    generalize h2.ins r2 (.cells [].toArray 76 (0, 0)) = h3 at *
    have ne2 : ∀ b y, h2 b = some y → (some (⟨r2, 0, none⟩ : Addr)) ≠ some ⟨b, 0, none⟩ := fun b y e g => by
      have g : r2 = b := by simpa using g
      rw [← g, hr2] at e; cases e
    refine ow.push2 (n := S.L.length) (ws := S.L.flatMap rV) (by decide) l2 (by omega) (by rw [qp qEW]; rfl) (B.le l2).arr (qKQ _) rfl fun p' c' h4 l4 ow4 keep how => ⟨.inr fun x hx y hy => ?_, ?_⟩
    · rw [List.mem_singleton] at hx
      subst hx
      refine keep x y hy ?_
      obtain ⟨T, ea⟩ := A
      exact ne2 x _ ea
    rw [List.nil_append] at ow4
    have aq : At h4 q _ := B.ap.le l4
    have np4 : p' ≠ some ⟨q, 0, none⟩ := by
      obtain ⟨T, ea⟩ := B.ap
      rcases how with rfl | ⟨s, rfl, hs⟩
      · exact ne2 q _ ea
      · intro e
        have e : s = q := by simpa using e
        rw [e, l2 q _ ea] at hs; cases hs
    refine qJi ow4 (by decide) l4 (by omega) rfl rfl (by rw [qp qEW, Nat.zero_add]; rfl) fun r5 h5 p6 c6 h6 hr5 l5 l6 ow6 keep6 how6 => ?_
    have ap6 := qKD keep6 (aq.le l5) np4
    have np6 := qK3 how6 (aq.le l5) np4
    refine qB rfl ⟨ap6.canSt (by simp), Ret.mk (k _ ⟨ok.snoc gm hi (by omega) hp, p6, c6, ?_, ?_, np6⟩)⟩
    · have := ap6.set (o := 2) (ws := [.slice p6 (0 + S.L.length + 1) c6])
      have e : (S.L ++ [(⟨d, 1, 0, 0⟩ : En)]).length = 0 + S.L.length + 1 := by simp
      dsimp only
      rw [e]
      exact this
    · have e : (S.L ++ [(⟨d, 1, 0, 0⟩ : En)]).flatMap rV = S.L.flatMap rV ++ rV ⟨d, 1, 0, 0⟩ := by rw [List.flatMap_append]; simp
      dsimp only
      rw [e]
      have w : OwnL qL1 h6 z11 p6 c6 (S.L.flatMap rV ++ rV ⟨d, 1, 0, 0⟩) := by
        rcases ow6 with x | ⟨s, sp, e1, _, a, k2⟩
        · exact .inl x
        · exact .inr ⟨s, sp, e1, rfl, a, k2⟩
      exact w.set_ne (o := 2) (ws := [.slice p6 (0 + S.L.length + 1) c6]) np6
  | some i =>
    obtain ⟨x, hx, hid⟩ := qLx hp
    have hil := (List.getElem?_eq_some_iff.1 hx).1
    rw [hp] at k
    dsimp only at k
    rw [hx] at k
    dsimp only at k
    rw [qWF hp]
    refine Br.no (by simp) (qB rfl ⟨_, _, _, B.ap.cell rfl, ax qEW B.arr rfl rfl hx (by decide) fun b o hb hc => ?_⟩)
    refine ⟨_, hc 0 (by decide), _, hc 1 (by decide), _, hc 2 (by decide), _, hc 3 (by decide), _, hc 4 (by decide), _, hc 5 (by decide), _, hc 6 (by decide), _, hc 7 (by decide), _, hc 8 (by decide), _, hc 9 (by decide), _, hc 10 (by decide), qGU (vs := rV x) rfl fun r2 h3 hr2 l3 A2 cs => ⟨cs, ?_⟩⟩
    have n2 : q ≠ r2 := B.ap.ne hr2
    have m2 : lp ≠ some ⟨r2, 0, none⟩ := B.ol.fresh hr2
    have n12 : r ≠ r2 := A.ne hr2
    have A1 := A.le l3
    have B1 := B.le l3
    have done : ∀ (e : Int), K (tuple #[.bool false, .int .i64 e]) (h3.setN r2 0 (rV x)) → Ret (h3.setN r2 0 (rV x)) K (tuple #[.bool false, .int .i64 e]) := fun e x => Ret.mk x
    refine ⟨_, A2.cell rfl, Br.intro (fun g => ?_) fun g => ?_⟩
    · rw [if_pos (.inl (by simpa using g))] at k
      exact Ret.mk (k _ ⟨ok, lp, c, B1⟩)
    have g1 : x.st = 1 := by simpa using g
    refine ⟨_, A2.cell rfl, _, A1.cell rfl, Br.intro (fun g => ?_) fun g => ?_⟩
    · rw [if_pos (.inr (by simpa using g))] at k
      exact Ret.mk (k _ ⟨ok, lp, c, B1⟩)
    have g2 : x.d.a ≠ d.a := by simpa using g
    rw [if_neg (by simp [g1, g2])] at k
    have bad : x.d ≠ qFf d → K (tuple #[.bool false, .int .i64 12]) (h3.setN r2 0 (rV x)) := fun e => by
      have : eqD x.d (qFf d) = false := by
        cases he : eqD x.d (qFf d) with
        | false => rfl
        | true => exact (e (qS9.1 he)).elim
      rw [if_pos this] at k
      exact k _ ⟨ok, lp, c, B1⟩
    refine ⟨_, A2.cell rfl, _, A1.cell rfl, Br.intro (fun g => Ret.mk (bad fun e => by simp [e, qFf] at g)) fun g3 => ?_⟩
    refine ⟨_, A2.cell rfl, _, A1.cell rfl, Br.intro (fun g => Ret.mk (bad fun e => by simp [e, qFf] at g)) fun g4 => ?_⟩
    refine ⟨_, A2.cell rfl, _, A1.cell rfl, Br.intro (fun g => Ret.mk (bad fun e => by simp [e, qFf] at g)) fun g5 => ?_⟩
    refine ⟨_, A2.cell rfl, _, A1.cell rfl, Br.intro (fun g => Ret.mk (bad fun e => by simp [e, qFf] at g)) fun g6 => ?_⟩
    refine ⟨_, A2.cell rfl, _, A1.cell rfl, Br.intro (fun g => Ret.mk (bad fun e => by simp [e, qFf] at g)) fun g7 => ?_⟩
    refine ⟨_, A2.cell rfl, _, A1.cell rfl, Br.intro (fun g => Ret.mk (bad fun e => by simp [e, qFf] at g)) fun g8 => ?_⟩
    have he : x.d = qFf d := by
      have e3 : x.d.a = d.b := by simpa using g3
      have e4 : x.d.b = d.a := by simpa using g4
      have e5 : x.d.sc = d.bc := by simpa using g5
      have e6 : x.d.bc = d.sc := by simpa using g6
      have e7 : x.d.sell = d.buy := by simpa using g7
      have e8 : x.d.buy = d.sell := by simpa using g8
      unfold qFf
      rw [← hid, ← e3, ← e4, ← e5, ← e6, ← e7, ← e8]
    rw [if_neg (by rw [qS9.2 he]; decide)] at k
    have hm := ok.mat
    have w : IntKind.wrap .i64 ((S.mat : Int) + 1) = ((S.mat + 1 : Nat) : Int) := by rw [qK (by omega) (by omega)]; omega
    have B3 := B1.wrM (S.mat + 1)
    have A3 := A2.set_ne (o := 3) (ws := [.int .i64 ((S.mat + 1 : Nat) : Int)]) (Ne.symm n2)
    refine qB rfl ⟨_, B1.ap.cell rfl, qB rfl ⟨B1.ap.canSt (by simp), ?_⟩⟩
    rw [w]
    have A4 := A3.set (o := 7) (ws := [.int .i64 2])
    have B4 := B3.oth (o := 7) (ws := [.int .i64 2]) n2 m2
    have A5 := A4.set (o := 10) (ws := [.int .i64 ((S.mat + 1 : Nat) : Int)])
    have B5 := B4.oth (o := 10) (ws := [.int .i64 ((S.mat + 1 : Nat) : Int)]) n2 m2
    refine ⟨A3.canSt (by rw [qEW]; omega), qB rfl ⟨_, B4.ap.cell rfl, A4.canSt (by simp [qBQ, qEu, rV]), ?_⟩⟩
    refine ⟨_, A5.cell rfl, _, A5.cell rfl, _, A5.cell rfl, _, A5.cell rfl, _, A5.cell rfl, _, A5.cell rfl, _, A5.cell rfl, _, A5.cell rfl, _, A5.cell rfl, _, A5.cell rfl, _, A5.cell rfl, ?_⟩
    refine qX8 (y := { x with st := 2, ord := ((S.mat + 1 : Nat) : Int) }) B5 hx (by show S.L.length ≤ 1000; omega) fun h' lp' c' B6 _ => ⟨rfl, Ret.mk (k _ ⟨ok.match hx g1, lp', c', B6⟩)⟩
end
end Go.Proofs.YtjihfieahkbohaaGreat

/- The program's book and the document's, of the same instructions. -/
namespace Go.Proofs.YtjihfieahkbohaaGreat
open Go Go.Sy Go.Value
set_option linter.unusedVariables false
set_option linter.unusedSimpArgs false

def qPt : Sh := .two (.int .i64) (.two (.int .i64) (.two (.int .i64) (.two (.int .i64) (.two (.int .i64) (.two (.int .i64) (.two (.int .i64) .nil))))))
theorem qXG {h : Heap} {cs : List Value} (H : qPt.Has h cs) : ∃ d : Dl, cs = dV d ∧ qM2 d := by
  obtain ⟨_, _, rfl, _, ⟨c0, rfl, w0⟩, _, _, rfl, _, ⟨c1, rfl, w1⟩, _, _, rfl, _, ⟨c2, rfl, w2⟩, _, _, rfl, _, ⟨c3, rfl, w3⟩, _, _, rfl, _, ⟨c4, rfl, w4⟩, _, _, rfl, _, ⟨c5, rfl, w5⟩, _, _, rfl, _, ⟨c6, rfl, w6⟩, hnil⟩ := H
  cases hnil
  exact ⟨⟨c0, c1, c2, c3, c4, c5, c6⟩, rfl, (I64.of_wf w5).2, (I64.of_wf w6).2⟩
theorem ldD {h : Heap} {x : Dl} {a b : Nat} {J : Int → Int → Int → Int → Int → Int → Int → Prop} (hc : ∀ o, o < 7 → h.cell b (a + o) = (dV x)[o]?) (k : J x.id x.a x.b x.sc x.bc x.sell x.buy) : qFt h b a J :=
  ⟨_, hc 0 (by decide), _, hc 1 (by decide), _, hc 2 (by decide), _, hc 3 (by decide), _, hc 4 (by decide), _, hc 5 (by decide), _, hc 6 (by decide), k⟩
theorem qTh {h : Heap} {x : Dl} {b : Nat} (A : At h b (dV x)) {J : Int → Int → Int → Int → Int → Int → Int → Prop} (k : J x.id x.a x.b x.sc x.bc x.sell x.buy) : qFt h b 0 J := ldD (fun o ho => A.cellO ho) k
def qZO (S : Bk) (d : Dl) : Bk := (qDG (qDG S d).2.2 (qFf d)).2.2
def qJn (l : List Dl) : Bk := l.foldl qZO ⟨16, 8, [], 0⟩
theorem qPe (l : List Dl) (d : Dl) : qJn (l ++ [d]) = (qDG (qDG (qJn l) d).2.2 (qFf d)).2.2 := by
  unfold qJn
  rw [List.foldl_append]; rfl
section
variable {h0 : Heap} {K : Value → Heap → Prop} {up : Option Addr} {l : List Dl} {uc : Nat} {p q : Nat}
theorem qZm (A : Arr dV h0 up l) (hd : ∀ d ∈ l, qM2 d) (hn : l.length ≤ 60)
    (k : ∀ H X g1 g2, SepT H X g1 g2 → h0.le X → PB g1 p (qJn l) → RB g2 q (qJn l) → K (tuple #[pointer (some ⟨p, 0, none⟩), pointer (some ⟨q, 0, none⟩)]) H) :
    ∀ (a j : Nat) (H X g1 g2 : Heap), a + j = l.length → SepT H X g1 g2 → h0.le X → PB g1 p (qJn (l.take j)) → RB g2 q (qJn (l.take j)) → qHE (some ⟨p, 0, none⟩) (some ⟨q, 0, none⟩) up l.length uc l.length j H K := by
  intro a
  induction a with
  | zero =>
    intro j H X g1 g2 hj s hX P R
    refine qLZ _ _ _ _ _ _ _ _ _ ?_
    unfold qIV
    rw [List.take_of_length_le (by omega)] at P R
    exact Br.no (by simp; omega) (Ret.mk (k H X g1 g2 s hX P R))
  | succ a ih =>
    intro j H X g1 g2 hj s hX P R
    refine qLZ _ _ _ _ _ _ _ _ _ ?_
    unfold qIV
    have hx : l[j]? = some l[j] := List.getElem?_eq_getElem (by omega)
    have hdm := hd _ (List.getElem_mem (show j < l.length by omega))
    have tk : l.take (j + 1) = l.take j ++ [l[j]] := by rw [List.take_add_one, hx]; rfl
    generalize l[j] = d at *
    have hdm2 : qM2 (qFf d) := ⟨hdm.2, hdm.1⟩
    rw [w1 (j := j) (by omega)]
    refine Br.yes (by simp; omega) (ax qYI (A.le (Heap.le_trans hX s.x)) rfl rfl hx (by decide) fun b o _ hc => ldD hc ?_)
    refine s.cp (vs := dV d) rfl fun r1 H1 X1 s1 A1 keep1 cs1 hr1 lx1 => ?_
    have B1 := A1.le s1.x
    refine ⟨cs1, _, B1.cell rfl, _, B1.cell rfl, _, B1.cell rfl, _, B1.cell rfl, _, B1.cell rfl, _, B1.cell rfl, _, B1.cell rfl, ?_⟩
    refine s1.cp (vs := dV (qFf d)) rfl fun r2 H2 X2 s2 A2 keep2 cs2 hr2 lx2 => ⟨cs2, ?_⟩
    have A1 := keep2 _ _ A1
    refine qTh (A1.le s2.x) (s2.call1 (qMm P (d := d) hdm fun g1 P H s => ⟨_, _, rfl, ?_⟩))
    refine qTh (A2.le s.x) (s.call1 (qMm P (d := qFf d) hdm2 fun g1 P H s => ⟨_, _, rfl, ?_⟩))
    refine qTh (A1.le s.x) (s.call2 (qQm R (d := d) hdm fun g2 R H s => ⟨_, _, rfl, ?_⟩))
    refine qTh (A2.le s.x) (s.call2 (qQm R (d := qFf d) hdm2 fun g2 R H s => ⟨_, _, rfl, ?_⟩))
    exact ih (j + 1) H X2 g1 g2 (by omega) s (Heap.le_trans hX (Heap.le_trans lx1 lx2)) (by rw [tk, qPe]; exact P) (by rw [tk, qPe]; exact R)
theorem qXE (A : Arr dV h0 up l) (hd : ∀ d ∈ l, qM2 d) (hn : l.length ≤ 60)
    (k : ∀ p q H X g1 g2, SepT H X g1 g2 → h0.le X → PB g1 p (qJn l) → RB g2 q (qJn l) → K (tuple #[pointer (some ⟨p, 0, none⟩), pointer (some ⟨q, 0, none⟩)]) H) :
    CallA Tryz.prog qJW [slice up l.length uc] h0 K := by
  refine qQ6 _ _ _ _ _ ?_
  unfold qMX
  have s := SepT.start h0
  refine s.new1 (qWw (fun g => (g ⟨by decide, by decide⟩).elim) fun _ p g1 _ P H s => ⟨_, _, rfl, ?_⟩)
  refine s.new2 (qX2 (fun g => (g ⟨by decide, by decide⟩).elim) fun _ q g2 _ R H s => ⟨_, _, rfl, Br.no rfl (Br.no rfl ?_)⟩)
  exact qZm A hd hn (fun H X g1 g2 s hX P R => k p q H X g1 g2 s hX P R) l.length 0 H h0 g1 g2 (by omega) s h0.le_refl P R
end
end Go.Proofs.YtjihfieahkbohaaGreat

/- Who is behind, as the reference tells it: plainly. -/
namespace Go.Proofs.YtjihfieahkbohaaGreat
open Go Go.Sy Go.Value
set_option linter.unusedVariables false
set_option linter.unusedSimpArgs false

section
variable {P : List (List Int)} {now : Int} {F W : List Du} {mo wi : Nat}
end
end Go.Proofs.YtjihfieahkbohaaGreat

/- The reference's whole numbers of any size: digits, trimming, which is larger, turning. -/
namespace Go.Proofs.YtjihfieahkbohaaGreat
open Go Go.Sy Go.Value
set_option linter.unusedVariables false
set_option linter.unusedSimpArgs false

def dig : List Int → Int
  | [] => 0
  | d :: r => d + 10000 * dig r
def okD (l : List Int) : Prop := ∀ d ∈ l, 0 ≤ d ∧ d < 10000
def sg (neg : Bool) (l : List Int) : Int := if neg then -dig l else dig l
theorem qMj {d : Int} {l : List Int} (h : okD (d :: l)) : (0 ≤ d ∧ d < 10000) ∧ okD l := ⟨h d (by simp), fun x hx => h x (by simp [hx])⟩
theorem qE8 : ∀ {l : List Int}, okD l → 0 ≤ dig l
  | [], _ => by simp [dig]
  | d :: l, h => by
    have := qE8 (qMj h).2
    have := (qMj h).1
    simp only [dig]; omega
theorem qHg : ∀ (l m : List Int), dig (l ++ m) = dig l + 10000 ^ l.length * dig m
  | [], m => by simp [dig]
  | d :: l, m => by
    simp only [List.cons_append, dig, qHg l m, List.length_cons, Int.pow_succ]
    rw [Int.mul_add, ← Int.mul_assoc, Int.mul_comm 10000 (10000 ^ l.length)]
    omega
theorem qIW {l : List Int} (h : okD l) (n : Nat) : okD (l.take n) := fun d hd => h d (List.mem_of_mem_take hd)
theorem qMh {l m : List Int} (h : okD l) (h2 : okD m) : okD (l ++ m) := fun d hd => by
  rcases List.mem_append.1 hd with e | e
  · exact h d e
  · exact h2 d e
theorem qIK {l : List Int} {n : Nat} (h : n < l.length) : dig (l.take (n + 1)) = dig (l.take n) + 10000 ^ n * l[n] := by
  rw [List.take_add_one, qHg, List.getElem?_eq_getElem h, List.length_take, Nat.min_eq_left (by omega)]
  simp [dig]
def BigR (h : Heap) (v : Value) (x : Int) (b : Nat) : Prop := ∃ neg p c ds, v = agg #[.bool neg, slice p (List.length ds) c] ∧ Ints .i64 h p ds ∧ okD ds ∧ x = sg neg ds ∧ ds.length ≤ c ∧ ds.length ≤ b
def BigN (h : Heap) (v : Value) (x : Int) (b : Nat) : Prop := ∃ neg p c ds, v = agg #[.bool neg, slice p (List.length ds) c] ∧ Ints .i64 h p ds ∧ okD ds ∧ x = sg neg ds ∧ ds.length ≤ c ∧ ds.length ≤ b ∧ (dig ds = 0 → ds = [] ∧ neg = false)
theorem BigN.raw {h : Heap} {v : Value} {x : Int} {b : Nat} (n : BigN h v x b) : BigR h v x b := by
  obtain ⟨neg, p, c, ds, a1, a2, a3, a4, a5, a6, _⟩ := n
  exact ⟨neg, p, c, ds, a1, a2, a3, a4, a5, a6⟩
theorem BigR.le {h h' : Heap} {v : Value} {x : Int} {b : Nat} (n : BigR h v x b) (l : h.le h') : BigR h' v x b := by
  obtain ⟨neg, p, c, ds, a1, a2, a3⟩ := n
  exact ⟨neg, p, c, ds, a1, a2.le l, a3⟩
theorem BigN.le {h h' : Heap} {v : Value} {x : Int} {b : Nat} (n : BigN h v x b) (l : h.le h') : BigN h' v x b := by
  obtain ⟨neg, p, c, ds, a1, a2, a3⟩ := n
  exact ⟨neg, p, c, ds, a1, a2.le l, a3⟩
theorem BigR.more {h : Heap} {v : Value} {x : Int} {b b' : Nat} (n : BigR h v x b) (l : b ≤ b') : BigR h v x b' := by
  obtain ⟨neg, p, c, ds, a1, a2, a3, a4, a5, a6⟩ := n
  exact ⟨neg, p, c, ds, a1, a2, a3, a4, a5, by omega⟩

theorem qIc {neg : Bool} {p : Option Addr} {c : Nat} {ds : List Int} {i : Nat} {h : Heap} (hr : Ints .i64 h p ds) {K : Value → Heap → Prop}
    (k : ∀ h', h.le h' → K (int .i64 (ds.getD i 0)) h') : CallA Tryz.prog qB2 [agg #[.bool neg, slice p ds.length c], int .i64 (i : Int)] h K := by
  refine qRA _ _ _ _ _ _ _ ?_
  unfold qMK
  intro r hr0
  have a0 := At.new h r [.bool neg, slice p ds.length c] 78
  refine ⟨p, ds.length, c, a0.cell rfl, Br.dec (fun hlt => ?_) (fun hge => ?_)⟩
  · have hlt : i < ds.length := by omega
    obtain ⟨b, o, ea, hc⟩ := (hr.le (qt hr0 (o := .cells [.bool neg, slice p ds.length c].toArray 78 (0, 0)))).at hlt
    refine ⟨p, ds.length, c, a0.cell rfl, by omega, by omega, qB ea ⟨_, by rw [Int.toNat_natCast]; exact hc, Ret.mk ?_⟩⟩
    have := k _ (qt hr0 (o := .cells [.bool neg, slice p ds.length c].toArray 78 (0, 0)))
    rw [List.getD_eq_getElem?_getD, List.getElem?_eq_getElem hlt] at this
    exact this
  · have := k _ (qt hr0 (o := .cells [.bool neg, slice p ds.length c].toArray 78 (0, 0)))
    rw [List.getD_eq_getElem?_getD, List.getElem?_eq_none (by omega)] at this
    exact Ret.mk this

theorem qVP {neg : Bool} {p : Option Addr} {c : Nat} {ds : List Int} {a t2 : Nat} {h0 h : Heap} (l : h0.le h) (ht : h0 t2 = none) (hne : a ≠ t2) (hr : Ints .i64 h0 p ds) (ok : okD ds) (hc : ds.length ≤ c) (hb : ds.length ≤ 1048576)
    (at' : At h a [.bool neg, slice p ds.length c]) (tt : At h t2 [.bool false, slice none 0 0]) {K : Value → Heap → Prop}
    (k : ∀ v h', h0.le h' → BigN h' v (sg neg ds) ds.length → K v h') : ∀ n, n ≤ ds.length → dig (ds.take n) = dig ds → qHb a t2 (n : Int) h K := by
  intro n
  -- the end, with n digits left
  have fin : ∀ n, n ≤ ds.length → dig (ds.take n) = dig ds → (n = 0 ∨ ∃ x, ds[n - 1]? = some x ∧ x ≠ 0) →
      Br ((n : Int) == 0)
        (Heap.canSt h t2 0 2 ∧ ∃ (b : Bool), Heap.cell (Heap.setN h t2 0 [.bool false, slice none 0 0]) t2 0 = some (.bool b) ∧
          ∃ (a : Option Addr), ∃ (n : Nat), ∃ (m : Nat), Heap.cell (Heap.setN h t2 0 [.bool false, slice none 0 0]) t2 1 = some (slice a n m) ∧
            Ret (Heap.setN h t2 0 [.bool false, slice none 0 0]) K (agg #[.bool b, slice a n m]))
        (∃ (b : Bool), Heap.cell h a 0 = some (.bool b) ∧ ∃ (a_1 : Option Addr), ∃ (n_1 : Nat), ∃ (m : Nat), Heap.cell h a 1 = some (slice a_1 n_1 m) ∧
          0 ≤ (n : Int) ∧ (n : Int) ≤ (m : Int) ∧ Heap.canSt h t2 0 2 ∧
          ∃ (b_1 : Bool), Heap.cell (Heap.setN h t2 0 [.bool b, slice a_1 (Int.toNat n) m]) t2 0 = some (.bool b_1) ∧
          ∃ (a : Option Addr), ∃ (n_2 : Nat), ∃ (m_1 : Nat), Heap.cell (Heap.setN h t2 0 [.bool b, slice a_1 (Int.toNat n) m]) t2 1 = some (slice a n_2 m_1) ∧
            Ret (Heap.setN h t2 0 [.bool b, slice a_1 (Int.toNat n) m]) K (agg #[.bool b_1, slice a n_2 m_1])) := by
    intro n hn hd hx
    have cs : h.canSt t2 0 2 := tt.canSt (by simp)
    refine Br.intro (fun e => ?_) (fun e => ?_)
    · have t3 := tt.set (o := 0) (ws := [.bool false, slice none 0 0])
      refine ⟨cs, _, t3.cell rfl, _, _, _, t3.cell rfl, Ret.mk (k _ _ (qAf l ht) ?_)⟩
      have n0 : n = 0 := by simpa using e
      subst n0
      refine ⟨false, none, 0, [], rfl, .inl rfl, fun d hd => (by cases hd), ?_, by simp, by simp, fun _ => ⟨rfl, rfl⟩⟩
      have : dig ds = 0 := by rw [← hd]; rfl
      unfold sg; rw [this]; simp [dig]
    · have t3 := tt.set (o := 0) (ws := [.bool neg, slice p (Int.toNat n) c])
      refine ⟨_, at'.cell rfl, _, _, _, at'.cell rfl, by omega, by omega, cs, _, t3.cell rfl, _, _, _, t3.cell rfl, Ret.mk (k _ _ (qAf l ht) ?_)⟩
      have hn0 : n ≠ 0 := by simpa using e
      have hlen : (ds.take n).length = n := by rw [List.length_take]; omega
      refine ⟨neg, p, c, ds.take n, by rw [hlen, Int.toNat_natCast], ?_, qIW ok n, by unfold sg; rw [hd], by omega, by omega, fun z => ?_⟩
      · have r2 : Ints .i64 h0 p (ds.take n) := by
          unfold Ints at hr ⊢
          rw [← List.take_append_drop n ds, qDY] at hr
          exact qMe hr
        exact r2.le (qAf l ht)
      · rcases hx with hx | ⟨x, hx, hx0⟩
        · exact (hn0 hx).elim
        · exfalso
          obtain ⟨m, rfl⟩ : ∃ m, n = m + 1 := ⟨n - 1, by omega⟩
          have hm : m < ds.length := by omega
          rw [qIK hm] at z
          rw [Nat.add_sub_cancel, List.getElem?_eq_getElem hm] at hx
          cases hx
          have h1 := qE8 (qIW ok m)
          have h2 := ok _ (List.getElem_mem hm)
          have h3 : (0 : Int) < 10000 ^ m := Int.pow_pos (by decide)
          have h4 : 0 < 10000 ^ m * ds[m] := Int.mul_pos h3 (by omega)
          omega
  induction n with
  | zero =>
    intro hn hd
    refine qLm _ _ _ _ _ ?_
    unfold qIk
    refine Br.no (by decide) ?_
    exact fin 0 hn hd (.inl rfl)
  | succ n ih =>
    intro hn hd
    refine qLm _ _ _ _ _ ?_
    unfold qIk
    have hlt : n < ds.length := by omega
    have cnt : IntKind.wrap .i64 (((n + 1 : Nat) : Int) - 1) = (n : Int) := by rw [qHM]; omega
    rw [cnt]
    obtain ⟨b, o, ea, hcell⟩ := (hr.le l).at hlt
    refine Br.yes (decide_eq_true (by omega)) ⟨_, _, _, at'.cell rfl, by omega, by omega, qB ea ⟨_, by rw [Int.toNat_natCast]; exact hcell, ?_⟩⟩
    refine Br.intro (fun e => ?_) (fun e => ?_)
    · have e : ds[n] = 0 := by simpa using e
      refine ih (by omega) ?_
      rw [qIK hlt, e] at hd
      omega
    · have e : ds[n] ≠ 0 := by simpa using e
      exact fin (n + 1) hn hd (.inr ⟨_, by rw [Nat.add_sub_cancel, List.getElem?_eq_getElem hlt], e⟩)
theorem qUd {neg : Bool} {p : Option Addr} {c : Nat} {ds : List Int} {h : Heap} (hr : Ints .i64 h p ds) (ok : okD ds) (hc : ds.length ≤ c) (hb : ds.length ≤ 1048576) {K : Value → Heap → Prop}
    (k : ∀ v h', h.le h' → BigN h' v (sg neg ds) ds.length → K v h') : CallA Tryz.prog qF0 [agg #[.bool neg, slice p ds.length c]] h K := by
  refine qSC _ _ _ _ _ _ ?_
  unfold qNB
  intro r hr0 r1 hr1
  have a0 := (At.new h r [.bool neg, slice p ds.length c] 78).ins (x := .cells [.bool false, slice none 0 0].toArray 78 (0, 0)) hr1
  have t0 := At.new (h.ins r (.cells [.bool neg, slice p ds.length c].toArray 78 (0, 0))) r1 [.bool false, slice none 0 0] 78
  have l := qFv (x := .cells [.bool false, slice none 0 0].toArray 78 (0, 0)) (qt hr0 (o := .cells [.bool neg, slice p ds.length c].toArray 78 (0, 0))) hr1
  refine ⟨_, _, _, a0.cell rfl, ?_⟩
  exact qVP l (qAk (qt hr0) hr1) ((At.new _ _ _ _).ne hr1) hr ok hc hb a0 t0 k ds.length (Nat.le_refl _) (by rw [List.take_length])
end Go.Proofs.YtjihfieahkbohaaGreat

/- The reference's whole numbers of any size: from an amount, turned, which is larger. -/
namespace Go.Proofs.YtjihfieahkbohaaGreat
open Go Go.Sy Go.Value
set_option linter.unusedVariables false
set_option linter.unusedSimpArgs false

theorem td (n : Int) : (0 ≤ n ∧ Int.tdiv n 10000 = n / 10000 ∧ Int.tmod n 10000 = n % 10000) ∨ (n < 0 ∧ Int.tdiv n 10000 = -((-n) / 10000) ∧ Int.tmod n 10000 = -((-n) % 10000)) := by
  by_cases h : 0 ≤ n
  · exact .inl ⟨h, Int.tdiv_eq_ediv_of_nonneg h, Int.tmod_eq_emod_of_nonneg h⟩
  · refine .inr ⟨by omega, ?_, ?_⟩
    · have e : n = -(-n) := by omega
      conv => lhs; rw [e, Int.neg_tdiv, Int.tdiv_eq_ediv_of_nonneg (by omega)]
    · have e : n = -(-n) := by omega
      conv => lhs; rw [e, Int.neg_tmod, Int.tmod_eq_emod_of_nonneg (by omega)]
theorem qPM {h0 h : Heap} {neg : Bool} {out : Nat} {p : Option Addr} {c : Nat} {ds : List Int} {x : Int} (l : h0.le h) (oo : At h out [.bool neg, slice p ds.length c])
    (own : OwnL h0 h [int .i64 0] p c (qf .i64 ds)) (hp : p ≠ some ⟨out, 0, none⟩) (hn : h0 out = none) (hb : ds.length < 1048576) {J : Heap → Prop}
    (k : ∀ p' c' h', h0.le h' → At h' out [.bool neg, slice p' (ds ++ [x]).length c'] → OwnL h0 h' [int .i64 0] p' c' (qf .i64 (ds ++ [x])) → p' ≠ some ⟨out, 0, none⟩ →
      (∀ b xs, At h b xs → b ≠ out → p ≠ some ⟨b, 0, none⟩ → At h' b xs ∧ p' ≠ some ⟨b, 0, none⟩) → J h') :
    qO h [int .i64 x] 3 fun (r : Nat) (h : Heap) => AppA [int .i64 0] 3 h p ds.length c 1 (some { block := r, off := 0 }) fun (ap : Option Addr) (cp : Nat) (h : Heap) =>
      Heap.canSt h out 1 1 ∧ J (Heap.setN h out 1 [slice ap (ds.length + 1) cp]) := by
  intro r hr
  have l1 := qFv (x := .cells [int .i64 x].toArray 3 (0, 0)) l hr
  have o1 := oo.ins (x := .cells [int .i64 x].toArray 3 (0, 0)) hr
  have w1 := own.le (qt hr (o := .cells [int .i64 x].toArray 3 (0, 0)))
  have s1 : rdL (h.ins r (.cells [int .i64 x].toArray 3 (0, 0))) (some ⟨r, 0, none⟩) (qf .i64 [x]) := qMZ _ _ _ _ _
  refine w1.push (by decide) l1 (by omega) (by rw [qw]; rfl) s1 (qKH _ _) (by rw [qw]; simp) ?_
  intro p' c' h' l2 w2 keep how
  have o2 := keep _ _ o1 hp
  have hp' : p' ≠ some ⟨out, 0, none⟩ := by
    rcases how with rfl | ⟨r', rfl, hr'⟩
    · exact hp
    · intro e; cases e; exact o1.ne hr' rfl
  have o3 := o2.set (o := 1) (ws := [slice p' (ds.length + 1) c'])
  rw [← qDY] at w2
  refine ⟨o2.canSt (by simp), k p' c' _ (qAf l2 hn) ?_ (w2.set_ne hp') hp' (fun b xs a hb1 hb2 => ?_)⟩
  · rw [List.length_append]; exact o3
  · have a1 := a.ins (x := .cells [int .i64 x].toArray 3 (0, 0)) hr
    refine ⟨(keep _ _ a1 hb2).set_ne hb1, ?_⟩
    rcases how with rfl | ⟨r', rfl, hr'⟩
    · exact hb2
    · intro e; cases e; exact a1.ne hr' rfl
theorem qNb {h : Heap} {q : Option Addr} {l : List Int} {b : Nat} {x : Bool} {p : Option Addr} {n c : Nat} (r : Ints .i64 h q l) (a : At h b [.bool x, slice p n c]) (hl : l ≠ []) : ∀ o, q ≠ some ⟨b, o, none⟩ := by
  intro o e
  obtain ⟨b', o', e2, hc⟩ := r.at (j := 0) (List.length_pos_iff.2 hl)
  rw [e] at e2
  cases e2
  obtain ⟨T, ea⟩ := a
  unfold Heap.cell at hc
  rw [ea] at hc
  match o with
  | 0 => simp at hc
  | 1 => simp at hc
  | o + 2 => simp at hc
theorem qOI {h0 h : Heap} {neg : Bool} {t2 : Nat} {p : Option Addr} {n c : Nat} {K : Value → Heap → Prop} (ht : h0 t2 = none) (l : h0.le h) {x : Bool} {p0 : Option Addr} {n0 c0 : Nat} (tt : At h t2 [.bool x, slice p0 n0 c0])
    (k : ∀ h', h0.le h' → (∀ q l, Ints .i64 h q l → Ints .i64 h' q l) → K (agg #[.bool neg, slice p n c]) h') :
    Heap.canSt h t2 0 2 ∧ ∃ (b_1 : Bool), Heap.cell (Heap.setN h t2 0 [.bool neg, slice p n c]) t2 0 = some (.bool b_1) ∧
      ∃ (a_1 : Option Addr), ∃ (n_1 : Nat), ∃ (m_1 : Nat), Heap.cell (Heap.setN h t2 0 [.bool neg, slice p n c]) t2 1 = some (slice a_1 n_1 m_1) ∧ Ret (Heap.setN h t2 0 [.bool neg, slice p n c]) K (agg #[.bool b_1, slice a_1 n_1 m_1]) := by
  have t3 := tt.set (o := 0) (ws := [.bool neg, slice p n c])
  refine ⟨tt.canSt (by simp), _, t3.cell rfl, _, _, _, t3.cell rfl, Ret.mk (k _ (qAf l ht) fun q l r => ?_)⟩
  by_cases hl : l = []
  · subst hl; exact .inl rfl
  have hq := qNb r tt hl
  rcases r with r | ⟨b, o, e, r⟩
  · exact .inl r
  · refine .inr ⟨b, o, e, fun j hj => ?_⟩
    have := r j hj
    unfold Heap.cell at this ⊢
    rw [qEK (fun e2 => hq o (by rw [e, e2]))]
    exact this
theorem qXl {N : Int} {h0 : Heap} {t2 out : Nat} (ht : h0 t2 = none) (ho : h0 out = none) (hne : t2 ≠ out) {K : Value → Heap → Prop}
    (k : ∀ v h', h0.le h' → BigN h' v N 5 → K v h') : ∀ (f : Nat) (n : Int) (h : Heap) (p : Option Addr) (c : Nat) (ds : List Int), h0.le h → -(10000 : Int) ^ f < n → n < (10000 : Int) ^ f → ds.length + f ≤ 5 → okD ds →
      N = sg (decide (N < 0)) ds + 10000 ^ ds.length * n → (N < 0 → n ≤ 0) → (0 ≤ N → 0 ≤ n) → (N = 0 → ds = []) → I64 n →
      At h out [.bool (decide (N < 0)), slice p ds.length c] → At h t2 [.bool false, slice none 0 0] → OwnL h0 h [int .i64 0] p c (qf .i64 ds) → p ≠ some ⟨out, 0, none⟩ → p ≠ some ⟨t2, 0, none⟩ →
      qFS n t2 out h K := by
  intro f
  induction f with
  | zero =>
    intro n h p c ds l f1 f2 hf ok hN s1 s2 hz hI oo tt own hp1 hp2
    have n0 : n = 0 := by simp at f1 f2; omega
    subst n0
    refine qNG _ _ _ _ _ ?_
    unfold qKR
    refine Br.no (by decide) ?_
    rw [Int.mul_zero, Int.add_zero] at hN
    refine ⟨_, oo.cell rfl, _, _, _, oo.cell rfl, qOI ht l tt fun h' l' rd => k _ _ l' ?_⟩
    have hc : ds.length ≤ c := by
      rcases own with ⟨e, _, _⟩ | ⟨r, sp, _, _, _, e⟩
      · have := congrArg List.length e; rw [qw, List.length_nil] at this; omega
      · simp [qw] at e; omega
    refine ⟨_, p, c, ds, rfl, rd _ _ own.rd, ok, hN, hc, by omega, fun z => ?_⟩
    have : N = 0 := by rw [hN]; unfold sg; rw [z]; simp
    exact ⟨hz this, by simp [this]⟩
  | succ f ih =>
    intro n h p c ds l f1 f2 hf ok hN s1 s2 hz hI oo tt own hp1 hp2
    by_cases n0 : n = 0
    · exact (fun x : (-(10000 : Int) ^ f < n ∧ n < (10000 : Int) ^ f) => ih n h p c ds l x.1 x.2 (by omega) ok hN s1 s2 hz hI oo tt own hp1 hp2) (by
        subst n0; have : (0 : Int) < 10000 ^ f := Int.pow_pos (by decide)
        omega)
    refine qNG _ _ _ _ _ ?_
    unfold qKR
    refine Br.yes (by simpa using n0) ?_
    unfold I64 at hI
    rw [Int.pow_succ] at f1 f2
    generalize hP : (10000 : Int) ^ f = P at *
    -- the next round, whatever the digit
    have next : ∀ (d : Int), 0 ≤ d → d < 10000 → (N < 0 → n = -(d + 10000 * (-(Int.tdiv n 10000)))) → (0 ≤ N → n = d + 10000 * Int.tdiv n 10000) →
        qO h [int .i64 d] 3 fun (r : Nat) (h : Heap) => AppA [int .i64 0] 3 h p ds.length c 1 (some { block := r, off := 0 }) fun (ap : Option Addr) (cp : Nat) (h : Heap) =>
          Heap.canSt h out 1 1 ∧ qFS (IntKind.wrap .i64 (Int.tdiv n 10000)) t2 out (Heap.setN h out 1 [slice ap (ds.length + 1) cp]) K := by
      intro d d0 d1 e1 e2
      refine qPM (J := fun h => qFS _ t2 out h K) l oo own hp1 ho (by omega) fun p' c' h' l' o' w' hp' keep => ?_
      have tq : I64 (Int.tdiv n 10000) := by unfold I64; rcases td n with ⟨a, b, _⟩ | ⟨a, b, _⟩ <;> rw [b] <;> omega
      rw [qK tq.1 tq.2]
      obtain ⟨t', hp2'⟩ := keep _ _ tt hne hp2
      have hlen : (ds ++ [d]).length = ds.length + 1 := by simp
      refine ih _ h' p' c' (ds ++ [d]) l' ?_ ?_ (by rw [hlen]; omega) (qMh ok (fun x hx => by simp at hx; omega)) ?_ ?_ ?_ ?_ tq o' t' w' hp' hp2'
      · rcases td n with ⟨a, b, _⟩ | ⟨a, b, _⟩ <;> rw [b] <;> omega
      · rcases td n with ⟨a, b, _⟩ | ⟨a, b, _⟩ <;> rw [b] <;> omega
      · have ed : dig (ds ++ [d]) = dig ds + 10000 ^ ds.length * d := by rw [qHg]; simp [dig]
        rw [hlen, Int.pow_succ, Int.mul_assoc]
        unfold sg at hN ⊢
        rw [ed]
        by_cases hn : N < 0
        · have e := e1 hn
          simp only [hn, decide_true, if_true] at hN ⊢
          have e3 : 10000 ^ ds.length * n = 10000 ^ ds.length * (10000 * Int.tdiv n 10000) - 10000 ^ ds.length * d := by
            rw [← Int.mul_sub]; congr 1; omega
          omega
        · have e := e2 (by omega)
          simp only [hn, decide_false, Bool.false_eq_true, if_false] at hN ⊢
          have e3 : 10000 ^ ds.length * n = 10000 ^ ds.length * (10000 * Int.tdiv n 10000) + 10000 ^ ds.length * d := by
            rw [← Int.mul_add]; congr 1; omega
          omega
      · intro hn; have := s1 hn; rcases td n with ⟨a, b, _⟩ | ⟨a, b, _⟩ <;> rw [b] <;> omega
      · intro hn; have := s2 hn; rcases td n with ⟨a, b, _⟩ | ⟨a, b, _⟩ <;> rw [b] <;> omega
      · intro hn; have := s2 (by omega); have e := hz hn
        subst e
        simp [sg, dig] at hN
        omega
    refine Br.dec (fun hneg => ?_) (fun hpos => ?_)
    · have hw : IntKind.wrap .i64 (0 - Int.tmod n 10000) = -(Int.tmod n 10000) := by
        rcases td n with ⟨a, _, b⟩ | ⟨a, _, b⟩ <;> rw [qK (by omega) (by omega)] <;> omega
      rw [hw]
      refine ⟨p, _, c, oo.cell rfl, next _ ?_ ?_ ?_ ?_⟩
      · omega
      · rcases td n with ⟨a, _, b⟩ | ⟨a, _, b⟩ <;> rw [b] <;> omega
      · intro _; rcases td n with ⟨a, b, c⟩ | ⟨a, b, c⟩ <;> rw [b, c] <;> omega
      · intro hn; have := s2 hn; rcases td n with ⟨a, b, c⟩ | ⟨a, b, c⟩ <;> omega
    · refine ⟨p, _, c, oo.cell rfl, next _ ?_ ?_ ?_ ?_⟩
      · omega
      · rcases td n with ⟨a, _, b⟩ | ⟨a, _, b⟩ <;> rw [b] <;> omega
      · intro hn; have := s1 hn; rcases td n with ⟨a, b, c⟩ | ⟨a, b, c⟩ <;> rw [b, c] <;> omega
      · intro hn; have := s2 hn; rcases td n with ⟨a, b, c⟩ | ⟨a, b, c⟩ <;> rw [b, c] <;> omega
theorem qWB {n : Int} (hn : I64 n) {h : Heap} {K : Value → Heap → Prop} (k : ∀ v h', h.le h' → BigN h' v n 5 → K v h') : CallA Tryz.prog qDV [int .i64 n] h K := by
  refine qTr _ _ _ ?_
  unfold qOq
  intro r hr r1 hr1
  have t0 := (At.new h r [.bool false, slice none 0 0] 78).ins (x := .cells [.bool false, slice none 0 0].toArray 78 (0, 0)) hr1
  have o0 := At.new (h.ins r (.cells [.bool false, slice none 0 0].toArray 78 (0, 0))) r1 [.bool false, slice none 0 0] 78
  have l := qFv (x := .cells [.bool false, slice none 0 0].toArray 78 (0, 0)) (qt hr (o := .cells [.bool false, slice none 0 0].toArray 78 (0, 0))) hr1
  have hne : r ≠ r1 := (At.new _ _ _ _).ne hr1
  have h1 : h r1 = none := qAk (qt hr) hr1
  refine ⟨o0.canSt (by simp), ?_⟩
  have o1 := o0.set (o := 0) (ws := [.bool (decide (n < 0)), slice none 0 0])
  unfold I64 at hn
  refine qXl (N := n) hr h1 hne k 5 n _ none 0 [] (qAf l h1) (by omega) (by omega) (by simp) (fun d hd => (by cases hd)) (by simp [sg, dig]) (fun h => by omega) (fun h => by omega) (fun _ => rfl) hn o1 (t0.set_ne hne) (OwnL.nil _ _ _) (by simp) (by simp)
theorem qVz {v : Value} {x : Int} {b : Nat} {h : Heap} (hv : BigR h v x b) (hb : b ≤ 1048576) {K : Value → Heap → Prop} (k : ∀ v' h', h.le h' → BigN h' v' (-x) b → K v' h') : CallA Tryz.prog qI1 [v] h K := by
  obtain ⟨neg, p, c, ds, rfl, hr, ok, hx, hc, hl⟩ := hv
  refine qQU _ _ _ _ _ _ ?_
  unfold qLo
  intro r hr0 r1 hr1
  have a0 := (At.new h r [.bool neg, slice p ds.length c] 78).ins (x := .cells [.bool false, slice none 0 0].toArray 78 (0, 0)) hr1
  have t0 := At.new (h.ins r (.cells [.bool neg, slice p ds.length c].toArray 78 (0, 0))) r1 [.bool false, slice none 0 0] 78
  have l := qFv (x := .cells [.bool false, slice none 0 0].toArray 78 (0, 0)) (qt hr0 (o := .cells [.bool neg, slice p ds.length c].toArray 78 (0, 0))) hr1
  have h1 : h r1 = none := qAk (qt hr0) hr1
  refine ⟨_, a0.cell rfl, _, _, _, a0.cell rfl, qUd (hr.le l) ok hc (by omega) fun v' h' l' nb => ?_⟩
  obtain ⟨neg2, p2, c2, ds2, rfl, r2, ok2, x2, c3, b2, nz⟩ := nb
  refine ⟨_, _, _, _, rfl, qOI h1 (Heap.le_trans l l') (t0.le l') fun h'' l'' rd => k _ _ l'' ?_⟩
  refine ⟨neg2, p2, c2, ds2, rfl, rd _ _ r2, ok2, ?_, c3, by omega, nz⟩
  · rw [hx, ← x2]; unfold sg; cases neg <;> simp
end Go.Proofs.YtjihfieahkbohaaGreat

/- The reference's whole numbers of any size: which is larger, and sums. -/
namespace Go.Proofs.YtjihfieahkbohaaGreat
open Go Go.Sy Go.Value
set_option linter.unusedVariables false
set_option linter.unusedSimpArgs false

theorem qGR (l : List Int) (n : Nat) : dig (l.take (n + 1)) = dig (l.take n) + 10000 ^ n * l.getD n 0 := by
  by_cases h : n < l.length
  · rw [qIK h, List.getD_eq_getElem?_getD, List.getElem?_eq_getElem h]; rfl
  · rw [List.take_of_length_le (by omega), List.take_of_length_le (by omega), List.getD_eq_getElem?_getD, List.getElem?_eq_none (by omega)]; simp
theorem qPR : ∀ {l : List Int}, okD l → dig l < 10000 ^ l.length
  | [], _ => by simp [dig]
  | d :: l, h => by
    have h1 := qPR (qMj h).2
    have h2 := (qMj h).1
    simp only [dig, List.length_cons, Int.pow_succ]
    omega
theorem qYJ {m n : Nat} (h : m ≤ n) : (10000 : Int) ^ m ≤ 10000 ^ n := by
  induction h with
  | refl => exact Int.le_refl _
  | step _ ih =>
    rw [Int.pow_succ]
    have := Int.pow_pos (n := 10000) (m := m) (by decide)
    omega
theorem qII {l : List Int} (h : okD l) (n : Nat) : dig (l.take n) < 10000 ^ n := by
  have h1 := qPR (qIW h n)
  have h2 : (10000 : Int) ^ (l.take n).length ≤ 10000 ^ n := qYJ (by rw [List.length_take]; omega)
  omega
theorem qK7 {l : List Int} (h : okD l) (n : Nat) : 0 ≤ l.getD n 0 ∧ l.getD n 0 < 10000 := by
  rw [List.getD_eq_getElem?_getD]
  by_cases hn : n < l.length
  · rw [List.getElem?_eq_getElem hn]; exact h _ (List.getElem_mem hn)
  · rw [List.getElem?_eq_none (by omega)]; simp
def qGF (x y : Int) : Int := if x > y then 1 else if x < y then -1 else 0
theorem qSN {na nb : Bool} {pa pb : Option Addr} {ca cb : Nat} {da db : List Int} {a b : Nat} {h0 : Heap} (ra : Ints .i64 h0 pa da) (rb : Ints .i64 h0 pb db) (oa : okD da) (ob : okD db) {K : Value → Heap → Prop}
    (k : ∀ h', h0.le h' → K (int .i64 (qGF (dig da) (dig db))) h') : ∀ (n : Nat) (h : Heap), h0.le h → At h a [.bool na, slice pa da.length ca] → At h b [.bool nb, slice pb db.length cb] → n ≤ 1048577 →
      dig da - dig db = dig (da.take n) - dig (db.take n) → qGr a b ((n : Int) - 1) h K := by
  intro n
  induction n with
  | zero =>
    intro h l aa ab hn e
    refine qKk _ _ _ _ _ ?_
    unfold qHt
    refine Br.no (by decide) (Ret.mk ?_)
    have := k h l
    have e2 : qGF (dig da) (dig db) = 0 := by
      simp [dig] at e
      unfold qGF
      rw [if_neg (by omega), if_neg (by omega)]
    rw [e2] at this
    exact this
  | succ n ih =>
    intro h l aa ab hn e
    refine qKk _ _ _ _ _ ?_
    unfold qHt
    rw [show (((n + 1 : Nat) : Int) - 1) = (n : Int) from by omega]
    refine Br.yes (decide_eq_true (by omega)) ⟨_, aa.cell rfl, _, _, _, aa.cell rfl, _, ab.cell rfl, _, _, _, ab.cell rfl, ?_⟩
    refine qIc (ra.le l) fun h1 l1 => ⟨_, rfl, .inl l1, ?_⟩
    have l1' := Heap.le_trans l l1
    refine qIc (rb.le l1') fun h2 l2 => ⟨_, rfl, ?_⟩
    have l2' := Heap.le_trans l1' l2
    have aa2 := aa.le (Heap.le_trans l1 l2)
    have ab2 := ab.le (Heap.le_trans l1 l2)
    rw [qGR, qGR] at e
    have g1 := qK7 oa n
    have g2 := qK7 ob n
    have t1 := qII oa n
    have t2 := qII ob n
    have t3 := qE8 (qIW oa n)
    have t4 := qE8 (qIW ob n)
    have hP : (0 : Int) < 10000 ^ n := Int.pow_pos (by decide)
    generalize hxa : da.getD n 0 = x at *
    generalize hxb : db.getD n 0 = y at *
    generalize hPP : (10000 : Int) ^ n = P at *
    refine Br.dec (fun gt => Ret.mk ?_) (fun ngt => ?_)
    · have := k h2 l2'
      have m : P * (y + 1) ≤ P * x := Int.mul_le_mul_of_nonneg_left (by omega) (by omega)
      rw [Int.mul_add, Int.mul_one] at m
      have e2 : qGF (dig da) (dig db) = 1 := by
        unfold qGF
        rw [if_pos (by omega)]
      rw [e2] at this
      exact this
    · refine ⟨_, aa2.cell rfl, _, _, _, aa2.cell rfl, _, ab2.cell rfl, _, _, _, ab2.cell rfl, ?_⟩
      refine qIc (ra.le l2') fun h3 l3 => ⟨_, rfl, .inl l3, ?_⟩
      have l3' := Heap.le_trans l2' l3
      refine qIc (rb.le l3') fun h4 l4 => ⟨_, rfl, ?_⟩
      have l4' := Heap.le_trans l3' l4
      rw [hxa, hxb]
      refine Br.dec (fun lt => Ret.mk ?_) (fun nlt => ?_)
      · have := k h4 l4'
        have m : P * (x + 1) ≤ P * y := Int.mul_le_mul_of_nonneg_left (by omega) (by omega)
        rw [Int.mul_add, Int.mul_one] at m
        have e2 : qGF (dig da) (dig db) = -1 := by
          unfold qGF
          rw [if_neg (by omega), if_pos (by omega)]
        rw [e2] at this
        exact this
      · have exy : x = y := by omega
        rw [qK (by omega) (by omega)]
        refine ih h4 l4' (aa2.le (Heap.le_trans l3 l4)) (ab2.le (Heap.le_trans l3 l4)) (by omega) ?_
        rw [exy] at e
        omega
theorem qWI {na nb : Bool} {pa pb : Option Addr} {ca cb : Nat} {da db : List Int} {h : Heap} (ra : Ints .i64 h pa da) (rb : Ints .i64 h pb db) (oa : okD da) (ob : okD db) (la : da.length ≤ 1048576) (lb : db.length ≤ 1048576)
    {K : Value → Heap → Prop} (k : ∀ h', h.le h' → K (int .i64 (qGF (dig da) (dig db))) h') : CallA Tryz.prog qI6 [agg #[.bool na, slice pa da.length ca], agg #[.bool nb, slice pb db.length cb]] h K := by
  refine qQQ _ _ _ _ _ _ _ _ _ _ ?_
  unfold qLe
  intro r hr r1 hr1
  have a0 := (At.new h r [.bool na, slice pa da.length ca] 78).ins (x := .cells [.bool nb, slice pb db.length cb].toArray 78 (0, 0)) hr1
  have b0 := At.new (h.ins r (.cells [.bool na, slice pa da.length ca].toArray 78 (0, 0))) r1 [.bool nb, slice pb db.length cb] 78
  have l := qFv (x := .cells [.bool nb, slice pb db.length cb].toArray 78 (0, 0)) (qt hr (o := .cells [.bool na, slice pa da.length ca].toArray 78 (0, 0))) hr1
  refine ⟨_, _, _, a0.cell rfl, _, _, _, b0.cell rfl, ?_⟩
  have hm : ∃ m : Nat, (if (db.length : Int) > (da.length : Int) then (db.length : Int) else (da.length : Int)) = (m : Int) ∧ da.length ≤ m ∧ db.length ≤ m ∧ m ≤ 1048576 := by
    by_cases hh : (db.length : Int) > (da.length : Int)
    · exact ⟨db.length, by rw [if_pos hh], by omega, by omega, lb⟩
    · exact ⟨da.length, by rw [if_neg hh], by omega, by omega, la⟩
  obtain ⟨m, em, m1, m2, m3⟩ := hm
  rw [em, qK (by omega) (by omega)]
  exact qSN ra rb oa ob k m _ l a0 b0 (by omega) (by rw [List.take_of_length_le m1, List.take_of_length_le m2])

theorem qSy {h0 h : Heap} {neg : Bool} {out t4 : Nat} {p : Option Addr} {c : Nat} {ds : List Int} {K : Value → Heap → Prop} {X : Int} {B : Nat} (l : h0.le h) (ht : h0 t4 = none) (oo : At h out [.bool neg, slice p ds.length c])
    (tt : At h t4 [.bool false, slice none 0 0]) (rd : Ints .i64 h p ds) (ok : okD ds) (hc : ds.length ≤ c) (hb : ds.length ≤ 1048576) (hB : ds.length ≤ B) (hX : sg neg ds = X) (k : ∀ v h', h0.le h' → BigN h' v X B → K v h') :
    ∃ (b : Bool), Heap.cell h out 0 = some (Value.bool b) ∧ ∃ (a : Option Addr), ∃ (n : Nat), ∃ (m : Nat), Heap.cell h out 1 = some (slice a n m) ∧
      CallA Tryz.prog qF0 [agg #[Value.bool b, slice a n m]] h fun (v : Value) (h : Heap) =>
        ∃ (b : Bool), ∃ (a : Option Addr), ∃ (n : Nat), ∃ (m : Nat), v = agg #[Value.bool b, slice a n m] ∧ Heap.canSt h t4 0 2 ∧
          ∃ (b_1 : Bool), Heap.cell (Heap.setN h t4 0 [Value.bool b, slice a n m]) t4 0 = some (Value.bool b_1) ∧
          ∃ (a_3 : Option Addr), ∃ (n_2 : Nat), ∃ (m_1 : Nat), Heap.cell (Heap.setN h t4 0 [Value.bool b, slice a n m]) t4 1 = some (slice a_3 n_2 m_1) ∧
            Ret (Heap.setN h t4 0 [Value.bool b, slice a n m]) K (agg #[Value.bool b_1, slice a_3 n_2 m_1]) := by
  refine ⟨_, oo.cell rfl, _, _, _, oo.cell rfl, qUd rd ok hc hb fun v h' l' nb => ?_⟩
  obtain ⟨neg2, p2, c2, ds2, rfl, r2, ok2, x2, c3, b2, nz⟩ := nb
  refine ⟨_, _, _, _, rfl, qOI ht (Heap.le_trans l l') (tt.le l') fun h'' l'' rd => k _ _ l'' ?_⟩
  exact ⟨neg2, p2, c2, ds2, rfl, rd _ _ r2, ok2, by rw [← hX, x2], c3, by omega, nz⟩
theorem qSp {h0 h : Heap} {p : Option Addr} {c : Nat} {ds : List Int} (own : OwnL h0 h [int .i64 0] p c (qf .i64 ds)) : ds.length ≤ c := by
  rcases own with ⟨e, _, _⟩ | ⟨r, sp, _, _, _, e⟩
  · have := congrArg List.length e; rw [qw, List.length_nil] at this; omega
  · simp [qw] at e; omega
theorem qVy {na nb : Bool} {pa pb : Option Addr} {ca cb : Nat} {da db : List Int} {a b t4 out : Nat} {h0 : Heap} (ra : Ints .i64 h0 pa da) (rb : Ints .i64 h0 pb db) (oa : okD da) (ob : okD db)
    (ht : h0 t4 = none) (ho : h0 out = none) (n1 : a ≠ out) (n2 : b ≠ out) (n3 : t4 ≠ out) {m : Nat} (ma : da.length ≤ m) (mb : db.length ≤ m) (mm : (if (db.length : Int) > (da.length : Int) then (db.length : Int) else (da.length : Int)) = (m : Int)) (m3 : m ≤ 1048570)
    {K : Value → Heap → Prop} (k : ∀ v h', h0.le h' → BigN h' v (if na then -(dig da + dig db) else dig da + dig db) (m + 1) → K v h') :
    ∀ (d : Nat) (ds : List Int) (p : Option Addr) (c : Nat) (carry : Int) (h : Heap), ds.length + d = m + 1 → h0.le h → At h a [.bool na, slice pa da.length ca] → At h b [.bool nb, slice pb db.length cb] → At h t4 [.bool false, slice none 0 0] →
      At h out [.bool na, slice p ds.length c] → OwnL h0 h [int .i64 0] p c (qf .i64 ds) → p ≠ some ⟨out, 0, none⟩ → p ≠ some ⟨a, 0, none⟩ → p ≠ some ⟨b, 0, none⟩ → p ≠ some ⟨t4, 0, none⟩ → okD ds → 0 ≤ carry → carry ≤ 1 →
      dig ds + 10000 ^ ds.length * carry = dig (da.take ds.length) + dig (db.take ds.length) → qGz a b t4 out carry (ds.length : Int) h K := by
  intro d
  induction d with
  | zero =>
    intro ds p c carry h hd l aa ab tt oo own hp1 hp2 hp3 hp4 ok c0 c1 e
    refine qMS _ _ _ _ _ _ _ _ ?_
    unfold qJU
    refine ⟨_, _, _, aa.cell rfl, _, _, _, ab.cell rfl, ?_⟩
    rw [mm, qK (by omega) (by omega)]
    refine Br.no (decide_eq_false (by omega)) ?_
    refine qSy l ht oo tt own.rd ok (qSp own) (by omega) (B := m + 1) (by omega) ?_ k
    have t1 := qII oa m
    have t2 := qII ob m
    rw [List.take_of_length_le ma] at t1
    rw [List.take_of_length_le mb] at t2
    have hl : ds.length = m + 1 := by omega
    rw [hl, List.take_of_length_le (by omega), List.take_of_length_le (by omega), Int.pow_succ] at e
    have hP : (0 : Int) < 10000 ^ m := Int.pow_pos (by decide)
    generalize (10000 : Int) ^ m = P at *
    have hc : carry = 0 := by
      rcases (show carry = 0 ∨ carry = 1 by omega) with h | h
      · exact h
      · rw [h] at e
        have := qE8 ok
        omega
    rw [hc, Int.mul_zero, Int.add_zero] at e
    unfold sg
    rw [e]
  | succ d ih =>
    intro ds p c carry h hd l aa ab tt oo own hp1 hp2 hp3 hp4 ok c0 c1 e
    refine qMS _ _ _ _ _ _ _ _ ?_
    unfold qJU
    refine ⟨_, _, _, aa.cell rfl, _, _, _, ab.cell rfl, ?_⟩
    rw [mm, qK (n := (m : Int) + 1) (by omega) (by omega)]
    refine Br.yes (decide_eq_true (by omega)) ⟨_, aa.cell rfl, _, _, _, aa.cell rfl, _, ab.cell rfl, _, _, _, ab.cell rfl, ?_⟩
    refine qIc (ra.le l) fun h1 l1 => ⟨_, rfl, .inl l1, ?_⟩
    have l1' := Heap.le_trans l l1
    refine qIc (rb.le l1') fun h2 l2 => ⟨_, rfl, ?_⟩
    have l2' := Heap.le_trans l1' l2
    have l12 := Heap.le_trans l1 l2
    have g1 := qK7 oa ds.length
    have g2 := qK7 ob ds.length
    have e1 := qGR da ds.length
    have e2 := qGR db ds.length
    generalize hxa : da.getD ds.length 0 = x at *
    generalize hxb : db.getD ds.length 0 = y at *
    have w1 : IntKind.wrap .i64 (IntKind.wrap .i64 (carry + x) + y) = carry + x + y := by
      rw [qK (n := carry + x) (by omega) (by omega), qK (by omega) (by omega)]
    rw [w1]
    rcases td (carry + x + y) with ⟨z0, z1, z2⟩ | ⟨z0, _⟩
    case inr => omega
    rw [z1, z2]
    refine ⟨_, _, _, (oo.le l12).cell rfl, ?_⟩
    rw [qK (n := (carry + x + y) / 10000) (by omega) (by omega), qK (n := (ds.length : Int) + 1) (by omega) (by omega)]
    refine qPM (J := fun h => qGz a b t4 out ((carry + x + y) / 10000) ((ds.length : Int) + 1) h K) l2' (oo.le l12) (own.le l12) hp1 ho (by omega) fun p' c' h' l' o' w' hp' keep => ?_
    obtain ⟨aa', q1⟩ := keep _ _ (aa.le l12) n1 hp2
    obtain ⟨ab', q2⟩ := keep _ _ (ab.le l12) n2 hp3
    obtain ⟨tt', q3⟩ := keep _ _ (tt.le l12) n3 hp4
    have hlen : (ds ++ [(carry + x + y) % 10000]).length = ds.length + 1 := by simp
    have fin := ih (ds ++ [(carry + x + y) % 10000]) p' c' ((carry + x + y) / 10000) h' (by rw [hlen]; omega) l' aa' ab' tt' o' w' hp' q1 q2 q3 (qMh ok (fun v hv => by simp at hv; omega)) (by omega) (by omega) (by
      have ed : dig (ds ++ [(carry + x + y) % 10000]) = dig ds + 10000 ^ ds.length * ((carry + x + y) % 10000) := by rw [qHg]; simp [dig]
      rw [hlen, ed, e1, e2, Int.pow_succ, Int.mul_assoc]
      have m1 : (10000 : Int) ^ ds.length * ((carry + x + y) % 10000) + 10000 ^ ds.length * (10000 * ((carry + x + y) / 10000)) = 10000 ^ ds.length * (carry + x + y) := by
        rw [← Int.mul_add]; congr 1; omega
      rw [Int.mul_add, Int.mul_add] at m1
      omega)
    rw [hlen] at fin
    exact fin
theorem qVw {na nb : Bool} {pa pb : Option Addr} {ca cb : Nat} {da db : List Int} {a b t4 out : Nat} {h0 : Heap} (ra : Ints .i64 h0 pa da) (rb : Ints .i64 h0 pb db) (oa : okD da) (ob : okD db)
    (ht : h0 t4 = none) (ho : h0 out = none) (n1 : a ≠ out) (n2 : b ≠ out) (n3 : t4 ≠ out) (hge : dig db ≤ dig da) {B : Nat} (hB : da.length ≤ B) (m3 : da.length ≤ 1048570)
    {K : Value → Heap → Prop} (k : ∀ v h', h0.le h' → BigN h' v (if na then -(dig da - dig db) else dig da - dig db) B → K v h') :
    ∀ (d : Nat) (ds : List Int) (p : Option Addr) (c : Nat) (carry : Int) (h : Heap), ds.length + d = da.length → h0.le h → At h a [.bool na, slice pa da.length ca] → At h b [.bool nb, slice pb db.length cb] → At h t4 [.bool false, slice none 0 0] →
      At h out [.bool na, slice p ds.length c] → OwnL h0 h [int .i64 0] p c (qf .i64 ds) → p ≠ some ⟨out, 0, none⟩ → p ≠ some ⟨a, 0, none⟩ → p ≠ some ⟨b, 0, none⟩ → p ≠ some ⟨t4, 0, none⟩ → okD ds → 0 ≤ carry → carry ≤ 1 →
      dig ds - 10000 ^ ds.length * carry = dig (da.take ds.length) - dig (db.take ds.length) → qEx a b t4 out carry (ds.length : Int) h K := by
  intro d
  induction d with
  | zero =>
    intro ds p c carry h hd l aa ab tt oo own hp1 hp2 hp3 hp4 ok c0 c1 e
    refine qMJ _ _ _ _ _ _ _ _ ?_
    unfold qJb
    refine ⟨_, _, _, aa.cell rfl, ?_⟩
    refine Br.no (decide_eq_false (by omega)) ?_
    refine qSy l ht oo tt own.rd ok (qSp own) (by omega) (B := B) (by omega) ?_ k
    have t1 := qPR oa
    have t2 := qPR ok
    have hl : ds.length = da.length := by omega
    rw [hl, List.take_of_length_le (Nat.le_refl _)] at e
    rw [hl] at t2
    have eb : dig (db.take da.length) = dig db := by
      have s1 := qHg (db.take da.length) (db.drop da.length)
      rw [List.take_append_drop] at s1
      have s2 := qE8 (qIW ob da.length)
      have s3 : okD (db.drop da.length) := fun v hv => ob v (List.mem_of_mem_drop hv)
      have s4 := qE8 s3
      by_cases hlen : da.length ≤ db.length
      · rw [List.length_take, Nat.min_eq_left hlen] at s1
        have hP : (0 : Int) < 10000 ^ da.length := Int.pow_pos (by decide)
        rcases (show dig (db.drop da.length) = 0 ∨ 1 ≤ dig (db.drop da.length) by omega) with z | z
        · rw [z, Int.mul_zero] at s1; omega
        · have : (10000 : Int) ^ da.length * 1 ≤ 10000 ^ da.length * dig (db.drop da.length) := Int.mul_le_mul_of_nonneg_left z (by omega)
          omega
      · rw [List.take_of_length_le (by omega)]
    rw [eb] at e
    have hc : carry = 0 := by
      rcases (show carry = 0 ∨ carry = 1 by omega) with h | h
      · exact h
      · rw [h] at e
        omega
    rw [hc, Int.mul_zero, Int.sub_zero] at e
    unfold sg
    rw [e]
  | succ d ih =>
    intro ds p c carry h hd l aa ab tt oo own hp1 hp2 hp3 hp4 ok c0 c1 e
    refine qMJ _ _ _ _ _ _ _ _ ?_
    unfold qJb
    refine ⟨_, _, _, aa.cell rfl, ?_⟩
    refine Br.yes (decide_eq_true (by omega)) ⟨_, aa.cell rfl, _, _, _, aa.cell rfl, _, ab.cell rfl, _, _, _, ab.cell rfl, ?_⟩
    refine qIc (ra.le l) fun h1 l1 => ⟨_, rfl, .inl l1, ?_⟩
    have l1' := Heap.le_trans l l1
    refine qIc (rb.le l1') fun h2 l2 => ⟨_, rfl, ?_⟩
    have l2' := Heap.le_trans l1' l2
    have l12 := Heap.le_trans l1 l2
    have g1 := qK7 oa ds.length
    have g2 := qK7 ob ds.length
    have e1 := qGR da ds.length
    have e2 := qGR db ds.length
    generalize hxa : da.getD ds.length 0 = x at *
    generalize hxb : db.getD ds.length 0 = y at *
    have w1 : IntKind.wrap .i64 (IntKind.wrap .i64 (x - y) - carry) = x - y - carry := by
      rw [qK (n := x - y) (by omega) (by omega), qK (by omega) (by omega)]
    rw [w1]
    -- whatever is borrowed
    have next : ∀ (v cr : Int), 0 ≤ v → v < 10000 → 0 ≤ cr → cr ≤ 1 → v - 10000 * cr = x - y - carry →
        qO h2 [int .i64 v] 3 fun (r : Nat) (h : Heap) => AppA [int .i64 0] 3 h p ds.length c 1 (some { block := r, off := 0 }) fun (ap : Option Addr) (cp : Nat) (h : Heap) =>
          Heap.canSt h out 1 1 ∧ qEx a b t4 out cr (IntKind.wrap .i64 ((ds.length : Int) + 1)) (Heap.setN h out 1 [slice ap (ds.length + 1) cp]) K := by
      intro v cr v0 v1 cr0 cr1 hv
      rw [qK (n := (ds.length : Int) + 1) (by omega) (by omega)]
      refine qPM (J := fun h => qEx a b t4 out cr ((ds.length : Int) + 1) h K) l2' (oo.le l12) (own.le l12) hp1 ho (by omega) fun p' c' h' l' o' w' hp' keep => ?_
      obtain ⟨aa', q1⟩ := keep _ _ (aa.le l12) n1 hp2
      obtain ⟨ab', q2⟩ := keep _ _ (ab.le l12) n2 hp3
      obtain ⟨tt', q3⟩ := keep _ _ (tt.le l12) n3 hp4
      have hlen : (ds ++ [v]).length = ds.length + 1 := by simp
      have fin := ih (ds ++ [v]) p' c' cr h' (by rw [hlen]; omega) l' aa' ab' tt' o' w' hp' q1 q2 q3 (qMh ok (fun u hu => by simp at hu; omega)) cr0 cr1 (by
        have ed : dig (ds ++ [v]) = dig ds + 10000 ^ ds.length * v := by rw [qHg]; simp [dig]
        rw [hlen, ed, e1, e2, Int.pow_succ, Int.mul_assoc]
        have m1 : (10000 : Int) ^ ds.length * v - 10000 ^ ds.length * (10000 * cr) = 10000 ^ ds.length * (x - y - carry) := by
          rw [← Int.mul_sub]; congr 1
        rw [Int.mul_sub, Int.mul_sub] at m1
        omega)
      rw [hlen] at fin
      exact fin
    refine Br.dec (fun lt => ?_) (fun ge => ?_)
    · refine ⟨_, _, _, (oo.le l12).cell rfl, ?_⟩
      rw [qK (n := x - y - carry + 10000) (by omega) (by omega)]
      exact next _ 1 (by omega) (by omega) (by omega) (by omega) (by omega)
    · exact ⟨_, _, _, (oo.le l12).cell rfl, next _ 0 (by omega) (by omega) (by omega) (by omega) (by omega)⟩
end Go.Proofs.YtjihfieahkbohaaGreat
