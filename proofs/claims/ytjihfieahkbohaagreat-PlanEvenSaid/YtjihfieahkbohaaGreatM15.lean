import Derived.Test.YtjihfieahkbohaaGreatM14
import Derived.Test.YtjihfieahkbohaaGreatM11
import Derived.Test.YtjihfieahkbohaaGreatM05
/- The program's book and the document's, of the same instructions. -/
namespace Go.Proofs.YtjihfieahkbohaaGreat
open Go Go.Sy Go.Value
set_option linter.unusedVariables false
set_option linter.unusedSimpArgs false

def qOA : Sh := .two (.int .i64) (.two (.int .i64) (.two (.int .i64) (.two (.int .i64) (.two (.int .i64) (.two (.int .i64) (.two (.int .i64) .nil))))))
theorem qVz {h : Heap} {cs : List Value} (H : qOA.Has h cs) : ∃ d : Dl, cs = dV d ∧ qLu d := by
  obtain ⟨_, _, rfl, _, ⟨c0, rfl, w0⟩, _, _, rfl, _, ⟨c1, rfl, w1⟩, _, _, rfl, _, ⟨c2, rfl, w2⟩, _, _, rfl, _, ⟨c3, rfl, w3⟩, _, _, rfl, _, ⟨c4, rfl, w4⟩, _, _, rfl, _, ⟨c5, rfl, w5⟩, _, _, rfl, _, ⟨c6, rfl, w6⟩, hnil⟩ := H
  cases hnil
  exact ⟨⟨c0, c1, c2, c3, c4, c5, c6⟩, rfl, (I64.of_wf w5).2, (I64.of_wf w6).2⟩
theorem ldD {h : Heap} {x : Dl} {a b : Nat} {J : Int → Int → Int → Int → Int → Int → Int → Prop} (hc : ∀ o, o < 7 → h.cell b (a + o) = (dV x)[o]?) (k : J x.id x.a x.b x.sc x.bc x.sell x.buy) : qGF h b a J :=
  ⟨_, hc 0 (by decide), _, hc 1 (by decide), _, hc 2 (by decide), _, hc 3 (by decide), _, hc 4 (by decide), _, hc 5 (by decide), _, hc 6 (by decide), k⟩
theorem qSN {h : Heap} {x : Dl} {b : Nat} (A : At h b (dV x)) {J : Int → Int → Int → Int → Int → Int → Int → Prop} (k : J x.id x.a x.b x.sc x.bc x.sell x.buy) : qGF h b 0 J := ldD (fun o ho => A.cellO ho) k
def qPr (S : Bk) (d : Dl) : Bk := (qB0 (qB0 S d).2.2 (qE5 d)).2.2
def qHs (l : List Dl) : Bk := l.foldl qPr ⟨16, 8, [], 0⟩
theorem qOb (l : List Dl) (d : Dl) : qHs (l ++ [d]) = (qB0 (qB0 (qHs l) d).2.2 (qE5 d)).2.2 := by
  unfold qHs
  rw [List.foldl_append]; rfl
theorem qRS (S : Bk) (d : Dl) : (qB0 S d).2.2.mem = S.mem ∧ (qB0 S d).2.2.cur = S.cur := by
  unfold qB0
  repeat' split
  all_goals exact ⟨rfl, rfl⟩
theorem qUO (l : List Dl) : (qHs l).mem = 16 ∧ (qHs l).cur = 8 := by
  have : ∀ (l : List Dl) (S : Bk), (l.foldl qPr S).mem = S.mem ∧ (l.foldl qPr S).cur = S.cur := by
    intro l
    induction l with
    | nil => exact fun S => ⟨rfl, rfl⟩
    | cons d l ih =>
      intro S
      rw [List.foldl_cons]
      have h1 := ih (qPr S d)
      have h2 := qRS S d
      have h3 := qRS (qB0 S d).2.2 (qE5 d)
      exact ⟨h1.1.trans (h3.1.trans h2.1), h1.2.trans (h3.2.trans h2.2)⟩
  exact this l ⟨16, 8, [], 0⟩
section
variable {h0 : Heap} {K : Value → Heap → Prop} {up : Option Addr} {l : List Dl} {uc : Nat} {p q : Nat}
theorem qXn (A : Arr dV h0 up l) (hd : ∀ d ∈ l, qLu d) (hn : l.length ≤ 60)
    (k : ∀ H X g1 g2, SepT H X g1 g2 → h0.le X → PB g1 p (qHs l) → RB g2 q (qHs l) → K (tuple #[pointer (some ⟨p, 0, none⟩), pointer (some ⟨q, 0, none⟩)]) H) :
    ∀ (a j : Nat) (H X g1 g2 : Heap), a + j = l.length → SepT H X g1 g2 → h0.le X → PB g1 p (qHs (l.take j)) → RB g2 q (qHs (l.take j)) → qGw (some ⟨p, 0, none⟩) (some ⟨q, 0, none⟩) up l.length uc l.length j H K := by
  intro a
  induction a with
  | zero =>
    intro j H X g1 g2 hj s hX P R
    refine qKi _ _ _ _ _ _ _ _ _ ?_
    unfold qH3
    rw [List.take_of_length_le (by omega)] at P R
    exact Br.no (by simp; omega) (Ret.mk (k H X g1 g2 s hX P R))
  | succ a ih =>
    intro j H X g1 g2 hj s hX P R
    refine qKi _ _ _ _ _ _ _ _ _ ?_
    unfold qH3
    have hx : l[j]? = some l[j] := List.getElem?_eq_getElem (by omega)
    have hdm := hd _ (List.getElem_mem (show j < l.length by omega))
    have tk : l.take (j + 1) = l.take j ++ [l[j]] := by rw [List.take_add_one, hx]; rfl
    generalize l[j] = d at *
    have hdm2 : qLu (qE5 d) := ⟨hdm.2, hdm.1⟩
    rw [w1 (j := j) (by omega)]
    refine Br.yes (by simp; omega) (ax qWo (A.le (Heap.le_trans hX s.x)) rfl rfl hx (by decide) fun b o _ hc => ldD hc ?_)
    refine s.cp (vs := dV d) rfl fun r1 H1 X1 s1 A1 keep1 cs1 hr1 lx1 => ?_
    have B1 := A1.le s1.x
    refine ⟨cs1, _, B1.cell rfl, _, B1.cell rfl, _, B1.cell rfl, _, B1.cell rfl, _, B1.cell rfl, _, B1.cell rfl, _, B1.cell rfl, ?_⟩
    refine s1.cp (vs := dV (qE5 d)) rfl fun r2 H2 X2 s2 A2 keep2 cs2 hr2 lx2 => ⟨cs2, ?_⟩
    have A1 := keep2 _ _ A1
    refine qSN (A1.le s2.x) (s2.call1 (qLr P (d := d) hdm fun g1 P H s => ⟨_, _, rfl, ?_⟩))
    refine qSN (A2.le s.x) (s.call1 (qLr P (d := qE5 d) hdm2 fun g1 P H s => ⟨_, _, rfl, ?_⟩))
    refine qSN (A1.le s.x) (s.call2 (qPa R (d := d) hdm fun g2 R H s => ⟨_, _, rfl, ?_⟩))
    refine qSN (A2.le s.x) (s.call2 (qPa R (d := qE5 d) hdm2 fun g2 R H s => ⟨_, _, rfl, ?_⟩))
    exact ih (j + 1) H X2 g1 g2 (by omega) s (Heap.le_trans hX (Heap.le_trans lx1 lx2)) (by rw [tk, qOb]; exact P) (by rw [tk, qOb]; exact R)
theorem qVX (A : Arr dV h0 up l) (hd : ∀ d ∈ l, qLu d) (hn : l.length ≤ 60)
    (k : ∀ p q H X g1 g2, SepT H X g1 g2 → h0.le X → PB g1 p (qHs l) → RB g2 q (qHs l) → K (tuple #[pointer (some ⟨p, 0, none⟩), pointer (some ⟨q, 0, none⟩)]) H) :
    CallA Tryz.prog qIt [slice up l.length uc] h0 K := by
  refine qPh _ _ _ _ _ ?_
  unfold qLH
  have s := SepT.start h0
  refine s.new1 (qVP (fun g => (g ⟨by decide, by decide⟩).elim) fun _ p g1 _ P H s => ⟨_, _, rfl, ?_⟩)
  refine s.new2 (qWR (fun g => (g ⟨by decide, by decide⟩).elim) fun _ q g2 _ R H s => ⟨_, _, rfl, Br.no rfl (Br.no rfl ?_)⟩)
  exact qXn A hd hn (fun H X g1 g2 s hX P R => k p q H X g1 g2 s hX P R) l.length 0 H h0 g1 g2 (by omega) s h0.le_refl P R
end
end Go.Proofs.YtjihfieahkbohaaGreat
