import Derived.Test.YtjihfieahkbohaaGreatM07
import Derived.Test.YtjihfieahkbohaaGreatM10
import Derived.Test.YtjihfieahkbohaaGreatM04
import Derived.Test.YtjihfieahkbohaaGreatM06
import Derived.Test.YtjihfieahkbohaaGreatM09
import Derived.Test.YtjihfieahkbohaaGreatM02
import Derived.Test.YtjihfieahkbohaaGreatM05
/- Who is behind: what plan.Behind answers. -/
namespace Go.Proofs.YtjihfieahkbohaaGreat
open Go Go.Sy Go.Value
set_option linter.unusedVariables false
set_option linter.unusedSimpArgs false

/-! ### plainly -/
def qJg (x : Du) : Bool := decide (x.m < 0 ∨ x.c < 0 ∨ x.n < 1)
def qK1 (P : List (List Int)) (m c : Int) : Int := if 0 > (P.getD m.toNat []).getD c.toNat 0 then 0 else (P.getD m.toNat []).getD c.toNat 0
def qNc (P : List (List Int)) (now : Int) (x : Du) (s : Int) : List Du := if s - qK1 P x.m x.c > 0 then [⟨x.m, x.c, now, s - qK1 P x.m x.c⟩] else []
def qLM (x : Du) : Int → Nat → List Du → Option (Int × Nat)
  | s, j, [] => some (s, j)
  | s, j, y :: R => if qL2 x y = 0 then (if s + y.n ≤ 9223372036854775807 then qLM x (s + y.n) (j + 1) R else none) else some (s, j)
def qKN (P : List (List Int)) (now : Int) : Nat → List Du → List Du → List Du × Int
  | 0, _, out => (out, 0)
  | _ + 1, [], out => (out, 0)
  | f + 1, x :: R, out => match qLM x x.n 1 R with
    | none => ([], 3)
    | some (s, j) => qKN P now f ((x :: R).drop j) (out ++ qNc P now x s)
def okU (x : Du) : Prop := 0 ≤ x.m ∧ 0 ≤ x.c ∧ 1 ≤ x.n ∧ x.n ≤ 9223372036854775807 ∧ I64 x.m ∧ I64 x.c ∧ I64 x.t
theorem qUs (x : Du) (s : Int) (j : Nat) (y : Du) (R : List Du) : qLM x s j (y :: R) = if qL2 x y = 0 then (if s + y.n ≤ 9223372036854775807 then qLM x (s + y.n) (j + 1) R else none) else some (s, j) := rfl
theorem qS8 {x : Du} : ∀ {R : List Du} {s : Int} {j : Nat} {s' : Int} {j' : Nat}, (∀ y ∈ R, okU y) → 1 ≤ s → s ≤ 9223372036854775807 → qLM x s j R = some (s', j') → 1 ≤ s' ∧ s' ≤ 9223372036854775807 ∧ j ≤ j' ∧ j' ≤ j + R.length
  | [], s, j, s', j', _, h1, h2, h => by
    cases h
    exact ⟨h1, h2, Nat.le_refl _, Nat.le_refl _⟩
  | y :: R, s, j, s', j', ho, h1, h2, h => by
    have hy := ho y (List.mem_cons_self ..)
    unfold okU at hy
    unfold qLM at h
    rw [List.length_cons]
    split at h
    · split at h
      · have := qS8 (fun z hz => ho z (List.mem_cons_of_mem _ hz)) (by omega) (by omega) h
        omega
      · cases h
    · cases h
      omega
theorem qSY {h : Heap} {K : Value → Heap → Prop} (k : K (tuple #[]) h) : CallA Tryz.prog qx [slice none 0 0, func (Fn.func qI) #[] #[]] h K := by
  refine qDS _ _ _ _ _ ?_
  unfold qBY
  refine qFr _ _ _ _ _ _ ?_
  unfold qDC
  refine qE1 _ _ _ _ _ _ _ _ _ ?_
  unfold qCp
  refine Br.no (by decide) ?_
  refine qD2 _ _ _ _ _ _ _ ?_
  unfold qBw
  refine qBd _ _ _ _ _ _ _ _ ?_
  unfold qAc
  refine Br.no (by decide) (Ret.mk ⟨rfl, ?_⟩)
  refine qCm _ _ _ _ _ _ _ ?_
  unfold qBR
  exact Br.no (by decide) (Ret.mk ⟨rfl, Ret.mk k⟩)
section
variable {h : Heap} {K : Value → Heap → Prop}
theorem qYl {x : Du} (k : ∀ h', h.le h' → K (.bool (qJg x)) h') : CallA Tryz.prog qBp [uA x] h K := by
  refine qPz _ _ _ _ _ _ ?_
  unfold qLC
  refine qr fun r h1 hr l1 A1 => ⟨_, A1.cell rfl, Br.dec (fun g => Ret.mk ?_) fun g1 => ⟨_, A1.cell rfl, Br.dec (fun g => Ret.mk ?_) fun g2 => ⟨_, A1.cell rfl, Ret.mk ?_⟩⟩⟩
  · have := k h1 l1
    unfold qJg at this
    rw [decide_eq_true (.inl g)] at this
    exact this
  · have := k h1 l1
    unfold qJg at this
    rw [decide_eq_true (.inr (.inl g))] at this
    exact this
  · have := k h1 l1
    unfold qJg at this
    rw [show decide (x.m < 0 ∨ x.c < 0 ∨ x.n < 1) = decide (x.n < 1) by rw [decide_eq_decide]; omega] at this
    exact this
theorem _root_.Go.Sy.At.cellO {h : Heap} {b o : Nat} {vs : List Value} (A : At h b vs) (ho : o < vs.length) : h.cell b (0 + o) = vs[o]? := by
  rw [Nat.zero_add]
  exact (A.cell (List.getElem?_eq_getElem ho)).trans (List.getElem?_eq_getElem ho).symm
theorem ldX {p : Option Addr} {D : List Du} {n : Nat} (A : Arr uV h p D) (hn : D.length = n) {j : Nat} {i : Int} (hi : i = (j : Int)) {x : Du} (hx : D[j]? = some x) {J : Int → Int → Int → Int → Prop} (k : J x.m x.c x.t x.n) :
    0 ≤ i ∧ i < (n : Int) ∧ qA p fun b o => qCl h b (o + i.toNat * 4) J :=
  by subst hi; exact ax qCx A hn rfl hx (by decide) fun b a _ hc => ldU hc k
theorem qWL {p : Option Addr} {D : List Du} {n c : Nat} (A : Arr uV h p D) (hn : D.length = n) (hs : n ≤ 1000000) (k : ∀ (v : Int) h', h.le h' → decide (v ≥ 0) = D.any qJg → K (.int .i64 v) h') :
    ∀ (m j : Nat) (h1 : Heap), h.le h1 → m + j = n → D.any qJg = (D.drop j).any qJg → qAu p n c n j h1 K := by
  intro m
  induction m with
  | zero =>
    intro j h1 l1 hj e
    refine qDv _ _ _ _ _ _ _ ?_
    unfold qBq
    rw [List.drop_eq_nil_of_le (by omega), List.any_nil] at e
    exact Br.no (by simp; omega) (Ret.mk (k _ _ l1 (by rw [e]; decide)))
  | succ m ih =>
    intro j h1 l1 hj e
    refine qDv _ _ _ _ _ _ _ ?_
    unfold qBq
    have hx : D[j]? = some D[j] := List.getElem?_eq_getElem (by omega)
    rw [List.drop_eq_getElem_cons (by omega : j < D.length), List.any_cons] at e
    generalize D[j] = x at *
    refine Br.yes (by simp; omega) (ldX (A.le l1) hn rfl hx (qYl (x := x) fun h2 l2 => ⟨_, rfl, ?_⟩))
    cases eb : qJg x with
    | true =>
      rw [eb, Bool.true_or] at e
      exact Br.yes rfl (Ret.mk (k _ _ (Heap.le_trans l1 l2) (by rw [e]; simp)))
    | false =>
      rw [eb, Bool.false_or] at e
      refine Br.no rfl ?_
      rw [w1 (by omega)]
      exact ih (j + 1) h2 (Heap.le_trans l1 l2) (by omega) e
theorem qWK {p : Option Addr} {D : List Du} {n c : Nat} (A : Arr uV h p D) (hn : D.length = n) (hs : n ≤ 1000000) (k : ∀ h', h.le h' → K (.bool (D.any qJg)) h') :
    CallA Tryz.prog qBo [slice p n c, func (Fn.func qBp) #[] #[]] h K := by
  refine qG3 _ _ _ _ _ ?_
  unfold qDc
  refine qHL _ _ _ _ _ ?_
  unfold qEF
  exact qWL A hn hs (fun v h' l' e => ⟨_, rfl, by rw [e]; exact Ret.mk (k h' l')⟩) n 0 h h.le_refl (by omega) rfl
end
/-! ### one member and currency after the other -/
section
variable {g : Heap} {K : Value → Heap → Prop} {pp q : Option Addr} {PL : List NRow} {pc lc : Nat} {now : Int} {W : List Du}
theorem qWj {h : Heap} {x : Du} {first j : Nat} {s : Int} {out : List Du} {op : Option Addr} {oc : Nat} (A : At h first (uV x)) (l : g.le h) (O : OwnL g h z4 op oc (out.flatMap uV)) (ho : out.length ≤ 1000000)
    (k : ∀ h' op' oc', g.le h' → OwnL g h' z4 op' oc' ((out ++ qNc (mxN PL) now x s).flatMap uV) → qGB pp PL.length pc now q W.length lc op' (out ++ qNc (mxN PL) now x s).length oc' j h' K) :
    qDL pp PL.length pc now q W.length lc op out.length oc first j (s - qK1 (mxN PL) x.m x.c) h K := by
  refine qNN _ _ _ _ _ _ _ _ _ _ _ _ _ _ _ ?_
  unfold qJC
  unfold qNc at k
  refine Br.dec (fun g1 => ?_) fun g1 => ?_
  · rw [if_pos g1] at k
    refine ⟨_, A.cell rfl, _, A.cell rfl, qJi (ws := uV ⟨x.m, x.c, now, s - qK1 (mxN PL) x.m x.c⟩) O (by decide) l (by omega) rfl rfl (by rw [qp qCx]; rfl) fun r h1 p' c' h' hr l1 l' O' keep how => ?_⟩
    have := k h' p' c' l' (by rw [List.flatMap_append, List.flatMap_cons, List.flatMap_nil, List.append_nil]; exact O')
    rw [List.length_append] at this
    exact this
  · rw [if_neg g1, List.append_nil] at k
    exact k h op oc l O
theorem qVm {h : Heap} {x : Du} {first j : Nat} {s : Int} {op : Option Addr} {on oc : Nat} (A : At h first (uV x)) (N : Nets h pp PL) (hx : okU x) (hs : 1 ≤ s ∧ s ≤ 9223372036854775807) (hP : ∀ y ∈ PL, qHN y.l)
    (k : qDL pp PL.length pc now q W.length lc op on oc first j (s - qK1 (mxN PL) x.m x.c) h K) :
    qEM pp PL.length pc now q W.length lc op on oc first j s h K := by
  refine qNM _ _ _ _ _ _ _ _ _ _ _ _ _ _ _ ?_
  unfold qJD
  unfold okU at hx
  obtain ⟨m, hm⟩ : ∃ m : Nat, x.m = (m : Int) := ⟨x.m.toNat, by omega⟩
  obtain ⟨c, hc⟩ : ∃ c : Nat, x.c = (c : Int) := ⟨x.c.toNat, by omega⟩
  have none0 : (((mxN PL).getD m []).getD c 0 = 0) → qK1 (mxN PL) x.m x.c = 0 := fun e => by
    unfold qK1
    rw [hm, hc, Int.toNat_natCast, Int.toNat_natCast, e]; decide
  refine ⟨_, A.cell rfl, Br.dec (fun g1 => ?_) fun g1 => ?_⟩
  · have hml : m < PL.length := by rw [hm] at g1; omega
    have hy : PL[m]? = some PL[m] := List.getElem?_eq_getElem hml
    have hym : PL[m] ∈ PL := List.getElem_mem _
    have hrow : (mxN PL).getD m [] = (PL[m]).l := by unfold mxN; rw [List.getD_eq_getElem?_getD, List.getElem?_map, hy]; rfl
    generalize PL[m] = y at *
    refine ⟨_, A.cell rfl, _, A.cell rfl, nx N rfl hm hy (Br.dec (fun g2 => ?_) fun g2 => ?_)⟩
    · have hcl : c < y.l.length := by rw [hc] at g2; omega
      have hv : y.l[c]? = some (y.l.getD c 0) := by rw [List.getD_eq_getElem?_getD, List.getElem?_eq_getElem hcl]; rfl
      refine ⟨_, A.cell rfl, nx N rfl hm hy ⟨_, A.cell rfl, ix (N.2 y hym) rfl hc hv ?_⟩⟩
      have hI := hP y hym _ (List.mem_of_getElem? hv)
      have e : qK1 (mxN PL) x.m x.c = if 0 > y.l.getD c 0 then 0 else y.l.getD c 0 := by
        unfold qK1
        rw [hm, hc, Int.toNat_natCast, Int.toNat_natCast, hrow]
      unfold I64 at hI
      rw [e] at k
      rw [qK (by split <;> omega) (by split <;> omega)]
      exact k
    · rw [none0 (by rw [hrow, List.getD_eq_getElem?_getD, List.getElem?_eq_none (by rw [hc] at g2; omega)]; rfl), Int.sub_zero] at k
      exact k
  · rw [none0 (by
      have e : (mxN PL).getD m [] = [] := by
        unfold mxN
        rw [List.getD_eq_getElem?_getD, List.getElem?_eq_none (by rw [List.length_map]; rw [hm] at g1; omega)]; rfl
      rw [e]; rfl), Int.sub_zero] at k
    exact k
theorem qY8 {x : Du} {R : List Du} (hW : W = x :: R) (A : Arr uV g q W) (ho : ∀ y ∈ W, okU y) (hs : W.length ≤ 1000000) {op : Option Addr} {on oc : Nat} {first : Nat} {h0 : Heap} (l0 : g.le h0) (F : At h0 first (uV x))
    (k0 : ∀ h', h0.le h' → qLM x x.n 1 R = none → K (tuple #[slice none 0 0, .int .i64 3]) h')
    (k1 : ∀ h' s j, h0.le h' → qLM x x.n 1 R = some (s, j) → qEM pp PL.length pc now q W.length lc op on oc first j s h' K) :
    ∀ (T : List Du) (j : Nat) (s : Int) (h : Heap), h0.le h → W.drop j = T → j + T.length = W.length → 1 ≤ s → s ≤ 9223372036854775807 → qLM x x.n 1 R = qLM x s j T → qGD pp PL.length pc now q W.length lc op on oc first j s h K := by
  intro T
  induction T with
  | nil =>
    intro j s h l hT hj h1 h2 e
    refine qLG _ _ _ _ _ _ _ _ _ _ _ _ _ _ _ ?_
    unfold qIP
    rw [List.length_nil] at hj
    exact Br.no (decide_eq_false (by omega)) (k1 h s j l e)
  | cons y T ih =>
    intro j s h l hT hj h1 h2 e
    refine qLG _ _ _ _ _ _ _ _ _ _ _ _ _ _ _ ?_
    unfold qIP
    rw [List.length_cons] at hj
    have hy : W[j]? = some y := by
      have := congrArg (fun z => z[0]?) hT
      simpa using this
    have hT2 : W.drop (j + 1) = T := by
      have := congrArg List.tail hT
      rw [List.tail_drop] at this
      simpa using this
    have hym := ho y (List.mem_of_getElem? hy)
    unfold okU at hym
    refine Br.yes (decide_eq_true (by omega)) (ldU (a := 0) (fun o ho => (F.le l).cellO ho) (ldX (A.le (Heap.le_trans l0 l)) rfl rfl hy (qRZ (x := x) (y := y) fun h' l' => ⟨_, rfl, ?_⟩)))
    rw [qUs] at e
    refine Br.intro (fun g1 => ?_) fun g1 => ?_
    · have g1 : qL2 x y = 0 := by simpa using g1
      rw [if_pos g1] at e
      refine ax qCx (A.le (Heap.le_trans l0 (Heap.le_trans l l'))) rfl rfl hy (by decide) fun b a _ hc => ⟨_, hc 3 (by decide), qZH (by unfold I64; omega) (by unfold I64; omega) h' _ ⟨_, _, rfl, ?_⟩⟩
      by_cases g2 : s + y.n ≤ 9223372036854775807
      · rw [if_pos g2] at e
        rw [qIG (by unfold I64; omega), w1 (by omega)]
        exact Br.no rfl (ih (j + 1) (s + y.n) h' (Heap.le_trans l l') hT2 (by omega) (by omega) (by omega) e)
      · rw [if_neg g2] at e
        rw [qGI (by unfold I64; omega)]
        exact Br.yes rfl (Ret.mk (k0 h' (Heap.le_trans l l') e))
    · have g1 : ¬ qL2 x y = 0 := by simpa using g1
      rw [if_neg g1] at e
      exact k1 h' s j (Heap.le_trans l l') e
end
end Go.Proofs.YtjihfieahkbohaaGreat

/- Shares, plainly: who gets one more, and how near a share is. -/
namespace Go.Proofs.YtjihfieahkbohaaGreat
open Go Go.Sy Go.Value
set_option linter.unusedVariables false
set_option linter.unusedSimpArgs false

def more (t : Int) (ws : List Int) : List Int := (qNT (qFn t (qP ws) ws) ws.length).take (t - qP (qA1 t (qP ws) ws)).toNat
theorem qUc {l m : List Int} (h : l.Perm m) : qP l = qP m := by
  induction h with
  | nil => rfl
  | cons x _ ih => simp only [qP, ih]
  | swap x y l => simp only [qP]; omega
  | trans _ _ h1 h2 => exact h1.trans h2
end Go.Proofs.YtjihfieahkbohaaGreat

/- Dues, plainly: what is told of a member and a currency, and who is behind. -/
namespace Go.Proofs.YtjihfieahkbohaaGreat
open Go Go.Sy Go.Value
set_option linter.unusedVariables false
set_option linter.unusedSimpArgs false

theorem qMp : ∀ (a b : List Int), qP (a ++ b) = qP a + qP b
  | [], b => by simp [qP]
  | x :: a, b => by rw [List.cons_append, qP, qP, qMp a b]; omega
end Go.Proofs.YtjihfieahkbohaaGreat

/- Dues, plainly: those of a member and a currency. -/
namespace Go.Proofs.YtjihfieahkbohaaGreat
open Go Go.Sy Go.Value
set_option linter.unusedVariables false
set_option linter.unusedSimpArgs false

end Go.Proofs.YtjihfieahkbohaaGreat

/- A book of instructions: made, asked, and changed. -/
namespace Go.Proofs.YtjihfieahkbohaaGreat
open Go Go.Sy Go.Value
set_option linter.unusedVariables false
set_option linter.unusedSimpArgs false

def dA (d : Dl) : Value := agg #[.int .i64 d.id, .int .i64 d.a, .int .i64 d.b, .int .i64 d.sc, .int .i64 d.bc, .int .i64 d.sell, .int .i64 d.buy]
def dl0 : Dl := ⟨0, 0, 0, 0, 0, 0, 0⟩
def qE9 (S : Bk) (id : Int) : Dl × Bool := match qR2 S id with
  | some x => (x.d, true)
  | none => (dl0, false)
def qM2 (d : Dl) : Prop := d.sell ≤ 9223372036854775807 ∧ d.buy ≤ 9223372036854775807
section
variable {h : Heap} {K : Value → Heap → Prop} {p : Nat} {S : Bk} {lp : Option Addr} {c mr : Nat}
theorem qW3 {a b m : Int} (k : K (.bool (qLV a b m)) h) : CallA Tryz.prog qJm [.int .i64 a, .int .i64 b, .int .i64 m] h K := by
  refine qUJ _ _ _ _ _ ?_
  unfold qOs
  have no : ¬ (0 ≤ a ∧ 0 ≤ b ∧ a < m ∧ b < m) → K (.bool false) h := fun g => by
    have e : qLV a b m = false := by unfold qLV; rw [decide_eq_false_iff_not]; omega
    rw [e] at k; exact k
  refine Br.dec (fun g1 => Br.dec (fun g2 => Br.dec (fun g3 => Br.dec (fun g4 => Ret.mk ?_) fun g => Ret.mk (no (by omega))) fun g => Ret.mk (no (by omega))) fun g => Ret.mk (no (by omega))) fun g => Ret.mk (no (by omega))
  have e : qLV a b m = (a != b) := by
    unfold qLV
    by_cases g : a = b
    · rw [decide_eq_false (by omega)]; simp [g]
    · rw [decide_eq_true (by omega)]; simp [g]
  rw [e] at k; exact k
theorem qZB (B : PBk h p S lp c mr) {d : Dl} (k : ∀ h', h.le h' → K (.bool (decide (qHP S.mem S.cur d))) h') : CallA Tryz.prog qHz [pointer (some ⟨p, 0, none⟩), dA d] h K := by
  refine qPA _ _ _ _ _ _ _ _ _ _ ?_
  unfold qKZ
  refine qr fun r h1 hr l1 A1 => ?_
  have B1 := B.le l1
  have no : ¬ qHP S.mem S.cur d → K (.bool false) h1 := fun g => by
    have := k h1 l1
    rw [decide_eq_false g] at this; exact this
  have yes : qHP S.mem S.cur d → K (.bool true) h1 := fun g => by
    have := k h1 l1
    rw [decide_eq_true g] at this; exact this
  refine ⟨_, A1.cell rfl, Br.dec (fun g1 => ⟨_, A1.cell rfl, Br.dec (fun g2 => ⟨_, A1.cell rfl, _, A1.cell rfl, qB rfl ⟨_, B1.ap.cell rfl, qW3 ⟨_, rfl, Br.intro (fun g3 => ?_) fun g3 => Ret.mk (no fun m => by rw [m.2.2.1] at g3; cases g3)⟩⟩⟩) fun g => Ret.mk (no fun m => g m.2.1)⟩) fun g => Ret.mk (no fun m => g m.1)⟩
  refine ⟨_, A1.cell rfl, _, A1.cell rfl, qB rfl ⟨_, B1.ap.cell rfl, qW3 ⟨_, rfl, Br.intro (fun g4 => ?_) fun g4 => Ret.mk (no fun m => by rw [m.2.2.2.1] at g4; cases g4)⟩⟩⟩
  refine ⟨_, A1.cell rfl, Br.dec (fun g5 => ⟨_, A1.cell rfl, Ret.mk ?_⟩) fun g => Ret.mk (no fun m => g m.2.2.2.2.1)⟩
  by_cases g6 : d.buy ≥ 1
  · rw [decide_eq_true g6]; exact yes ⟨g1, g2, g3, g4, g5, g6⟩
  · rw [decide_eq_false g6]; exact no fun m => g6 m.2.2.2.2.2
theorem qWf {d : Dl} (k : ∀ h', h.le h' → K (dA (qFf d)) h') : CallA Tryz.prog qMF [dA d] h K := by
  refine qRC _ _ _ _ _ _ _ _ _ ?_
  unfold qMH
  refine qr fun r h1 hr l1 A1 => qr fun r2 h2 hr2 l2 A2 => ?_
  have A1' := A1.le l2
  have A3 := A2.set (o := 0) (ws := dV (qFf d))
  refine ⟨_, A1'.cell rfl, _, A1'.cell rfl, _, A1'.cell rfl, _, A1'.cell rfl, _, A1'.cell rfl, _, A1'.cell rfl, _, A1'.cell rfl, A2.canSt (Nat.le_refl _), _, A3.cell rfl, _, A3.cell rfl, _, A3.cell rfl, _, A3.cell rfl, _, A3.cell rfl, _, A3.cell rfl, _, A3.cell rfl, Ret.mk ?_⟩
  exact k _ (qAf (Heap.le_trans l1 l2) (qAk l1 hr2))
theorem qU2 (B : PBk h p S lp c mr) {id : Int} (k0 : qAl id S.L = none → K (pointer none) h) (k1 : ∀ i x r, qAl id S.L = some i → S.L[i]? = some x → lp = some ⟨r, 0, none⟩ → K (pointer (some ⟨r, i * 10, none⟩)) h) :
    CallA Tryz.prog qF8 [pointer (some ⟨p, 0, none⟩), .int .i64 id] h K := by
  refine qOc _ _ _ _ ?_
  unfold qJr
  refine qB rfl ⟨_, B.ap.cell rfl, mr, _, rfl, B.mp, ?_⟩
  unfold qL5
  cases hp : qAl id S.L with
  | none =>
    exact Br.yes rfl (Ret.mk (k0 hp))
  | some i =>
    obtain ⟨x, hx, _⟩ := qLx hp
    obtain ⟨r, sp, e, _⟩ := B.row hx
    have hi := (List.getElem?_eq_some_iff.1 hx).1
    refine Br.no rfl (qB rfl ⟨_, _, _, B.ap.cell rfl, by simp, by simp; omega, qB e (Ret.mk ?_)⟩)
    have := k1 i x r hp hx e
    simpa using this
theorem qXq (B : PBk h p S lp c mr) {id : Int} (k : ∀ h', h.le h' → K (tuple #[dA (qE9 S id).1, .bool (qE9 S id).2]) h') : CallA Tryz.prog qHV [pointer (some ⟨p, 0, none⟩), .int .i64 id] h K := by
  refine qOe _ _ _ _ ?_
  unfold qKA
  unfold qE9 qR2 at k
  refine qr fun r0 h1 hr0 l1 A1 => ?_
  have B1 := B.le l1
  refine qU2 B1 (fun hp => ⟨_, rfl, Br.no rfl ?_⟩) fun i x r hp hx hr => ⟨_, rfl, Br.yes rfl (qB rfl ?_)⟩
  · rw [hp] at k
    have A3 := A1.set (o := 0) (ws := dV dl0)
    refine ⟨A1.canSt (Nat.le_refl _), _, A3.cell rfl, _, A3.cell rfl, _, A3.cell rfl, _, A3.cell rfl, _, A3.cell rfl, _, A3.cell rfl, _, A3.cell rfl, Ret.mk ?_⟩
    exact k _ (qAf l1 hr0)
  · obtain ⟨r', sp, e', a, _, hc⟩ := B1.row hx
    rw [hr] at e'
    have e' : r = r' := by simpa using e'
    subst e'
    rw [hp] at k
    dsimp only [Option.bind] at k
    rw [hx] at k
    have A3 := A1.set (o := 0) (ws := dV x.d)
    refine ⟨_, hc 0 (by decide), _, hc 1 (by decide), _, hc 2 (by decide), _, hc 3 (by decide), _, hc 4 (by decide), _, hc 5 (by decide), _, hc 6 (by decide), A1.canSt (Nat.le_refl _), _, A3.cell rfl, _, A3.cell rfl, _, A3.cell rfl, _, A3.cell rfl, _, A3.cell rfl, _, A3.cell rfl, _, A3.cell rfl, Ret.mk ?_⟩
    exact k _ (qAf l1 hr0)
end
end Go.Proofs.YtjihfieahkbohaaGreat

/- A book of instructions: made, submitted to, rescinded, removed from. -/
namespace Go.Proofs.YtjihfieahkbohaaGreat
open Go Go.Sy Go.Value
set_option linter.unusedVariables false
set_option linter.unusedSimpArgs false

theorem MapF.keepB {h h' : Heap} {q : Option Addr} {r : Nat} {kk vk : IntKind} {f : Int → Option Int} (M : MapF h r kk vk f) (keep : ∀ b y, h b = some y → q ≠ some ⟨b, 0, none⟩ → h' b = some y) (ne : q ≠ some ⟨r, 0, none⟩) : MapF h' r kk vk f := by
  obtain ⟨es, e, c, h1, h2⟩ := M
  exact ⟨es, e, c, keep _ _ h1 ne, h2⟩
theorem OwnL.neM {g h : Heap} {z : List Value} {q : Option Addr} {c r : Nat} {vs : List Value} {kk vk : IntKind} {f : Int → Option Int} (x : OwnL g h z q c vs) (M : MapF h r kk vk f) : q ≠ some ⟨r, 0, none⟩ := fun e => by
  rcases x with ⟨_, e2, _⟩ | ⟨s, sp, e2, _, a, _⟩
  · rw [e2] at e; cases e
  · rw [e2] at e
    have e : s = r := by simpa using e
    exact M.ne a e
section
variable {h : Heap} {K : Value → Heap → Prop} {p : Nat} {S : Bk} {lp : Option Addr} {c mr : Nat}
theorem PBk.keep {h' : Heap} {q : Option Addr} (B : PBk h p S lp c mr) (keep : ∀ b y, h b = some y → q ≠ some ⟨b, 0, none⟩ → h' b = some y) (n1 : q ≠ some ⟨p, 0, none⟩) (n2 : ∀ r, lp = some ⟨r, 0, none⟩ → q ≠ some ⟨r, 0, none⟩) (n3 : q ≠ some ⟨mr, 0, none⟩) :
    PBk h' p S lp c mr := ⟨qKD keep B.ap n1, B.ol.mv fun b xs e a => qKD keep a (n2 b e), MapF.keepB B.mp keep n3, B.np⟩
theorem qWw {m cu : Int} (k0 : ¬ ((1 ≤ m ∧ m ≤ 16) ∧ 1 ≤ cu ∧ cu ≤ 8) → K (tuple #[pointer none, .int .i64 1]) h)
    (k1 : (1 ≤ m ∧ m ≤ 16) ∧ 1 ≤ cu ∧ cu ≤ 8 → ∀ p h', h.le h' → PB h' p ⟨m, cu, [], 0⟩ → K (tuple #[pointer (some ⟨p, 0, none⟩), .int .i64 0]) h') : CallA Tryz.prog qJq [.int .i64 m, .int .i64 cu] h K := by
  refine qUL _ _ _ _ ?_
  unfold qOx
  refine Br.dec (fun g => Ret.mk (k0 (by omega))) fun g1 => Br.dec (fun g => Ret.mk (k0 (by omega))) fun g2 => Br.dec (fun g => Ret.mk (k0 (by omega))) fun g3 => Br.dec (fun g => Ret.mk (k0 (by omega))) fun g4 => ?_
  intro r hr
  refine qr fun r2 h2 hr2 l2 A2 => Ret.mk (k1 (by omega) _ _ (Heap.le_trans (qt hr) l2) ⟨?_, none, 0, r, ⟨A2, .nil _ _ _, (MapF.new h r .i64 .i64).le l2, fun e => by cases e⟩⟩)
  exact { m1 := by dsimp only; omega, c1 := by dsimp only; omega, n := Nat.zero_le _, may := fun _ x => (by cases x), i64 := fun _ x => (by cases x), nd := fun i x e => (by simp at e), could := fun _ x => (by cases x), ords := .refl _ }
theorem qMm (P : PB h p S) {d : Dl} (hi : qM2 d) (k : ∀ h', PB h' p (qDG S d).2.2 → K (tuple #[.bool (qDG S d).1, .int .i64 (qDG S d).2.1]) h') :
    CallA Tryz.prog qFA [pointer (some ⟨p, 0, none⟩), dA d] h K := by
  obtain ⟨ok, lp, c, mr, B⟩ := P
  refine qNP _ _ _ _ _ _ _ _ _ _ ?_
  unfold qIw
  unfold qDG at k
  refine qr fun r h1 hr l1 A1 => ⟨_, A1.cell rfl, _, A1.cell rfl, _, A1.cell rfl, _, A1.cell rfl, _, A1.cell rfl, _, A1.cell rfl, _, A1.cell rfl, ?_⟩
  refine qZB (d := d) (B.le l1) fun h2 l2 => ⟨_, rfl, ?_⟩
  have A := A1.le l2
  have B := B.le (Heap.le_trans l1 l2)
  clear A1 l1 l2 hr h1
  by_cases gm : qHP S.mem S.cur d
  rotate_left
  · rw [decide_eq_false gm]
    rw [if_neg gm] at k
    exact Br.yes rfl (Ret.mk (k _ ⟨ok, lp, c, mr, B⟩))
  rw [decide_eq_true gm]
  rw [if_pos gm] at k
  refine Br.no rfl ⟨_, A.cell rfl, qU2 B (fun hp => ⟨_, rfl, Br.yes rfl ?_⟩) fun i x r' hp hx hr' => ⟨_, rfl, Br.no rfl ?_⟩⟩
  · rw [hp] at k
    dsimp only at k
    have hn := ok.n
    refine qB rfl ⟨_, _, _, B.ap.cell rfl, Br.intro (fun g => ?_) fun g => ?_⟩
    · rw [if_pos (by have := of_decide_eq_true (show decide ((S.L.length : Int) = 200) = true from g); omega)] at k
      exact Ret.mk (k _ ⟨ok, lp, c, mr, B⟩)
    have g : S.L.length ≠ 200 := fun e => by rw [e] at g; cases g
    rw [if_neg g] at k
    refine Br.yes rfl (qB rfl ⟨_, B.ap.cell rfl, _, A.cell rfl, qB rfl ⟨_, _, _, B.ap.cell rfl, mr, _, rfl, B.mp, fun o ho hc hcn => ?_⟩⟩)
    have hat : ∀ b xs, At h2 b xs → At (h2.ins mr o) b xs := fun b xs a => a.insM (B.mp.ne a)
    have A' := hat _ _ A
    have ap' := hat _ _ B.ap
    have ol' := B.ol.mv (h' := h2.ins mr o) fun b xs e a => hat b xs a
    have mp' : MapF (h2.ins mr o) mr .i64 .i64 (qL5 (S.L ++ [⟨d, 1, 0, 0⟩])) := by
      have := ho (h2.ins mr o) (by unfold Heap.ins; rw [if_pos rfl])
      have e : (fun x => if x = d.id then some ((S.L.length : Nat) : Int) else qL5 S.L x) = qL5 (S.L ++ [⟨d, 1, 0, 0⟩]) := by
        funext x
        unfold qL5
        rw [qQv S.L ⟨d, 1, 0, 0⟩ hp]
        dsimp only
        split <;> rfl
      rw [← e]; exact this
    generalize h2.ins mr o = h3 at *
    refine qB rfl ⟨_, _, _, ap'.cell rfl, _, A'.cell rfl, _, A'.cell rfl, _, A'.cell rfl, _, A'.cell rfl, _, A'.cell rfl, _, A'.cell rfl, _, A'.cell rfl, ?_⟩
    refine qJi ol' (by decide) (qP4 _) (by omega) rfl rfl (by rw [qp qEU]; rfl) fun r4 h4 p' c' h5 hr4 l4 _ ol5 keep how => ?_
    have ap5 := qKD keep (ap'.le l4) B.np
    have np5 := qK3 how (ap'.le l4) B.np
    have mp5 := MapF.keepB (mp'.le l4) keep (OwnL.neM (ol'.le l4) (mp'.le l4))
    refine qB rfl ⟨ap5.canSt (by simp), Ret.mk (k _ ⟨ok.snoc gm hi (by omega) hp, p', c', mr, ?_, ?_, mp5.set ap5, np5⟩)⟩
    · have := ap5.set (o := 2) (ws := [.slice p' (S.L.length + 1) c'])
      have e : (S.L ++ [(⟨d, 1, 0, 0⟩ : En)]).length = S.L.length + 1 := by simp
      dsimp only
      rw [e]
      exact this
    · have := ol5.set_ne (o := 2) (ws := [.slice p' (S.L.length + 1) c']) np5
      have e : (S.L ++ [(⟨d, 1, 0, 0⟩ : En)]).flatMap eV = S.L.flatMap eV ++ eV ⟨d, 1, 0, 0⟩ := by rw [List.flatMap_append]; simp
      dsimp only
      rw [e]
      exact this
  · obtain ⟨r2, sp, e', a, hne, hc⟩ := B.row hx
    rw [hr'] at e'
    have e' : r' = r2 := by simpa using e'
    subst e'
    rw [hp] at k
    dsimp only at k
    rw [hx] at k
    dsimp only at k
    refine Br.no rfl (qB rfl ⟨_, hc 7 (by decide), Br.intro (fun g => ?_) fun g => ?_⟩)
    · rw [if_pos (.inl (by simpa using g))] at k
      exact Ret.mk (k _ ⟨ok, lp, c, mr, B⟩)
    have g1 : x.st = 1 := by simpa using g
    refine qB rfl ⟨_, hc 1 (by decide), _, A.cell rfl, Br.intro (fun g => ?_) fun g => ?_⟩
    · rw [if_pos (.inr (by simpa using g))] at k
      exact Ret.mk (k _ ⟨ok, lp, c, mr, B⟩)
    have g2 : x.d.a ≠ d.a := by simpa using g
    rw [if_neg (by simp [g1, g2])] at k
    refine qB rfl ⟨_, hc 0 (by decide), _, hc 1 (by decide), _, hc 2 (by decide), _, hc 3 (by decide), _, hc 4 (by decide), _, hc 5 (by decide), _, hc 6 (by decide), ?_⟩
    refine ⟨_, A.cell rfl, _, A.cell rfl, _, A.cell rfl, _, A.cell rfl, _, A.cell rfl, _, A.cell rfl, _, A.cell rfl, ?_⟩
    refine qWf (d := d) fun h3 l3 => ⟨_, _, _, _, _, _, _, rfl, .inl l3, ?_⟩
    have B3 := B.le l3
    cases he : eqD x.d (qFf d) with
    | false =>
      rw [if_pos he] at k
      exact Br.yes (show (!eqD x.d (qFf d)) = true by rw [he]; rfl) (Ret.mk (k _ ⟨ok, lp, c, mr, B3⟩))
    | true =>
      rw [if_neg (by rw [he]; decide)] at k
      refine Br.no (show (!eqD x.d (qFf d)) = false by rw [he]; rfl) ?_
      have hm := ok.mat
      have w : IntKind.wrap .i64 ((S.mat : Int) + 1) = ((S.mat + 1 : Nat) : Int) := by rw [qK (by omega) (by omega)]; omega
      have B4 := B3.wrM (S.mat + 1)
      have B5 := B4.wr (o := 7) (y := { x with st := 2 }) (ws := [.int .i64 2]) hx hr' (by simp) rfl rfl
      have hi := (List.getElem?_eq_some_iff.1 hx).1
      have hx5 : (S.L.set i { x with st := 2 })[i]? = some { x with st := 2 } := by rw [List.getElem?_set_self hi]
      have B6 := B5.wr (o := 9) (y := { x with st := 2, ord := ((S.mat + 1 : Nat) : Int) }) (ws := [.int .i64 ((S.mat + 1 : Nat) : Int)]) hx5 hr' (by simp) rfl rfl
      refine qB rfl ⟨_, B3.ap.cell rfl, qB rfl ⟨B3.ap.canSt (by simp), qB rfl ?_⟩⟩
      rw [w]
      refine ⟨_, B4.ap.cell rfl, qB rfl ⟨B4.can hx hr' (by decide), qB rfl ⟨B5.can hx5 hr' (by decide), Ret.mk (k _ ⟨ok.match hx g1, lp, c, mr, ?_⟩)⟩⟩⟩
      have e : (S.L.set i { x with st := 2 }).set i { x with st := 2, ord := ((S.mat + 1 : Nat) : Int) } = S.L.set i { x with st := 2, ord := (S.mat : Int) + 1 } := by
        rw [List.set_set]; rfl
      dsimp only at B6
      rw [e] at B6
      exact B6
end
end Go.Proofs.YtjihfieahkbohaaGreat

/- A list put in order: by insertion, by a heap; turned about. -/
namespace Go.Proofs.YtjihfieahkbohaaGreat
open Go Go.Sy Go.Value Go.Sort
set_option linter.unusedVariables false
set_option linter.unusedSimpArgs false

theorem qEv {j : Nat} (h : j ≤ 4000000000) : IntKind.wrap .i64 ((j : Int) + 1) = ((j + 1 : Nat) : Int) := by rw [qK (by omega) (by omega)]; omega
theorem qYb {j : Nat} (h : j ≤ 4000000000) : IntKind.wrap .i64 (((j + 1 : Nat) : Int) - 1) = (j : Int) := by rw [qK (by omega) (by omega)]; omega
theorem q9 {x : Int} (h1 : -4000000000 ≤ x) (h2 : x ≤ 40000000000) : IntKind.wrap .i64 x = x := qK (by omega) (by omega)

section
variable {g0 : Heap} {B m n c : Nat} {sp : List Value} {left : List En} {K : Value → Heap → Prop} (e0 : g0 B = none) (hm : left.length = m) (I : True) (hn : n ≤ 1000000)
include e0 hm I hn
/-! by insertion -/
theorem qXK {a b i : Nat} (hi : i < n) : ∀ (j : Nat) (h : Heap) (d : Array Int), DaE left g0 B m n sp h d → j ≤ i →
    (∀ h', DaE left g0 B m n sp h' (insInner (qR left) a j d) → qi (some ⟨B, 0, none⟩) n c (a : Int) (b : Int) ((i + 1 : Nat) : Int) h' K) →
    qz (some ⟨B, 0, none⟩) n c (a : Int) (b : Int) (i : Int) (j : Int) h K := by
  intro j
  induction j with
  | zero =>
    intro h d D hj k
    refine qC2 _ _ _ _ _ _ _ _ _ ?_
    unfold qBK
    rw [qEv (by omega)]
    exact Br.no (by simp) (k h D)
  | succ j ih =>
    intro h d D hj k
    refine qC2 _ _ _ _ _ _ _ _ _ ?_
    unfold qBK
    rw [qEv (by omega), qYb (by omega)]
    rw [insInner] at k
    refine Br.dec (fun g => qNZ D hm I rfl rfl (by omega) (by omega) fun h' D' => Br.intro (fun g2 => ?_) fun g2 => ?_) fun g => ?_
    · refine qD0 (J := fun h => qz (some ⟨B, 0, none⟩) n c (a : Int) (b : Int) (i : Int) (j : Int) h K) D' e0 rfl rfl (by omega) (by omega) fun h'' D'' => ih h'' _ D'' (by omega) ?_
      rw [if_pos (by rw [g2, Bool.and_true]; exact decide_eq_true (by omega))] at k
      exact k
    · rw [if_neg (by rw [g2]; simp)] at k
      exact k h' D'
    · rw [if_neg (by simp; omega)] at k
      exact k h D
theorem qV9 {a b : Nat} (hb : b ≤ n) : ∀ (q i : Nat) (h : Heap) (d : Array Int), b - i ≤ q → DaE left g0 B m n sp h d →
    (∀ h', DaE left g0 B m n sp h' (insOuter (qR left) a b i d) → K (tuple #[]) h') → i ≤ 2000000 →
    qi (some ⟨B, 0, none⟩) n c (a : Int) (b : Int) (i : Int) h K := by
  intro q
  induction q with
  | zero =>
    intro i h d hq D k hi
    refine qBN _ _ _ _ _ _ _ _ ?_
    unfold qAV
    rw [insOuter, if_neg (by omega)] at k
    exact Br.no (by simp; omega) (Ret.mk (k h D))
  | succ q ih =>
    intro i h d hq D k hi
    refine qBN _ _ _ _ _ _ _ _ ?_
    unfold qAV
    rw [insOuter] at k
    refine Br.dec (fun g => qXK e0 hm I hn (by omega) i h d D (Nat.le_refl _) fun h' D' => ih (i + 1) h' _ (by omega) D' ?_ (by omega)) fun g => ?_
    · rw [if_pos (by omega)] at k; exact k
    · rw [if_neg (by omega)] at k; exact Ret.mk (k h D)
theorem qOE {h : Heap} {d : Array Int} {a b : Nat} (ha : a ≤ n) (hb : b ≤ n) (D : DaE left g0 B m n sp h d) (k : ∀ h', DaE left g0 B m n sp h' (insertionSort (qR left) d a b) → K (tuple #[]) h') :
    CallA Tryz.prog qBf [slice (some ⟨B, 0, none⟩) n c, .int .i64 (a : Int), .int .i64 (b : Int), func (Fn.func qD) #[] #[]] h K := by
  refine qDa _ _ _ _ _ _ _ ?_
  unfold qBg
  rw [qEv (by omega)]
  exact qV9 e0 hm I hn hb _ _ _ _ (Nat.le_refl _) D k (by omega)
/-! by a heap -/
theorem qV8 {hi first : Nat} (hf : first + hi ≤ n) : ∀ (q root : Nat) (h : Heap) (d : Array Int), hi - root ≤ q → root ≤ 1000000 → DaE left g0 B m n sp h d →
    (∀ h', DaE left g0 B m n sp h' (siftDown (qR left) hi first root d) → K (tuple #[]) h') →
    qU (some ⟨B, 0, none⟩) n c (hi : Int) (first : Int) (root : Int) h K := by
  intro q
  induction q with
  | zero =>
    intro root h d hq hr D k
    refine qD5 _ _ _ _ _ _ _ _ ?_
    unfold qB5
    rw [siftDown, dif_pos (by omega)] at k
    rw [q9 (x := 2 * (root : Int)) (by omega) (by omega), q9 (x := 2 * (root : Int) + 1) (by omega) (by omega)]
    exact Br.yes (decide_eq_true (by omega)) (Ret.mk (k h D))
  | succ q ih =>
    intro root h d hq hr D k
    refine qD5 _ _ _ _ _ _ _ _ ?_
    unfold qB5
    have w1 : IntKind.wrap .i64 (2 * (root : Int)) = ((2 * root : Nat) : Int) := by rw [q9 (by omega) (by omega)]; omega
    have w2 : IntKind.wrap .i64 (((2 * root : Nat) : Int) + 1) = ((2 * root + 1 : Nat) : Int) := by rw [q9 (by omega) (by omega)]; omega
    have w3 : IntKind.wrap .i64 (((2 * root + 1 : Nat) : Int) + 1) = ((2 * root + 2 : Nat) : Int) := by rw [q9 (by omega) (by omega)]; omega
    have w4 : IntKind.wrap .i64 ((first : Int) + ((2 * root + 1 : Nat) : Int)) = ((first + (2 * root + 1) : Nat) : Int) := by rw [q9 (by omega) (by omega)]; omega
    have w5 : IntKind.wrap .i64 ((first : Int) + ((2 * root + 2 : Nat) : Int)) = ((first + (2 * root + 2) : Nat) : Int) := by rw [q9 (by omega) (by omega)]; omega
    have w6 : IntKind.wrap .i64 (((first + (2 * root + 1) : Nat) : Int) + 1) = ((first + (2 * root + 1) + 1 : Nat) : Int) := by rw [q9 (by omega) (by omega)]; omega
    have w7 : IntKind.wrap .i64 ((first : Int) + (root : Int)) = ((first + root : Nat) : Int) := by rw [q9 (by omega) (by omega)]; omega
    rw [w1, w2, w3, w4, w5, w6, w7]
    rw [siftDown] at k
    have low : ∀ (h : Heap), DaE left g0 B m n sp h d → 2 * root + 1 < hi →
        (∀ h', DaE left g0 B m n sp h' (if !qR left d[first + root]! d[first + (2 * root + 1)]! then d else siftDown (qR left) hi first (2 * root + 1) (swp d (first + root) (first + (2 * root + 1)))) → K (tuple #[]) h') →
        ∀ h', DaE left g0 B m n sp h' d → Br (!qR left d[first + root]! d[first + (2 * root + 1)]!) (Ret h' K (tuple #[])) (∀ h'', DaE left g0 B m n sp h'' (swp d (first + root) (first + (2 * root + 1))) → qU (some ⟨B, 0, none⟩) n c (hi : Int) (first : Int) ((2 * root + 1 : Nat) : Int) h'' K) := by
      intro h D g k h' D'
      refine Br.intro (fun g2 => ?_) fun g2 => fun h'' D'' => ?_
      · rw [if_pos g2] at k; exact Ret.mk (k h' D')
      · rw [if_neg (by rw [g2]; simp)] at k
        exact ih _ h'' _ (by omega) (by omega) D'' k
    refine Br.dec (fun g => ?_) fun g => ?_
    · rw [dif_pos (by omega)] at k
      exact Ret.mk (k h D)
    rw [dif_neg (by omega)] at k
    refine Br.dec (fun g1 => qNZ D hm I rfl rfl (by omega) (by omega) fun h' D' => Br.intro (fun g2 => ?_) fun g2 => ?_) fun g1 => ?_
    · rw [if_pos (by rw [g2, Bool.and_true]; exact decide_eq_true (by omega))] at k
      refine qH8 D' hm I rfl rfl (by omega) (by omega) fun h2 D2 => Br.intro (fun g3 => ?_) fun g3 => ?_
      · rw [if_pos g3] at k; exact Ret.mk (k h2 D2)
      rw [if_neg (by rw [g3]; simp), dif_pos (by omega)] at k
      exact qD0 (J := fun h => qU (some ⟨B, 0, none⟩) n c (hi : Int) (first : Int) ((2 * root + 2 : Nat) : Int) h K) D2 e0 rfl rfl (by omega) (by omega) fun h3 D3 => ih _ h3 _ (by omega) (by omega) D3 k
    · rw [if_neg (by rw [g2, Bool.and_false]; simp)] at k
      refine qH8 D' hm I rfl rfl (by omega) (by omega) fun h2 D2 => Br.intro (fun g3 => ?_) fun g3 => ?_
      · rw [if_pos g3] at k; exact Ret.mk (k h2 D2)
      rw [if_neg (by rw [g3]; simp)] at k
      exact qD0 (J := fun h => qU (some ⟨B, 0, none⟩) n c (hi : Int) (first : Int) ((2 * root + 1 : Nat) : Int) h K) D2 e0 rfl rfl (by omega) (by omega) fun h3 D3 => ih _ h3 _ (by omega) (by omega) D3 k
    · rw [if_neg (by rw [decide_eq_false (by omega)]; simp)] at k
      refine qH8 D hm I rfl rfl (by omega) (by omega) fun h2 D2 => Br.intro (fun g3 => ?_) fun g3 => ?_
      · rw [if_pos g3] at k; exact Ret.mk (k h2 D2)
      rw [if_neg (by rw [g3]; simp)] at k
      exact qD0 (J := fun h => qU (some ⟨B, 0, none⟩) n c (hi : Int) (first : Int) ((2 * root + 1 : Nat) : Int) h K) D2 e0 rfl rfl (by omega) (by omega) fun h3 D3 => ih _ h3 _ (by omega) (by omega) D3 k
theorem qSw {h : Heap} {d : Array Int} {lo hi first : Nat} (hf : first + hi ≤ n) (hl : lo ≤ 1000000) (D : DaE left g0 B m n sp h d) (k : ∀ h', DaE left g0 B m n sp h' (siftDown (qR left) hi first lo d) → K (tuple #[]) h') :
    CallA Tryz.prog qBA [slice (some ⟨B, 0, none⟩) n c, .int .i64 (lo : Int), .int .i64 (hi : Int), .int .i64 (first : Int), func (Fn.func qD) #[] #[]] h K := by
  refine qHZ _ _ _ _ _ _ _ _ ?_
  unfold qEO
  exact qV8 e0 hm I hn hf _ _ _ _ (Nat.le_refl _) hl D k
theorem qVI {first : Nat} : ∀ (q : Nat) (h : Heap) (d : Array Int), first + q ≤ n → DaE left g0 B m n sp h d →
    (∀ h', DaE left g0 B m n sp h' (heapPop (qR left) first q d) → K (tuple #[]) h') →
    qAP (some ⟨B, 0, none⟩) n c (first : Int) 0 ((q : Int) - 1) h K := by
  intro q
  induction q with
  | zero =>
    intro h d hf D k
    refine qD7 _ _ _ _ _ _ _ _ ?_
    unfold qB6
    exact Br.no (by decide) (Ret.mk (k h D))
  | succ q ih =>
    intro h d hf D k
    refine qD7 _ _ _ _ _ _ _ _ ?_
    unfold qB6
    have w0 : (((q + 1 : Nat) : Int) - 1) = (q : Int) := by omega
    have w1 : IntKind.wrap .i64 ((first : Int) + (q : Int)) = ((first + q : Nat) : Int) := by rw [q9 (by omega) (by omega)]; omega
    have w2 : IntKind.wrap .i64 ((q : Int) - 1) = (q : Int) - 1 := q9 (by omega) (by omega)
    rw [w0, w1, w2]
    rw [heapPop] at k
    refine Br.yes (decide_eq_true (by omega)) (qD0 (J := fun h => CallA Tryz.prog qBA [slice (some ⟨B, 0, none⟩) n c, .int .i64 0, .int .i64 (q : Int), .int .i64 (first : Int), func (Fn.func qD) #[] #[]] h fun v h => v = tuple #[] ∧ qAP (some ⟨B, 0, none⟩) n c (first : Int) 0 ((q : Int) - 1) h K) D e0 rfl rfl (by omega) (by omega) fun h1 D1 => ?_)
    exact qSw (lo := 0) e0 hm I hn (by omega) (by omega) D1 fun h2 D2 => ⟨rfl, ih h2 _ (by omega) D2 k⟩
theorem qSk {first hi : Nat} (hf : first + hi ≤ n) : ∀ (q : Nat) (h : Heap) (d : Array Int), q ≤ 1000000 → DaE left g0 B m n sp h d →
    (∀ h', DaE left g0 B m n sp h' (heapPop (qR left) first hi (heapBuild (qR left) hi first q d)) → K (tuple #[]) h') →
    qAy (some ⟨B, 0, none⟩) n c (first : Int) 0 (hi : Int) ((q : Int) - 1) h K := by
  intro q
  induction q with
  | zero =>
    intro h d hq D k
    refine qD4 _ _ _ _ _ _ _ _ _ ?_
    unfold qB3
    rw [q9 (x := (hi : Int) - 1) (by omega) (by omega)]
    rw [heapBuild] at k
    exact Br.no (by decide) (qVI e0 hm I hn _ _ _ hf D k)
  | succ q ih =>
    intro h d hq D k
    refine qD4 _ _ _ _ _ _ _ _ _ ?_
    unfold qB3
    have w0 : (((q + 1 : Nat) : Int) - 1) = (q : Int) := by omega
    have w2 : IntKind.wrap .i64 ((q : Int) - 1) = (q : Int) - 1 := q9 (by omega) (by omega)
    rw [w0, w2]
    rw [heapBuild] at k
    refine Br.yes (decide_eq_true (by omega)) ?_
    exact qSw (lo := q) e0 hm I hn hf (by omega) D fun h2 D2 => ⟨rfl, ih h2 _ (by omega) D2 k⟩
theorem qXP {h : Heap} {d : Array Int} {a b : Nat} (hab : a < b) (hb : b ≤ n) (D : DaE left g0 B m n sp h d) (k : ∀ h', DaE left g0 B m n sp h' (heapSort (qR left) d a b) → K (tuple #[]) h') :
    CallA Tryz.prog qCV [slice (some ⟨B, 0, none⟩) n c, .int .i64 (a : Int), .int .i64 (b : Int), func (Fn.func qD) #[] #[]] h K := by
  refine qHc _ _ _ _ _ _ _ ?_
  unfold qEN
  have w1 : IntKind.wrap .i64 ((b : Int) - (a : Int)) = ((b - a : Nat) : Int) := by rw [q9 (by omega) (by omega)]; omega
  have w2 : IntKind.wrap .i64 (((b - a : Nat) : Int) - 1) = ((b - a - 1 : Nat) : Int) := by rw [q9 (by omega) (by omega)]; omega
  have w3 : Int.tdiv ((b - a - 1 : Nat) : Int) 2 = (((b - a - 1) / 2 + 1 : Nat) : Int) - 1 := by
    rw [Int.tdiv_eq_ediv_of_nonneg (by omega)]; omega
  rw [w1, w2, w3, q9 (by omega) (by omega)]
  unfold heapSort at k
  exact qSk e0 hm I hn (by omega) _ _ _ (by omega) D k
/-! turned about -/
omit hm I in
theorem qXf : ∀ (q i j : Nat) (h : Heap) (d : Array Int), j - i ≤ q → i ≤ 1000000 → j < n → DaE left g0 B m n sp h d →
    (∀ h', DaE left g0 B m n sp h' (reverseLoop i j d) → K (tuple #[]) h') →
    qAA (some ⟨B, 0, none⟩) n c (i : Int) (j : Int) h K := by
  intro q
  induction q with
  | zero =>
    intro i j h d hq hi hj D k
    refine qDM _ _ _ _ _ _ _ ?_
    unfold qBX
    rw [reverseLoop, if_neg (by omega)] at k
    exact Br.no (decide_eq_false (by omega)) (Ret.mk (k h D))
  | succ q ih =>
    intro i j h d hq hi hj D k
    refine qDM _ _ _ _ _ _ _ ?_
    unfold qBX
    rw [reverseLoop] at k
    refine Br.dec (fun g => ?_) fun g => ?_
    · rw [if_pos (by omega)] at k
      have w2 : IntKind.wrap .i64 ((j : Int) - 1) = ((j - 1 : Nat) : Int) := by rw [q9 (by omega) (by omega)]; omega
      rw [qEv (by omega), w2]
      exact qD0 (J := fun h => qAA (some ⟨B, 0, none⟩) n c ((i + 1 : Nat) : Int) ((j - 1 : Nat) : Int) h K) D e0 rfl rfl (by omega) (by omega) fun h1 D1 => ih _ _ h1 _ (by omega) (by omega) (by omega) D1 k
    · rw [if_neg (by omega)] at k
      exact Ret.mk (k h D)
omit hm I in
theorem qT3 {h : Heap} {d : Array Int} {a b : Nat} (hab : a < b) (hb : b ≤ n) (D : DaE left g0 B m n sp h d) (k : ∀ h', DaE left g0 B m n sp h' (reverseRange d a b) → K (tuple #[]) h') :
    CallA Tryz.prog qBm [slice (some ⟨B, 0, none⟩) n c, .int .i64 (a : Int), .int .i64 (b : Int), func (Fn.func qD) #[] #[]] h K := by
  refine qG1 _ _ _ _ _ _ _ ?_
  unfold qDg
  have w2 : IntKind.wrap .i64 ((b : Int) - 1) = ((b - 1 : Nat) : Int) := by rw [q9 (by omega) (by omega)]; omega
  rw [w2]
  exact qXf e0 hn _ _ _ _ _ (Nat.le_refl _) (by omega) (by omega) D k
end
end Go.Proofs.YtjihfieahkbohaaGreat
