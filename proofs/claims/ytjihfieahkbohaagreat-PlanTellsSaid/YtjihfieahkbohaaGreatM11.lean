import Derived.Test.YtjihfieahkbohaaGreatM07
import Derived.Test.YtjihfieahkbohaaGreatM10
import Derived.Test.YtjihfieahkbohaaGreatM04
import Derived.Test.YtjihfieahkbohaaGreatM06
import Derived.Test.YtjihfieahkbohaaGreatM09
import Derived.Test.YtjihfieahkbohaaGreatM02
import Derived.Test.YtjihfieahkbohaaGreatM05
/- Who is behind: what plan.Behind answers. -/
namespace Go.Proofs.YtjihfieahkbohaaGreat
open Go Go.Sy Go.Value
set_option linter.unusedVariables false
set_option linter.unusedSimpArgs false

/-! ### plainly -/
def qEO (x : Du) : Bool := decide (x.m < 0 ∨ x.c < 0 ∨ x.n < 1)
def qDd (P : List (List Int)) (m c : Int) : Int := if 0 > (P.getD m.toNat []).getD c.toNat 0 then 0 else (P.getD m.toNat []).getD c.toNat 0
def qEF (P : List (List Int)) (now : Int) (x : Du) (s : Int) : List Du := if s - qDd P x.m x.c > 0 then [⟨x.m, x.c, now, s - qDd P x.m x.c⟩] else []
def qHk (x : Du) : Int → Nat → List Du → Option (Int × Nat)
  | s, j, [] => some (s, j)
  | s, j, y :: R => if qKa x y = 0 then (if s + y.n ≤ 9223372036854775807 then qHk x (s + y.n) (j + 1) R else none) else some (s, j)
def qEj (P : List (List Int)) (now : Int) : Nat → List Du → List Du → List Du × Int
  | 0, _, out => (out, 0)
  | _ + 1, [], out => (out, 0)
  | f + 1, x :: R, out => match qHk x x.n 1 R with
    | none => ([], 3)
    | some (s, j) => qEj P now f ((x :: R).drop j) (out ++ qEF P now x s)
def okU (x : Du) : Prop := 0 ≤ x.m ∧ 0 ≤ x.c ∧ 1 ≤ x.n ∧ x.n ≤ 9223372036854775807 ∧ I64 x.m ∧ I64 x.c ∧ I64 x.t
theorem qRe (x : Du) (s : Int) (j : Nat) (y : Du) (R : List Du) : qHk x s j (y :: R) = if qKa x y = 0 then (if s + y.n ≤ 9223372036854775807 then qHk x (s + y.n) (j + 1) R else none) else some (s, j) := rfl
theorem qRB {x : Du} : ∀ {R : List Du} {s : Int} {j : Nat} {s' : Int} {j' : Nat}, (∀ y ∈ R, okU y) → 1 ≤ s → s ≤ 9223372036854775807 → qHk x s j R = some (s', j') → 1 ≤ s' ∧ s' ≤ 9223372036854775807 ∧ j ≤ j' ∧ j' ≤ j + R.length
  | [], s, j, s', j', _, h1, h2, h => by
    cases h
    exact ⟨h1, h2, Nat.le_refl _, Nat.le_refl _⟩
  | y :: R, s, j, s', j', ho, h1, h2, h => by
    have hy := ho y (List.mem_cons_self ..)
    unfold okU at hy
    unfold qHk at h
    rw [List.length_cons]
    split at h
    · split at h
      · have := qRB (fun z hz => ho z (List.mem_cons_of_mem _ hz)) (by omega) (by omega) h
        omega
      · cases h
    · cases h
      omega
theorem qTu {h : Heap} {K : Value → Heap → Prop} (k : K (tuple #[]) h) : CallA Tryz.prog qz [slice none 0 0, func (Fn.func qJ) #[] #[]] h K := by
  refine qDj _ _ _ _ _ ?_
  unfold qBg
  refine qGF _ _ _ _ _ _ ?_
  unfold qDN
  refine qFT _ _ _ _ _ _ _ _ _ ?_
  unfold qC0
  refine Br.no (by decide) ?_
  refine qEJ _ _ _ _ _ _ _ ?_
  unfold qCA
  refine qBq _ _ _ _ _ _ _ _ ?_
  unfold qAl
  refine Br.no (by decide) (Ret.mk ⟨rfl, ?_⟩)
  refine qC2 _ _ _ _ _ _ _ ?_
  unfold qBa
  exact Br.no (by decide) (Ret.mk ⟨rfl, Ret.mk k⟩)
section
variable {h : Heap} {K : Value → Heap → Prop}
theorem qZ2 {x : Du} (k : ∀ h', h.le h' → K (.bool (qEO x)) h') : CallA Tryz.prog qB0 [uA x] h K := by
  refine qQK _ _ _ _ _ _ ?_
  unfold qMF
  refine qAK fun r h1 hr l1 A1 => ⟨_, A1.cell rfl, Br.dec (fun g => Ret.mk ?_) fun g1 => ⟨_, A1.cell rfl, Br.dec (fun g => Ret.mk ?_) fun g2 => ⟨_, A1.cell rfl, Ret.mk ?_⟩⟩⟩
  · have := k h1 l1
    unfold qEO at this
    rw [decide_eq_true (.inl g)] at this
    exact this
  · have := k h1 l1
    unfold qEO at this
    rw [decide_eq_true (.inr (.inl g))] at this
    exact this
  · have := k h1 l1
    unfold qEO at this
    rw [show decide (x.m < 0 ∨ x.c < 0 ∨ x.n < 1) = decide (x.n < 1) by rw [decide_eq_decide]; omega] at this
    exact this
theorem _root_.Go.Sy.At.cellO {h : Heap} {b o : Nat} {vs : List Value} (A : At h b vs) (ho : o < vs.length) : h.cell b (0 + o) = vs[o]? := by
  rw [Nat.zero_add]
  exact (A.cell (List.getElem?_eq_getElem ho)).trans (List.getElem?_eq_getElem ho).symm
theorem ldX {p : Option Addr} {D : List Du} {n : Nat} (A : Arr uV h p D) (hn : D.length = n) {j : Nat} {i : Int} (hi : i = (j : Int)) {x : Du} (hx : D[j]? = some x) {J : Int → Int → Int → Int → Prop} (k : J x.m x.c x.t x.n) :
    0 ≤ i ∧ i < (n : Int) ∧ qA p fun b o => qCc h b (o + i.toNat * 4) J :=
  by subst hi; exact ax qAp A hn rfl hx (by decide) fun b a _ hc => ldU hc k
theorem qXn {p : Option Addr} {D : List Du} {n c : Nat} (A : Arr uV h p D) (hn : D.length = n) (hs : n ≤ 1000000) (k : ∀ (v : Int) h', h.le h' → decide (v ≥ 0) = D.any qEO → K (.int .i64 v) h') :
    ∀ (m j : Nat) (h1 : Heap), h.le h1 → m + j = n → D.any qEO = (D.drop j).any qEO → qA4 p n c n j h1 K := by
  intro m
  induction m with
  | zero =>
    intro j h1 l1 hj e
    refine qD3 _ _ _ _ _ _ _ ?_
    unfold qB5
    rw [List.drop_eq_nil_of_le (by omega), List.any_nil] at e
    exact Br.no (by simp; omega) (Ret.mk (k _ _ l1 (by rw [e]; decide)))
  | succ m ih =>
    intro j h1 l1 hj e
    refine qD3 _ _ _ _ _ _ _ ?_
    unfold qB5
    have hx : D[j]? = some D[j] := List.getElem?_eq_getElem (by omega)
    rw [List.drop_eq_getElem_cons (by omega : j < D.length), List.any_cons] at e
    generalize D[j] = x at *
    refine Br.yes (by simp; omega) (ldX (A.le l1) hn rfl hx (qZ2 (x := x) fun h2 l2 => ⟨_, rfl, ?_⟩))
    cases eb : qEO x with
    | true =>
      rw [eb, Bool.true_or] at e
      exact Br.yes rfl (Ret.mk (k _ _ (Heap.le_trans l1 l2) (by rw [e]; simp)))
    | false =>
      rw [eb, Bool.false_or] at e
      refine Br.no rfl ?_
      rw [w1 (by omega)]
      exact ih (j + 1) h2 (Heap.le_trans l1 l2) (by omega) e
theorem qXz {p : Option Addr} {D : List Du} {n c : Nat} (A : Arr uV h p D) (hn : D.length = n) (hs : n ≤ 1000000) (k : ∀ h', h.le h' → K (.bool (D.any qEO)) h') :
    CallA Tryz.prog qBy [slice p n c, func (Fn.func qB0) #[] #[]] h K := by
  refine qHc _ _ _ _ _ ?_
  unfold qDs
  refine qIC _ _ _ _ _ ?_
  unfold qEV
  exact qXn A hn hs (fun v h' l' e => ⟨_, rfl, by rw [e]; exact Ret.mk (k h' l')⟩) n 0 h h.le_refl (by omega) rfl
end
/-! ### one member and currency after the other -/
section
variable {g : Heap} {K : Value → Heap → Prop} {pp q : Option Addr} {PL : List NRow} {pc lc : Nat} {now : Int} {W : List Du}
theorem qXJ {h : Heap} {x : Du} {first j : Nat} {s : Int} {out : List Du} {op : Option Addr} {oc : Nat} (A : At h first (uV x)) (l : g.le h) (O : OwnL g h z4 op oc (out.flatMap uV)) (ho : out.length ≤ 1000000)
    (k : ∀ h' op' oc', g.le h' → OwnL g h' z4 op' oc' ((out ++ qEF (mxN PL) now x s).flatMap uV) → qGc pp PL.length pc now q W.length lc op' (out ++ qEF (mxN PL) now x s).length oc' j h' K) :
    qDU pp PL.length pc now q W.length lc op out.length oc first j (s - qDd (mxN PL) x.m x.c) h K := by
  refine qOK _ _ _ _ _ _ _ _ _ _ _ _ _ _ _ ?_
  unfold qKG
  unfold qEF at k
  refine Br.dec (fun g1 => ?_) fun g1 => ?_
  · rw [if_pos g1] at k
    refine ⟨_, A.cell rfl, _, A.cell rfl, qKm (ws := uV ⟨x.m, x.c, now, s - qDd (mxN PL) x.m x.c⟩) O (by decide) l (by omega) rfl rfl (by rw [qAO qAp]; rfl) fun r h1 p' c' h' hr l1 l' O' keep how => ?_⟩
    have := k h' p' c' l' (by rw [List.flatMap_append, List.flatMap_cons, List.flatMap_nil, List.append_nil]; exact O')
    rw [List.length_append] at this
    exact this
  · rw [if_neg g1, List.append_nil] at k
    exact k h op oc l O
theorem qXx {h : Heap} {x : Du} {first j : Nat} {s : Int} {op : Option Addr} {on oc : Nat} (A : At h first (uV x)) (N : Nets h pp PL) (hx : okU x) (hs : 1 ≤ s ∧ s ≤ 9223372036854775807) (hP : ∀ y ∈ PL, qAq y.l)
    (k : qDU pp PL.length pc now q W.length lc op on oc first j (s - qDd (mxN PL) x.m x.c) h K) :
    qEo pp PL.length pc now q W.length lc op on oc first j s h K := by
  refine qOJ _ _ _ _ _ _ _ _ _ _ _ _ _ _ _ ?_
  unfold qKC
  unfold okU at hx
  obtain ⟨m, hm⟩ : ∃ m : Nat, x.m = (m : Int) := ⟨x.m.toNat, by omega⟩
  obtain ⟨c, hc⟩ : ∃ c : Nat, x.c = (c : Int) := ⟨x.c.toNat, by omega⟩
  have none0 : (((mxN PL).getD m []).getD c 0 = 0) → qDd (mxN PL) x.m x.c = 0 := fun e => by
    unfold qDd
    rw [hm, hc, Int.toNat_natCast, Int.toNat_natCast, e]; decide
  refine ⟨_, A.cell rfl, Br.dec (fun g1 => ?_) fun g1 => ?_⟩
  · have hml : m < PL.length := by rw [hm] at g1; omega
    have hy : PL[m]? = some PL[m] := List.getElem?_eq_getElem hml
    have hym : PL[m] ∈ PL := List.getElem_mem _
    have hrow : (mxN PL).getD m [] = (PL[m]).l := by unfold mxN; rw [List.getD_eq_getElem?_getD, List.getElem?_map, hy]; rfl
    generalize PL[m] = y at *
    refine ⟨_, A.cell rfl, _, A.cell rfl, nx N rfl hm hy (Br.dec (fun g2 => ?_) fun g2 => ?_)⟩
    · have hcl : c < y.l.length := by rw [hc] at g2; omega
      have hv : y.l[c]? = some (y.l.getD c 0) := by rw [List.getD_eq_getElem?_getD, List.getElem?_eq_getElem hcl]; rfl
      refine ⟨_, A.cell rfl, nx N rfl hm hy ⟨_, A.cell rfl, ix (N.2 y hym) rfl hc hv ?_⟩⟩
      have hI := hP y hym _ (List.mem_of_getElem? hv)
      have e : qDd (mxN PL) x.m x.c = if 0 > y.l.getD c 0 then 0 else y.l.getD c 0 := by
        unfold qDd
        rw [hm, hc, Int.toNat_natCast, Int.toNat_natCast, hrow]
      unfold I64 at hI
      rw [e] at k
      rw [qH (by split <;> omega) (by split <;> omega)]
      exact k
    · rw [none0 (by rw [hrow, List.getD_eq_getElem?_getD, List.getElem?_eq_none (by rw [hc] at g2; omega)]; rfl), Int.sub_zero] at k
      exact k
  · rw [none0 (by
      have e : (mxN PL).getD m [] = [] := by
        unfold mxN
        rw [List.getD_eq_getElem?_getD, List.getElem?_eq_none (by rw [List.length_map]; rw [hm] at g1; omega)]; rfl
      rw [e]; rfl), Int.sub_zero] at k
    exact k
theorem qao {x : Du} {R : List Du} (hW : W = x :: R) (A : Arr uV g q W) (ho : ∀ y ∈ W, okU y) (hs : W.length ≤ 1000000) {op : Option Addr} {on oc : Nat} {first : Nat} {h0 : Heap} (l0 : g.le h0) (F : At h0 first (uV x))
    (k0 : ∀ h', h0.le h' → qHk x x.n 1 R = none → K (tuple #[slice none 0 0, .int .i64 3]) h')
    (k1 : ∀ h' s j, h0.le h' → qHk x x.n 1 R = some (s, j) → qEo pp PL.length pc now q W.length lc op on oc first j s h' K) :
    ∀ (T : List Du) (j : Nat) (s : Int) (h : Heap), h0.le h → W.drop j = T → j + T.length = W.length → 1 ≤ s → s ≤ 9223372036854775807 → qHk x x.n 1 R = qHk x s j T → qGX pp PL.length pc now q W.length lc op on oc first j s h K := by
  intro T
  induction T with
  | nil =>
    intro j s h l hT hj h1 h2 e
    refine qMG _ _ _ _ _ _ _ _ _ _ _ _ _ _ _ ?_
    unfold qJO
    rw [List.length_nil] at hj
    exact Br.no (decide_eq_false (by omega)) (k1 h s j l e)
  | cons y T ih =>
    intro j s h l hT hj h1 h2 e
    refine qMG _ _ _ _ _ _ _ _ _ _ _ _ _ _ _ ?_
    unfold qJO
    rw [List.length_cons] at hj
    have hy : W[j]? = some y := by
      have := congrArg (fun z => z[0]?) hT
      simpa using this
    have hT2 : W.drop (j + 1) = T := by
      have := congrArg List.tail hT
      rw [List.tail_drop] at this
      simpa using this
    have hym := ho y (List.mem_of_getElem? hy)
    unfold okU at hym
    refine Br.yes (decide_eq_true (by omega)) (ldU (a := 0) (fun o ho => (F.le l).cellO ho) (ldX (A.le (Heap.le_trans l0 l)) rfl rfl hy (qTO (x := x) (y := y) fun h' l' => ⟨_, rfl, ?_⟩)))
    rw [qRe] at e
    refine Br.intro (fun g1 => ?_) fun g1 => ?_
    · have g1 : qKa x y = 0 := by simpa using g1
      rw [if_pos g1] at e
      refine ax qAp (A.le (Heap.le_trans l0 (Heap.le_trans l l'))) rfl rfl hy (by decide) fun b a _ hc => ⟨_, hc 3 (by decide), qag (by unfold I64; omega) (by unfold I64; omega) h' _ ⟨_, _, rfl, ?_⟩⟩
      by_cases g2 : s + y.n ≤ 9223372036854775807
      · rw [if_pos g2] at e
        rw [qHQ (by unfold I64; omega), w1 (by omega)]
        exact Br.no rfl (ih (j + 1) (s + y.n) h' (Heap.le_trans l l') hT2 (by omega) (by omega) (by omega) e)
      · rw [if_neg g2] at e
        rw [qFz (by unfold I64; omega)]
        exact Br.yes rfl (Ret.mk (k0 h' (Heap.le_trans l l') e))
    · have g1 : ¬ qKa x y = 0 := by simpa using g1
      rw [if_neg g1] at e
      exact k1 h' s j (Heap.le_trans l l') e
end
end Go.Proofs.YtjihfieahkbohaaGreat

/- Shares, plainly: who gets one more, and how near a share is. -/
namespace Go.Proofs.YtjihfieahkbohaaGreat
open Go Go.Sy Go.Value
set_option linter.unusedVariables false
set_option linter.unusedSimpArgs false

theorem qUX (n : Nat) : (qGl n).Nodup := by
  induction n with
  | zero => exact List.Pairwise.nil
  | succ n ih =>
    rw [qRy, List.nodup_append]
    refine ⟨ih, by simp, fun a ha b hb => ?_⟩
    rw [qNs] at ha
    simp at hb
    omega
theorem qQm (left : List Int) (n : Nat) : (qEC left n).Nodup := (qMc left n).nodup_iff.2 (qUX n)
theorem qQH {left : List Int} {n : Nat} {x : Int} : x ∈ qEC left n ↔ 0 ≤ x ∧ x < (n : Int) := by rw [(qMc left n).mem_iff, qNs]
def more (t : Int) (ws : List Int) : List Int := (qEC (qCp t (qM ws) ws) ws.length).take (t - qM (qx t (qM ws) ws)).toNat
theorem qWo {l m : List Int} (h : l.Perm m) : qM l = qM m := by
  induction h with
  | nil => rfl
  | cons x _ ih => simp only [qM, ih]
  | swap x y l => simp only [qM]; omega
  | trans _ _ h1 h2 => exact h1.trans h2
end Go.Proofs.YtjihfieahkbohaaGreat

/- Dues, plainly: what is told of a member and a currency, and who is behind. -/
namespace Go.Proofs.YtjihfieahkbohaaGreat
open Go Go.Sy Go.Value
set_option linter.unusedVariables false
set_option linter.unusedSimpArgs false

def kfU (m c : Int) (l : List Du) : List Du := l.filter fun d => decide (d.m = m ∧ d.c = c)
def amU (m c : Int) (l : List Du) : List Int := (kfU m c l).map fun d => d.n
def qAR (m c : Int) (l : List Du) : Int := qM (amU m c l)
theorem qTP : ∀ (a b : List Int), qM (a ++ b) = qM a + qM b
  | [], b => by simp [qM]
  | x :: a, b => by rw [List.cons_append, qM, qM, qTP a b]; omega
theorem qYw (m c : Int) (a b : List Du) : amU m c (a ++ b) = amU m c a ++ amU m c b := by unfold amU kfU; rw [List.filter_append, List.map_append]
theorem qNd (m c : Int) (a b : List Du) : qAR m c (a ++ b) = qAR m c a + qAR m c b := by unfold qAR; rw [qYw, qTP]
theorem qSt (m c : Int) (x : Du) : qAR m c [x] = if x.m = m ∧ x.c = c then x.n else 0 := by
  unfold qAR amU kfU
  by_cases h : x.m = m ∧ x.c = c
  · rw [if_pos h, List.filter_cons_of_pos (by simpa using h)]
    simp [qM]
  · rw [if_neg h, List.filter_cons_of_neg (by simpa using h)]
    rfl
theorem qJa (m c : Int) (x : Du) (l : List Du) : qAR m c (x :: l) = (if x.m = m ∧ x.c = c then x.n else 0) + qAR m c l := by rw [show x :: l = [x] ++ l from rfl, qNd, qSt]
theorem qKw {m c : Int} {a b : List Du} (h : a.Perm b) : qAR m c a = qAR m c b := qWo ((h.filter _).map _)
theorem qRL {m c : Int} : ∀ {l : List Du}, (∀ x ∈ l, okU x) → 0 ≤ qAR m c l
  | [], _ => Int.le_refl _
  | x :: l, h => by
    have ih := qRL (m := m) (c := c) (l := l) fun y hy => h y (List.mem_cons_of_mem _ hy)
    have hx := h x (List.mem_cons_self ..)
    unfold okU at hx
    rw [qJa]
    split <;> omega
theorem qKp {m c : Int} : ∀ {l : List Du}, (∀ x ∈ l, ¬ (x.m = m ∧ x.c = c)) → qAR m c l = 0
  | [], _ => rfl
  | x :: l, h => by
    rw [qJa, if_neg (h x (List.mem_cons_self ..)), qKp fun y hy => h y (List.mem_cons_of_mem _ hy)]; rfl
def qEg (x y : Du) : Prop := x.m < y.m ∨ (x.m = y.m ∧ x.c < y.c)
def qL3 (W : List Du) : Prop := W.Pairwise fun x y => ¬ (y.m < x.m ∨ (y.m = x.m ∧ y.c < x.c))
theorem qOk {x : Du} : ∀ {R : List Du} {s : Int} {j : Nat}, qL3 R → (∀ y ∈ R, ¬ qEg y x) → (∀ y ∈ R, okU y) →
    (qHk x s j R = none → 9223372036854775807 < s + qAR x.m x.c R) ∧ ∀ s' j', qHk x s j R = some (s', j') → s' = s + qAR x.m x.c R ∧ j ≤ j' ∧ j' ≤ j + R.length ∧ (∀ y ∈ R.take (j' - j), y.m = x.m ∧ y.c = x.c) ∧ ∀ y ∈ R.drop (j' - j), qEg x y
  | [], s, j, _, _, _ => by
    refine ⟨fun h => (by cases h), fun s' j' h => ?_⟩
    cases h
    exact ⟨by rw [show qAR x.m x.c [] = 0 from rfl]; omega, Nat.le_refl _, Nat.le_refl _, fun y hy => by simp at hy, fun y hy => by simp at hy⟩
  | y :: R, s, j, hs, hx, ho => by
    have hs' := (List.pairwise_cons.1 hs)
    have hy := hx y (List.mem_cons_self ..)
    have hyo := ho y (List.mem_cons_self ..)
    have hR : ∀ z ∈ R, ¬ qEg z x := fun z hz => hx z (List.mem_cons_of_mem _ hz)
    have hRo : ∀ z ∈ R, okU z := fun z hz => ho z (List.mem_cons_of_mem _ hz)
    rw [qRe, qJa]
    unfold qEg at hy
    by_cases g : qKa x y = 0
    · have gk := qWQ.1 g
      have ih := qOk (x := x) (s := s + y.n) (j := j + 1) hs'.2 hR hRo
      rw [if_pos g, if_pos (show y.m = x.m ∧ y.c = x.c from ⟨gk.1.symm, gk.2.symm⟩)]
      by_cases g2 : s + y.n ≤ 9223372036854775807
      · rw [if_pos g2]
        refine ⟨fun h => by have := ih.1 h; omega, fun s' j' h => ?_⟩
        obtain ⟨h1, h2, h3, h4, h5⟩ := ih.2 s' j' h
        have e : j' - j = (j' - (j + 1)) + 1 := by omega
        rw [List.length_cons, e, List.take_succ_cons, List.drop_succ_cons]
        refine ⟨by omega, by omega, by omega, fun z hz => ?_, h5⟩
        rcases List.mem_cons.1 hz with rfl | hz
        · exact ⟨gk.1.symm, gk.2.symm⟩
        · exact h4 z hz
      · rw [if_neg g2]
        have := qRL (m := x.m) (c := x.c) hRo
        exact ⟨fun _ => by omega, fun s' j' h => by cases h⟩
    · have gk : ¬ (y.m = x.m ∧ y.c = x.c) := fun h => g (qWQ.2 ⟨h.1.symm, h.2.symm⟩)
      rw [if_neg g, if_neg gk]
      have lt : ∀ z ∈ y :: R, qEg x z := fun z hz => by
        rcases List.mem_cons.1 hz with rfl | hz
        · unfold qEg; omega
        · have := hs'.1 z hz
          unfold qEg
          omega
      refine ⟨fun h => (by cases h), fun s' j' h => ?_⟩
      cases h
      rw [Nat.sub_self, List.take_zero, List.drop_zero]
      refine ⟨?_, Nat.le_refl _, by omega, fun z hz => (by cases hz), lt⟩
      rw [qKp fun z hz => ?_]
      · omega
      · have := lt z (List.mem_cons_of_mem _ hz)
        unfold qEg at this
        omega
theorem qVl {P : List (List Int)} {now : Int} : ∀ (f : Nat) (W out : List Du), W.length ≤ f → qL3 W → (∀ y ∈ W, okU y) → (∀ y ∈ W, qAR y.m y.c W ≤ 9223372036854775807) →
    ∃ B, qEj P now f W out = (out ++ B, 0) ∧ (∀ d ∈ B, d.t = now ∧ d.n = qAR d.m d.c W - qDd P d.m d.c ∧ 0 < d.n ∧ ∃ x ∈ W, x.m = d.m ∧ x.c = d.c) ∧ B.Pairwise qEg ∧ ∀ x ∈ W, 0 < qAR x.m x.c W - qDd P x.m x.c → ∃ d ∈ B, d.m = x.m ∧ d.c = x.c := by
  intro f
  induction f with
  | zero =>
    intro W out hf _ _ _
    have : W = [] := List.length_eq_zero_iff.1 (by omega)
    subst this
    exact ⟨[], by rw [List.append_nil]; rfl, fun d hd => (by cases hd), .nil, fun x hx => by cases hx⟩
  | succ f ih =>
    intro W out hf hs ho ht
    cases W with
    | nil => exact ⟨[], by rw [List.append_nil]; rfl, fun d hd => (by cases hd), .nil, fun x hx => by cases hx⟩
    | cons x R =>
    have hs' := List.pairwise_cons.1 hs
    have hxR : ∀ y ∈ R, ¬ qEg y x := fun y hy => hs'.1 y hy
    have hRo : ∀ y ∈ R, okU y := fun y hy => ho y (List.mem_cons_of_mem _ hy)
    obtain ⟨r0, r1⟩ := qOk (x := x) (s := x.n) (j := 1) hs'.2 hxR hRo
    have htx := ht x (List.mem_cons_self ..)
    rw [qJa, if_pos ⟨rfl, rfl⟩] at htx
    cases hr : qHk x x.n 1 R with
    | none => have := r0 hr; omega
    | some sj =>
    obtain ⟨s, j⟩ := sj
    obtain ⟨h1, h2, h3, h4, h5⟩ := r1 s j hr
    obtain ⟨i, rfl⟩ : ∃ i, j = i + 1 := ⟨j - 1, by omega⟩
    rw [Nat.add_sub_cancel] at h4 h5
    have e : qEj P now (f + 1) (x :: R) out = qEj P now f (R.drop i) (out ++ qEF P now x s) := by
      show (match qHk x x.n 1 R with | none => ([], 3) | some (s, j) => qEj P now f ((x :: R).drop j) (out ++ qEF P now x s)) = _
      rw [hr]; rfl
    have es : x :: R = (x :: R.take i) ++ R.drop i := by rw [List.cons_append, List.take_append_drop]
    have tot : ∀ m c, ¬ (m = x.m ∧ c = x.c) → qAR m c (R.drop i) = qAR m c (x :: R) := fun m c h => by
      have hz : qAR m c (x :: R.take i) = 0 := qKp fun y hy => by
        rcases List.mem_cons.1 hy with rfl | hy
        · exact fun e => h ⟨e.1.symm, e.2.symm⟩
        · have := h4 y hy
          exact fun e => h ⟨e.1.symm.trans this.1, e.2.symm.trans this.2⟩
      rw [es, qNd, hz]; omega
    have nk : ∀ y ∈ R.drop i, ¬ (y.m = x.m ∧ y.c = x.c) := fun y hy => by
      have := h5 y hy
      unfold qEg at this
      omega
    have hx : qAR x.m x.c (x :: R) = s := by rw [qJa, if_pos ⟨rfl, rfl⟩]; omega
    rw [e]
    obtain ⟨B, b1, b2, b3, b4⟩ := ih (R.drop i) (out ++ qEF P now x s) (by rw [List.length_cons] at hf; rw [List.length_drop]; omega) (hs'.2.sublist (List.drop_sublist _ _)) (fun y hy => hRo y (List.mem_of_mem_drop hy)) (fun y hy => by
      rw [tot _ _ (nk y hy)]
      exact ht y (List.mem_cons_of_mem _ (List.mem_of_mem_drop hy)))
    refine ⟨qEF P now x s ++ B, by rw [b1, List.append_assoc], fun d hd => ?_, ?_, fun y hy hp => ?_⟩
    · rcases List.mem_append.1 hd with hd | hd
      · unfold qEF at hd
        split at hd
        · rename_i g
          rw [List.mem_singleton] at hd
          subst hd
          dsimp only
          rw [hx]
          exact ⟨rfl, rfl, by omega, x, List.mem_cons_self .., rfl, rfl⟩
        · cases hd
      · obtain ⟨c1, c2, c3, y, hy, c4⟩ := b2 d hd
        refine ⟨c1, ?_, c3, y, List.mem_cons_of_mem _ (List.mem_of_mem_drop hy), c4⟩
        rw [c2, tot _ _ (fun e => nk y hy ⟨c4.1.trans e.1, c4.2.trans e.2⟩)]
    · rw [List.pairwise_append]
      refine ⟨?_, b3, fun d hd d' hd' => ?_⟩
      · unfold qEF; split <;> simp
      · obtain ⟨_, _, _, y, hy, c4⟩ := b2 d' hd'
        have := h5 y hy
        unfold qEF at hd
        split at hd
        · rw [List.mem_singleton] at hd
          subst hd
          unfold qEg at this ⊢
          dsimp only
          omega
        · cases hd
    · by_cases g : y.m = x.m ∧ y.c = x.c
      · rw [g.1, g.2, hx] at hp
        refine ⟨⟨x.m, x.c, now, s - qDd P x.m x.c⟩, List.mem_append_left _ ?_, g.1.symm, g.2.symm⟩
        unfold qEF
        rw [if_pos (by omega)]
        exact List.mem_singleton.2 rfl
      · have hyd : y ∈ R.drop i := by
          rw [es] at hy
          rcases List.mem_append.1 hy with hy | hy
          · rcases List.mem_cons.1 hy with rfl | hy
            · exact (g ⟨rfl, rfl⟩).elim
            · exact (g (h4 y hy)).elim
          · exact hy
        rw [← tot _ _ g] at hp
        obtain ⟨d, hd, c⟩ := b4 y hyd hp
        exact ⟨d, List.mem_append_right _ hd, c⟩
end Go.Proofs.YtjihfieahkbohaaGreat

/- Dues, plainly: those of a member and a currency. -/
namespace Go.Proofs.YtjihfieahkbohaaGreat
open Go Go.Sy Go.Value
set_option linter.unusedVariables false
set_option linter.unusedSimpArgs false

end Go.Proofs.YtjihfieahkbohaaGreat

/- A book of instructions: made, asked, and changed. -/
namespace Go.Proofs.YtjihfieahkbohaaGreat
open Go Go.Sy Go.Value
set_option linter.unusedVariables false
set_option linter.unusedSimpArgs false

def dA (d : Dl) : Value := agg #[.int .i64 d.id, .int .i64 d.a, .int .i64 d.b, .int .i64 d.sc, .int .i64 d.bc, .int .i64 d.sell, .int .i64 d.buy]
def dl0 : Dl := ⟨0, 0, 0, 0, 0, 0, 0⟩
def qHD (S : Bk) (id : Int) : Dl × Bool := match qYM S id with
  | some x => (x.d, true)
  | none => (dl0, false)
def qYK (d : Dl) : Prop := d.sell ≤ 9223372036854775807 ∧ d.buy ≤ 9223372036854775807
section
variable {h : Heap} {K : Value → Heap → Prop} {p : Nat} {S : Bk} {lp : Option Addr} {c mr : Nat}
theorem qYZ {a b m : Int} (k : K (.bool (qN0 a b m)) h) : CallA Tryz.prog qKl [.int .i64 a, .int .i64 b, .int .i64 m] h K := by
  refine qVE _ _ _ _ _ ?_
  unfold qPi
  have no : ¬ (0 ≤ a ∧ 0 ≤ b ∧ a < m ∧ b < m) → K (.bool false) h := fun g => by
    have e : qN0 a b m = false := by unfold qN0; rw [decide_eq_false_iff_not]; omega
    rw [e] at k; exact k
  refine Br.dec (fun g1 => Br.dec (fun g2 => Br.dec (fun g3 => Br.dec (fun g4 => Ret.mk ?_) fun g => Ret.mk (no (by omega))) fun g => Ret.mk (no (by omega))) fun g => Ret.mk (no (by omega))) fun g => Ret.mk (no (by omega))
  have e : qN0 a b m = (a != b) := by
    unfold qN0
    by_cases g : a = b
    · rw [decide_eq_false (by omega)]; simp [g]
    · rw [decide_eq_true (by omega)]; simp [g]
  rw [e] at k; exact k
theorem qaN (B : PBk h p S lp c mr) {d : Dl} (k : ∀ h', h.le h' → K (.bool (decide (qLG S.mem S.cur d))) h') : CallA Tryz.prog qIu [pointer (some ⟨p, 0, none⟩), dA d] h K := by
  refine qPv _ _ _ _ _ _ _ _ _ _ ?_
  unfold qLZ
  refine qAK fun r h1 hr l1 A1 => ?_
  have B1 := B.le l1
  have no : ¬ qLG S.mem S.cur d → K (.bool false) h1 := fun g => by
    have := k h1 l1
    rw [decide_eq_false g] at this; exact this
  have yes : qLG S.mem S.cur d → K (.bool true) h1 := fun g => by
    have := k h1 l1
    rw [decide_eq_true g] at this; exact this
  refine ⟨_, A1.cell rfl, Br.dec (fun g1 => ⟨_, A1.cell rfl, Br.dec (fun g2 => ⟨_, A1.cell rfl, _, A1.cell rfl, qD rfl ⟨_, B1.ap.cell rfl, qYZ ⟨_, rfl, Br.intro (fun g3 => ?_) fun g3 => Ret.mk (no fun m => by rw [m.2.2.1] at g3; cases g3)⟩⟩⟩) fun g => Ret.mk (no fun m => g m.2.1)⟩) fun g => Ret.mk (no fun m => g m.1)⟩
  refine ⟨_, A1.cell rfl, _, A1.cell rfl, qD rfl ⟨_, B1.ap.cell rfl, qYZ ⟨_, rfl, Br.intro (fun g4 => ?_) fun g4 => Ret.mk (no fun m => by rw [m.2.2.2.1] at g4; cases g4)⟩⟩⟩
  refine ⟨_, A1.cell rfl, Br.dec (fun g5 => ⟨_, A1.cell rfl, Ret.mk ?_⟩) fun g => Ret.mk (no fun m => g m.2.2.2.2.1)⟩
  by_cases g6 : d.buy ≥ 1
  · rw [decide_eq_true g6]; exact yes ⟨g1, g2, g3, g4, g5, g6⟩
  · rw [decide_eq_false g6]; exact no fun m => g6 m.2.2.2.2.2
theorem qXu {d : Dl} (k : ∀ h', h.le h' → K (dA (qRP d)) h') : CallA Tryz.prog qM9 [dA d] h K := by
  refine qSF _ _ _ _ _ _ _ _ _ ?_
  unfold qNB
  refine qAK fun r h1 hr l1 A1 => qAK fun r2 h2 hr2 l2 A2 => ?_
  have A1' := A1.le l2
  have A3 := A2.set (o := 0) (ws := dV (qRP d))
  refine ⟨_, A1'.cell rfl, _, A1'.cell rfl, _, A1'.cell rfl, _, A1'.cell rfl, _, A1'.cell rfl, _, A1'.cell rfl, _, A1'.cell rfl, A2.canSt (Nat.le_refl _), _, A3.cell rfl, _, A3.cell rfl, _, A3.cell rfl, _, A3.cell rfl, _, A3.cell rfl, _, A3.cell rfl, _, A3.cell rfl, Ret.mk ?_⟩
  exact k _ (qj (Heap.le_trans l1 l2) (qm l1 hr2))
theorem qWT (B : PBk h p S lp c mr) {id : Int} (k0 : qB9 id S.L = none → K (pointer none) h) (k1 : ∀ i x r, qB9 id S.L = some i → S.L[i]? = some x → lp = some ⟨r, 0, none⟩ → K (pointer (some ⟨r, i * 10, none⟩)) h) :
    CallA Tryz.prog qGf [pointer (some ⟨p, 0, none⟩), .int .i64 id] h K := by
  refine qPd _ _ _ _ ?_
  unfold qK3
  refine qD rfl ⟨_, B.ap.cell rfl, mr, _, rfl, B.mp, ?_⟩
  unfold qM5
  cases hp : qB9 id S.L with
  | none =>
    exact Br.yes rfl (Ret.mk (k0 hp))
  | some i =>
    obtain ⟨x, hx, _⟩ := qOf hp
    obtain ⟨r, sp, e, _⟩ := B.row hx
    have hi := (List.getElem?_eq_some_iff.1 hx).1
    refine Br.no rfl (qD rfl ⟨_, _, _, B.ap.cell rfl, by simp, by simp; omega, qD e (Ret.mk ?_)⟩)
    have := k1 i x r hp hx e
    simpa using this
theorem qZ8 (B : PBk h p S lp c mr) {id : Int} (k : ∀ h', h.le h' → K (tuple #[dA (qHD S id).1, .bool (qHD S id).2]) h') : CallA Tryz.prog qIF [pointer (some ⟨p, 0, none⟩), .int .i64 id] h K := by
  refine qPh _ _ _ _ ?_
  unfold qLC
  unfold qHD qYM at k
  refine qAK fun r0 h1 hr0 l1 A1 => ?_
  have B1 := B.le l1
  refine qWT B1 (fun hp => ⟨_, rfl, Br.no rfl ?_⟩) fun i x r hp hx hr => ⟨_, rfl, Br.yes rfl (qD rfl ?_)⟩
  · rw [hp] at k
    have A3 := A1.set (o := 0) (ws := dV dl0)
    refine ⟨A1.canSt (Nat.le_refl _), _, A3.cell rfl, _, A3.cell rfl, _, A3.cell rfl, _, A3.cell rfl, _, A3.cell rfl, _, A3.cell rfl, _, A3.cell rfl, Ret.mk ?_⟩
    exact k _ (qj l1 hr0)
  · obtain ⟨r', sp, e', a, _, hc⟩ := B1.row hx
    rw [hr] at e'
    have e' : r = r' := by simpa using e'
    subst e'
    rw [hp] at k
    dsimp only [Option.bind] at k
    rw [hx] at k
    have A3 := A1.set (o := 0) (ws := dV x.d)
    refine ⟨_, hc 0 (by decide), _, hc 1 (by decide), _, hc 2 (by decide), _, hc 3 (by decide), _, hc 4 (by decide), _, hc 5 (by decide), _, hc 6 (by decide), A1.canSt (Nat.le_refl _), _, A3.cell rfl, _, A3.cell rfl, _, A3.cell rfl, _, A3.cell rfl, _, A3.cell rfl, _, A3.cell rfl, _, A3.cell rfl, Ret.mk ?_⟩
    exact k _ (qj l1 hr0)
end
end Go.Proofs.YtjihfieahkbohaaGreat

/- A book of instructions: made, submitted to, rescinded, removed from. -/
namespace Go.Proofs.YtjihfieahkbohaaGreat
open Go Go.Sy Go.Value
set_option linter.unusedVariables false
set_option linter.unusedSimpArgs false

theorem MapF.keepB {h h' : Heap} {q : Option Addr} {r : Nat} {kk vk : IntKind} {f : Int → Option Int} (M : MapF h r kk vk f) (keep : ∀ b y, h b = some y → q ≠ some ⟨b, 0, none⟩ → h' b = some y) (ne : q ≠ some ⟨r, 0, none⟩) : MapF h' r kk vk f := by
  obtain ⟨es, e, c, h1, h2⟩ := M
  exact ⟨es, e, c, keep _ _ h1 ne, h2⟩
theorem OwnL.neM {g h : Heap} {z : List Value} {q : Option Addr} {c r : Nat} {vs : List Value} {kk vk : IntKind} {f : Int → Option Int} (x : OwnL g h z q c vs) (M : MapF h r kk vk f) : q ≠ some ⟨r, 0, none⟩ := fun e => by
  rcases x with ⟨_, e2, _⟩ | ⟨s, sp, e2, _, a, _⟩
  · rw [e2] at e; cases e
  · rw [e2] at e
    have e : s = r := by simpa using e
    exact M.ne a e
section
variable {h : Heap} {K : Value → Heap → Prop} {p : Nat} {S : Bk} {lp : Option Addr} {c mr : Nat}
theorem PBk.keep {h' : Heap} {q : Option Addr} (B : PBk h p S lp c mr) (keep : ∀ b y, h b = some y → q ≠ some ⟨b, 0, none⟩ → h' b = some y) (n1 : q ≠ some ⟨p, 0, none⟩) (n2 : ∀ r, lp = some ⟨r, 0, none⟩ → q ≠ some ⟨r, 0, none⟩) (n3 : q ≠ some ⟨mr, 0, none⟩) :
    PBk h' p S lp c mr := ⟨qMA keep B.ap n1, B.ol.mv fun b xs e a => qMA keep a (n2 b e), MapF.keepB B.mp keep n3, B.np⟩
theorem qah {m cu : Int} (k0 : ¬ ((1 ≤ m ∧ m ≤ 16) ∧ 1 ≤ cu ∧ cu ≤ 8) → K (tuple #[pointer none, .int .i64 1]) h)
    (k1 : (1 ≤ m ∧ m ≤ 16) ∧ 1 ≤ cu ∧ cu ≤ 8 → ∀ p h', h.le h' → PB h' p ⟨m, cu, [], 0⟩ → K (tuple #[pointer (some ⟨p, 0, none⟩), .int .i64 0]) h') : CallA Tryz.prog qMz [.int .i64 m, .int .i64 cu] h K := by
  refine qU5 _ _ _ _ ?_
  unfold qPl
  refine Br.dec (fun g => Ret.mk (k0 (by omega))) fun g1 => Br.dec (fun g => Ret.mk (k0 (by omega))) fun g2 => Br.dec (fun g => Ret.mk (k0 (by omega))) fun g3 => Br.dec (fun g => Ret.mk (k0 (by omega))) fun g4 => ?_
  intro r hr
  refine qAK fun r2 h2 hr2 l2 A2 => Ret.mk (k1 (by omega) _ _ (Heap.le_trans (qi hr) l2) ⟨?_, none, 0, r, ⟨A2, .nil _ _ _, (MapF.new h r .i64 .i64).le l2, fun e => by cases e⟩⟩)
  exact { m1 := by dsimp only; omega, c1 := by dsimp only; omega, n := Nat.zero_le _, may := fun _ x => (by cases x), i64 := fun _ x => (by cases x), nd := fun i x e => (by simp at e), could := fun _ x => (by cases x), ords := .refl _ }
theorem qSp (P : PB h p S) {d : Dl} (hi : qYK d) (k : ∀ h', PB h' p (qIJ S d).2.2 → K (tuple #[.bool (qIJ S d).1, .int .i64 (qIJ S d).2.1]) h') :
    CallA Tryz.prog qFd [pointer (some ⟨p, 0, none⟩), dA d] h K := by
  obtain ⟨ok, lp, c, mr, B⟩ := P
  refine qOL _ _ _ _ _ _ _ _ _ _ ?_
  unfold qJx
  unfold qIJ at k
  refine qAK fun r h1 hr l1 A1 => ⟨_, A1.cell rfl, _, A1.cell rfl, _, A1.cell rfl, _, A1.cell rfl, _, A1.cell rfl, _, A1.cell rfl, _, A1.cell rfl, ?_⟩
  refine qaN (d := d) (B.le l1) fun h2 l2 => ⟨_, rfl, ?_⟩
  have A := A1.le l2
  have B := B.le (Heap.le_trans l1 l2)
  clear A1 l1 l2 hr h1
  by_cases gm : qLG S.mem S.cur d
  rotate_left
  · rw [decide_eq_false gm]
    rw [if_neg gm] at k
    exact Br.yes rfl (Ret.mk (k _ ⟨ok, lp, c, mr, B⟩))
  rw [decide_eq_true gm]
  rw [if_pos gm] at k
  refine Br.no rfl ⟨_, A.cell rfl, qWT B (fun hp => ⟨_, rfl, Br.yes rfl ?_⟩) fun i x r' hp hx hr' => ⟨_, rfl, Br.no rfl ?_⟩⟩
  · rw [hp] at k
    dsimp only at k
    have hn := ok.n
    refine qD rfl ⟨_, _, _, B.ap.cell rfl, Br.intro (fun g => ?_) fun g => ?_⟩
    · rw [if_pos (by have := of_decide_eq_true (show decide ((S.L.length : Int) = 200) = true from g); omega)] at k
      exact Ret.mk (k _ ⟨ok, lp, c, mr, B⟩)
    have g : S.L.length ≠ 200 := fun e => by rw [e] at g; cases g
    rw [if_neg g] at k
    refine Br.yes rfl (qD rfl ⟨_, B.ap.cell rfl, _, A.cell rfl, qD rfl ⟨_, _, _, B.ap.cell rfl, mr, _, rfl, B.mp, fun o ho hc hcn => ?_⟩⟩)
    have hat : ∀ b xs, At h2 b xs → At (h2.ins mr o) b xs := fun b xs a => a.insM (B.mp.ne a)
    have A' := hat _ _ A
    have ap' := hat _ _ B.ap
    have ol' := B.ol.mv (h' := h2.ins mr o) fun b xs e a => hat b xs a
    have mp' : MapF (h2.ins mr o) mr .i64 .i64 (qM5 (S.L ++ [⟨d, 1, 0, 0⟩])) := by
      have := ho (h2.ins mr o) (by unfold Heap.ins; rw [if_pos rfl])
      have e : (fun x => if x = d.id then some ((S.L.length : Nat) : Int) else qM5 S.L x) = qM5 (S.L ++ [⟨d, 1, 0, 0⟩]) := by
        funext x
        unfold qM5
        rw [qR2 S.L ⟨d, 1, 0, 0⟩ hp]
        dsimp only
        split <;> rfl
      rw [← e]; exact this
    generalize h2.ins mr o = h3 at *
    refine qD rfl ⟨_, _, _, ap'.cell rfl, _, A'.cell rfl, _, A'.cell rfl, _, A'.cell rfl, _, A'.cell rfl, _, A'.cell rfl, _, A'.cell rfl, _, A'.cell rfl, ?_⟩
    refine qKm ol' (by decide) (qRY _) (by omega) rfl rfl (by rw [qAO qEy]; rfl) fun r4 h4 p' c' h5 hr4 l4 _ ol5 keep how => ?_
    have ap5 := qMA keep (ap'.le l4) B.np
    have np5 := qPT how (ap'.le l4) B.np
    have mp5 := MapF.keepB (mp'.le l4) keep (OwnL.neM (ol'.le l4) (mp'.le l4))
    refine qD rfl ⟨ap5.canSt (by simp), Ret.mk (k _ ⟨ok.snoc gm hi (by omega) hp, p', c', mr, ?_, ?_, mp5.set ap5, np5⟩)⟩
    · have := ap5.set (o := 2) (ws := [.slice p' (S.L.length + 1) c'])
      have e : (S.L ++ [(⟨d, 1, 0, 0⟩ : En)]).length = S.L.length + 1 := by simp
      dsimp only
      rw [e]
      exact this
    · have := ol5.set_ne (o := 2) (ws := [.slice p' (S.L.length + 1) c']) np5
      have e : (S.L ++ [(⟨d, 1, 0, 0⟩ : En)]).flatMap eV = S.L.flatMap eV ++ eV ⟨d, 1, 0, 0⟩ := by rw [List.flatMap_append]; simp
      dsimp only
      rw [e]
      exact this
  · obtain ⟨r2, sp, e', a, hne, hc⟩ := B.row hx
    rw [hr'] at e'
    have e' : r' = r2 := by simpa using e'
    subst e'
    rw [hp] at k
    dsimp only at k
    rw [hx] at k
    dsimp only at k
    refine Br.no rfl (qD rfl ⟨_, hc 7 (by decide), Br.intro (fun g => ?_) fun g => ?_⟩)
    · rw [if_pos (.inl (by simpa using g))] at k
      exact Ret.mk (k _ ⟨ok, lp, c, mr, B⟩)
    have g1 : x.st = 1 := by simpa using g
    refine qD rfl ⟨_, hc 1 (by decide), _, A.cell rfl, Br.intro (fun g => ?_) fun g => ?_⟩
    · rw [if_pos (.inr (by simpa using g))] at k
      exact Ret.mk (k _ ⟨ok, lp, c, mr, B⟩)
    have g2 : x.d.a ≠ d.a := by simpa using g
    rw [if_neg (by simp [g1, g2])] at k
    refine qD rfl ⟨_, hc 0 (by decide), _, hc 1 (by decide), _, hc 2 (by decide), _, hc 3 (by decide), _, hc 4 (by decide), _, hc 5 (by decide), _, hc 6 (by decide), ?_⟩
    refine ⟨_, A.cell rfl, _, A.cell rfl, _, A.cell rfl, _, A.cell rfl, _, A.cell rfl, _, A.cell rfl, _, A.cell rfl, ?_⟩
    refine qXu (d := d) fun h3 l3 => ⟨_, _, _, _, _, _, _, rfl, .inl l3, ?_⟩
    have B3 := B.le l3
    cases he : eqD x.d (qRP d) with
    | false =>
      rw [if_pos he] at k
      exact Br.yes (show (!eqD x.d (qRP d)) = true by rw [he]; rfl) (Ret.mk (k _ ⟨ok, lp, c, mr, B3⟩))
    | true =>
      rw [if_neg (by rw [he]; decide)] at k
      refine Br.no (show (!eqD x.d (qRP d)) = false by rw [he]; rfl) ?_
      have hm := ok.mat
      have w : IntKind.wrap .i64 ((S.mat : Int) + 1) = ((S.mat + 1 : Nat) : Int) := by rw [qH (by omega) (by omega)]; omega
      have B4 := B3.wrM (S.mat + 1)
      have B5 := B4.wr (o := 7) (y := { x with st := 2 }) (ws := [.int .i64 2]) hx hr' (by simp) rfl rfl
      have hi := (List.getElem?_eq_some_iff.1 hx).1
      have hx5 : (S.L.set i { x with st := 2 })[i]? = some { x with st := 2 } := by rw [List.getElem?_set_self hi]
      have B6 := B5.wr (o := 9) (y := { x with st := 2, ord := ((S.mat + 1 : Nat) : Int) }) (ws := [.int .i64 ((S.mat + 1 : Nat) : Int)]) hx5 hr' (by simp) rfl rfl
      refine qD rfl ⟨_, B3.ap.cell rfl, qD rfl ⟨B3.ap.canSt (by simp), qD rfl ?_⟩⟩
      rw [w]
      refine ⟨_, B4.ap.cell rfl, qD rfl ⟨B4.can hx hr' (by decide), qD rfl ⟨B5.can hx5 hr' (by decide), Ret.mk (k _ ⟨ok.match hx g1, lp, c, mr, ?_⟩)⟩⟩⟩
      have e : (S.L.set i { x with st := 2 }).set i { x with st := 2, ord := ((S.mat + 1 : Nat) : Int) } = S.L.set i { x with st := 2, ord := (S.mat : Int) + 1 } := by
        rw [List.set_set]; rfl
      dsimp only at B6
      rw [e] at B6
      exact B6
end
end Go.Proofs.YtjihfieahkbohaaGreat

/- A list put in order: by insertion, by a heap; turned about. -/
namespace Go.Proofs.YtjihfieahkbohaaGreat
open Go Go.Sy Go.Value Go.Sort
set_option linter.unusedVariables false
set_option linter.unusedSimpArgs false

theorem qFI {j : Nat} (h : j ≤ 4000000000) : IntKind.wrap .i64 ((j : Int) + 1) = ((j + 1 : Nat) : Int) := by rw [qH (by omega) (by omega)]; omega
theorem qZv {j : Nat} (h : j ≤ 4000000000) : IntKind.wrap .i64 (((j + 1 : Nat) : Int) - 1) = (j : Int) := by rw [qH (by omega) (by omega)]; omega
theorem qAB {x : Int} (h1 : -4000000000 ≤ x) (h2 : x ≤ 40000000000) : IntKind.wrap .i64 x = x := qH (by omega) (by omega)

section
variable {g0 : Heap} {B m n c : Nat} {sp : List Value} {left : List En} {K : Value → Heap → Prop} (e0 : g0 B = none) (hm : left.length = m) (I : True) (hn : n ≤ 1000000)
include e0 hm I hn
/-! by insertion -/
theorem qZJ {a b i : Nat} (hi : i < n) : ∀ (j : Nat) (h : Heap) (d : Array Int), DaE left g0 B m n sp h d → j ≤ i →
    (∀ h', DaE left g0 B m n sp h' (insInner (qS left) a j d) → ql (some ⟨B, 0, none⟩) n c (a : Int) (b : Int) ((i + 1 : Nat) : Int) h' K) →
    q9 (some ⟨B, 0, none⟩) n c (a : Int) (b : Int) (i : Int) (j : Int) h K := by
  intro j
  induction j with
  | zero =>
    intro h d D hj k
    refine qDF _ _ _ _ _ _ _ _ _ ?_
    unfold qBY
    rw [qFI (by omega)]
    exact Br.no (by simp) (k h D)
  | succ j ih =>
    intro h d D hj k
    refine qDF _ _ _ _ _ _ _ _ _ ?_
    unfold qBY
    rw [qFI (by omega), qZv (by omega)]
    rw [insInner] at k
    refine Br.dec (fun g => qOs D hm I rfl rfl (by omega) (by omega) fun h' D' => Br.intro (fun g2 => ?_) fun g2 => ?_) fun g => ?_
    · refine qEM (J := fun h => q9 (some ⟨B, 0, none⟩) n c (a : Int) (b : Int) (i : Int) (j : Int) h K) D' e0 rfl rfl (by omega) (by omega) fun h'' D'' => ih h'' _ D'' (by omega) ?_
      rw [if_pos (by rw [g2, Bool.and_true]; exact decide_eq_true (by omega))] at k
      exact k
    · rw [if_neg (by rw [g2]; simp)] at k
      exact k h' D'
    · rw [if_neg (by simp; omega)] at k
      exact k h D
theorem qXo {a b : Nat} (hb : b ≤ n) : ∀ (q i : Nat) (h : Heap) (d : Array Int), b - i ≤ q → DaE left g0 B m n sp h d →
    (∀ h', DaE left g0 B m n sp h' (insOuter (qS left) a b i d) → K (tuple #[]) h') → i ≤ 2000000 →
    ql (some ⟨B, 0, none⟩) n c (a : Int) (b : Int) (i : Int) h K := by
  intro q
  induction q with
  | zero =>
    intro i h d hq D k hi
    refine qBV _ _ _ _ _ _ _ _ ?_
    unfold qAd
    rw [insOuter, if_neg (by omega)] at k
    exact Br.no (by simp; omega) (Ret.mk (k h D))
  | succ q ih =>
    intro i h d hq D k hi
    refine qBV _ _ _ _ _ _ _ _ ?_
    unfold qAd
    rw [insOuter] at k
    refine Br.dec (fun g => qZJ e0 hm I hn (by omega) i h d D (Nat.le_refl _) fun h' D' => ih (i + 1) h' _ (by omega) D' ?_ (by omega)) fun g => ?_
    · rw [if_pos (by omega)] at k; exact k
    · rw [if_neg (by omega)] at k; exact Ret.mk (k h D)
theorem qO1 {h : Heap} {d : Array Int} {a b : Nat} (ha : a ≤ n) (hb : b ≤ n) (D : DaE left g0 B m n sp h d) (k : ∀ h', DaE left g0 B m n sp h' (insertionSort (qS left) d a b) → K (tuple #[]) h') :
    CallA Tryz.prog qBp [slice (some ⟨B, 0, none⟩) n c, .int .i64 (a : Int), .int .i64 (b : Int), func (Fn.func qC) #[] #[]] h K := by
  refine qDo _ _ _ _ _ _ _ ?_
  unfold qBn
  rw [qFI (by omega)]
  exact qXo e0 hm I hn hb _ _ _ _ (Nat.le_refl _) D k (by omega)
/-! by a heap -/
theorem qX5 {hi first : Nat} (hf : first + hi ≤ n) : ∀ (q root : Nat) (h : Heap) (d : Array Int), hi - root ≤ q → root ≤ 1000000 → DaE left g0 B m n sp h d →
    (∀ h', DaE left g0 B m n sp h' (siftDown (qS left) hi first root d) → K (tuple #[]) h') →
    qV (some ⟨B, 0, none⟩) n c (hi : Int) (first : Int) (root : Int) h K := by
  intro q
  induction q with
  | zero =>
    intro root h d hq hr D k
    refine qEH _ _ _ _ _ _ _ _ ?_
    unfold qCG
    rw [siftDown, dif_pos (by omega)] at k
    rw [qAB (x := 2 * (root : Int)) (by omega) (by omega), qAB (x := 2 * (root : Int) + 1) (by omega) (by omega)]
    exact Br.yes (decide_eq_true (by omega)) (Ret.mk (k h D))
  | succ q ih =>
    intro root h d hq hr D k
    refine qEH _ _ _ _ _ _ _ _ ?_
    unfold qCG
    have w1 : IntKind.wrap .i64 (2 * (root : Int)) = ((2 * root : Nat) : Int) := by rw [qAB (by omega) (by omega)]; omega
    have w2 : IntKind.wrap .i64 (((2 * root : Nat) : Int) + 1) = ((2 * root + 1 : Nat) : Int) := by rw [qAB (by omega) (by omega)]; omega
    have w3 : IntKind.wrap .i64 (((2 * root + 1 : Nat) : Int) + 1) = ((2 * root + 2 : Nat) : Int) := by rw [qAB (by omega) (by omega)]; omega
    have w4 : IntKind.wrap .i64 ((first : Int) + ((2 * root + 1 : Nat) : Int)) = ((first + (2 * root + 1) : Nat) : Int) := by rw [qAB (by omega) (by omega)]; omega
    have w5 : IntKind.wrap .i64 ((first : Int) + ((2 * root + 2 : Nat) : Int)) = ((first + (2 * root + 2) : Nat) : Int) := by rw [qAB (by omega) (by omega)]; omega
    have w6 : IntKind.wrap .i64 (((first + (2 * root + 1) : Nat) : Int) + 1) = ((first + (2 * root + 1) + 1 : Nat) : Int) := by rw [qAB (by omega) (by omega)]; omega
    have w7 : IntKind.wrap .i64 ((first : Int) + (root : Int)) = ((first + root : Nat) : Int) := by rw [qAB (by omega) (by omega)]; omega
    rw [w1, w2, w3, w4, w5, w6, w7]
    rw [siftDown] at k
    have low : ∀ (h : Heap), DaE left g0 B m n sp h d → 2 * root + 1 < hi →
        (∀ h', DaE left g0 B m n sp h' (if !qS left d[first + root]! d[first + (2 * root + 1)]! then d else siftDown (qS left) hi first (2 * root + 1) (swp d (first + root) (first + (2 * root + 1)))) → K (tuple #[]) h') →
        ∀ h', DaE left g0 B m n sp h' d → Br (!qS left d[first + root]! d[first + (2 * root + 1)]!) (Ret h' K (tuple #[])) (∀ h'', DaE left g0 B m n sp h'' (swp d (first + root) (first + (2 * root + 1))) → qV (some ⟨B, 0, none⟩) n c (hi : Int) (first : Int) ((2 * root + 1 : Nat) : Int) h'' K) := by
      intro h D g k h' D'
      refine Br.intro (fun g2 => ?_) fun g2 => fun h'' D'' => ?_
      · rw [if_pos g2] at k; exact Ret.mk (k h' D')
      · rw [if_neg (by rw [g2]; simp)] at k
        exact ih _ h'' _ (by omega) (by omega) D'' k
    refine Br.dec (fun g => ?_) fun g => ?_
    · rw [dif_pos (by omega)] at k
      exact Ret.mk (k h D)
    rw [dif_neg (by omega)] at k
    refine Br.dec (fun g1 => qOs D hm I rfl rfl (by omega) (by omega) fun h' D' => Br.intro (fun g2 => ?_) fun g2 => ?_) fun g1 => ?_
    · rw [if_pos (by rw [g2, Bool.and_true]; exact decide_eq_true (by omega))] at k
      refine qJA D' hm I rfl rfl (by omega) (by omega) fun h2 D2 => Br.intro (fun g3 => ?_) fun g3 => ?_
      · rw [if_pos g3] at k; exact Ret.mk (k h2 D2)
      rw [if_neg (by rw [g3]; simp), dif_pos (by omega)] at k
      exact qEM (J := fun h => qV (some ⟨B, 0, none⟩) n c (hi : Int) (first : Int) ((2 * root + 2 : Nat) : Int) h K) D2 e0 rfl rfl (by omega) (by omega) fun h3 D3 => ih _ h3 _ (by omega) (by omega) D3 k
    · rw [if_neg (by rw [g2, Bool.and_false]; simp)] at k
      refine qJA D' hm I rfl rfl (by omega) (by omega) fun h2 D2 => Br.intro (fun g3 => ?_) fun g3 => ?_
      · rw [if_pos g3] at k; exact Ret.mk (k h2 D2)
      rw [if_neg (by rw [g3]; simp)] at k
      exact qEM (J := fun h => qV (some ⟨B, 0, none⟩) n c (hi : Int) (first : Int) ((2 * root + 1 : Nat) : Int) h K) D2 e0 rfl rfl (by omega) (by omega) fun h3 D3 => ih _ h3 _ (by omega) (by omega) D3 k
    · rw [if_neg (by rw [decide_eq_false (by omega)]; simp)] at k
      refine qJA D hm I rfl rfl (by omega) (by omega) fun h2 D2 => Br.intro (fun g3 => ?_) fun g3 => ?_
      · rw [if_pos g3] at k; exact Ret.mk (k h2 D2)
      rw [if_neg (by rw [g3]; simp)] at k
      exact qEM (J := fun h => qV (some ⟨B, 0, none⟩) n c (hi : Int) (first : Int) ((2 * root + 1 : Nat) : Int) h K) D2 e0 rfl rfl (by omega) (by omega) fun h3 D3 => ih _ h3 _ (by omega) (by omega) D3 k
theorem qUD {h : Heap} {d : Array Int} {lo hi first : Nat} (hf : first + hi ≤ n) (hl : lo ≤ 1000000) (D : DaE left g0 B m n sp h d) (k : ∀ h', DaE left g0 B m n sp h' (siftDown (qS left) hi first lo d) → K (tuple #[]) h') :
    CallA Tryz.prog qBH [slice (some ⟨B, 0, none⟩) n c, .int .i64 (lo : Int), .int .i64 (hi : Int), .int .i64 (first : Int), func (Fn.func qC) #[] #[]] h K := by
  refine qIb _ _ _ _ _ _ _ _ ?_
  unfold qEw
  exact qX5 e0 hm I hn hf _ _ _ _ (Nat.le_refl _) hl D k
theorem qWc {first : Nat} : ∀ (q : Nat) (h : Heap) (d : Array Int), first + q ≤ n → DaE left g0 B m n sp h d →
    (∀ h', DaE left g0 B m n sp h' (heapPop (qS left) first q d) → K (tuple #[]) h') →
    qAW (some ⟨B, 0, none⟩) n c (first : Int) 0 ((q : Int) - 1) h K := by
  intro q
  induction q with
  | zero =>
    intro h d hf D k
    refine qEG _ _ _ _ _ _ _ _ ?_
    unfold qCF
    exact Br.no (by decide) (Ret.mk (k h D))
  | succ q ih =>
    intro h d hf D k
    refine qEG _ _ _ _ _ _ _ _ ?_
    unfold qCF
    have w0 : (((q + 1 : Nat) : Int) - 1) = (q : Int) := by omega
    have w1 : IntKind.wrap .i64 ((first : Int) + (q : Int)) = ((first + q : Nat) : Int) := by rw [qAB (by omega) (by omega)]; omega
    have w2 : IntKind.wrap .i64 ((q : Int) - 1) = (q : Int) - 1 := qAB (by omega) (by omega)
    rw [w0, w1, w2]
    rw [heapPop] at k
    refine Br.yes (decide_eq_true (by omega)) (qEM (J := fun h => CallA Tryz.prog qBH [slice (some ⟨B, 0, none⟩) n c, .int .i64 0, .int .i64 (q : Int), .int .i64 (first : Int), func (Fn.func qC) #[] #[]] h fun v h => v = tuple #[] ∧ qAW (some ⟨B, 0, none⟩) n c (first : Int) 0 ((q : Int) - 1) h K) D e0 rfl rfl (by omega) (by omega) fun h1 D1 => ?_)
    exact qUD (lo := 0) e0 hm I hn (by omega) (by omega) D1 fun h2 D2 => ⟨rfl, ih h2 _ (by omega) D2 k⟩
theorem qTw {first hi : Nat} (hf : first + hi ≤ n) : ∀ (q : Nat) (h : Heap) (d : Array Int), q ≤ 1000000 → DaE left g0 B m n sp h d →
    (∀ h', DaE left g0 B m n sp h' (heapPop (qS left) first hi (heapBuild (qS left) hi first q d)) → K (tuple #[]) h') →
    qA6 (some ⟨B, 0, none⟩) n c (first : Int) 0 (hi : Int) ((q : Int) - 1) h K := by
  intro q
  induction q with
  | zero =>
    intro h d hq D k
    refine qEI _ _ _ _ _ _ _ _ _ ?_
    unfold qCI
    rw [qAB (x := (hi : Int) - 1) (by omega) (by omega)]
    rw [heapBuild] at k
    exact Br.no (by decide) (qWc e0 hm I hn _ _ _ hf D k)
  | succ q ih =>
    intro h d hq D k
    refine qEI _ _ _ _ _ _ _ _ _ ?_
    unfold qCI
    have w0 : (((q + 1 : Nat) : Int) - 1) = (q : Int) := by omega
    have w2 : IntKind.wrap .i64 ((q : Int) - 1) = (q : Int) - 1 := qAB (by omega) (by omega)
    rw [w0, w2]
    rw [heapBuild] at k
    refine Br.yes (decide_eq_true (by omega)) ?_
    exact qUD (lo := q) e0 hm I hn hf (by omega) D fun h2 D2 => ⟨rfl, ih h2 _ (by omega) D2 k⟩
theorem qY7 {h : Heap} {d : Array Int} {a b : Nat} (hab : a < b) (hb : b ≤ n) (D : DaE left g0 B m n sp h d) (k : ∀ h', DaE left g0 B m n sp h' (heapSort (qS left) d a b) → K (tuple #[]) h') :
    CallA Tryz.prog qCm [slice (some ⟨B, 0, none⟩) n c, .int .i64 (a : Int), .int .i64 (b : Int), func (Fn.func qC) #[] #[]] h K := by
  refine qIN _ _ _ _ _ _ _ ?_
  unfold qEl
  have w1 : IntKind.wrap .i64 ((b : Int) - (a : Int)) = ((b - a : Nat) : Int) := by rw [qAB (by omega) (by omega)]; omega
  have w2 : IntKind.wrap .i64 (((b - a : Nat) : Int) - 1) = ((b - a - 1 : Nat) : Int) := by rw [qAB (by omega) (by omega)]; omega
  have w3 : Int.tdiv ((b - a - 1 : Nat) : Int) 2 = (((b - a - 1) / 2 + 1 : Nat) : Int) - 1 := by
    rw [Int.tdiv_eq_ediv_of_nonneg (by omega)]; omega
  rw [w1, w2, w3, qAB (by omega) (by omega)]
  unfold heapSort at k
  exact qTw e0 hm I hn (by omega) _ _ _ (by omega) D k
/-! turned about -/
omit hm I in
theorem qYh : ∀ (q i j : Nat) (h : Heap) (d : Array Int), j - i ≤ q → i ≤ 1000000 → j < n → DaE left g0 B m n sp h d →
    (∀ h', DaE left g0 B m n sp h' (reverseLoop i j d) → K (tuple #[]) h') →
    qAC (some ⟨B, 0, none⟩) n c (i : Int) (j : Int) h K := by
  intro q
  induction q with
  | zero =>
    intro i j h d hq hi hj D k
    refine qDV _ _ _ _ _ _ _ ?_
    unfold qBi
    rw [reverseLoop, if_neg (by omega)] at k
    exact Br.no (decide_eq_false (by omega)) (Ret.mk (k h D))
  | succ q ih =>
    intro i j h d hq hi hj D k
    refine qDV _ _ _ _ _ _ _ ?_
    unfold qBi
    rw [reverseLoop] at k
    refine Br.dec (fun g => ?_) fun g => ?_
    · rw [if_pos (by omega)] at k
      have w2 : IntKind.wrap .i64 ((j : Int) - 1) = ((j - 1 : Nat) : Int) := by rw [qAB (by omega) (by omega)]; omega
      rw [qFI (by omega), w2]
      exact qEM (J := fun h => qAC (some ⟨B, 0, none⟩) n c ((i + 1 : Nat) : Int) ((j - 1 : Nat) : Int) h K) D e0 rfl rfl (by omega) (by omega) fun h1 D1 => ih _ _ h1 _ (by omega) (by omega) (by omega) D1 k
    · rw [if_neg (by omega)] at k
      exact Ret.mk (k h D)
omit hm I in
theorem qVC {h : Heap} {d : Array Int} {a b : Nat} (hab : a < b) (hb : b ≤ n) (D : DaE left g0 B m n sp h d) (k : ∀ h', DaE left g0 B m n sp h' (reverseRange d a b) → K (tuple #[]) h') :
    CallA Tryz.prog qB1 [slice (some ⟨B, 0, none⟩) n c, .int .i64 (a : Int), .int .i64 (b : Int), func (Fn.func qC) #[] #[]] h K := by
  refine qHd _ _ _ _ _ _ _ ?_
  unfold qDl
  have w2 : IntKind.wrap .i64 ((b : Int) - 1) = ((b - 1 : Nat) : Int) := by rw [qAB (by omega) (by omega)]; omega
  rw [w2]
  exact qYh e0 hn _ _ _ _ _ (Nat.le_refl _) (by omega) (by omega) D k
end
end Go.Proofs.YtjihfieahkbohaaGreat
