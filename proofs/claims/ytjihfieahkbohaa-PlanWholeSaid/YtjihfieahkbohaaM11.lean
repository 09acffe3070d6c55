import Derived.Test.YtjihfieahkbohaaM07
import Derived.Test.YtjihfieahkbohaaM10
import Derived.Test.YtjihfieahkbohaaM04
import Derived.Test.YtjihfieahkbohaaM06
import Derived.Test.YtjihfieahkbohaaM09
import Derived.Test.YtjihfieahkbohaaM02
/- Who is behind: what plan.Behind answers. -/
namespace Go.Proofs.Ytjihfieahkbohaa
open Go Go.Sy Go.Value
set_option linter.unusedVariables false
set_option linter.unusedSimpArgs false

/-! ### plainly -/
def qHt (x : Du) : Bool := decide (x.m < 0 ∨ x.c < 0 ∨ x.n < 1)
def qGL (P : List (List Int)) (m c : Int) : Int := if 0 > (P.getD m.toNat []).getD c.toNat 0 then 0 else (P.getD m.toNat []).getD c.toNat 0
def qGi (P : List (List Int)) (now : Int) (x : Du) (s : Int) : List Du := if s - qGL P x.m x.c > 0 then [⟨x.m, x.c, now, s - qGL P x.m x.c⟩] else []
def qIQ (x : Du) : Int → Nat → List Du → Option (Int × Nat)
  | s, j, [] => some (s, j)
  | s, j, y :: R => if qJD x y = 0 then (if s + y.n ≤ 9223372036854775807 then qIQ x (s + y.n) (j + 1) R else none) else some (s, j)
def qGO (P : List (List Int)) (now : Int) : Nat → List Du → List Du → List Du × Int
  | 0, _, out => (out, 0)
  | _ + 1, [], out => (out, 0)
  | f + 1, x :: R, out => match qIQ x x.n 1 R with
    | none => ([], 3)
    | some (s, j) => qGO P now f ((x :: R).drop j) (out ++ qGi P now x s)
def okU (x : Du) : Prop := 0 ≤ x.m ∧ 0 ≤ x.c ∧ 1 ≤ x.n ∧ x.n ≤ 9223372036854775807 ∧ I64 x.m ∧ I64 x.c ∧ I64 x.t
theorem qPh (x : Du) (s : Int) (j : Nat) (y : Du) (R : List Du) : qIQ x s j (y :: R) = if qJD x y = 0 then (if s + y.n ≤ 9223372036854775807 then qIQ x (s + y.n) (j + 1) R else none) else some (s, j) := rfl
theorem qRl {x : Du} : ∀ {R : List Du} {s : Int} {j : Nat} {s' : Int} {j' : Nat}, (∀ y ∈ R, okU y) → 1 ≤ s → s ≤ 9223372036854775807 → qIQ x s j R = some (s', j') → 1 ≤ s' ∧ s' ≤ 9223372036854775807 ∧ j ≤ j' ∧ j' ≤ j + R.length
  | [], s, j, s', j', _, h1, h2, h => by
    cases h
    exact ⟨h1, h2, Nat.le_refl _, Nat.le_refl _⟩
  | y :: R, s, j, s', j', ho, h1, h2, h => by
    have hy := ho y (List.mem_cons_self ..)
    unfold okU at hy
    unfold qIQ at h
    rw [List.length_cons]
    split at h
    · split at h
      · have := qRl (fun z hz => ho z (List.mem_cons_of_mem _ hz)) (by omega) (by omega) h
        omega
      · cases h
    · cases h
      omega
theorem qRa {h : Heap} {K : Value → Heap → Prop} (k : K (tuple #[]) h) : CallA Try.prog qv [slice none 0 0, func (Fn.func qI) #[] #[]] h K := by
  refine qDU _ _ _ _ _ ?_
  unfold qBT
  refine qFr _ _ _ _ _ _ ?_
  unfold qDH
  refine qE4 _ _ _ _ _ _ _ _ _ ?_
  unfold qCp
  refine Br.no (by decide) ?_
  refine qD3 _ _ _ _ _ _ _ ?_
  unfold qBv
  refine qBb _ _ _ _ _ _ _ _ ?_
  unfold qAc
  refine Br.no (by decide) (Ret.mk ⟨rfl, ?_⟩)
  refine qCo _ _ _ _ _ _ _ ?_
  unfold qBP
  exact Br.no (by decide) (Ret.mk ⟨rfl, Ret.mk k⟩)
section
variable {h : Heap} {K : Value → Heap → Prop}
theorem qXG {x : Du} (k : ∀ h', h.le h' → K (.bool (qHt x)) h') : CallA Try.prog qBn [uA x] h K := by
  refine qOt _ _ _ _ _ _ ?_
  unfold qKk
  refine qAE fun r h1 hr l1 A1 => ⟨_, A1.cell rfl, Br.dec (fun g => Ret.mk ?_) fun g1 => ⟨_, A1.cell rfl, Br.dec (fun g => Ret.mk ?_) fun g2 => ⟨_, A1.cell rfl, Ret.mk ?_⟩⟩⟩
  · have := k h1 l1
    unfold qHt at this
    rw [decide_eq_true (.inl g)] at this
    exact this
  · have := k h1 l1
    unfold qHt at this
    rw [decide_eq_true (.inr (.inl g))] at this
    exact this
  · have := k h1 l1
    unfold qHt at this
    rw [show decide (x.m < 0 ∨ x.c < 0 ∨ x.n < 1) = decide (x.n < 1) by rw [decide_eq_decide]; omega] at this
    exact this
theorem _root_.Go.Sy.At.cellO {h : Heap} {b o : Nat} {vs : List Value} (A : At h b vs) (ho : o < vs.length) : h.cell b (0 + o) = vs[o]? := by
  rw [Nat.zero_add]
  exact (A.cell (List.getElem?_eq_getElem ho)).trans (List.getElem?_eq_getElem ho).symm
theorem ldX {p : Option Addr} {D : List Du} {n : Nat} (A : Arr uV h p D) (hn : D.length = n) {j : Nat} {i : Int} (hi : i = (j : Int)) {x : Du} (hx : D[j]? = some x) {J : Int → Int → Int → Int → Prop} (k : J x.m x.c x.t x.n) :
    0 ≤ i ∧ i < (n : Int) ∧ qA p fun b o => qCD h b (o + i.toNat * 4) J :=
  by subst hi; exact ax qCN A hn rfl hx (by decide) fun b a _ hc => ldU hc k
theorem qUs {p : Option Addr} {D : List Du} {n c : Nat} (A : Arr uV h p D) (hn : D.length = n) (hs : n ≤ 1000000) (k : ∀ (v : Int) h', h.le h' → decide (v ≥ 0) = D.any qHt → K (.int .i64 v) h') :
    ∀ (m j : Nat) (h1 : Heap), h.le h1 → m + j = n → D.any qHt = (D.drop j).any qHt → qAu p n c n j h1 K := by
  intro m
  induction m with
  | zero =>
    intro j h1 l1 hj e
    refine qDn _ _ _ _ _ _ _ ?_
    unfold qBs
    rw [List.drop_eq_nil_of_le (by omega), List.any_nil] at e
    exact Br.no (by simp; omega) (Ret.mk (k _ _ l1 (by rw [e]; decide)))
  | succ m ih =>
    intro j h1 l1 hj e
    refine qDn _ _ _ _ _ _ _ ?_
    unfold qBs
    have hx : D[j]? = some D[j] := List.getElem?_eq_getElem (by omega)
    rw [List.drop_eq_getElem_cons (by omega : j < D.length), List.any_cons] at e
    generalize D[j] = x at *
    refine Br.yes (by simp; omega) (ldX (A.le l1) hn rfl hx (qXG (x := x) fun h2 l2 => ⟨_, rfl, ?_⟩))
    cases eb : qHt x with
    | true =>
      rw [eb, Bool.true_or] at e
      exact Br.yes rfl (Ret.mk (k _ _ (Heap.le_trans l1 l2) (by rw [e]; simp)))
    | false =>
      rw [eb, Bool.false_or] at e
      refine Br.no rfl ?_
      rw [w1 (by omega)]
      exact ih (j + 1) h2 (Heap.le_trans l1 l2) (by omega) e
theorem qU1 {p : Option Addr} {D : List Du} {n c : Nat} (A : Arr uV h p D) (hn : D.length = n) (hs : n ≤ 1000000) (k : ∀ h', h.le h' → K (.bool (D.any qHt)) h') :
    CallA Try.prog qBl [slice p n c, func (Fn.func qBn) #[] #[]] h K := by
  refine qG4 _ _ _ _ _ ?_
  unfold qDd
  refine qHL _ _ _ _ _ ?_
  unfold qEC
  exact qUs A hn hs (fun v h' l' e => ⟨_, rfl, by rw [e]; exact Ret.mk (k h' l')⟩) n 0 h h.le_refl (by omega) rfl
end
/-! ### one member and currency after the other -/
section
variable {g : Heap} {K : Value → Heap → Prop} {pp q : Option Addr} {PL : List NRow} {pc lc : Nat} {now : Int} {W : List Du}
theorem qUZ {h : Heap} {x : Du} {first j : Nat} {s : Int} {out : List Du} {op : Option Addr} {oc : Nat} (A : At h first (uV x)) (l : g.le h) (O : OwnL g h z4 op oc (out.flatMap uV)) (ho : out.length ≤ 1000000)
    (k : ∀ h' op' oc', g.le h' → OwnL g h' z4 op' oc' ((out ++ qGi (mxN PL) now x s).flatMap uV) → qF0 pp PL.length pc now q W.length lc op' (out ++ qGi (mxN PL) now x s).length oc' j h' K) :
    qDL pp PL.length pc now q W.length lc op out.length oc first j (s - qGL (mxN PL) x.m x.c) h K := by
  refine qMg _ _ _ _ _ _ _ _ _ _ _ _ _ _ _ ?_
  unfold qI6
  unfold qGi at k
  refine Br.dec (fun g1 => ?_) fun g1 => ?_
  · rw [if_pos g1] at k
    refine ⟨_, A.cell rfl, _, A.cell rfl, qJT (ws := uV ⟨x.m, x.c, now, s - qGL (mxN PL) x.m x.c⟩) O (by decide) l (by omega) rfl rfl (by rw [qAY qCN]; rfl) fun r h1 p' c' h' hr l1 l' O' keep how => ?_⟩
    have := k h' p' c' l' (by rw [List.flatMap_append, List.flatMap_cons, List.flatMap_nil, List.append_nil]; exact O')
    rw [List.length_append] at this
    exact this
  · rw [if_neg g1, List.append_nil] at k
    exact k h op oc l O
theorem qUK {h : Heap} {x : Du} {first j : Nat} {s : Int} {op : Option Addr} {on oc : Nat} (A : At h first (uV x)) (N : Nets h pp PL) (hx : okU x) (hs : 1 ≤ s ∧ s ≤ 9223372036854775807) (hP : ∀ y ∈ PL, qEh y.l)
    (k : qDL pp PL.length pc now q W.length lc op on oc first j (s - qGL (mxN PL) x.m x.c) h K) :
    qEg pp PL.length pc now q W.length lc op on oc first j s h K := by
  refine qMc _ _ _ _ _ _ _ _ _ _ _ _ _ _ _ ?_
  unfold qI5
  unfold okU at hx
  obtain ⟨m, hm⟩ : ∃ m : Nat, x.m = (m : Int) := ⟨x.m.toNat, by omega⟩
  obtain ⟨c, hc⟩ : ∃ c : Nat, x.c = (c : Int) := ⟨x.c.toNat, by omega⟩
  have none0 : (((mxN PL).getD m []).getD c 0 = 0) → qGL (mxN PL) x.m x.c = 0 := fun e => by
    unfold qGL
    rw [hm, hc, Int.toNat_natCast, Int.toNat_natCast, e]; decide
  refine ⟨_, A.cell rfl, Br.dec (fun g1 => ?_) fun g1 => ?_⟩
  · have hml : m < PL.length := by rw [hm] at g1; omega
    have hy : PL[m]? = some PL[m] := List.getElem?_eq_getElem hml
    have hym : PL[m] ∈ PL := List.getElem_mem _
    have hrow : (mxN PL).getD m [] = (PL[m]).l := by unfold mxN; rw [List.getD_eq_getElem?_getD, List.getElem?_map, hy]; rfl
    generalize PL[m] = y at *
    refine ⟨_, A.cell rfl, _, A.cell rfl, nx N rfl hm hy (Br.dec (fun g2 => ?_) fun g2 => ?_)⟩
    · have hcl : c < y.l.length := by rw [hc] at g2; omega
      have hv : y.l[c]? = some (y.l.getD c 0) := by rw [List.getD_eq_getElem?_getD, List.getElem?_eq_getElem hcl]; rfl
      refine ⟨_, A.cell rfl, nx N rfl hm hy ⟨_, A.cell rfl, ix (N.2 y hym) rfl hc hv ?_⟩⟩
      have hI := hP y hym _ (List.mem_of_getElem? hv)
      have e : qGL (mxN PL) x.m x.c = if 0 > y.l.getD c 0 then 0 else y.l.getD c 0 := by
        unfold qGL
        rw [hm, hc, Int.toNat_natCast, Int.toNat_natCast, hrow]
      unfold I64 at hI
      rw [e] at k
      rw [qW (by split <;> omega) (by split <;> omega)]
      exact k
    · rw [none0 (by rw [hrow, List.getD_eq_getElem?_getD, List.getElem?_eq_none (by rw [hc] at g2; omega)]; rfl), Int.sub_zero] at k
      exact k
  · rw [none0 (by
      have e : (mxN PL).getD m [] = [] := by
        unfold mxN
        rw [List.getD_eq_getElem?_getD, List.getElem?_eq_none (by rw [List.length_map]; rw [hm] at g1; omega)]; rfl
      rw [e]; rfl), Int.sub_zero] at k
    exact k
theorem qXZ {x : Du} {R : List Du} (hW : W = x :: R) (A : Arr uV g q W) (ho : ∀ y ∈ W, okU y) (hs : W.length ≤ 1000000) {op : Option Addr} {on oc : Nat} {first : Nat} {h0 : Heap} (l0 : g.le h0) (F : At h0 first (uV x))
    (k0 : ∀ h', h0.le h' → qIQ x x.n 1 R = none → K (tuple #[slice none 0 0, .int .i64 3]) h')
    (k1 : ∀ h' s j, h0.le h' → qIQ x x.n 1 R = some (s, j) → qEg pp PL.length pc now q W.length lc op on oc first j s h' K) :
    ∀ (T : List Du) (j : Nat) (s : Int) (h : Heap), h0.le h → W.drop j = T → j + T.length = W.length → 1 ≤ s → s ≤ 9223372036854775807 → qIQ x x.n 1 R = qIQ x s j T → qF9 pp PL.length pc now q W.length lc op on oc first j s h K := by
  intro T
  induction T with
  | nil =>
    intro j s h l hT hj h1 h2 e
    refine qKq _ _ _ _ _ _ _ _ _ _ _ _ _ _ _ ?_
    unfold qIM
    rw [List.length_nil] at hj
    exact Br.no (decide_eq_false (by omega)) (k1 h s j l e)
  | cons y T ih =>
    intro j s h l hT hj h1 h2 e
    refine qKq _ _ _ _ _ _ _ _ _ _ _ _ _ _ _ ?_
    unfold qIM
    rw [List.length_cons] at hj
    have hy : W[j]? = some y := by
      have := congrArg (fun z => z[0]?) hT
      simpa using this
    have hT2 : W.drop (j + 1) = T := by
      have := congrArg List.tail hT
      rw [List.tail_drop] at this
      simpa using this
    have hym := ho y (List.mem_of_getElem? hy)
    unfold okU at hym
    refine Br.yes (decide_eq_true (by omega)) (ldU (a := 0) (fun o ho => (F.le l).cellO ho) (ldX (A.le (Heap.le_trans l0 l)) rfl rfl hy (qQ2 (x := x) (y := y) fun h' l' => ⟨_, rfl, ?_⟩)))
    rw [qPh] at e
    refine Br.intro (fun g1 => ?_) fun g1 => ?_
    · have g1 : qJD x y = 0 := by simpa using g1
      rw [if_pos g1] at e
      refine ax qCN (A.le (Heap.le_trans l0 (Heap.le_trans l l'))) rfl rfl hy (by decide) fun b a _ hc => ⟨_, hc 3 (by decide), qXk (by unfold I64; omega) (by unfold I64; omega) h' _ ⟨_, _, rfl, ?_⟩⟩
      by_cases g2 : s + y.n ≤ 9223372036854775807
      · rw [if_pos g2] at e
        rw [qIr (by unfold I64; omega), w1 (by omega)]
        exact Br.no rfl (ih (j + 1) (s + y.n) h' (Heap.le_trans l l') hT2 (by omega) (by omega) (by omega) e)
      · rw [if_neg g2] at e
        rw [qIO (by unfold I64; omega)]
        exact Br.yes rfl (Ret.mk (k0 h' (Heap.le_trans l l') e))
    · have g1 : ¬ qJD x y = 0 := by simpa using g1
      rw [if_neg g1] at e
      exact k1 h' s j (Heap.le_trans l l') e
end
end Go.Proofs.Ytjihfieahkbohaa

/- Shares, plainly: who gets one more, and how near a share is. -/
namespace Go.Proofs.Ytjihfieahkbohaa
open Go Go.Sy Go.Value
set_option linter.unusedVariables false
set_option linter.unusedSimpArgs false

theorem qUq (l : List Int) (i k : Nat) (v : Int) (hi : i < l.length) : (l.set i v).getD k 0 = if i = k then v else l.getD k 0 := by
  rw [List.getD_eq_getElem?_getD, List.getD_eq_getElem?_getD, List.getElem?_set]
  by_cases e : i = k
  · subst e; simp [hi]
  · simp [e]
theorem qQc : ∀ (who l : List Int) (i : Nat), (∀ x ∈ who, 0 ≤ x ∧ x < (l.length : Int)) → who.Nodup → (qIN l who).getD i 0 = l.getD i 0 + if (i : Int) ∈ who then 1 else 0
  | [], l, i, _, _ => by simp [qIN]
  | w :: who, l, i, h, nd => by
    have h1 := h w (List.mem_cons_self ..)
    rw [List.nodup_cons] at nd
    have ih := qQc who (qIu l w) i (fun x hx => by rw [qLP]; exact h x (List.mem_cons_of_mem _ hx)) nd.2
    rw [qIN, List.foldl_cons]
    rw [qIN] at ih
    rw [ih]
    unfold qIu
    rw [qUq _ _ _ _ (by omega)]
    by_cases e : w.toNat = i
    · have e2 : w = (i : Int) := by omega
      subst e2
      rw [if_neg nd.1, if_pos (by omega), if_pos (List.mem_cons_self ..)]
      rw [Int.toNat_natCast]; omega
    · have e2 : (i : Int) ≠ w := by omega
      rw [if_neg e]
      by_cases hm : (i : Int) ∈ who
      · rw [if_pos hm, if_pos (List.mem_cons_of_mem _ hm)]
      · rw [if_neg hm, if_neg (by rw [List.mem_cons]; exact fun x => x.elim e2 hm)]
theorem qST (n : Nat) : (qGD n).Nodup := by
  induction n with
  | zero => exact List.Pairwise.nil
  | succ n ih =>
    rw [qPe, List.nodup_append]
    refine ⟨ih, by simp, fun a ha b hb => ?_⟩
    rw [qKn] at ha
    simp at hb
    omega
theorem qSu (left : List Int) (n : Nat) : (qJE left n).Nodup := (qJp left n).nodup_iff.2 (qST n)
theorem qQy {left : List Int} {n : Nat} {x : Int} : x ∈ qJE left n ↔ 0 ≤ x ∧ x < (n : Int) := by rw [(qJp left n).mem_iff, qKn]
def more (t : Int) (ws : List Int) : List Int := (qJE (qC2 t (qK ws) ws) ws.length).take (t - qK (qAh t (qK ws) ws)).toNat
theorem qT9 {t : Int} {ws : List Int} {i k : Int} (hi : 0 ≤ i ∧ i < (ws.length : Int)) (hk : k ∈ more t ws) (hl : ltO (qC2 t (qK ws) ws) i k = true) : i ∈ more t ws := by
  unfold more at *
  have hs := qRL (qC2 t (qK ws) ws) ws.length
  have hm : i ∈ qJE (qC2 t (qK ws) ws) ws.length := qQy.2 hi
  generalize qJE (qC2 t (qK ws) ws) ws.length = o at *
  generalize (t - qK (qAh t (qK ws) ws)).toNat = m at *
  rw [← List.take_append_drop m o] at hm hs
  rcases List.mem_append.1 hm with h | h
  · exact h
  · rw [List.pairwise_append] at hs
    rw [hs.2.2 k hk i h] at hl
    cases hl
theorem qT5 {l m : List Int} (h : l.Perm m) : qK l = qK m := by
  induction h with
  | nil => rfl
  | cons x _ ih => simp only [qK, ih]
  | swap x y l => simp only [qK]; omega
  | trans _ _ h1 h2 => exact h1.trans h2
theorem qPb {t : Int} {ws : List Int} {i : Nat} (hi : i < ws.length) : (qDJ t ws).getD i 0 = t * ws[i] / qK ws + if (i : Int) ∈ more t ws then 1 else 0 := by
  unfold qDJ
  rw [qQc]
  · have : (qAh t (qK ws) ws).getD i 0 = t * ws[i] / qK ws := by
      rw [List.getD_eq_getElem?_getD, List.getElem?_eq_getElem (by rw [qGa]; exact hi)]
      simp [qAh]
    rw [this]; rfl
  · intro x hx; rw [qGa]; exact qQy.1 (List.mem_of_mem_take hx)
  · exact (qSu _ _).sublist (List.take_sublist _ _)
theorem qQI {t : Int} {ws : List Int} {i : Nat} (hi : i < ws.length) : (qC2 t (qK ws) ws).getD i 0 = t * ws[i] % qK ws := by
  rw [List.getD_eq_getElem?_getD, List.getElem?_eq_getElem (by rw [qIX]; exact hi)]
  simp [qC2]
theorem qU3 {t : Int} {ws : List Int} {i k : Nat} (hi : i < ws.length) (hk : k < ws.length) (h : ws[i] = ws[k]) : (qDJ t ws).getD i 0 - 1 ≤ (qDJ t ws).getD k 0 ∧ (i < k → (qDJ t ws).getD k 0 ≤ (qDJ t ws).getD i 0) := by
  rw [qPb hi, qPb hk, h]
  refine ⟨by split <;> split <;> omega, fun hik => ?_⟩
  by_cases hm : (k : Int) ∈ more t ws
  · have : (i : Int) ∈ more t ws := by
      refine qT9 ⟨by omega, by omega⟩ hm ?_
      rw [qKd, Int.toNat_natCast, Int.toNat_natCast, qQI hi, qQI hk, h]
      right; omega
    rw [if_pos hm, if_pos this]; omega
  · rw [if_neg hm]; split <;> omega
end Go.Proofs.Ytjihfieahkbohaa

/- Dues, plainly: what is told of a member and a currency, and who is behind. -/
namespace Go.Proofs.Ytjihfieahkbohaa
open Go Go.Sy Go.Value
set_option linter.unusedVariables false
set_option linter.unusedSimpArgs false

def kfU (m c : Int) (l : List Du) : List Du := l.filter fun d => decide (d.m = m ∧ d.c = c)
def amU (m c : Int) (l : List Du) : List Int := (kfU m c l).map fun d => d.n
def qDf (m c : Int) (l : List Du) : Int := qK (amU m c l)
theorem qQv : ∀ (a b : List Int), qK (a ++ b) = qK a + qK b
  | [], b => by simp [qK]
  | x :: a, b => by rw [List.cons_append, qK, qK, qQv a b]; omega
theorem qO6 (m c : Int) (a b : List Du) : amU m c (a ++ b) = amU m c a ++ amU m c b := by unfold amU kfU; rw [List.filter_append, List.map_append]
theorem qQA (m c : Int) (a b : List Du) : qDf m c (a ++ b) = qDf m c a + qDf m c b := by unfold qDf; rw [qO6, qQv]
theorem qVP (m c : Int) (x : Du) : qDf m c [x] = if x.m = m ∧ x.c = c then x.n else 0 := by
  unfold qDf amU kfU
  by_cases h : x.m = m ∧ x.c = c
  · rw [if_pos h, List.filter_cons_of_pos (by simpa using h)]
    simp [qK]
  · rw [if_neg h, List.filter_cons_of_neg (by simpa using h)]
    rfl
theorem qHN (m c : Int) (x : Du) (l : List Du) : qDf m c (x :: l) = (if x.m = m ∧ x.c = c then x.n else 0) + qDf m c l := by rw [show x :: l = [x] ++ l from rfl, qQA, qVP]
theorem qPo {m c : Int} {a b : List Du} (h : a.Perm b) : qDf m c a = qDf m c b := qT5 ((h.filter _).map _)
theorem qRz {m c : Int} : ∀ {l : List Du}, (∀ x ∈ l, okU x) → 0 ≤ qDf m c l
  | [], _ => Int.le_refl _
  | x :: l, h => by
    have ih := qRz (m := m) (c := c) (l := l) fun y hy => h y (List.mem_cons_of_mem _ hy)
    have hx := h x (List.mem_cons_self ..)
    unfold okU at hx
    rw [qHN]
    split <;> omega
theorem qQf {m c : Int} {p : Du → Bool} : ∀ {l : List Du}, (∀ x ∈ l, okU x) → qDf m c (l.filter p) ≤ qDf m c l
  | [], _ => Int.le_refl _
  | x :: l, h => by
    have ih := qQf (m := m) (c := c) (p := p) (l := l) fun y hy => h y (List.mem_cons_of_mem _ hy)
    have hx := h x (List.mem_cons_self ..)
    unfold okU at hx
    rw [qHN]
    cases hp : p x with
    | true =>
      rw [List.filter_cons_of_pos (by rw [hp]), qHN]
      omega
    | false =>
      rw [List.filter_cons_of_neg (by rw [hp]; decide)]
      split <;> omega
theorem qLK {m c : Int} : ∀ {l : List Du}, (∀ x ∈ l, ¬ (x.m = m ∧ x.c = c)) → qDf m c l = 0
  | [], _ => rfl
  | x :: l, h => by
    rw [qHN, if_neg (h x (List.mem_cons_self ..)), qLK fun y hy => h y (List.mem_cons_of_mem _ hy)]; rfl
def qF5 (x y : Du) : Prop := x.m < y.m ∨ (x.m = y.m ∧ x.c < y.c)
def qNY (W : List Du) : Prop := W.Pairwise fun x y => ¬ (y.m < x.m ∨ (y.m = x.m ∧ y.c < x.c))
theorem qPZ {x : Du} : ∀ {R : List Du} {s : Int} {j : Nat}, qNY R → (∀ y ∈ R, ¬ qF5 y x) → (∀ y ∈ R, okU y) →
    (qIQ x s j R = none → 9223372036854775807 < s + qDf x.m x.c R) ∧ ∀ s' j', qIQ x s j R = some (s', j') → s' = s + qDf x.m x.c R ∧ j ≤ j' ∧ j' ≤ j + R.length ∧ (∀ y ∈ R.take (j' - j), y.m = x.m ∧ y.c = x.c) ∧ ∀ y ∈ R.drop (j' - j), qF5 x y
  | [], s, j, _, _, _ => by
    refine ⟨fun h => (by cases h), fun s' j' h => ?_⟩
    cases h
    exact ⟨by rw [show qDf x.m x.c [] = 0 from rfl]; omega, Nat.le_refl _, Nat.le_refl _, fun y hy => by simp at hy, fun y hy => by simp at hy⟩
  | y :: R, s, j, hs, hx, ho => by
    have hs' := (List.pairwise_cons.1 hs)
    have hy := hx y (List.mem_cons_self ..)
    have hyo := ho y (List.mem_cons_self ..)
    have hR : ∀ z ∈ R, ¬ qF5 z x := fun z hz => hx z (List.mem_cons_of_mem _ hz)
    have hRo : ∀ z ∈ R, okU z := fun z hz => ho z (List.mem_cons_of_mem _ hz)
    rw [qPh, qHN]
    unfold qF5 at hy
    by_cases g : qJD x y = 0
    · have gk := qUG.1 g
      have ih := qPZ (x := x) (s := s + y.n) (j := j + 1) hs'.2 hR hRo
      rw [if_pos g, if_pos (show y.m = x.m ∧ y.c = x.c from ⟨gk.1.symm, gk.2.symm⟩)]
      by_cases g2 : s + y.n ≤ 9223372036854775807
      · rw [if_pos g2]
        refine ⟨fun h => by have := ih.1 h; omega, fun s' j' h => ?_⟩
        obtain ⟨h1, h2, h3, h4, h5⟩ := ih.2 s' j' h
        have e : j' - j = (j' - (j + 1)) + 1 := by omega
        rw [List.length_cons, e, List.take_succ_cons, List.drop_succ_cons]
        refine ⟨by omega, by omega, by omega, fun z hz => ?_, h5⟩
        rcases List.mem_cons.1 hz with rfl | hz
        · exact ⟨gk.1.symm, gk.2.symm⟩
        · exact h4 z hz
      · rw [if_neg g2]
        have := qRz (m := x.m) (c := x.c) hRo
        exact ⟨fun _ => by omega, fun s' j' h => by cases h⟩
    · have gk : ¬ (y.m = x.m ∧ y.c = x.c) := fun h => g (qUG.2 ⟨h.1.symm, h.2.symm⟩)
      rw [if_neg g, if_neg gk]
      have lt : ∀ z ∈ y :: R, qF5 x z := fun z hz => by
        rcases List.mem_cons.1 hz with rfl | hz
        · unfold qF5; omega
        · have := hs'.1 z hz
          unfold qF5
          omega
      refine ⟨fun h => (by cases h), fun s' j' h => ?_⟩
      cases h
      rw [Nat.sub_self, List.take_zero, List.drop_zero]
      refine ⟨?_, Nat.le_refl _, by omega, fun z hz => (by cases hz), lt⟩
      rw [qLK fun z hz => ?_]
      · omega
      · have := lt z (List.mem_cons_of_mem _ hz)
        unfold qF5 at this
        omega
theorem qPr {P : List (List Int)} {now : Int} : ∀ (f : Nat) (W out : List Du), W.length ≤ f → qNY W → (∀ y ∈ W, okU y) → (∀ y ∈ W, qDf y.m y.c W ≤ 9223372036854775807) →
    ∃ B, qGO P now f W out = (out ++ B, 0) ∧ (∀ d ∈ B, d.t = now ∧ d.n = qDf d.m d.c W - qGL P d.m d.c ∧ 0 < d.n ∧ ∃ x ∈ W, x.m = d.m ∧ x.c = d.c) ∧ B.Pairwise qF5 ∧ ∀ x ∈ W, 0 < qDf x.m x.c W - qGL P x.m x.c → ∃ d ∈ B, d.m = x.m ∧ d.c = x.c := by
  intro f
  induction f with
  | zero =>
    intro W out hf _ _ _
    have : W = [] := List.length_eq_zero_iff.1 (by omega)
    subst this
    exact ⟨[], by rw [List.append_nil]; rfl, fun d hd => (by cases hd), .nil, fun x hx => by cases hx⟩
  | succ f ih =>
    intro W out hf hs ho ht
    cases W with
    | nil => exact ⟨[], by rw [List.append_nil]; rfl, fun d hd => (by cases hd), .nil, fun x hx => by cases hx⟩
    | cons x R =>
    have hs' := List.pairwise_cons.1 hs
    have hxR : ∀ y ∈ R, ¬ qF5 y x := fun y hy => hs'.1 y hy
    have hRo : ∀ y ∈ R, okU y := fun y hy => ho y (List.mem_cons_of_mem _ hy)
    obtain ⟨r0, r1⟩ := qPZ (x := x) (s := x.n) (j := 1) hs'.2 hxR hRo
    have htx := ht x (List.mem_cons_self ..)
    rw [qHN, if_pos ⟨rfl, rfl⟩] at htx
    cases hr : qIQ x x.n 1 R with
    | none => have := r0 hr; omega
    | some sj =>
    obtain ⟨s, j⟩ := sj
    obtain ⟨h1, h2, h3, h4, h5⟩ := r1 s j hr
    obtain ⟨i, rfl⟩ : ∃ i, j = i + 1 := ⟨j - 1, by omega⟩
    rw [Nat.add_sub_cancel] at h4 h5
    have e : qGO P now (f + 1) (x :: R) out = qGO P now f (R.drop i) (out ++ qGi P now x s) := by
      show (match qIQ x x.n 1 R with | none => ([], 3) | some (s, j) => qGO P now f ((x :: R).drop j) (out ++ qGi P now x s)) = _
      rw [hr]; rfl
    have es : x :: R = (x :: R.take i) ++ R.drop i := by rw [List.cons_append, List.take_append_drop]
    have tot : ∀ m c, ¬ (m = x.m ∧ c = x.c) → qDf m c (R.drop i) = qDf m c (x :: R) := fun m c h => by
      have hz : qDf m c (x :: R.take i) = 0 := qLK fun y hy => by
        rcases List.mem_cons.1 hy with rfl | hy
        · exact fun e => h ⟨e.1.symm, e.2.symm⟩
        · have := h4 y hy
          exact fun e => h ⟨e.1.symm.trans this.1, e.2.symm.trans this.2⟩
      rw [es, qQA, hz]; omega
    have nk : ∀ y ∈ R.drop i, ¬ (y.m = x.m ∧ y.c = x.c) := fun y hy => by
      have := h5 y hy
      unfold qF5 at this
      omega
    have hx : qDf x.m x.c (x :: R) = s := by rw [qHN, if_pos ⟨rfl, rfl⟩]; omega
    rw [e]
    obtain ⟨B, b1, b2, b3, b4⟩ := ih (R.drop i) (out ++ qGi P now x s) (by rw [List.length_cons] at hf; rw [List.length_drop]; omega) (hs'.2.sublist (List.drop_sublist _ _)) (fun y hy => hRo y (List.mem_of_mem_drop hy)) (fun y hy => by
      rw [tot _ _ (nk y hy)]
      exact ht y (List.mem_cons_of_mem _ (List.mem_of_mem_drop hy)))
    refine ⟨qGi P now x s ++ B, by rw [b1, List.append_assoc], fun d hd => ?_, ?_, fun y hy hp => ?_⟩
    · rcases List.mem_append.1 hd with hd | hd
      · unfold qGi at hd
        split at hd
        · rename_i g
          rw [List.mem_singleton] at hd
          subst hd
          dsimp only
          rw [hx]
          exact ⟨rfl, rfl, by omega, x, List.mem_cons_self .., rfl, rfl⟩
        · cases hd
      · obtain ⟨c1, c2, c3, y, hy, c4⟩ := b2 d hd
        refine ⟨c1, ?_, c3, y, List.mem_cons_of_mem _ (List.mem_of_mem_drop hy), c4⟩
        rw [c2, tot _ _ (fun e => nk y hy ⟨c4.1.trans e.1, c4.2.trans e.2⟩)]
    · rw [List.pairwise_append]
      refine ⟨?_, b3, fun d hd d' hd' => ?_⟩
      · unfold qGi; split <;> simp
      · obtain ⟨_, _, _, y, hy, c4⟩ := b2 d' hd'
        have := h5 y hy
        unfold qGi at hd
        split at hd
        · rw [List.mem_singleton] at hd
          subst hd
          unfold qF5 at this ⊢
          dsimp only
          omega
        · cases hd
    · by_cases g : y.m = x.m ∧ y.c = x.c
      · rw [g.1, g.2, hx] at hp
        refine ⟨⟨x.m, x.c, now, s - qGL P x.m x.c⟩, List.mem_append_left _ ?_, g.1.symm, g.2.symm⟩
        unfold qGi
        rw [if_pos (by omega)]
        exact List.mem_singleton.2 rfl
      · have hyd : y ∈ R.drop i := by
          rw [es] at hy
          rcases List.mem_append.1 hy with hy | hy
          · rcases List.mem_cons.1 hy with rfl | hy
            · exact (g ⟨rfl, rfl⟩).elim
            · exact (g (h4 y hy)).elim
          · exact hy
        rw [← tot _ _ g] at hp
        obtain ⟨d, hd, c⟩ := b4 y hyd hp
        exact ⟨d, List.mem_append_right _ hd, c⟩
end Go.Proofs.Ytjihfieahkbohaa

/- Dues, plainly: those of a member and a currency. -/
namespace Go.Proofs.Ytjihfieahkbohaa
open Go Go.Sy Go.Value
set_option linter.unusedVariables false
set_option linter.unusedSimpArgs false

theorem qLA {α : Type} {p : α → Bool} (f : Nat → List α) (n : Nat) : ((List.range n).flatMap f).filter p = (List.range n).flatMap fun i => (f i).filter p := by
  induction n with
  | zero => rfl
  | succ n ih => rw [qFP, qFP, List.filter_append, ih]
theorem qRE {α : Type} {f : Nat → List α} {n : Nat} (h : ∀ i, i < n → f i = []) : (List.range n).flatMap f = [] := by
  induction n with
  | zero => rfl
  | succ n ih => rw [qFP, ih fun i hi => h i (by omega), h n (by omega)]; rfl
theorem qR1 {α : Type} {f : Nat → List α} {n i : Nat} (hi : i < n) (h : ∀ j, j ≠ i → f j = []) : (List.range n).flatMap f = f i := by
  induction n with
  | zero => omega
  | succ n ih =>
    rw [qFP]
    by_cases e : i = n
    · subst e
      rw [qRE fun j hj => h j (by omega)]; rfl
    · rw [ih (by omega), h n (Ne.symm e), List.append_nil]
theorem qQM {α : Type} {f g : Nat → List α} {n : Nat} (h : ∀ i, i < n → f i = g i) : (List.range n).flatMap f = (List.range n).flatMap g := by
  induction n with
  | zero => rfl
  | succ n ih => rw [qFP, qFP, ih fun i hi => h i (by omega), h n (by omega)]
def nAt (M : List (List Int)) (m c : Nat) : Int := (M.getD m []).getD c 0
theorem qL8 {ds : List Int} {k m c : Nat} {n : Int} {x : Du} (h : x ∈ qFB ds k m c n) : x.m = (m : Int) ∧ x.c = (c : Int) ∧ x.t = ds.getD k 0 ∧ n < 0 ∧ x.n = (shL (-n) ds.length).getD k 0 ∧ 0 < x.n := by
  unfold qFB at h
  split at h
  · rename_i g
    rw [List.mem_singleton] at h
    subst h
    exact ⟨rfl, rfl, rfl, g.1, rfl, g.2⟩
  · cases h
theorem qWD (ds : List Int) (k m c : Nat) (n : Int) : kfU m c (qFB ds k m c n) = qFB ds k m c n := by
  unfold kfU
  rw [List.filter_eq_self]
  intro x hx
  have := qL8 hx
  rw [decide_eq_true_eq]
  exact ⟨this.1, this.2.1⟩
theorem qRj (ds : List Int) (k m c m' c' : Nat) (n : Int) (h : ¬ (m' = m ∧ c' = c)) : kfU m c (qFB ds k m' c' n) = [] := by
  unfold kfU
  rw [List.filter_eq_nil_iff]
  intro x hx
  have := qL8 hx
  rw [decide_eq_true_eq]
  omega
theorem qVL {M : List (List Int)} {ds : List Int} {m c : Nat} (hm : m < M.length) (hc : c < (M.getD m []).length) : kfU m c (qAT M ds) = (List.range ds.length).flatMap fun k => qFB ds k m c (nAt M m c) := by
  unfold qAT kfU
  rw [qLA]
  refine qQM fun k _ => ?_
  unfold qGs
  rw [qLA]
  refine (qR1 (i := m) hm fun j hj => ?_).trans ?_
  · unfold qJ6
    rw [qLA]
    exact qRE fun i _ => qRj ds k m c j i _ (fun e => hj e.1)
  · unfold qJ6
    rw [qLA]
    refine (qR1 (i := c) hc fun i hi => ?_).trans ?_
    · exact qRj ds k m c m i _ (fun e => hi e.2)
    · exact qWD ds k m c _
theorem qOS : ∀ (l : List Int), ((List.range l.length).flatMap fun k => if 0 < l.getD k 0 then [l.getD k 0] else []) = l.filter fun x => decide (0 < x)
  | [] => rfl
  | x :: l => by
    rw [List.length_cons, List.range_succ_eq_map, List.flatMap_cons, List.flatMap_map]
    have ih := qOS l
    have e : (fun k => if 0 < (x :: l).getD (Nat.succ k) 0 then [(x :: l).getD (Nat.succ k) 0] else []) = fun k => if 0 < l.getD k 0 then [l.getD k 0] else [] := rfl
    rw [show (List.range l.length).flatMap (fun a => if 0 < (x :: l).getD (Nat.succ a) 0 then [(x :: l).getD (Nat.succ a) 0] else []) = l.filter fun x => decide (0 < x) from ih]
    by_cases g : 0 < x
    · rw [List.filter_cons_of_pos (by simpa using g)]
      simp [g]
    · rw [List.filter_cons_of_neg (by simpa using g)]
      simp [g]
theorem qWm {α β : Type} (g : α → β) (f : Nat → List α) (n : Nat) : ((List.range n).flatMap f).map g = (List.range n).flatMap fun i => (f i).map g := by
  induction n with
  | zero => rfl
  | succ n ih => rw [qFP, qFP, List.map_append, ih]
theorem qU7 {M : List (List Int)} {ds : List Int} {m c : Nat} (hm : m < M.length) (hc : c < (M.getD m []).length) :
    amU m c (qAT M ds) = if nAt M m c < 0 then (shL (-nAt M m c) ds.length).filter fun x => decide (0 < x) else [] := by
  unfold amU
  rw [qVL hm hc, qWm]
  by_cases g : nAt M m c < 0
  · rw [if_pos g, ← qOS, qKe]
    refine qQM fun k _ => ?_
    unfold qFB
    by_cases g2 : 0 < (shL (-nAt M m c) ds.length).getD k 0
    · rw [if_pos ⟨g, g2⟩, if_pos g2]; rfl
    · rw [if_neg (fun h => g2 h.2), if_neg g2]; rfl
  · rw [if_neg g]
    refine qRE fun k _ => ?_
    unfold qFB
    rw [if_neg (fun h => g h.1)]; rfl
theorem qXA {n : Int} (h : 0 ≤ n) {p : Nat} (hp : 1 ≤ p) : ∀ x ∈ shL n p, 0 ≤ x := by
  refine qSw h (by rw [qN3]; omega) fun x hx => ?_
  rw [List.eq_of_mem_replicate hx]; decide
theorem qWS {n : Int} {p : Nat} (hp : 1 ≤ p) : qK (shL n p) = n := qRX (by rw [qN3]; omega) fun e => by
  have := congrArg List.length e
  rw [qKp] at this
  simp at this; omega
theorem qU9 (n : Int) (p : Nat) : (shL n p).Pairwise fun x y => y ≤ x := by
  rw [List.pairwise_iff_getElem]
  intro i k hi hk hik
  rw [qKe] at hi hk
  have h1 : i < (ones p).length := by rw [qKp]; exact hi
  have h2 : k < (ones p).length := by rw [qKp]; exact hk
  have hone : ∀ (j : Nat) (h : j < (ones p).length), (ones p)[j] = 1 := fun j h => List.eq_of_mem_replicate (List.getElem_mem h)
  have := (qU3 (t := n) h1 h2 ((hone i h1).trans (hone k h2).symm)).2 hik
  unfold shL
  rw [List.getD_eq_getElem?_getD, List.getD_eq_getElem?_getD, List.getElem?_eq_getElem (by rw [qJY]; exact h2), List.getElem?_eq_getElem (by rw [qJY]; exact h1)] at this
  exact this
theorem qOa : ∀ {l : List Int}, (∀ x ∈ l, 0 ≤ x) → qK (l.filter fun x => decide (0 < x)) = qK l
  | [], _ => rfl
  | x :: l, h => by
    have ih := qOa (l := l) fun y hy => h y (List.mem_cons_of_mem _ hy)
    have hx := h x (List.mem_cons_self ..)
    by_cases g : 0 < x
    · rw [List.filter_cons_of_pos (by simpa using g), qK, qK, ih]
    · rw [List.filter_cons_of_neg (by simpa using g), qK, ih]; omega
def qBU (n : Int) : Int := if 0 > -n then 0 else -n
theorem qMD {M : List (List Int)} {ds : List Int} {m c : Nat} (hd : 1 ≤ ds.length) (hm : m < M.length) (hc : c < (M.getD m []).length) :
    (∀ x ∈ amU m c (qAT M ds), 1 ≤ x) ∧ (amU m c (qAT M ds)).Pairwise (fun x y => y ≤ x) ∧ qDf m c (qAT M ds) = qBU (nAt M m c) := by
  unfold qDf qBU
  rw [qU7 hm hc]
  by_cases g : nAt M m c < 0
  · rw [if_pos g, if_neg (by omega), qOa (qXA (by omega) hd), qWS hd]
    refine ⟨fun x hx => ?_, (qU9 _ _).filter _, rfl⟩
    have := (List.mem_filter.1 hx).2
    rw [decide_eq_true_eq] at this
    omega
  · rw [if_neg g]
    refine ⟨fun x hx => (by cases hx), .nil, ?_⟩
    rw [show qK [] = 0 from rfl]
    split <;> omega
theorem qTg {M : List (List Int)} {ds : List Int} {x : Du} (h : x ∈ qAT M ds) : ∃ k m c : Nat, k < ds.length ∧ m < M.length ∧ c < (M.getD m []).length ∧ x ∈ qFB ds k m c (nAt M m c) := by
  unfold qAT qGs qJ6 at h
  simp only [List.mem_flatMap, List.mem_range] at h
  obtain ⟨k, hk, m, hm, c, hc, hx⟩ := h
  exact ⟨k, m, c, hk, hm, hc, hx⟩
theorem qIK {ds : List Int} (h : qG5 ds = true) : 1 ≤ ds.length ∧ ds.length ≤ 16 ∧ ∀ i j, i < j → j < ds.length → ds.getD i 0 < ds.getD j 0 := by
  unfold qG5 at h
  rw [Bool.and_eq_true, decide_eq_true_eq, List.all_eq_true] at h
  refine ⟨h.2.1, h.2.2, fun i j hij => ?_⟩
  induction j with
  | zero => omega
  | succ j ih =>
    intro hj
    have h1 := h.1 (j + 1) (List.mem_range.2 hj)
    unfold qJb at h1
    rw [decide_eq_true_eq, Nat.add_sub_cancel] at h1
    have h2 := h1.2 (by omega)
    by_cases e : i = j
    · subst e; exact h2
    · have := ih (by omega) (by omega); omega
theorem qRb {M : List (List Int)} {ds : List Int} (h : qG5 ds = true) : (qAT M ds).Pairwise fun x y => x.t ≤ y.t := by
  have hr := (qIK h).2.2
  have : ∀ n, n ≤ ds.length → ((List.range n).flatMap fun k => qGs ds k M M.length).Pairwise fun x y => x.t ≤ y.t := by
    intro n
    induction n with
    | zero => intro _; exact .nil
    | succ n ih =>
      intro hn
      have tm : ∀ k x, x ∈ qGs ds k M M.length → x.t = ds.getD k 0 := fun k x hx => by
        unfold qGs qJ6 at hx
        simp only [List.mem_flatMap, List.mem_range] at hx
        obtain ⟨m, hm, c, hc, hx⟩ := hx
        exact (qL8 hx).2.2.1
      rw [qFP, List.pairwise_append]
      refine ⟨ih (by omega), ?_, fun x hx y hy => ?_⟩
      · rw [List.pairwise_iff_getElem]
        intro i j hi hj _
        rw [tm n _ (List.getElem_mem hi), tm n _ (List.getElem_mem hj)]
        exact Int.le_refl _
      · rw [List.mem_flatMap] at hx
        obtain ⟨k, hk, hx⟩ := hx
        rw [tm k x hx, tm n y hy]
        exact Int.le_of_lt (hr k n (List.mem_range.1 hk) (by omega))
  exact this _ (Nat.le_refl _)
end Go.Proofs.Ytjihfieahkbohaa

/- A book of instructions: made, asked, and changed. -/
namespace Go.Proofs.Ytjihfieahkbohaa
open Go Go.Sy Go.Value
set_option linter.unusedVariables false
set_option linter.unusedSimpArgs false

def dA (d : Dl) : Value := agg #[.int .i64 d.id, .int .i64 d.a, .int .i64 d.b, .int .i64 d.sc, .int .i64 d.bc, .int .i64 d.sell, .int .i64 d.buy]
def dl0 : Dl := ⟨0, 0, 0, 0, 0, 0, 0⟩
def qGr (S : Bk) (id : Int) : Dl × Bool := match qUd S id with
  | some x => (x.d, true)
  | none => (dl0, false)
def qUL (d : Dl) : Prop := d.sell ≤ 9223372036854775807 ∧ d.buy ≤ 9223372036854775807
section
variable {h : Heap} {K : Value → Heap → Prop} {p : Nat} {S : Bk} {lp : Option Addr} {c mr : Nat}
theorem qVn {a b m : Int} (k : K (.bool (qL3 a b m)) h) : CallA Try.prog qJX [.int .i64 a, .int .i64 b, .int .i64 m] h K := by
  refine qTJ _ _ _ _ _ ?_
  unfold qNu
  have no : ¬ (0 ≤ a ∧ 0 ≤ b ∧ a < m ∧ b < m) → K (.bool false) h := fun g => by
    have e : qL3 a b m = false := by unfold qL3; rw [decide_eq_false_iff_not]; omega
    rw [e] at k; exact k
  refine Br.dec (fun g1 => Br.dec (fun g2 => Br.dec (fun g3 => Br.dec (fun g4 => Ret.mk ?_) fun g => Ret.mk (no (by omega))) fun g => Ret.mk (no (by omega))) fun g => Ret.mk (no (by omega))) fun g => Ret.mk (no (by omega))
  have e : qL3 a b m = (a != b) := by
    unfold qL3
    by_cases g : a = b
    · rw [decide_eq_false (by omega)]; simp [g]
    · rw [decide_eq_true (by omega)]; simp [g]
  rw [e] at k; exact k
theorem qXb (B : PBk h p S lp c mr) {d : Dl} (k : ∀ h', h.le h' → K (.bool (decide (qKB S.mem S.cur d))) h') : CallA Try.prog qHm [pointer (some ⟨p, 0, none⟩), dA d] h K := by
  refine qN5 _ _ _ _ _ _ _ _ _ _ ?_
  unfold qKH
  refine qAE fun r h1 hr l1 A1 => ?_
  have B1 := B.le l1
  have no : ¬ qKB S.mem S.cur d → K (.bool false) h1 := fun g => by
    have := k h1 l1
    rw [decide_eq_false g] at this; exact this
  have yes : qKB S.mem S.cur d → K (.bool true) h1 := fun g => by
    have := k h1 l1
    rw [decide_eq_true g] at this; exact this
  refine ⟨_, A1.cell rfl, Br.dec (fun g1 => ⟨_, A1.cell rfl, Br.dec (fun g2 => ⟨_, A1.cell rfl, _, A1.cell rfl, qD rfl ⟨_, B1.ap.cell rfl, qVn ⟨_, rfl, Br.intro (fun g3 => ?_) fun g3 => Ret.mk (no fun m => by rw [m.2.2.1] at g3; cases g3)⟩⟩⟩) fun g => Ret.mk (no fun m => g m.2.1)⟩) fun g => Ret.mk (no fun m => g m.1)⟩
  refine ⟨_, A1.cell rfl, _, A1.cell rfl, qD rfl ⟨_, B1.ap.cell rfl, qVn ⟨_, rfl, Br.intro (fun g4 => ?_) fun g4 => Ret.mk (no fun m => by rw [m.2.2.2.1] at g4; cases g4)⟩⟩⟩
  refine ⟨_, A1.cell rfl, Br.dec (fun g5 => ⟨_, A1.cell rfl, Ret.mk ?_⟩) fun g => Ret.mk (no fun m => g m.2.2.2.2.1)⟩
  by_cases g6 : d.buy ≥ 1
  · rw [decide_eq_true g6]; exact yes ⟨g1, g2, g3, g4, g5, g6⟩
  · rw [decide_eq_false g6]; exact no fun m => g6 m.2.2.2.2.2
theorem qUv {d : Dl} (k : ∀ h', h.le h' → K (dA (qPP d)) h') : CallA Try.prog qLi [dA d] h K := by
  refine qPy _ _ _ _ _ _ _ _ _ ?_
  unfold qLh
  refine qAE fun r h1 hr l1 A1 => qAE fun r2 h2 hr2 l2 A2 => ?_
  have A1' := A1.le l2
  have A3 := A2.set (o := 0) (ws := dV (qPP d))
  refine ⟨_, A1'.cell rfl, _, A1'.cell rfl, _, A1'.cell rfl, _, A1'.cell rfl, _, A1'.cell rfl, _, A1'.cell rfl, _, A1'.cell rfl, A2.canSt (Nat.le_refl _), _, A3.cell rfl, _, A3.cell rfl, _, A3.cell rfl, _, A3.cell rfl, _, A3.cell rfl, _, A3.cell rfl, _, A3.cell rfl, Ret.mk ?_⟩
  exact k _ (qCL (Heap.le_trans l1 l2) (qDg l1 hr2))
theorem qTt (B : PBk h p S lp c mr) {id : Int} (k0 : qBw id S.L = none → K (pointer none) h) (k1 : ∀ i x r, qBw id S.L = some i → S.L[i]? = some x → lp = some ⟨r, 0, none⟩ → K (pointer (some ⟨r, i * 10, none⟩)) h) :
    CallA Try.prog qFx [pointer (some ⟨p, 0, none⟩), .int .i64 id] h K := by
  refine qNo _ _ _ _ ?_
  unfold qJm
  refine qD rfl ⟨_, B.ap.cell rfl, mr, _, rfl, B.mp, ?_⟩
  unfold qLY
  cases hp : qBw id S.L with
  | none =>
    exact Br.yes rfl (Ret.mk (k0 hp))
  | some i =>
    obtain ⟨x, hx, _⟩ := qMo hp
    obtain ⟨r, sp, e, _⟩ := B.row hx
    have hi := (List.getElem?_eq_some_iff.1 hx).1
    refine Br.no rfl (qD rfl ⟨_, _, _, B.ap.cell rfl, by simp, by simp; omega, qD e (Ret.mk ?_)⟩)
    have := k1 i x r hp hx e
    simpa using this
theorem qWe (B : PBk h p S lp c mr) {id : Int} (k : ∀ h', h.le h' → K (tuple #[dA (qGr S id).1, .bool (qGr S id).2]) h') : CallA Try.prog qHO [pointer (some ⟨p, 0, none⟩), .int .i64 id] h K := by
  refine qNn _ _ _ _ ?_
  unfold qJo
  unfold qGr qUd at k
  refine qAE fun r0 h1 hr0 l1 A1 => ?_
  have B1 := B.le l1
  refine qTt B1 (fun hp => ⟨_, rfl, Br.no rfl ?_⟩) fun i x r hp hx hr => ⟨_, rfl, Br.yes rfl (qD rfl ?_)⟩
  · rw [hp] at k
    have A3 := A1.set (o := 0) (ws := dV dl0)
    refine ⟨A1.canSt (Nat.le_refl _), _, A3.cell rfl, _, A3.cell rfl, _, A3.cell rfl, _, A3.cell rfl, _, A3.cell rfl, _, A3.cell rfl, _, A3.cell rfl, Ret.mk ?_⟩
    exact k _ (qCL l1 hr0)
  · obtain ⟨r', sp, e', a, _, hc⟩ := B1.row hx
    rw [hr] at e'
    have e' : r = r' := by simpa using e'
    subst e'
    rw [hp] at k
    dsimp only [Option.bind] at k
    rw [hx] at k
    have A3 := A1.set (o := 0) (ws := dV x.d)
    refine ⟨_, hc 0 (by decide), _, hc 1 (by decide), _, hc 2 (by decide), _, hc 3 (by decide), _, hc 4 (by decide), _, hc 5 (by decide), _, hc 6 (by decide), A1.canSt (Nat.le_refl _), _, A3.cell rfl, _, A3.cell rfl, _, A3.cell rfl, _, A3.cell rfl, _, A3.cell rfl, _, A3.cell rfl, _, A3.cell rfl, Ret.mk ?_⟩
    exact k _ (qCL l1 hr0)
end
end Go.Proofs.Ytjihfieahkbohaa

/- A book of instructions: made, submitted to, rescinded, removed from. -/
namespace Go.Proofs.Ytjihfieahkbohaa
open Go Go.Sy Go.Value
set_option linter.unusedVariables false
set_option linter.unusedSimpArgs false

theorem MapF.keepB {h h' : Heap} {q : Option Addr} {r : Nat} {kk vk : IntKind} {f : Int → Option Int} (M : MapF h r kk vk f) (keep : ∀ b y, h b = some y → q ≠ some ⟨b, 0, none⟩ → h' b = some y) (ne : q ≠ some ⟨r, 0, none⟩) : MapF h' r kk vk f := by
  obtain ⟨es, e, c, h1, h2⟩ := M
  exact ⟨es, e, c, keep _ _ h1 ne, h2⟩
theorem OwnL.neM {g h : Heap} {z : List Value} {q : Option Addr} {c r : Nat} {vs : List Value} {kk vk : IntKind} {f : Int → Option Int} (x : OwnL g h z q c vs) (M : MapF h r kk vk f) : q ≠ some ⟨r, 0, none⟩ := fun e => by
  rcases x with ⟨_, e2, _⟩ | ⟨s, sp, e2, _, a, _⟩
  · rw [e2] at e; cases e
  · rw [e2] at e
    have e : s = r := by simpa using e
    exact M.ne a e
section
variable {h : Heap} {K : Value → Heap → Prop} {p : Nat} {S : Bk} {lp : Option Addr} {c mr : Nat}
theorem PBk.keep {h' : Heap} {q : Option Addr} (B : PBk h p S lp c mr) (keep : ∀ b y, h b = some y → q ≠ some ⟨b, 0, none⟩ → h' b = some y) (n1 : q ≠ some ⟨p, 0, none⟩) (n2 : ∀ r, lp = some ⟨r, 0, none⟩ → q ≠ some ⟨r, 0, none⟩) (n3 : q ≠ some ⟨mr, 0, none⟩) :
    PBk h' p S lp c mr := ⟨qKu keep B.ap n1, B.ol.mv fun b xs e a => qKu keep a (n2 b e), MapF.keepB B.mp keep n3, B.np⟩
theorem qXt {m cu : Int} (k0 : ¬ ((1 ≤ m ∧ m ≤ 16) ∧ 1 ≤ cu ∧ cu ≤ 8) → K (tuple #[pointer none, .int .i64 1]) h)
    (k1 : (1 ≤ m ∧ m ≤ 16) ∧ 1 ≤ cu ∧ cu ≤ 8 → ∀ p h', h.le h' → PB h' p ⟨m, cu, [], 0⟩ → K (tuple #[pointer (some ⟨p, 0, none⟩), .int .i64 0]) h') : CallA Try.prog qLW [.int .i64 m, .int .i64 cu] h K := by
  refine qSR _ _ _ _ ?_
  unfold qNw
  refine Br.dec (fun g => Ret.mk (k0 (by omega))) fun g1 => Br.dec (fun g => Ret.mk (k0 (by omega))) fun g2 => Br.dec (fun g => Ret.mk (k0 (by omega))) fun g3 => Br.dec (fun g => Ret.mk (k0 (by omega))) fun g4 => ?_
  intro r hr
  refine qAE fun r2 h2 hr2 l2 A2 => Ret.mk (k1 (by omega) _ _ (Heap.le_trans (qB7 hr) l2) ⟨?_, none, 0, r, ⟨A2, .nil _ _ _, (MapF.new h r .i64 .i64).le l2, fun e => by cases e⟩⟩)
  exact { m1 := by dsimp only; omega, c1 := by dsimp only; omega, n := Nat.zero_le _, may := fun _ x => (by cases x), i64 := fun _ x => (by cases x), nd := fun i x e => (by simp at e), could := fun _ x => (by cases x), ords := .refl _ }
theorem qQC (P : PB h p S) {d : Dl} (hi : qUL d) (k : ∀ h', PB h' p (qHZ S d).2.2 → K (tuple #[.bool (qHZ S d).1, .int .i64 (qHZ S d).2.1]) h') :
    CallA Try.prog qFF [pointer (some ⟨p, 0, none⟩), dA d] h K := by
  obtain ⟨ok, lp, c, mr, B⟩ := P
  refine qMd _ _ _ _ _ _ _ _ _ _ ?_
  unfold qI0
  unfold qHZ at k
  refine qAE fun r h1 hr l1 A1 => ⟨_, A1.cell rfl, _, A1.cell rfl, _, A1.cell rfl, _, A1.cell rfl, _, A1.cell rfl, _, A1.cell rfl, _, A1.cell rfl, ?_⟩
  refine qXb (d := d) (B.le l1) fun h2 l2 => ⟨_, rfl, ?_⟩
  have A := A1.le l2
  have B := B.le (Heap.le_trans l1 l2)
  clear A1 l1 l2 hr h1
  by_cases gm : qKB S.mem S.cur d
  rotate_left
  · rw [decide_eq_false gm]
    rw [if_neg gm] at k
    exact Br.yes rfl (Ret.mk (k _ ⟨ok, lp, c, mr, B⟩))
  rw [decide_eq_true gm]
  rw [if_pos gm] at k
  refine Br.no rfl ⟨_, A.cell rfl, qTt B (fun hp => ⟨_, rfl, Br.yes rfl ?_⟩) fun i x r' hp hx hr' => ⟨_, rfl, Br.no rfl ?_⟩⟩
  · rw [hp] at k
    dsimp only at k
    have hn := ok.n
    refine qD rfl ⟨_, _, _, B.ap.cell rfl, Br.intro (fun g => ?_) fun g => ?_⟩
    · rw [if_pos (by have := of_decide_eq_true (show decide ((S.L.length : Int) = 200) = true from g); omega)] at k
      exact Ret.mk (k _ ⟨ok, lp, c, mr, B⟩)
    have g : S.L.length ≠ 200 := fun e => by rw [e] at g; cases g
    rw [if_neg g] at k
    refine Br.yes rfl (qD rfl ⟨_, B.ap.cell rfl, _, A.cell rfl, qD rfl ⟨_, _, _, B.ap.cell rfl, mr, _, rfl, B.mp, fun o ho hc hcn => ?_⟩⟩)
    have hat : ∀ b xs, At h2 b xs → At (h2.ins mr o) b xs := fun b xs a => a.insM (B.mp.ne a)
    have A' := hat _ _ A
    have ap' := hat _ _ B.ap
    have ol' := B.ol.mv (h' := h2.ins mr o) fun b xs e a => hat b xs a
    have mp' : MapF (h2.ins mr o) mr .i64 .i64 (qLY (S.L ++ [⟨d, 1, 0, 0⟩])) := by
      have := ho (h2.ins mr o) (by unfold Heap.ins; rw [if_pos rfl])
      have e : (fun x => if x = d.id then some ((S.L.length : Nat) : Int) else qLY S.L x) = qLY (S.L ++ [⟨d, 1, 0, 0⟩]) := by
        funext x
        unfold qLY
        rw [qPf S.L ⟨d, 1, 0, 0⟩ hp]
        dsimp only
        split <;> rfl
      rw [← e]; exact this
    generalize h2.ins mr o = h3 at *
    refine qD rfl ⟨_, _, _, ap'.cell rfl, _, A'.cell rfl, _, A'.cell rfl, _, A'.cell rfl, _, A'.cell rfl, _, A'.cell rfl, _, A'.cell rfl, _, A'.cell rfl, ?_⟩
    refine qJT ol' (by decide) (qPF _) (by omega) rfl rfl (by rw [qAY qEW]; rfl) fun r4 h4 p' c' h5 hr4 l4 _ ol5 keep how => ?_
    have ap5 := qKu keep (ap'.le l4) B.np
    have np5 := qLo how (ap'.le l4) B.np
    have mp5 := MapF.keepB (mp'.le l4) keep (OwnL.neM (ol'.le l4) (mp'.le l4))
    refine qD rfl ⟨ap5.canSt (by simp), Ret.mk (k _ ⟨ok.snoc gm hi (by omega) hp, p', c', mr, ?_, ?_, mp5.set ap5, np5⟩)⟩
    · have := ap5.set (o := 2) (ws := [.slice p' (S.L.length + 1) c'])
      have e : (S.L ++ [(⟨d, 1, 0, 0⟩ : En)]).length = S.L.length + 1 := by simp
      dsimp only
      rw [e]
      exact this
    · have := ol5.set_ne (o := 2) (ws := [.slice p' (S.L.length + 1) c']) np5
      have e : (S.L ++ [(⟨d, 1, 0, 0⟩ : En)]).flatMap eV = S.L.flatMap eV ++ eV ⟨d, 1, 0, 0⟩ := by rw [List.flatMap_append]; simp
      dsimp only
      rw [e]
      exact this
  · obtain ⟨r2, sp, e', a, hne, hc⟩ := B.row hx
    rw [hr'] at e'
    have e' : r' = r2 := by simpa using e'
    subst e'
    rw [hp] at k
    dsimp only at k
    rw [hx] at k
    dsimp only at k
    refine Br.no rfl (qD rfl ⟨_, hc 7 (by decide), Br.intro (fun g => ?_) fun g => ?_⟩)
    · rw [if_pos (.inl (by simpa using g))] at k
      exact Ret.mk (k _ ⟨ok, lp, c, mr, B⟩)
    have g1 : x.st = 1 := by simpa using g
    refine qD rfl ⟨_, hc 1 (by decide), _, A.cell rfl, Br.intro (fun g => ?_) fun g => ?_⟩
    · rw [if_pos (.inr (by simpa using g))] at k
      exact Ret.mk (k _ ⟨ok, lp, c, mr, B⟩)
    have g2 : x.d.a ≠ d.a := by simpa using g
    rw [if_neg (by simp [g1, g2])] at k
    refine qD rfl ⟨_, hc 0 (by decide), _, hc 1 (by decide), _, hc 2 (by decide), _, hc 3 (by decide), _, hc 4 (by decide), _, hc 5 (by decide), _, hc 6 (by decide), ?_⟩
    refine ⟨_, A.cell rfl, _, A.cell rfl, _, A.cell rfl, _, A.cell rfl, _, A.cell rfl, _, A.cell rfl, _, A.cell rfl, ?_⟩
    refine qUv (d := d) fun h3 l3 => ⟨_, _, _, _, _, _, _, rfl, .inl l3, ?_⟩
    have B3 := B.le l3
    cases he : eqD x.d (qPP d) with
    | false =>
      rw [if_pos he] at k
      exact Br.yes (show (!eqD x.d (qPP d)) = true by rw [he]; rfl) (Ret.mk (k _ ⟨ok, lp, c, mr, B3⟩))
    | true =>
      rw [if_neg (by rw [he]; decide)] at k
      refine Br.no (show (!eqD x.d (qPP d)) = false by rw [he]; rfl) ?_
      have hm := ok.mat
      have w : IntKind.wrap .i64 ((S.mat : Int) + 1) = ((S.mat + 1 : Nat) : Int) := by rw [qW (by omega) (by omega)]; omega
      have B4 := B3.wrM (S.mat + 1)
      have B5 := B4.wr (o := 7) (y := { x with st := 2 }) (ws := [.int .i64 2]) hx hr' (by simp) rfl rfl
      have hi := (List.getElem?_eq_some_iff.1 hx).1
      have hx5 : (S.L.set i { x with st := 2 })[i]? = some { x with st := 2 } := by rw [List.getElem?_set_self hi]
      have B6 := B5.wr (o := 9) (y := { x with st := 2, ord := ((S.mat + 1 : Nat) : Int) }) (ws := [.int .i64 ((S.mat + 1 : Nat) : Int)]) hx5 hr' (by simp) rfl rfl
      refine qD rfl ⟨_, B3.ap.cell rfl, qD rfl ⟨B3.ap.canSt (by simp), qD rfl ?_⟩⟩
      rw [w]
      refine ⟨_, B4.ap.cell rfl, qD rfl ⟨B4.can hx hr' (by decide), qD rfl ⟨B5.can hx5 hr' (by decide), Ret.mk (k _ ⟨ok.match hx g1, lp, c, mr, ?_⟩)⟩⟩⟩
      have e : (S.L.set i { x with st := 2 }).set i { x with st := 2, ord := ((S.mat + 1 : Nat) : Int) } = S.L.set i { x with st := 2, ord := (S.mat : Int) + 1 } := by
        rw [List.set_set]; rfl
      dsimp only at B6
      rw [e] at B6
      exact B6
end
end Go.Proofs.Ytjihfieahkbohaa
