import Derived.Test.YtjihfieahkbohaaGreatM03
import Derived.Test.YtjihfieahkbohaaGreatM04
import Derived.Test.YtjihfieahkbohaaGreatM06
import Derived.Sort.AssemblyPlain
/- Who gets one more first: the order, and a list that is put in it, in memory. -/
namespace Go.Proofs.YtjihfieahkbohaaGreat
open Go Go.Sy Go.Value
set_option linter.unusedVariables false
set_option linter.unusedSimpArgs false

def qLH (x y : Int) : Int := if x < y then -1 else if x > y then 1 else 0
def qV4 (left : List Int) (i k : Int) : Int :=
  if qLH (left.getD k.toNat 0) (left.getD i.toNat 0) = 0 then qLH i k else qLH (left.getD k.toNat 0) (left.getD i.toNat 0)
def ltO (left : List Int) (i k : Int) : Bool := decide (qV4 left i k < 0)
theorem qSo {x y : Int} : qLH x y < 0 ↔ x < y := by unfold qLH; split <;> (try split) <;> omega
theorem qSq {x y : Int} : qLH x y = 0 ↔ x = y := by unfold qLH; split <;> (try split) <;> omega
theorem qOP {left : List Int} {i k : Int} : ltO left i k = true ↔ left.getD k.toNat 0 < left.getD i.toNat 0 ∨ (left.getD k.toNat 0 = left.getD i.toNat 0 ∧ i < k) := by
  unfold ltO qV4
  rw [decide_eq_true_eq]
  split
  · rename_i e; rw [qSq] at e; rw [qSo]; omega
  · rename_i e; rw [qSq] at e; rw [qSo]; omega
theorem qN7 {left : List Int} {i k : Int} : ltO left i k = false ↔ left.getD i.toNat 0 < left.getD k.toNat 0 ∨ (left.getD i.toNat 0 = left.getD k.toNat 0 ∧ k ≤ i) := by
  rw [← Bool.not_eq_true, qOP]; omega
theorem qPP (left : List Int) : Go.Sort.SWO (ltO left) where
  irrefl x := by rw [qN7]; omega
  trans x y z := by rw [qOP, qOP, qOP]; omega
  ntrans x y z := by rw [qN7, qN7, qN7]; omega
theorem qZj (left : List Int) (x y : Int) (h1 : ltO left x y = false) (h2 : ltO left y x = false) : x = y := by
  rw [qN7] at h1 h2; omega

section
variable {h : Heap} {K : Value → Heap → Prop}
theorem qW9 {x : Int} (k : K (.bool false) h) : CallA Tryz.prog qF4 [.int .i64 x] h K := by
  refine qOj _ _ _ ?_
  unfold qKB
  refine Ret.mk ?_
  rw [show (x != x) = false by simp]; exact k
theorem qU9 {x : Int} (k : K (.bool false) h) : CallA Tryz.prog qFU [.int .i64 x] h K := by
  refine qLl _ _ _ ?_
  unfold qIT
  refine Ret.mk ?_
  rw [show (x != x) = false by simp]; exact k
theorem qYr {x y : Int} (k : K (.int .i64 (qLH x y)) h) : CallA Tryz.prog qGq [.int .i64 x, .int .i64 y] h K := by
  refine qNO _ _ _ _ ?_
  unfold qI0
  unfold qLH at k
  refine qW9 ⟨_, rfl, qW9 ⟨_, rfl, Br.no rfl (Br.no rfl (Br.dec (fun g => ?_) fun g => Br.dec (fun g2 => ?_) fun g2 => ?_))⟩⟩
  · rw [if_pos g] at k; exact Ret.mk k
  · rw [if_neg g, if_pos g2] at k; exact Ret.mk k
  · rw [if_neg g, if_neg g2] at k; exact Ret.mk k
theorem qYj {x y : Int} (k : K (.int .i64 (qLH x y)) h) : CallA Tryz.prog qCL [.int .i64 x, .int .i64 y] h K := by
  refine qKY _ _ _ _ ?_
  unfold qHQ
  unfold qLH at k
  refine qU9 ⟨_, rfl, qU9 ⟨_, rfl, Br.no rfl (Br.no rfl (Br.dec (fun g => ?_) fun g => Br.dec (fun g2 => ?_) fun g2 => ?_))⟩⟩
  · rw [if_pos g] at k; exact Ret.mk k
  · rw [if_neg g, if_pos g2] at k; exact Ret.mk k
  · rw [if_neg g, if_neg g2] at k; exact Ret.mk k
theorem qZG {p : Option Addr} {a b : Int} (I : Ints .i64 h p [a, b]) (k : K (.int .i64 (if a = 0 then b else a)) h) : CallA Tryz.prog qGs [slice p 2 2] h K := by
  refine qNw _ _ _ _ _ ?_
  unfold qKK
  refine qEl _ _ _ _ _ _ _ _ ?_
  unfold qDe
  refine Br.yes (by decide) (ix I rfl (j := 0) rfl rfl (Br.intro (fun g => ?_) fun g => ?_))
  · rw [if_neg (by simpa using g)] at k; exact Ret.mk k
  rw [if_pos (by simpa using g)] at k
  refine qEl _ _ _ _ _ _ _ _ ?_
  unfold qDe
  rw [show IntKind.wrap .i64 (0 + 1) = 1 by decide]
  refine Br.yes (by decide) (ix I rfl (j := 1) rfl rfl (Br.intro (fun g => Ret.mk k) fun g => ?_))
  have g : b = 0 := by simpa using g
  refine qEl _ _ _ _ _ _ _ _ ?_
  unfold qDe
  rw [show IntKind.wrap .i64 (1 + 1) = 2 by decide]
  rw [g] at k
  exact Br.no (by decide) (Ret.mk k)
theorem qP7 {lp : Option Addr} {lc : Nat} {left : List Int} (I : Ints .i64 h lp left) {i k' : Int} (hi : 0 ≤ i ∧ i < (left.length : Int)) (hk : 0 ≤ k' ∧ k' < (left.length : Int))
    (k : ∀ h', h.le h' → K (.int .i64 (qV4 left i k')) h') : CallA Tryz.prog qC [agg #[slice lp left.length lc], .int .i64 i, .int .i64 k'] h K := by
  refine qPJ _ _ _ _ _ _ _ ?_
  unfold qKo
  refine qr fun r h1 hr l1 A1 => ?_
  have c := A1.cell (o := 0) rfl
  have gi : ∀ x : Int, 0 ≤ x ∧ x < (left.length : Int) → left[x.toNat]? = some (left.getD x.toNat 0) := fun x hx => by
    rw [List.getD_eq_getElem?_getD, List.getElem?_eq_getElem (by omega)]; rfl
  refine ⟨lp, left.length, lc, c, ix (I.le l1) rfl (j := k'.toNat) (by omega) (gi k' hk) ⟨lp, left.length, lc, c, ix (I.le l1) rfl (j := i.toNat) (by omega) (gi i hi) (qYr ⟨_, rfl, qYj ⟨_, rfl, fun s hs => ?_⟩⟩)⟩⟩
  refine qZG (qMZ _ _ _ _ _) ⟨_, rfl, Ret.mk ?_⟩
  exact k _ (Heap.le_trans l1 (qt hs))
end

structure Da (g0 : Heap) (B m n : Nat) (sp : List Value) (h : Heap) (d : Array Int) : Prop where
  le : g0.le h
  at_ : At h B (qf .i64 d.toList ++ sp)
  sz : d.size = n
  rg : ∀ x ∈ d.toList, 0 ≤ x ∧ x < (m : Int)
section
variable {g0 h : Heap} {B m n : Nat} {sp : List Value} {d : Array Int}
theorem qYY {i : Nat} (h : i < d.size) : d[i]! = d.toList[i]'(by simpa using h) := by
  rw [getElem!_pos d i h]; simp
theorem Da.val (D : Da g0 B m n sp h d) {i : Nat} (hi : i < n) : 0 ≤ d[i]! ∧ d[i]! < (m : Int) := by
  have hi : i < d.size := by rw [D.sz]; exact hi
  rw [qYY hi]; exact D.rg _ (List.getElem_mem _)
theorem Da.get (D : Da g0 B m n sp h d) {i : Nat} (hi : i < n) : h.cell B i = some (.int .i64 d[i]!) := by
  have hi : i < d.size := by rw [D.sz]; exact hi
  refine D.at_.cell ?_
  have hl : i < d.toList.length := by simpa using hi
  rw [List.getElem?_append_left (by rw [qw]; exact hl), qGa, List.getElem?_map, List.getElem?_eq_getElem hl, qYY hi]; rfl
theorem Da.mv (D : Da g0 B m n sp h d) {h' : Heap} (l : h.le h') : Da g0 B m n sp h' d := ⟨Heap.le_trans D.le l, D.at_.le l, D.sz, D.rg⟩
theorem qSm {l : List Int} {sp : List Value} {c : Nat} {v : Int} (h : c < l.length) : qBQ (qf .i64 l ++ sp) c [.int .i64 v] = qf .i64 (l.set c v) ++ sp := by
  rw [qBQ, qBQ, qFu, List.set_append_left _ _ (by rw [qw]; omega), qGa, qGa, List.map_set]
theorem Da.st (D : Da g0 B m n sp h d) (e0 : g0 B = none) {i : Nat} {x : Int} (hi : i < n) (hx : 0 ≤ x ∧ x < (m : Int)) : Da g0 B m n sp (h.setN B i [.int .i64 x]) (d.setIfInBounds i x) := by
  refine ⟨qAf D.le e0, ?_, by simpa using D.sz, fun y hy => ?_⟩
  · have := D.at_.set (o := i) (ws := [.int .i64 x])
    rw [qSm (by simpa [D.sz] using hi)] at this
    simpa using this
  · simp only [Array.toList_setIfInBounds] at hy
    rcases List.mem_or_eq_of_mem_set hy with hy | hy
    · exact D.rg _ hy
    · subst hy; exact hx
theorem Da.can (D : Da g0 B m n sp h d) {i : Nat} (hi : i < n) : h.canSt B i 1 := D.at_.canSt (by rw [List.length_append, qw]; have := D.sz; simp; omega)
theorem qPa (D : Da g0 B m n sp h d) {left : List Int} (hm : left.length = m) {lp : Option Addr} {lc : Nat} (I : Ints .i64 g0 lp left) {X Y : Int} {i j : Nat} (hX : X = (i : Int)) (hY : Y = (j : Int)) (hi : i < n) (hj : j < n) {P Q : Heap → Prop}
    (k : ∀ h', Da g0 B m n sp h' d → Br (ltO left d[i]! d[j]!) (P h') (Q h')) :
    (0 : Int) ≤ X ∧ X < (n : Int) ∧ qA (some ⟨B, 0, none⟩) fun b o => ∃ x, h.cell b (o + X.toNat) = some (.int .i64 x) ∧ (0 : Int) ≤ Y ∧ Y < (n : Int) ∧ qA (some ⟨B, 0, none⟩) fun b o => ∃ y, h.cell b (o + Y.toNat) = some (.int .i64 y) ∧
      CallA Tryz.prog qC [agg #[slice lp m lc], .int .i64 x, .int .i64 y] h fun v h => ∃ r, v = .int .i64 r ∧ Br (decide (r < 0)) (P h) (Q h) := by
  subst hX hY hm
  refine ⟨by omega, by omega, qB rfl ⟨d[i]!, by rw [Int.toNat_natCast, Nat.zero_add]; exact D.get hi, by omega, by omega, qB rfl ⟨d[j]!, by rw [Int.toNat_natCast, Nat.zero_add]; exact D.get hj, ?_⟩⟩⟩
  exact qP7 (I.le D.le) (D.val hi) (D.val hj) fun h' l' => ⟨_, rfl, k h' (D.mv l')⟩
theorem qJk (D : Da g0 B m n sp h d) {left : List Int} (hm : left.length = m) {lp : Option Addr} {lc : Nat} (I : Ints .i64 g0 lp left) {X Y : Int} {i j : Nat} (hX : X = (i : Int)) (hY : Y = (j : Int)) (hi : i < n) (hj : j < n) {P Q : Heap → Prop}
    (k : ∀ h', Da g0 B m n sp h' d → Br (!ltO left d[i]! d[j]!) (P h') (Q h')) :
    (0 : Int) ≤ X ∧ X < (n : Int) ∧ qA (some ⟨B, 0, none⟩) fun b o => ∃ x, h.cell b (o + X.toNat) = some (.int .i64 x) ∧ (0 : Int) ≤ Y ∧ Y < (n : Int) ∧ qA (some ⟨B, 0, none⟩) fun b o => ∃ y, h.cell b (o + Y.toNat) = some (.int .i64 y) ∧
      CallA Tryz.prog qC [agg #[slice lp m lc], .int .i64 x, .int .i64 y] h fun v h => ∃ r, v = .int .i64 r ∧ Br (!decide (r < 0)) (P h) (Q h) := by
  subst hX hY hm
  refine ⟨by omega, by omega, qB rfl ⟨d[i]!, by rw [Int.toNat_natCast, Nat.zero_add]; exact D.get hi, by omega, by omega, qB rfl ⟨d[j]!, by rw [Int.toNat_natCast, Nat.zero_add]; exact D.get hj, ?_⟩⟩⟩
  exact qP7 (I.le D.le) (D.val hi) (D.val hj) fun h' l' => ⟨_, rfl, k h' (D.mv l')⟩
theorem qFm (D : Da g0 B m n sp h d) (e0 : g0 B = none) {X Y : Int} {i j : Nat} (hX : X = (i : Int)) (hY : Y = (j : Int)) (hi : i < n) (hj : j < n) {J : Heap → Prop}
    (k : ∀ h', Da g0 B m n sp h' (Go.Sort.swp d j i) → J h') :
    (0 : Int) ≤ X ∧ X < (n : Int) ∧ qA (some ⟨B, 0, none⟩) fun b o => ∃ x, h.cell b (o + X.toNat) = some (.int .i64 x) ∧ (0 : Int) ≤ Y ∧ Y < (n : Int) ∧ qA (some ⟨B, 0, none⟩) fun b o => ∃ y, h.cell b (o + Y.toNat) = some (.int .i64 y) ∧
      (0 : Int) ≤ Y ∧ Y < (n : Int) ∧ qA (some ⟨B, 0, none⟩) fun b o => h.canSt b (o + Y.toNat) 1 ∧ (0 : Int) ≤ X ∧ X < (n : Int) ∧ qA (some ⟨B, 0, none⟩) fun b1 o1 => (h.setN b (o + Y.toNat) [.int .i64 x]).canSt b1 (o1 + X.toNat) 1 ∧
        J ((h.setN b (o + Y.toNat) [.int .i64 x]).setN b1 (o1 + X.toNat) [.int .i64 y]) := by
  subst hX hY
  have D1 := D.st e0 hj (D.val hi)
  have D2 := D1.st e0 hi (D.val hj)
  have e : ∀ z : Nat, 0 + ((z : Nat) : Int).toNat = z := fun z => by rw [Int.toNat_natCast, Nat.zero_add]
  refine ⟨by omega, by omega, qB rfl ⟨d[i]!, by rw [e]; exact D.get hi, by omega, by omega, qB rfl ⟨d[j]!, by rw [e]; exact D.get hj, by omega, by omega, qB rfl ⟨by rw [e]; exact D.can hj, by omega, by omega, qB rfl ⟨by rw [e, e]; exact D1.can hi, ?_⟩⟩⟩⟩⟩
  rw [e, e]
  exact k _ D2
end
end Go.Proofs.YtjihfieahkbohaaGreat

/- A list put in order: by insertion, by a heap; turned about. -/
namespace Go.Proofs.YtjihfieahkbohaaGreat
open Go Go.Sy Go.Value Go.Sort
set_option linter.unusedVariables false
set_option linter.unusedSimpArgs false

theorem wp1 {j : Nat} (h : j ≤ 4000000000) : IntKind.wrap .i64 ((j : Int) + 1) = ((j + 1 : Nat) : Int) := by rw [qK (by omega) (by omega)]; omega
theorem wm1 {j : Nat} (h : j ≤ 4000000000) : IntKind.wrap .i64 (((j + 1 : Nat) : Int) - 1) = (j : Int) := by rw [qK (by omega) (by omega)]; omega
theorem wid {x : Int} (h1 : -4000000000 ≤ x) (h2 : x ≤ 40000000000) : IntKind.wrap .i64 x = x := qK (by omega) (by omega)

section
variable {g0 : Heap} {B m n c lc : Nat} {sp : List Value} {left : List Int} {lp : Option Addr} {K : Value → Heap → Prop} (e0 : g0 B = none) (hm : left.length = m) (I : Ints .i64 g0 lp left) (hn : n ≤ 1000000)
include e0 hm I hn
/-! by insertion -/
theorem qYa {a b i : Nat} (hi : i < n) : ∀ (j : Nat) (h : Heap) (d : Array Int), Da g0 B m n sp h d → j ≤ i →
    (∀ h', Da g0 B m n sp h' (insInner (ltO left) a j d) → qAB (some ⟨B, 0, none⟩) n c (a : Int) (b : Int) lp m lc ((i + 1 : Nat) : Int) h' K) →
    qAY (some ⟨B, 0, none⟩) n c (a : Int) (b : Int) lp m lc (i : Int) (j : Int) h K := by
  intro j
  induction j with
  | zero =>
    intro h d D hj k
    refine qET _ _ _ _ _ _ _ _ _ _ _ _ ?_
    unfold qCc
    rw [wp1 (by omega)]
    exact Br.no (by simp) (k h D)
  | succ j ih =>
    intro h d D hj k
    refine qET _ _ _ _ _ _ _ _ _ _ _ _ ?_
    unfold qCc
    rw [wp1 (by omega), wm1 (by omega)]
    rw [insInner] at k
    refine Br.dec (fun g => qPa D hm I rfl rfl (by omega) (by omega) fun h' D' => Br.intro (fun g2 => ?_) fun g2 => ?_) fun g => ?_
    · refine qFm (J := fun h => qAY (some ⟨B, 0, none⟩) n c (a : Int) (b : Int) lp m lc (i : Int) (j : Int) h K) D' e0 rfl rfl (by omega) (by omega) fun h'' D'' => ih h'' _ D'' (by omega) ?_
      rw [if_pos (by rw [g2, Bool.and_true]; exact decide_eq_true (by omega))] at k
      exact k
    · rw [if_neg (by rw [g2]; simp)] at k
      exact k h' D'
    · rw [if_neg (by simp; omega)] at k
      exact k h D
theorem qXI {a b : Nat} (hb : b ≤ n) : ∀ (q i : Nat) (h : Heap) (d : Array Int), b - i ≤ q → Da g0 B m n sp h d →
    (∀ h', Da g0 B m n sp h' (insOuter (ltO left) a b i d) → K (tuple #[]) h') → i ≤ 2000000 →
    qAB (some ⟨B, 0, none⟩) n c (a : Int) (b : Int) lp m lc (i : Int) h K := by
  intro q
  induction q with
  | zero =>
    intro i h d hq D k hi
    refine qEY _ _ _ _ _ _ _ _ _ _ _ ?_
    unfold qCX
    rw [insOuter, if_neg (by omega)] at k
    exact Br.no (by simp; omega) (Ret.mk (k h D))
  | succ q ih =>
    intro i h d hq D k hi
    refine qEY _ _ _ _ _ _ _ _ _ _ _ ?_
    unfold qCX
    rw [insOuter] at k
    refine Br.dec (fun g => qYa e0 hm I hn (by omega) i h d D (Nat.le_refl _) fun h' D' => ih (i + 1) h' _ (by omega) D' ?_ (by omega)) fun g => ?_
    · rw [if_pos (by omega)] at k; exact k
    · rw [if_neg (by omega)] at k; exact Ret.mk (k h D)
theorem qOr {h : Heap} {d : Array Int} {a b : Nat} (ha : a ≤ n) (hb : b ≤ n) (D : Da g0 B m n sp h d) (k : ∀ h', Da g0 B m n sp h' (insertionSort (ltO left) d a b) → K (tuple #[]) h') :
    CallA Tryz.prog qCo [slice (some ⟨B, 0, none⟩) n c, .int .i64 (a : Int), .int .i64 (b : Int), func (Fn.func qC) #[agg #[slice lp m lc]] #[]] h K := by
  refine qIF _ _ _ _ _ _ _ _ _ _ ?_
  unfold qE7
  rw [wp1 (by omega)]
  exact qXI e0 hm I hn hb _ _ _ _ (Nat.le_refl _) D k (by omega)
/-! by a heap -/
theorem qXm {hi first : Nat} (hf : first + hi ≤ n) : ∀ (q root : Nat) (h : Heap) (d : Array Int), hi - root ≤ q → root ≤ 1000000 → Da g0 B m n sp h d →
    (∀ h', Da g0 B m n sp h' (siftDown (ltO left) hi first root d) → K (tuple #[]) h') →
    qd (some ⟨B, 0, none⟩) n c (hi : Int) (first : Int) lp m lc (root : Int) h K := by
  intro q
  induction q with
  | zero =>
    intro root h d hq hr D k
    refine qFp _ _ _ _ _ _ _ _ _ _ _ ?_
    unfold qDO
    rw [siftDown, dif_pos (by omega)] at k
    rw [wid (x := 2 * (root : Int)) (by omega) (by omega), wid (x := 2 * (root : Int) + 1) (by omega) (by omega)]
    exact Br.yes (decide_eq_true (by omega)) (Ret.mk (k h D))
  | succ q ih =>
    intro root h d hq hr D k
    refine qFp _ _ _ _ _ _ _ _ _ _ _ ?_
    unfold qDO
    have w1 : IntKind.wrap .i64 (2 * (root : Int)) = ((2 * root : Nat) : Int) := by rw [wid (by omega) (by omega)]; omega
    have w2 : IntKind.wrap .i64 (((2 * root : Nat) : Int) + 1) = ((2 * root + 1 : Nat) : Int) := by rw [wid (by omega) (by omega)]; omega
    have w3 : IntKind.wrap .i64 (((2 * root + 1 : Nat) : Int) + 1) = ((2 * root + 2 : Nat) : Int) := by rw [wid (by omega) (by omega)]; omega
    have w4 : IntKind.wrap .i64 ((first : Int) + ((2 * root + 1 : Nat) : Int)) = ((first + (2 * root + 1) : Nat) : Int) := by rw [wid (by omega) (by omega)]; omega
    have w5 : IntKind.wrap .i64 ((first : Int) + ((2 * root + 2 : Nat) : Int)) = ((first + (2 * root + 2) : Nat) : Int) := by rw [wid (by omega) (by omega)]; omega
    have w6 : IntKind.wrap .i64 (((first + (2 * root + 1) : Nat) : Int) + 1) = ((first + (2 * root + 1) + 1 : Nat) : Int) := by rw [wid (by omega) (by omega)]; omega
    have w7 : IntKind.wrap .i64 ((first : Int) + (root : Int)) = ((first + root : Nat) : Int) := by rw [wid (by omega) (by omega)]; omega
    rw [w1, w2, w3, w4, w5, w6, w7]
    rw [siftDown] at k
    have low : ∀ (h : Heap), Da g0 B m n sp h d → 2 * root + 1 < hi →
        (∀ h', Da g0 B m n sp h' (if !ltO left d[first + root]! d[first + (2 * root + 1)]! then d else siftDown (ltO left) hi first (2 * root + 1) (swp d (first + root) (first + (2 * root + 1)))) → K (tuple #[]) h') →
        ∀ h', Da g0 B m n sp h' d → Br (!ltO left d[first + root]! d[first + (2 * root + 1)]!) (Ret h' K (tuple #[])) (∀ h'', Da g0 B m n sp h'' (swp d (first + root) (first + (2 * root + 1))) → qd (some ⟨B, 0, none⟩) n c (hi : Int) (first : Int) lp m lc ((2 * root + 1 : Nat) : Int) h'' K) := by
      intro h D g k h' D'
      refine Br.intro (fun g2 => ?_) fun g2 => fun h'' D'' => ?_
      · rw [if_pos g2] at k; exact Ret.mk (k h' D')
      · rw [if_neg (by rw [g2]; simp)] at k
        exact ih _ h'' _ (by omega) (by omega) D'' k
    refine Br.dec (fun g => ?_) fun g => ?_
    · rw [dif_pos (by omega)] at k
      exact Ret.mk (k h D)
    rw [dif_neg (by omega)] at k
    refine Br.dec (fun g1 => qPa D hm I rfl rfl (by omega) (by omega) fun h' D' => Br.intro (fun g2 => ?_) fun g2 => ?_) fun g1 => ?_
    · rw [if_pos (by rw [g2, Bool.and_true]; exact decide_eq_true (by omega))] at k
      refine qJk D' hm I rfl rfl (by omega) (by omega) fun h2 D2 => Br.intro (fun g3 => ?_) fun g3 => ?_
      · rw [if_pos g3] at k; exact Ret.mk (k h2 D2)
      rw [if_neg (by rw [g3]; simp), dif_pos (by omega)] at k
      exact qFm (J := fun h => qd (some ⟨B, 0, none⟩) n c (hi : Int) (first : Int) lp m lc ((2 * root + 2 : Nat) : Int) h K) D2 e0 rfl rfl (by omega) (by omega) fun h3 D3 => ih _ h3 _ (by omega) (by omega) D3 k
    · rw [if_neg (by rw [g2, Bool.and_false]; simp)] at k
      refine qJk D' hm I rfl rfl (by omega) (by omega) fun h2 D2 => Br.intro (fun g3 => ?_) fun g3 => ?_
      · rw [if_pos g3] at k; exact Ret.mk (k h2 D2)
      rw [if_neg (by rw [g3]; simp)] at k
      exact qFm (J := fun h => qd (some ⟨B, 0, none⟩) n c (hi : Int) (first : Int) lp m lc ((2 * root + 1 : Nat) : Int) h K) D2 e0 rfl rfl (by omega) (by omega) fun h3 D3 => ih _ h3 _ (by omega) (by omega) D3 k
    · rw [if_neg (by rw [decide_eq_false (by omega)]; simp)] at k
      refine qJk D hm I rfl rfl (by omega) (by omega) fun h2 D2 => Br.intro (fun g3 => ?_) fun g3 => ?_
      · rw [if_pos g3] at k; exact Ret.mk (k h2 D2)
      rw [if_neg (by rw [g3]; simp)] at k
      exact qFm (J := fun h => qd (some ⟨B, 0, none⟩) n c (hi : Int) (first : Int) lp m lc ((2 * root + 1 : Nat) : Int) h K) D2 e0 rfl rfl (by omega) (by omega) fun h3 D3 => ih _ h3 _ (by omega) (by omega) D3 k
theorem qUi {h : Heap} {d : Array Int} {lo hi first : Nat} (hf : first + hi ≤ n) (hl : lo ≤ 1000000) (D : Da g0 B m n sp h d) (k : ∀ h', Da g0 B m n sp h' (siftDown (ltO left) hi first lo d) → K (tuple #[]) h') :
    CallA Tryz.prog qBI [slice (some ⟨B, 0, none⟩) n c, .int .i64 (lo : Int), .int .i64 (hi : Int), .int .i64 (first : Int), func (Fn.func qC) #[agg #[slice lp m lc]] #[]] h K := by
  refine qJX _ _ _ _ _ _ _ _ _ _ _ ?_
  unfold qGN
  exact qXm e0 hm I hn hf _ _ _ _ (Nat.le_refl _) hl D k
theorem qV3 {first : Nat} : ∀ (q : Nat) (h : Heap) (d : Array Int), first + q ≤ n → Da g0 B m n sp h d →
    (∀ h', Da g0 B m n sp h' (heapPop (ltO left) first q d) → K (tuple #[]) h') →
    qA7 (some ⟨B, 0, none⟩) n c lp m lc (first : Int) 0 ((q : Int) - 1) h K := by
  intro q
  induction q with
  | zero =>
    intro h d hf D k
    refine qFq _ _ _ _ _ _ _ _ _ _ _ ?_
    unfold qDP
    exact Br.no (by decide) (Ret.mk (k h D))
  | succ q ih =>
    intro h d hf D k
    refine qFq _ _ _ _ _ _ _ _ _ _ _ ?_
    unfold qDP
    have w0 : (((q + 1 : Nat) : Int) - 1) = (q : Int) := by omega
    have w1 : IntKind.wrap .i64 ((first : Int) + (q : Int)) = ((first + q : Nat) : Int) := by rw [wid (by omega) (by omega)]; omega
    have w2 : IntKind.wrap .i64 ((q : Int) - 1) = (q : Int) - 1 := wid (by omega) (by omega)
    rw [w0, w1, w2]
    rw [heapPop] at k
    refine Br.yes (decide_eq_true (by omega)) (qFm (J := fun h => CallA Tryz.prog qBI [slice (some ⟨B, 0, none⟩) n c, .int .i64 0, .int .i64 (q : Int), .int .i64 (first : Int), func (Fn.func qC) #[agg #[slice lp m lc]] #[]] h fun v h => v = tuple #[] ∧ qA7 (some ⟨B, 0, none⟩) n c lp m lc (first : Int) 0 ((q : Int) - 1) h K) D e0 rfl rfl (by omega) (by omega) fun h1 D1 => ?_)
    exact qUi (lo := 0) e0 hm I hn (by omega) (by omega) D1 fun h2 D2 => ⟨rfl, ih h2 _ (by omega) D2 k⟩
theorem qTa {first hi : Nat} (hf : first + hi ≤ n) : ∀ (q : Nat) (h : Heap) (d : Array Int), q ≤ 1000000 → Da g0 B m n sp h d →
    (∀ h', Da g0 B m n sp h' (heapPop (ltO left) first hi (heapBuild (ltO left) hi first q d)) → K (tuple #[]) h') →
    qCA (some ⟨B, 0, none⟩) n c lp m lc (first : Int) 0 (hi : Int) ((q : Int) - 1) h K := by
  intro q
  induction q with
  | zero =>
    intro h d hq D k
    refine qFs _ _ _ _ _ _ _ _ _ _ _ _ ?_
    unfold qDQ
    rw [wid (x := (hi : Int) - 1) (by omega) (by omega)]
    rw [heapBuild] at k
    exact Br.no (by decide) (qV3 e0 hm I hn _ _ _ hf D k)
  | succ q ih =>
    intro h d hq D k
    refine qFs _ _ _ _ _ _ _ _ _ _ _ _ ?_
    unfold qDQ
    have w0 : (((q + 1 : Nat) : Int) - 1) = (q : Int) := by omega
    have w2 : IntKind.wrap .i64 ((q : Int) - 1) = (q : Int) - 1 := wid (by omega) (by omega)
    rw [w0, w2]
    rw [heapBuild] at k
    refine Br.yes (decide_eq_true (by omega)) ?_
    exact qUi (lo := q) e0 hm I hn hf (by omega) D fun h2 D2 => ⟨rfl, ih h2 _ (by omega) D2 k⟩
theorem qYD {h : Heap} {d : Array Int} {a b : Nat} (hab : a < b) (hb : b ≤ n) (D : Da g0 B m n sp h d) (k : ∀ h', Da g0 B m n sp h' (heapSort (ltO left) d a b) → K (tuple #[]) h') :
    CallA Tryz.prog qDx [slice (some ⟨B, 0, none⟩) n c, .int .i64 (a : Int), .int .i64 (b : Int), func (Fn.func qC) #[agg #[slice lp m lc]] #[]] h K := by
  refine qJN _ _ _ _ _ _ _ _ _ _ ?_
  unfold qGM
  have w1 : IntKind.wrap .i64 ((b : Int) - (a : Int)) = ((b - a : Nat) : Int) := by rw [wid (by omega) (by omega)]; omega
  have w2 : IntKind.wrap .i64 (((b - a : Nat) : Int) - 1) = ((b - a - 1 : Nat) : Int) := by rw [wid (by omega) (by omega)]; omega
  have w3 : Int.tdiv ((b - a - 1 : Nat) : Int) 2 = (((b - a - 1) / 2 + 1 : Nat) : Int) - 1 := by
    rw [Int.tdiv_eq_ediv_of_nonneg (by omega)]; omega
  rw [w1, w2, w3, wid (by omega) (by omega)]
  unfold heapSort at k
  exact qTa e0 hm I hn (by omega) _ _ _ (by omega) D k
/-! turned about -/
omit hm I in
theorem qX6 : ∀ (q i j : Nat) (h : Heap) (d : Array Int), j - i ≤ q → i ≤ 1000000 → j < n → Da g0 B m n sp h d →
    (∀ h', Da g0 B m n sp h' (reverseLoop i j d) → K (tuple #[]) h') →
    qAd (some ⟨B, 0, none⟩) n c (i : Int) (j : Int) h K := by
  intro q
  induction q with
  | zero =>
    intro i j h d hq hi hj D k
    refine qEo _ _ _ _ _ _ _ ?_
    unfold qCe
    rw [reverseLoop, if_neg (by omega)] at k
    exact Br.no (decide_eq_false (by omega)) (Ret.mk (k h D))
  | succ q ih =>
    intro i j h d hq hi hj D k
    refine qEo _ _ _ _ _ _ _ ?_
    unfold qCe
    rw [reverseLoop] at k
    refine Br.dec (fun g => ?_) fun g => ?_
    · rw [if_pos (by omega)] at k
      have w2 : IntKind.wrap .i64 ((j : Int) - 1) = ((j - 1 : Nat) : Int) := by rw [wid (by omega) (by omega)]; omega
      rw [wp1 (by omega), w2]
      exact qFm (J := fun h => qAd (some ⟨B, 0, none⟩) n c ((i + 1 : Nat) : Int) ((j - 1 : Nat) : Int) h K) D e0 rfl rfl (by omega) (by omega) fun h1 D1 => ih _ _ h1 _ (by omega) (by omega) (by omega) D1 k
    · rw [if_neg (by omega)] at k
      exact Ret.mk (k h D)
omit hm I in
theorem qUn {h : Heap} {d : Array Int} {a b : Nat} (hab : a < b) (hb : b ≤ n) (D : Da g0 B m n sp h d) (k : ∀ h', Da g0 B m n sp h' (reverseRange d a b) → K (tuple #[]) h') :
    CallA Tryz.prog qCu [slice (some ⟨B, 0, none⟩) n c, .int .i64 (a : Int), .int .i64 (b : Int), func (Fn.func qC) #[agg #[slice lp m lc]] #[]] h K := by
  refine qIY _ _ _ _ _ _ _ _ _ _ ?_
  unfold qFH
  have w2 : IntKind.wrap .i64 ((b : Int) - 1) = ((b - 1 : Nat) : Int) := by rw [wid (by omega) (by omega)]; omega
  rw [w2]
  exact qX6 e0 hn _ _ _ _ _ (Nat.le_refl _) (by omega) (by omega) D k
end
end Go.Proofs.YtjihfieahkbohaaGreat

/- A list parted by a pivot, or tried to be put in order by few steps. -/
namespace Go.Proofs.YtjihfieahkbohaaGreat
open Go Go.Sy Go.Value Go.Sort
set_option linter.unusedVariables false
set_option linter.unusedSimpArgs false

theorem qPH {α : Type} [Inhabited α] {p : α → Bool} {d : Array α} {j i : Nat} (h : i ≤ j) (hp : p d[i]! = true) : scanUp p d j i = scanUp p d j (i + 1) := by
  rw [scanUp, if_pos (by rw [hp, Bool.and_true]; exact decide_eq_true h)]
theorem qGG {α : Type} [Inhabited α] {p : α → Bool} {d : Array α} {j i : Nat} (h : ¬ (i ≤ j ∧ p d[i]! = true)) : scanUp p d j i = i := by
  rw [scanUp, if_neg (by rw [Bool.and_eq_true, decide_eq_true_eq]; exact h)]
theorem qMz {α : Type} [Inhabited α] {p : α → Bool} {d : Array α} {j i : Nat} (h : i ≤ j) (h1 : 1 ≤ i) (hp : p d[j]! = true) : scanDown p d i j = scanDown p d i (j - 1) := by
  cases j with
  | zero => omega
  | succ j => rw [scanDown, if_pos (by rw [hp, Bool.and_true]; exact decide_eq_true h)]; rfl
theorem qFE {α : Type} [Inhabited α] {p : α → Bool} {d : Array α} {j i : Nat} (h : ¬ (i ≤ j ∧ p d[j]! = true)) : scanDown p d i j = j := by
  cases j with
  | zero => rw [scanDown]
  | succ j => rw [scanDown, if_neg (by rw [Bool.and_eq_true, decide_eq_true_eq]; exact h)]
theorem qKF {α : Type} [Inhabited α] {p : α → Bool} {d : Array α} {j i n : Nat} (h : i ≤ n) (hj : j < n) : scanUp p d j i ≤ n := by
  by_cases g : i ≤ j + 1
  · have := (scanUp_spec p d j _ i rfl).2.1 g; omega
  · rw [qGG (by omega)]; exact h

section
variable {g0 : Heap} {B m n c lc : Nat} {sp : List Value} {left : List Int} {lp : Option Addr} {K : Value → Heap → Prop} (e0 : g0 B = none) (hm : left.length = m) (I : Ints .i64 g0 lp left) (hn : n ≤ 1000000)
include e0 hm I hn
/-! by partition -/
omit e0 in
theorem qYL {a j : Nat} {d : Array Int} (ha : a < n) (hj : j < n) : ∀ (q i : Nat) (h : Heap), j + 1 - i ≤ q → i ≤ n → Da g0 B m n sp h d →
    (∀ h', Da g0 B m n sp h' d → qAS (some ⟨B, 0, none⟩) n c (a : Int) lp m lc ((scanUp (fun x => ltO left x d[a]!) d j i : Nat) : Int) (j : Int) h' K) →
    qAx (some ⟨B, 0, none⟩) n c (a : Int) lp m lc (i : Int) (j : Int) h K := by
  intro q
  induction q with
  | zero =>
    intro i h hq hi D k
    refine qFQ _ _ _ _ _ _ _ _ _ _ _ ?_
    unfold qC8
    rw [qGG (by omega)] at k
    exact Br.no (by simp; omega) (k h D)
  | succ q ih =>
    intro i h hq hi D k
    refine qFQ _ _ _ _ _ _ _ _ _ _ _ ?_
    unfold qC8
    rw [wp1 (by omega)]
    refine Br.dec (fun g => qPa D hm I rfl rfl (by omega) (by omega) fun h' D' => Br.intro (fun g2 => ?_) fun g2 => ?_) fun g => ?_
    · rw [qPH (by omega) (by exact g2)] at k
      exact ih _ h' (by omega) (by omega) D' k
    · rw [qGG (fun x => by rw [g2] at x; exact absurd x.2 (by decide))] at k
      exact k h' D'
    · rw [qGG (by omega)] at k
      exact k h D
omit e0 in
theorem qVB {a j : Nat} {d : Array Int} (ha : a < n) (hj : j < n) : ∀ (q i : Nat) (h : Heap), j + 1 - i ≤ q → i ≤ n → Da g0 B m n sp h d →
    (∀ h', Da g0 B m n sp h' d → qAT (some ⟨B, 0, none⟩) n c (a : Int) lp m lc ((scanUp (fun x => ltO left x d[a]!) d j i : Nat) : Int) (j : Int) h' K) →
    qBz (some ⟨B, 0, none⟩) n c (a : Int) lp m lc (i : Int) (j : Int) h K := by
  intro q
  induction q with
  | zero =>
    intro i h hq hi D k
    refine qFi _ _ _ _ _ _ _ _ _ _ _ ?_
    unfold qDD
    rw [qGG (by omega)] at k
    exact Br.no (by simp; omega) (k h D)
  | succ q ih =>
    intro i h hq hi D k
    refine qFi _ _ _ _ _ _ _ _ _ _ _ ?_
    unfold qDD
    rw [wp1 (by omega)]
    refine Br.dec (fun g => qPa D hm I rfl rfl (by omega) (by omega) fun h' D' => Br.intro (fun g2 => ?_) fun g2 => ?_) fun g => ?_
    · rw [qPH (by omega) (by exact g2)] at k
      exact ih _ h' (by omega) (by omega) D' k
    · rw [qGG (fun x => by rw [g2] at x; exact absurd x.2 (by decide))] at k
      exact k h' D'
    · rw [qGG (by omega)] at k
      exact k h D
theorem qYd {a i : Nat} {d : Array Int} (ha : a < i) (hi : i ≤ n) : ∀ (q j : Nat) (h : Heap), j ≤ q → j < n → a ≤ j → Da g0 B m n sp h d →
    (i > scanDown (fun x => !ltO left x d[a]!) d i j → ∀ h', Da g0 B m n sp h' (swp d (scanDown (fun x => !ltO left x d[a]!) d i j) a) → K (tuple #[.int .i64 ((scanDown (fun x => !ltO left x d[a]!) d i j : Nat) : Int), .bool true]) h') →
    (¬ i > scanDown (fun x => !ltO left x d[a]!) d i j → ∀ h', Da g0 B m n sp h' (swp d i (scanDown (fun x => !ltO left x d[a]!) d i j)) →
      qa (some ⟨B, 0, none⟩) n c (a : Int) lp m lc ((i + 1 : Nat) : Int) ((scanDown (fun x => !ltO left x d[a]!) d i j - 1 : Nat) : Int) h' K) →
    qAS (some ⟨B, 0, none⟩) n c (a : Int) lp m lc (i : Int) (j : Int) h K := by
  intro q
  induction q with
  | zero =>
    intro j h hq hj haj D k1 k2
    refine qFc _ _ _ _ _ _ _ _ _ _ _ ?_
    unfold qDE
    rw [qFE (by omega)] at k1
    exact Br.no (by simp; omega) (Br.yes (by simp; omega) (qFm (J := fun h => Ret h K (tuple #[.int .i64 (j : Int), .bool true])) D e0 rfl rfl (by omega) (by omega) fun h1 D1 => Ret.mk (k1 (by omega) h1 D1)))
  | succ q ih =>
    intro j h hq hj haj D k1 k2
    refine qFc _ _ _ _ _ _ _ _ _ _ _ ?_
    unfold qDE
    by_cases g : i ≤ j
    · have w2 : IntKind.wrap .i64 ((j : Int) - 1) = ((j - 1 : Nat) : Int) := by rw [wid (by omega) (by omega)]; omega
      rw [wp1 (by omega), w2]
      refine Br.yes (by simp; omega) (qJk D hm I rfl rfl (by omega) (by omega) fun h' D' => Br.intro (fun g2 => ?_) fun g2 => ?_)
      · rw [qMz g (by omega) (by exact g2)] at k1 k2
        exact ih _ h' (by omega) (by omega) (by omega) D' k1 k2
      · rw [qFE (fun x => by rw [g2] at x; exact absurd x.2 (by decide))] at k1 k2
        exact Br.no (by simp; omega) (qFm (J := fun h => qa (some ⟨B, 0, none⟩) n c (a : Int) lp m lc ((i + 1 : Nat) : Int) ((j - 1 : Nat) : Int) h K) D' e0 rfl rfl (by omega) (by omega) fun h1 D1 => k2 (by omega) h1 D1)
    · rw [qFE (by omega)] at k1
      exact Br.no (by simp; omega) (Br.yes (by simp; omega) (qFm (J := fun h => Ret h K (tuple #[.int .i64 (j : Int), .bool true])) D e0 rfl rfl (by omega) (by omega) fun h1 D1 => Ret.mk (k1 (by omega) h1 D1)))
theorem qVM {a i : Nat} {d : Array Int} (ha : a < i) (hi : i ≤ n) : ∀ (q j : Nat) (h : Heap), j ≤ q → j < n → a ≤ j → Da g0 B m n sp h d →
    (i > scanDown (fun x => !ltO left x d[a]!) d i j → ∀ h', Da g0 B m n sp h' (swp d (scanDown (fun x => !ltO left x d[a]!) d i j) a) → K (tuple #[.int .i64 ((scanDown (fun x => !ltO left x d[a]!) d i j : Nat) : Int), .bool false]) h') →
    (¬ i > scanDown (fun x => !ltO left x d[a]!) d i j → ∀ h', Da g0 B m n sp h' (swp d i (scanDown (fun x => !ltO left x d[a]!) d i j)) →
      qa (some ⟨B, 0, none⟩) n c (a : Int) lp m lc ((i + 1 : Nat) : Int) ((scanDown (fun x => !ltO left x d[a]!) d i j - 1 : Nat) : Int) h' K) →
    qAT (some ⟨B, 0, none⟩) n c (a : Int) lp m lc (i : Int) (j : Int) h K := by
  intro q
  induction q with
  | zero =>
    intro j h hq hj haj D k1 k2
    refine qFP _ _ _ _ _ _ _ _ _ _ _ ?_
    unfold qDB
    rw [qFE (by omega)] at k1
    exact Br.no (by simp; omega) (Br.yes (by simp; omega) (qFm (J := fun h => Ret h K (tuple #[.int .i64 (j : Int), .bool false])) D e0 rfl rfl (by omega) (by omega) fun h1 D1 => Ret.mk (k1 (by omega) h1 D1)))
  | succ q ih =>
    intro j h hq hj haj D k1 k2
    refine qFP _ _ _ _ _ _ _ _ _ _ _ ?_
    unfold qDB
    by_cases g : i ≤ j
    · have w2 : IntKind.wrap .i64 ((j : Int) - 1) = ((j - 1 : Nat) : Int) := by rw [wid (by omega) (by omega)]; omega
      rw [wp1 (by omega), w2]
      refine Br.yes (by simp; omega) (qJk D hm I rfl rfl (by omega) (by omega) fun h' D' => Br.intro (fun g2 => ?_) fun g2 => ?_)
      · rw [qMz g (by omega) (by exact g2)] at k1 k2
        exact ih _ h' (by omega) (by omega) (by omega) D' k1 k2
      · rw [qFE (fun x => by rw [g2] at x; exact absurd x.2 (by decide))] at k1 k2
        exact Br.no (by simp; omega) (qFm (J := fun h => qa (some ⟨B, 0, none⟩) n c (a : Int) lp m lc ((i + 1 : Nat) : Int) ((j - 1 : Nat) : Int) h K) D' e0 rfl rfl (by omega) (by omega) fun h1 D1 => k2 (by omega) h1 D1)
    · rw [qFE (by omega)] at k1
      exact Br.no (by simp; omega) (Br.yes (by simp; omega) (qFm (J := fun h => Ret h K (tuple #[.int .i64 (j : Int), .bool false])) D e0 rfl rfl (by omega) (by omega) fun h1 D1 => Ret.mk (k1 (by omega) h1 D1)))
theorem qYR {a : Nat} : ∀ (q i j : Nat) (d : Array Int) (h : Heap), j + 1 - i ≤ q → a < i → i ≤ n → a ≤ j → j < n → Da g0 B m n sp h d →
    (∀ h', Da g0 B m n sp h' (swp (partLoop (ltO left) a i j d).2 (partLoop (ltO left) a i j d).1 a) → K (tuple #[.int .i64 (((partLoop (ltO left) a i j d).1 : Nat) : Int), .bool false]) h') →
    qa (some ⟨B, 0, none⟩) n c (a : Int) lp m lc (i : Int) (j : Int) h K := by
  intro q
  induction q with
  | zero =>
    intro i j d h hq ha hij haj hj D k
    refine qFe _ _ _ _ _ _ _ _ _ _ _ ?_
    unfold qC6
    refine qVB hm I hn (by omega) (by omega) _ _ h (Nat.le_refl _) (by omega) D fun h1 D1 => ?_
    have hu := scanUp_ge (fun x => ltO left x d[a]!) d j i
    have hu2 := qKF (p := fun x => ltO left x d[a]!) (d := d) hij hj
    rw [partLoop_eq] at k
    refine qVM e0 hm I hn (by omega) (by omega) _ _ h1 (Nat.le_refl _) (by omega) (by omega) D1 (fun g h2 D2 => ?_) fun g h2 D2 => ?_
    · rw [if_pos g] at k; exact k h2 D2
    · have := scanDown_le (fun x => !ltO left x d[a]!) d (scanUp (fun x => ltO left x d[a]!) d j i) j
      omega
  | succ q ih =>
    intro i j d h hq ha hij haj hj D k
    refine qFe _ _ _ _ _ _ _ _ _ _ _ ?_
    unfold qC6
    refine qVB hm I hn (by omega) (by omega) _ _ h (Nat.le_refl _) (by omega) D fun h1 D1 => ?_
    have hu := scanUp_ge (fun x => ltO left x d[a]!) d j i
    have hu2 := qKF (p := fun x => ltO left x d[a]!) (d := d) hij hj
    rw [partLoop_eq] at k
    refine qVM e0 hm I hn (by omega) (by omega) _ _ h1 (Nat.le_refl _) (by omega) (by omega) D1 (fun g h2 D2 => ?_) fun g h2 D2 => ?_
    · rw [if_pos g] at k; exact k h2 D2
    · have hd := scanDown_le (fun x => !ltO left x d[a]!) d (scanUp (fun x => ltO left x d[a]!) d j i) j
      rw [if_neg g] at k
      exact ih _ _ _ h2 (by omega) (by omega) (by omega) (by omega) (by omega) D2 k
theorem qSP {h : Heap} {d : Array Int} {a b pivot : Nat} (hab : a + 1 < b) (hb : b ≤ n) (hp1 : a ≤ pivot) (hp2 : pivot < b) (D : Da g0 B m n sp h d)
    (k : ∀ h', Da g0 B m n sp h' (partition (ltO left) d a b pivot).2.2 → K (tuple #[.int .i64 (((partition (ltO left) d a b pivot).1 : Nat) : Int), .bool (partition (ltO left) d a b pivot).2.1]) h') :
    CallA Tryz.prog qA9 [slice (some ⟨B, 0, none⟩) n c, .int .i64 (a : Int), .int .i64 (b : Int), .int .i64 (pivot : Int), func (Fn.func qC) #[agg #[slice lp m lc]] #[]] h K := by
  refine qI9 _ _ _ _ _ _ _ _ _ _ _ ?_
  unfold qF9
  have w2 : IntKind.wrap .i64 ((b : Int) - 1) = ((b - 1 : Nat) : Int) := by rw [wid (by omega) (by omega)]; omega
  rw [wp1 (by omega), w2]
  unfold partition at k
  dsimp only at k
  refine qFm (J := fun h => qAx (some ⟨B, 0, none⟩) n c (a : Int) lp m lc ((a + 1 : Nat) : Int) ((b - 1 : Nat) : Int) h K) D e0 rfl rfl (by omega) (by omega) fun h1 D1 => ?_
  generalize swp d a pivot = d1 at *
  refine qYL hm I hn (by omega) (by omega) _ _ h1 (Nat.le_refl _) (by omega) D1 fun h2 D2 => ?_
  have hu := scanUp_ge (fun x => ltO left x d1[a]!) d1 (b - 1) (a + 1)
  have hu2 := qKF (p := fun x => ltO left x d1[a]!) (d := d1) (j := b - 1) (i := a + 1) (n := n) (by omega) (by omega)
  refine qYd e0 hm I hn (by omega) (by omega) _ _ h2 (Nat.le_refl _) (by omega) (by omega) D2 (fun g h3 D3 => ?_) fun g h3 D3 => ?_
  · rw [if_pos g] at k; exact k h3 D3
  · have hd := scanDown_le (fun x => !ltO left x d1[a]!) d1 (scanUp (fun x => ltO left x d1[a]!) d1 (b - 1) (a + 1)) (b - 1)
    rw [if_neg g] at k
    exact qYR e0 hm I hn _ _ _ _ h3 (Nat.le_refl _) (by omega) (by omega) (by omega) (by omega) D3 k
/-! what is as great as the pivot -/
omit e0 in
theorem qX5 {a j : Nat} {d : Array Int} (ha : a < n) (hj : j < n) : ∀ (q i : Nat) (h : Heap), j + 1 - i ≤ q → i ≤ n → Da g0 B m n sp h d →
    (∀ h', Da g0 B m n sp h' d → q8 (some ⟨B, 0, none⟩) n c (a : Int) lp m lc ((scanUp (fun x => !ltO left d[a]! x) d j i : Nat) : Int) (j : Int) h' K) →
    qA6 (some ⟨B, 0, none⟩) n c (a : Int) lp m lc (i : Int) (j : Int) h K := by
  intro q
  induction q with
  | zero =>
    intro i h hq hi D k
    refine qEH _ _ _ _ _ _ _ _ _ _ _ ?_
    unfold qCC
    rw [qGG (by omega)] at k
    exact Br.no (by simp; omega) (k h D)
  | succ q ih =>
    intro i h hq hi D k
    refine qEH _ _ _ _ _ _ _ _ _ _ _ ?_
    unfold qCC
    rw [wp1 (by omega)]
    refine Br.dec (fun g => qJk D hm I rfl rfl (by omega) (by omega) fun h' D' => Br.intro (fun g2 => ?_) fun g2 => ?_) fun g => ?_
    · rw [qPH (by omega) (by exact g2)] at k
      exact ih _ h' (by omega) (by omega) D' k
    · rw [qGG (fun x => by rw [g2] at x; exact absurd x.2 (by decide))] at k
      exact k h' D'
    · rw [qGG (by omega)] at k
      exact k h D
theorem qYf {a i : Nat} {d : Array Int} (ha : a < i) (hi : i ≤ n) : ∀ (q j : Nat) (h : Heap), j ≤ q → j < n → a ≤ j → Da g0 B m n sp h d →
    (i > scanDown (fun x => ltO left d[a]! x) d i j → ∀ h', Da g0 B m n sp h' d → K (.int .i64 (i : Int)) h') →
    (¬ i > scanDown (fun x => ltO left d[a]! x) d i j → ∀ h', Da g0 B m n sp h' (swp d i (scanDown (fun x => ltO left d[a]! x) d i j)) →
      qe (some ⟨B, 0, none⟩) n c (a : Int) lp m lc ((i + 1 : Nat) : Int) ((scanDown (fun x => ltO left d[a]! x) d i j - 1 : Nat) : Int) h' K) →
    q8 (some ⟨B, 0, none⟩) n c (a : Int) lp m lc (i : Int) (j : Int) h K := by
  intro q
  induction q with
  | zero =>
    intro j h hq hj haj D k1 k2
    refine qEA _ _ _ _ _ _ _ _ _ _ _ ?_
    unfold qCH
    rw [qFE (by omega)] at k1
    exact Br.no (by simp; omega) (Br.yes (by simp; omega) (Ret.mk (k1 (by omega) h D)))
  | succ q ih =>
    intro j h hq hj haj D k1 k2
    refine qEA _ _ _ _ _ _ _ _ _ _ _ ?_
    unfold qCH
    by_cases g : i ≤ j
    · have w2 : IntKind.wrap .i64 ((j : Int) - 1) = ((j - 1 : Nat) : Int) := by rw [wid (by omega) (by omega)]; omega
      rw [wp1 (by omega), w2]
      refine Br.yes (by simp; omega) (qPa D hm I rfl rfl (by omega) (by omega) fun h' D' => Br.intro (fun g2 => ?_) fun g2 => ?_)
      · rw [qMz g (by omega) (by exact g2)] at k1 k2
        exact ih _ h' (by omega) (by omega) (by omega) D' k1 k2
      · rw [qFE (fun x => by rw [g2] at x; exact absurd x.2 (by decide))] at k1 k2
        exact Br.no (by simp; omega) (qFm (J := fun h => qe (some ⟨B, 0, none⟩) n c (a : Int) lp m lc ((i + 1 : Nat) : Int) ((j - 1 : Nat) : Int) h K) D' e0 rfl rfl (by omega) (by omega) fun h1 D1 => k2 (by omega) h1 D1)
    · rw [qFE (by omega)] at k1
      exact Br.no (by simp; omega) (Br.yes (by simp; omega) (Ret.mk (k1 (by omega) h D)))
theorem qZZ {a : Nat} : ∀ (q i j : Nat) (d : Array Int) (h : Heap), j + 1 - i ≤ q → a < i → i ≤ n → a ≤ j → j < n → Da g0 B m n sp h d →
    (∀ h', Da g0 B m n sp h' (partEqLoop (ltO left) a i j d).2 → K (.int .i64 (((partEqLoop (ltO left) a i j d).1 : Nat) : Int)) h') →
    qe (some ⟨B, 0, none⟩) n c (a : Int) lp m lc (i : Int) (j : Int) h K := by
  intro q
  induction q with
  | zero =>
    intro i j d h hq ha hij haj hj D k
    refine qEI _ _ _ _ _ _ _ _ _ _ _ ?_
    unfold qCE
    refine qX5 hm I hn (by omega) (by omega) _ _ h (Nat.le_refl _) (by omega) D fun h1 D1 => ?_
    have hu := scanUp_ge (fun x => !ltO left d[a]! x) d j i
    have hu2 := qKF (p := fun x => !ltO left d[a]! x) (d := d) hij hj
    rw [partEqLoop_eq] at k
    refine qYf e0 hm I hn (by omega) (by omega) _ _ h1 (Nat.le_refl _) (by omega) (by omega) D1 (fun g h2 D2 => ?_) fun g h2 D2 => ?_
    · rw [if_pos g] at k; exact k h2 D2
    · have := scanDown_le (fun x => ltO left d[a]! x) d (scanUp (fun x => !ltO left d[a]! x) d j i) j
      omega
  | succ q ih =>
    intro i j d h hq ha hij haj hj D k
    refine qEI _ _ _ _ _ _ _ _ _ _ _ ?_
    unfold qCE
    refine qX5 hm I hn (by omega) (by omega) _ _ h (Nat.le_refl _) (by omega) D fun h1 D1 => ?_
    have hu := scanUp_ge (fun x => !ltO left d[a]! x) d j i
    have hu2 := qKF (p := fun x => !ltO left d[a]! x) (d := d) hij hj
    rw [partEqLoop_eq] at k
    refine qYf e0 hm I hn (by omega) (by omega) _ _ h1 (Nat.le_refl _) (by omega) (by omega) D1 (fun g h2 D2 => ?_) fun g h2 D2 => ?_
    · rw [if_pos g] at k; exact k h2 D2
    · have hd := scanDown_le (fun x => ltO left d[a]! x) d (scanUp (fun x => !ltO left d[a]! x) d j i) j
      rw [if_neg g] at k
      exact ih _ _ _ h2 (by omega) (by omega) (by omega) (by omega) (by omega) D2 k
theorem qPG {h : Heap} {d : Array Int} {a b pivot : Nat} (hab : a + 1 < b) (hb : b ≤ n) (hp1 : a ≤ pivot) (hp2 : pivot < b) (D : Da g0 B m n sp h d)
    (k : ∀ h', Da g0 B m n sp h' (partitionEqual (ltO left) d a b pivot).2 → K (.int .i64 (((partitionEqual (ltO left) d a b pivot).1 : Nat) : Int)) h') :
    CallA Tryz.prog qCf [slice (some ⟨B, 0, none⟩) n c, .int .i64 (a : Int), .int .i64 (b : Int), .int .i64 (pivot : Int), func (Fn.func qC) #[agg #[slice lp m lc]] #[]] h K := by
  refine qHq _ _ _ _ _ _ _ _ _ _ _ ?_
  unfold qEj
  have w2 : IntKind.wrap .i64 ((b : Int) - 1) = ((b - 1 : Nat) : Int) := by rw [wid (by omega) (by omega)]; omega
  rw [wp1 (by omega), w2]
  unfold partitionEqual at k
  refine qFm (J := fun h => qe (some ⟨B, 0, none⟩) n c (a : Int) lp m lc ((a + 1 : Nat) : Int) ((b - 1 : Nat) : Int) h K) D e0 rfl rfl (by omega) (by omega) fun h1 D1 => ?_
  exact qZZ e0 hm I hn _ _ _ _ h1 (Nat.le_refl _) (by omega) (by omega) (by omega) (by omega) D1 k
/-! few steps -/
theorem qZA {a b i s : Nat} (hb : b ≤ n) (hs : s ≤ 100) : ∀ (q j : Nat) (d : Array Int) (h : Heap), b - j ≤ q → j ≤ n + 1 → 1 ≤ j → Da g0 B m n sp h d →
    (∀ h', Da g0 B m n sp h' (shiftUp (ltO left) b j d) → qJ (some ⟨B, 0, none⟩) n c (a : Int) (b : Int) lp m lc (i : Int) ((s + 1 : Nat) : Int) h' K) →
    qQ (some ⟨B, 0, none⟩) n c (a : Int) (b : Int) lp m lc (i : Int) (s : Int) (j : Int) h K := by
  intro q
  induction q with
  | zero =>
    intro j d h hq hj h1 D k
    refine qC3 _ _ _ _ _ _ _ _ _ _ _ _ _ ?_
    unfold qBP
    rw [shiftUp, if_neg (by omega)] at k
    rw [wp1 (j := s) (by omega)]
    exact Br.no (by simp; omega) (k h D)
  | succ q ih =>
    intro j d h hq hj h1 D k
    refine qC3 _ _ _ _ _ _ _ _ _ _ _ _ _ ?_
    unfold qBP
    have w2 : IntKind.wrap .i64 ((j : Int) - 1) = ((j - 1 : Nat) : Int) := by rw [wid (by omega) (by omega)]; omega
    rw [wp1 (j := s) (by omega), wp1 (j := j) (by omega), w2]
    rw [shiftUp] at k
    refine Br.dec (fun g => qJk D hm I rfl rfl (by omega) (by omega) fun h' D' => Br.intro (fun g2 => ?_) fun g2 => ?_) fun g => ?_
    · rw [if_pos (by omega), if_pos g2] at k
      exact k h' D'
    · rw [if_pos (by omega), if_neg (by rw [g2]; decide)] at k
      exact qFm (J := fun h => qQ (some ⟨B, 0, none⟩) n c (a : Int) (b : Int) lp m lc (i : Int) (s : Int) ((j + 1 : Nat) : Int) h K) D' e0 rfl rfl (by omega) (by omega) fun h1 D1 => ih _ _ h1 (by omega) (by omega) (by omega) D1 k
    · rw [if_neg (by omega)] at k
      exact k h D
theorem qRY {a b i s : Nat} (hb : b ≤ n) (hs : s ≤ 100) (hi : i ≤ n) {d : Array Int} {h : Heap} (D : Da g0 B m n sp h d)
    (k : ∀ h', Da g0 B m n sp h' (fixUp (ltO left) b i d) → qJ (some ⟨B, 0, none⟩) n c (a : Int) (b : Int) lp m lc (i : Int) ((s + 1 : Nat) : Int) h' K) :
    Br (decide (IntKind.wrap .i64 ((b : Int) - (i : Int)) ≥ 2)) (qQ (some ⟨B, 0, none⟩) n c (a : Int) (b : Int) lp m lc (i : Int) (s : Int) ((i + 1 : Nat) : Int) h K)
      (qJ (some ⟨B, 0, none⟩) n c (a : Int) (b : Int) lp m lc (i : Int) ((s + 1 : Nat) : Int) h K) := by
  rw [wid (by omega) (by omega)]
  unfold fixUp at k
  refine Br.dec (fun g => ?_) fun g => ?_
  · rw [if_pos (by omega)] at k
    exact qZA e0 hm I hn hb hs _ _ _ h (Nat.le_refl _) (by omega) (by omega) D k
  · rw [if_neg (by omega)] at k
    exact k h D
theorem qYy {a b i s : Nat} (hb : b ≤ n) (hs : s ≤ 100) (hi : i ≤ n) : ∀ (j : Nat) (d : Array Int) (h : Heap), j < n → Da g0 B m n sp h d →
    (∀ h', Da g0 B m n sp h' (fixUp (ltO left) b i (shiftDown (ltO left) j d)) → qJ (some ⟨B, 0, none⟩) n c (a : Int) (b : Int) lp m lc (i : Int) ((s + 1 : Nat) : Int) h' K) →
    qb (some ⟨B, 0, none⟩) n c (a : Int) (b : Int) lp m lc (i : Int) (s : Int) (j : Int) h K := by
  intro j
  induction j with
  | zero =>
    intro d h hj D k
    refine qC0 _ _ _ _ _ _ _ _ _ _ _ _ _ ?_
    unfold qBM
    rw [shiftDown] at k
    rw [wp1 (j := s) (by omega), wp1 (j := i) (by omega)]
    exact Br.no (by simp) (qRY e0 hm I hn hb hs hi D k)
  | succ j ih =>
    intro d h hj D k
    refine qC0 _ _ _ _ _ _ _ _ _ _ _ _ _ ?_
    unfold qBM
    rw [wp1 (j := s) (by omega), wp1 (j := i) (by omega), wm1 (by omega)]
    rw [shiftDown] at k
    refine Br.yes (by simp; omega) (qJk D hm I rfl rfl (by omega) (by omega) fun h' D' => Br.intro (fun g2 => ?_) fun g2 => ?_)
    · rw [if_pos g2] at k
      exact qRY e0 hm I hn hb hs hi D' k
    · rw [if_neg (by rw [g2]; decide)] at k
      exact qFm (J := fun h => qb (some ⟨B, 0, none⟩) n c (a : Int) (b : Int) lp m lc (i : Int) (s : Int) (j : Int) h K) D' e0 rfl rfl (by omega) (by omega) fun h1 D1 => ih _ h1 (by omega) D1 k
theorem qY1 {a b s : Nat} (hb : b ≤ n) (hs : s ≤ 100) {d : Array Int} : ∀ (q i : Nat) (h : Heap), b - i ≤ q → a < i → i ≤ b → Da g0 B m n sp h d →
      (scanSorted (ltO left) d b i = b → ∀ h', Da g0 B m n sp h' d → K (.bool true) h') →
      (scanSorted (ltO left) d b i ≠ b → b - a < 50 → ∀ h', Da g0 B m n sp h' d → K (.bool false) h') →
      (scanSorted (ltO left) d b i ≠ b → ¬ b - a < 50 → ∀ h', Da g0 B m n sp h' (fixUp (ltO left) b (scanSorted (ltO left) d b i) (fixDown (ltO left) a (scanSorted (ltO left) d b i) (swp d (scanSorted (ltO left) d b i) (scanSorted (ltO left) d b i - 1)))) →
        qJ (some ⟨B, 0, none⟩) n c (a : Int) (b : Int) lp m lc ((scanSorted (ltO left) d b i : Nat) : Int) ((s + 1 : Nat) : Int) h' K) →
      qAb (some ⟨B, 0, none⟩) n c (a : Int) (b : Int) lp m lc (i : Int) (s : Int) h K := by
  intro q
  induction q with
  | zero =>
    intro i h hq ha hi D k1 k2 k3
    refine qC4 _ _ _ _ _ _ _ _ _ _ _ _ ?_
    unfold qBL
    have e : scanSorted (ltO left) d b i = i := by rw [scanSorted, if_neg (by simp; omega)]
    rw [e] at k1
    exact Br.no (by simp; omega) (Br.yes (by simp; omega) (Ret.mk (k1 (by omega) h D)))
  | succ q ih =>
    intro i h hq ha hi D k1 k2 k3
    refine qC4 _ _ _ _ _ _ _ _ _ _ _ _ ?_
    unfold qBL
    by_cases g : i < b
    · have w2 : IntKind.wrap .i64 ((i : Int) - 1) = ((i - 1 : Nat) : Int) := by rw [wid (by omega) (by omega)]; omega
      have w3 : IntKind.wrap .i64 ((b : Int) - (a : Int)) = ((b - a : Nat) : Int) := by rw [wid (by omega) (by omega)]; omega
      have w4 : IntKind.wrap .i64 ((i : Int) - (a : Int)) = ((i - a : Nat) : Int) := by rw [wid (by omega) (by omega)]; omega
      rw [wp1 (j := s) (by omega), wp1 (j := i) (by omega), w2, w3, w4]
      refine Br.yes (by simp; omega) (qJk D hm I rfl rfl (by omega) (by omega) fun h' D' => Br.intro (fun g2 => ?_) fun g2 => ?_)
      · have e : scanSorted (ltO left) d b i = scanSorted (ltO left) d b (i + 1) := by rw [scanSorted, if_pos (by rw [g2, Bool.and_true]; exact decide_eq_true g)]
        rw [e] at k1 k2 k3
        exact ih _ h' (by omega) (by omega) (by omega) D' k1 k2 k3
      have e : scanSorted (ltO left) d b i = i := by rw [scanSorted, if_neg (by rw [g2]; simp)]
      rw [e] at k2 k3
      refine Br.no (by simp; omega) (Br.dec (fun g3 => Ret.mk (k2 (by omega) (by omega) h' D')) fun g3 => ?_)
      have k3 := k3 (by omega) (by omega)
      unfold fixDown at k3
      refine qFm (J := fun h => Br (decide (((i - a : Nat) : Int) ≥ 2)) (qb (some ⟨B, 0, none⟩) n c (a : Int) (b : Int) lp m lc (i : Int) (s : Int) ((i - 1 : Nat) : Int) h K) (Br (decide (IntKind.wrap .i64 ((b : Int) - (i : Int)) ≥ 2)) (qQ (some ⟨B, 0, none⟩) n c (a : Int) (b : Int) lp m lc (i : Int) (s : Int) ((i + 1 : Nat) : Int) h K) (qJ (some ⟨B, 0, none⟩) n c (a : Int) (b : Int) lp m lc (i : Int) ((s + 1 : Nat) : Int) h K))) D' e0 rfl rfl (by omega) (by omega) fun h1 D1 => ?_
      refine Br.dec (fun g4 => ?_) fun g4 => ?_
      · rw [if_pos (by omega)] at k3
        exact qYy e0 hm I hn hb hs (by omega) _ _ h1 (by omega) D1 k3
      · rw [if_neg (by omega)] at k3
        exact qRY e0 hm I hn hb hs (by omega) D1 k3
    · have e : scanSorted (ltO left) d b i = i := by rw [scanSorted, if_neg (by simp; omega)]
      rw [e] at k1
      exact Br.no (by simp; omega) (Br.yes (by simp; omega) (Ret.mk (k1 (by omega) h D)))
theorem qYx {a b : Nat} (hb : b ≤ n) : ∀ (q s i : Nat) (d : Array Int) (h : Heap), q + s = 5 → a < i → i ≤ b → Da g0 B m n sp h d →
    (∀ h', Da g0 B m n sp h' (partialIns (ltO left) a b q i d).1 → K (.bool (partialIns (ltO left) a b q i d).2) h') →
    qJ (some ⟨B, 0, none⟩) n c (a : Int) (b : Int) lp m lc (i : Int) (s : Int) h K := by
  intro q
  induction q with
  | zero =>
    intro s i d h hq ha hi D k
    refine qC1 _ _ _ _ _ _ _ _ _ _ _ _ ?_
    unfold qBO
    exact Br.no (by simp; omega) (Ret.mk (k h D))
  | succ q ih =>
    intro s i d h hq ha hi D k
    refine qC1 _ _ _ _ _ _ _ _ _ _ _ _ ?_
    unfold qBO
    rw [partialIns_succ] at k
    have hsc : i ≤ scanSorted (ltO left) d b i ∧ scanSorted (ltO left) d b i ≤ b := by
      clear k
      generalize hz : b - i = z
      induction z generalizing i with
      | zero => rw [scanSorted, if_neg (by simp; omega)]; omega
      | succ z ih2 =>
        rw [scanSorted]
        split
        · have := ih2 (i + 1) (by omega) (by omega) (by omega); omega
        · omega
    refine Br.yes (by simp; omega) (qY1 e0 hm I hn hb (by omega) _ _ h (Nat.le_refl _) ha hi D (fun g h' D' => ?_) (fun g g2 h' D' => ?_) fun g g2 h' D' => ?_)
    · rw [if_pos g] at k; exact k h' D'
    · rw [if_neg g, if_pos g2] at k; exact k h' D'
    · rw [if_neg g, if_neg g2] at k
      exact ih _ _ _ h' (by omega) (by omega) hsc.2 D' k
theorem qY2 {h : Heap} {d : Array Int} {a b : Nat} (hab : a < b) (hb : b ≤ n) (D : Da g0 B m n sp h d)
    (k : ∀ h', Da g0 B m n sp h' (partialInsertionSort (ltO left) d a b).1 → K (.bool (partialInsertionSort (ltO left) d a b).2) h') :
    CallA Tryz.prog qBe [slice (some ⟨B, 0, none⟩) n c, .int .i64 (a : Int), .int .i64 (b : Int), func (Fn.func qC) #[agg #[slice lp m lc]] #[]] h K := by
  refine qGp _ _ _ _ _ _ _ _ _ _ ?_
  unfold qDU
  rw [wp1 (by omega)]
  exact qYx e0 hm I hn hb 5 0 _ _ h rfl (by omega) (by omega) D k
end
end Go.Proofs.YtjihfieahkbohaaGreat
