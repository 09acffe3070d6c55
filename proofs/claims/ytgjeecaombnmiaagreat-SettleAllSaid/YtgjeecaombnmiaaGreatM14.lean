import Derived.Test.YtgjeecaombnmiaaGreatM04
import Derived.Test.YtgjeecaombnmiaaGreatM13
/- A list put in order: by insertion, by a heap; turned about. -/
namespace Go.Proofs.YtgjeecaombnmiaaGreat
open Go Go.Sy Go.Value Go.Sort
set_option linter.unusedVariables false
set_option linter.unusedSimpArgs false

theorem qDZ {j : Nat} (h : j ≤ 4000000000) : IntKind.wrap .i64 ((j : Int) + 1) = ((j + 1 : Nat) : Int) := by rw [qO (by omega) (by omega)]; omega
theorem qX4 {j : Nat} (h : j ≤ 4000000000) : IntKind.wrap .i64 (((j + 1 : Nat) : Int) - 1) = (j : Int) := by rw [qO (by omega) (by omega)]; omega
theorem qw {x : Int} (h1 : -4000000000 ≤ x) (h2 : x ≤ 40000000000) : IntKind.wrap .i64 x = x := qO (by omega) (by omega)

section
variable {g0 : Heap} {B m n c : Nat} {sp : List Value} {left : List En} {K : Value → Heap → Prop} (e0 : g0 B = none) (hm : left.length = m) (I : True) (hn : n ≤ 1000000)
include e0 hm I hn
/-! by insertion -/
theorem qWz {a b i : Nat} (hi : i < n) : ∀ (j : Nat) (h : Heap) (d : Array Int), DaE left g0 B m n sp h d → j ≤ i →
    (∀ h', DaE left g0 B m n sp h' (insInner (qR left) a j d) → qj (some ⟨B, 0, none⟩) n c (a : Int) (b : Int) ((i + 1 : Nat) : Int) h' K) →
    qv (some ⟨B, 0, none⟩) n c (a : Int) (b : Int) (i : Int) (j : Int) h K := by
  intro j
  induction j with
  | zero =>
    intro h d D hj k
    refine qB5 _ _ _ _ _ _ _ _ _ ?_
    unfold qAp
    rw [qDZ (by omega)]
    exact Br.no (by simp) (k h D)
  | succ j ih =>
    intro h d D hj k
    refine qB5 _ _ _ _ _ _ _ _ _ ?_
    unfold qAp
    rw [qDZ (by omega), qX4 (by omega)]
    rw [insInner] at k
    refine Br.dec (fun g => qMe D hm I rfl rfl (by omega) (by omega) fun h' D' => Br.intro (fun g2 => ?_) fun g2 => ?_) fun g => ?_
    · refine qC0 (J := fun h => qv (some ⟨B, 0, none⟩) n c (a : Int) (b : Int) (i : Int) (j : Int) h K) D' e0 rfl rfl (by omega) (by omega) fun h'' D'' => ih h'' _ D'' (by omega) ?_
      rw [if_pos (by rw [g2, Bool.and_true]; exact decide_eq_true (by omega))] at k
      exact k
    · rw [if_neg (by rw [g2]; simp)] at k
      exact k h' D'
    · rw [if_neg (by simp; omega)] at k
      exact k h D
theorem qUw {a b : Nat} (hb : b ≤ n) : ∀ (q i : Nat) (h : Heap) (d : Array Int), b - i ≤ q → DaE left g0 B m n sp h d →
    (∀ h', DaE left g0 B m n sp h' (insOuter (qR left) a b i d) → K (tuple #[]) h') → i ≤ 2000000 →
    qj (some ⟨B, 0, none⟩) n c (a : Int) (b : Int) (i : Int) h K := by
  intro q
  induction q with
  | zero =>
    intro i h d hq D k hi
    refine qAr _ _ _ _ _ _ _ _ ?_
    unfold qAA
    rw [insOuter, if_neg (by omega)] at k
    exact Br.no (by simp; omega) (Ret.mk (k h D))
  | succ q ih =>
    intro i h d hq D k hi
    refine qAr _ _ _ _ _ _ _ _ ?_
    unfold qAA
    rw [insOuter] at k
    refine Br.dec (fun g => qWz e0 hm I hn (by omega) i h d D (Nat.le_refl _) fun h' D' => ih (i + 1) h' _ (by omega) D' ?_ (by omega)) fun g => ?_
    · rw [if_pos (by omega)] at k; exact k
    · rw [if_neg (by omega)] at k; exact Ret.mk (k h D)
theorem qME {h : Heap} {d : Array Int} {a b : Nat} (ha : a ≤ n) (hb : b ≤ n) (D : DaE left g0 B m n sp h d) (k : ∀ h', DaE left g0 B m n sp h' (insertionSort (qR left) d a b) → K (tuple #[]) h') :
    CallA Tryz.prog qA0 [slice (some ⟨B, 0, none⟩) n c, .int .i64 (a : Int), .int .i64 (b : Int), func (Fn.func qC) #[] #[]] h K := by
  refine qCZ _ _ _ _ _ _ _ ?_
  unfold qAy
  rw [qDZ (by omega)]
  exact qUw e0 hm I hn hb _ _ _ _ (Nat.le_refl _) D k (by omega)
/-! by a heap -/
theorem qU6 {hi first : Nat} (hf : first + hi ≤ n) : ∀ (q root : Nat) (h : Heap) (d : Array Int), hi - root ≤ q → root ≤ 1000000 → DaE left g0 B m n sp h d →
    (∀ h', DaE left g0 B m n sp h' (siftDown (qR left) hi first root d) → K (tuple #[]) h') →
    qV (some ⟨B, 0, none⟩) n c (hi : Int) (first : Int) (root : Int) h K := by
  intro q
  induction q with
  | zero =>
    intro root h d hq hr D k
    refine qC4 _ _ _ _ _ _ _ _ ?_
    unfold qBH
    rw [siftDown, dif_pos (by omega)] at k
    rw [qw (x := 2 * (root : Int)) (by omega) (by omega), qw (x := 2 * (root : Int) + 1) (by omega) (by omega)]
    exact Br.yes (decide_eq_true (by omega)) (Ret.mk (k h D))
  | succ q ih =>
    intro root h d hq hr D k
    refine qC4 _ _ _ _ _ _ _ _ ?_
    unfold qBH
    have w1 : IntKind.wrap .i64 (2 * (root : Int)) = ((2 * root : Nat) : Int) := by rw [qw (by omega) (by omega)]; omega
    have w2 : IntKind.wrap .i64 (((2 * root : Nat) : Int) + 1) = ((2 * root + 1 : Nat) : Int) := by rw [qw (by omega) (by omega)]; omega
    have w3 : IntKind.wrap .i64 (((2 * root + 1 : Nat) : Int) + 1) = ((2 * root + 2 : Nat) : Int) := by rw [qw (by omega) (by omega)]; omega
    have w4 : IntKind.wrap .i64 ((first : Int) + ((2 * root + 1 : Nat) : Int)) = ((first + (2 * root + 1) : Nat) : Int) := by rw [qw (by omega) (by omega)]; omega
    have w5 : IntKind.wrap .i64 ((first : Int) + ((2 * root + 2 : Nat) : Int)) = ((first + (2 * root + 2) : Nat) : Int) := by rw [qw (by omega) (by omega)]; omega
    have w6 : IntKind.wrap .i64 (((first + (2 * root + 1) : Nat) : Int) + 1) = ((first + (2 * root + 1) + 1 : Nat) : Int) := by rw [qw (by omega) (by omega)]; omega
    have w7 : IntKind.wrap .i64 ((first : Int) + (root : Int)) = ((first + root : Nat) : Int) := by rw [qw (by omega) (by omega)]; omega
    rw [w1, w2, w3, w4, w5, w6, w7]
    rw [siftDown] at k
    have low : ∀ (h : Heap), DaE left g0 B m n sp h d → 2 * root + 1 < hi →
        (∀ h', DaE left g0 B m n sp h' (if !qR left d[first + root]! d[first + (2 * root + 1)]! then d else siftDown (qR left) hi first (2 * root + 1) (swp d (first + root) (first + (2 * root + 1)))) → K (tuple #[]) h') →
        ∀ h', DaE left g0 B m n sp h' d → Br (!qR left d[first + root]! d[first + (2 * root + 1)]!) (Ret h' K (tuple #[])) (∀ h'', DaE left g0 B m n sp h'' (swp d (first + root) (first + (2 * root + 1))) → qV (some ⟨B, 0, none⟩) n c (hi : Int) (first : Int) ((2 * root + 1 : Nat) : Int) h'' K) := by
      intro h D g k h' D'
      refine Br.intro (fun g2 => ?_) fun g2 => fun h'' D'' => ?_
      · rw [if_pos g2] at k; exact Ret.mk (k h' D')
      · rw [if_neg (by rw [g2]; simp)] at k
        exact ih _ h'' _ (by omega) (by omega) D'' k
    refine Br.dec (fun g => ?_) fun g => ?_
    · rw [dif_pos (by omega)] at k
      exact Ret.mk (k h D)
    rw [dif_neg (by omega)] at k
    refine Br.dec (fun g1 => qMe D hm I rfl rfl (by omega) (by omega) fun h' D' => Br.intro (fun g2 => ?_) fun g2 => ?_) fun g1 => ?_
    · rw [if_pos (by rw [g2, Bool.and_true]; exact decide_eq_true (by omega))] at k
      refine qGN D' hm I rfl rfl (by omega) (by omega) fun h2 D2 => Br.intro (fun g3 => ?_) fun g3 => ?_
      · rw [if_pos g3] at k; exact Ret.mk (k h2 D2)
      rw [if_neg (by rw [g3]; simp), dif_pos (by omega)] at k
      exact qC0 (J := fun h => qV (some ⟨B, 0, none⟩) n c (hi : Int) (first : Int) ((2 * root + 2 : Nat) : Int) h K) D2 e0 rfl rfl (by omega) (by omega) fun h3 D3 => ih _ h3 _ (by omega) (by omega) D3 k
    · rw [if_neg (by rw [g2, Bool.and_false]; simp)] at k
      refine qGN D' hm I rfl rfl (by omega) (by omega) fun h2 D2 => Br.intro (fun g3 => ?_) fun g3 => ?_
      · rw [if_pos g3] at k; exact Ret.mk (k h2 D2)
      rw [if_neg (by rw [g3]; simp)] at k
      exact qC0 (J := fun h => qV (some ⟨B, 0, none⟩) n c (hi : Int) (first : Int) ((2 * root + 1 : Nat) : Int) h K) D2 e0 rfl rfl (by omega) (by omega) fun h3 D3 => ih _ h3 _ (by omega) (by omega) D3 k
    · rw [if_neg (by rw [decide_eq_false (by omega)]; simp)] at k
      refine qGN D hm I rfl rfl (by omega) (by omega) fun h2 D2 => Br.intro (fun g3 => ?_) fun g3 => ?_
      · rw [if_pos g3] at k; exact Ret.mk (k h2 D2)
      rw [if_neg (by rw [g3]; simp)] at k
      exact qC0 (J := fun h => qV (some ⟨B, 0, none⟩) n c (hi : Int) (first : Int) ((2 * root + 1 : Nat) : Int) h K) D2 e0 rfl rfl (by omega) (by omega) fun h3 D3 => ih _ h3 _ (by omega) (by omega) D3 k
theorem qR5 {h : Heap} {d : Array Int} {lo hi first : Nat} (hf : first + hi ≤ n) (hl : lo ≤ 1000000) (D : DaE left g0 B m n sp h d) (k : ∀ h', DaE left g0 B m n sp h' (siftDown (qR left) hi first lo d) → K (tuple #[]) h') :
    CallA Tryz.prog qAg [slice (some ⟨B, 0, none⟩) n c, .int .i64 (lo : Int), .int .i64 (hi : Int), .int .i64 (first : Int), func (Fn.func qC) #[] #[]] h K := by
  refine qGD _ _ _ _ _ _ _ _ ?_
  unfold qDL
  exact qU6 e0 hm I hn hf _ _ _ _ (Nat.le_refl _) hl D k
theorem qTt {first : Nat} : ∀ (q : Nat) (h : Heap) (d : Array Int), first + q ≤ n → DaE left g0 B m n sp h d →
    (∀ h', DaE left g0 B m n sp h' (heapPop (qR left) first q d) → K (tuple #[]) h') →
    q8 (some ⟨B, 0, none⟩) n c (first : Int) 0 ((q : Int) - 1) h K := by
  intro q
  induction q with
  | zero =>
    intro h d hf D k
    refine qC2 _ _ _ _ _ _ _ _ ?_
    unfold qBI
    exact Br.no (by decide) (Ret.mk (k h D))
  | succ q ih =>
    intro h d hf D k
    refine qC2 _ _ _ _ _ _ _ _ ?_
    unfold qBI
    have w0 : (((q + 1 : Nat) : Int) - 1) = (q : Int) := by omega
    have w1 : IntKind.wrap .i64 ((first : Int) + (q : Int)) = ((first + q : Nat) : Int) := by rw [qw (by omega) (by omega)]; omega
    have w2 : IntKind.wrap .i64 ((q : Int) - 1) = (q : Int) - 1 := qw (by omega) (by omega)
    rw [w0, w1, w2]
    rw [heapPop] at k
    refine Br.yes (decide_eq_true (by omega)) (qC0 (J := fun h => CallA Tryz.prog qAg [slice (some ⟨B, 0, none⟩) n c, .int .i64 0, .int .i64 (q : Int), .int .i64 (first : Int), func (Fn.func qC) #[] #[]] h fun v h => v = tuple #[] ∧ q8 (some ⟨B, 0, none⟩) n c (first : Int) 0 ((q : Int) - 1) h K) D e0 rfl rfl (by omega) (by omega) fun h1 D1 => ?_)
    exact qR5 (lo := 0) e0 hm I hn (by omega) (by omega) D1 fun h2 D2 => ⟨rfl, ih h2 _ (by omega) D2 k⟩
theorem qRU {first hi : Nat} (hf : first + hi ≤ n) : ∀ (q : Nat) (h : Heap) (d : Array Int), q ≤ 1000000 → DaE left g0 B m n sp h d →
    (∀ h', DaE left g0 B m n sp h' (heapPop (qR left) first hi (heapBuild (qR left) hi first q d)) → K (tuple #[]) h') →
    qAb (some ⟨B, 0, none⟩) n c (first : Int) 0 (hi : Int) ((q : Int) - 1) h K := by
  intro q
  induction q with
  | zero =>
    intro h d hq D k
    refine qC1 _ _ _ _ _ _ _ _ _ ?_
    unfold qBG
    rw [qw (x := (hi : Int) - 1) (by omega) (by omega)]
    rw [heapBuild] at k
    exact Br.no (by decide) (qTt e0 hm I hn _ _ _ hf D k)
  | succ q ih =>
    intro h d hq D k
    refine qC1 _ _ _ _ _ _ _ _ _ ?_
    unfold qBG
    have w0 : (((q + 1 : Nat) : Int) - 1) = (q : Int) := by omega
    have w2 : IntKind.wrap .i64 ((q : Int) - 1) = (q : Int) - 1 := qw (by omega) (by omega)
    rw [w0, w2]
    rw [heapBuild] at k
    refine Br.yes (decide_eq_true (by omega)) ?_
    exact qR5 (lo := q) e0 hm I hn hf (by omega) D fun h2 D2 => ⟨rfl, ih h2 _ (by omega) D2 k⟩
theorem qWw {h : Heap} {d : Array Int} {a b : Nat} (hab : a < b) (hb : b ≤ n) (D : DaE left g0 B m n sp h d) (k : ∀ h', DaE left g0 B m n sp h' (heapSort (qR left) d a b) → K (tuple #[]) h') :
    CallA Tryz.prog qBZ [slice (some ⟨B, 0, none⟩) n c, .int .i64 (a : Int), .int .i64 (b : Int), func (Fn.func qC) #[] #[]] h K := by
  refine qGC _ _ _ _ _ _ _ ?_
  unfold qDF
  have w1 : IntKind.wrap .i64 ((b : Int) - (a : Int)) = ((b - a : Nat) : Int) := by rw [qw (by omega) (by omega)]; omega
  have w2 : IntKind.wrap .i64 (((b - a : Nat) : Int) - 1) = ((b - a - 1 : Nat) : Int) := by rw [qw (by omega) (by omega)]; omega
  have w3 : Int.tdiv ((b - a - 1 : Nat) : Int) 2 = (((b - a - 1) / 2 + 1 : Nat) : Int) - 1 := by
    rw [Int.tdiv_eq_ediv_of_nonneg (by omega)]; omega
  rw [w1, w2, w3, qw (by omega) (by omega)]
  unfold heapSort at k
  exact qRU e0 hm I hn (by omega) _ _ _ (by omega) D k
/-! turned about -/
omit hm I in
theorem qWq : ∀ (q i j : Nat) (h : Heap) (d : Array Int), j - i ≤ q → i ≤ 1000000 → j < n → DaE left g0 B m n sp h d →
    (∀ h', DaE left g0 B m n sp h' (reverseLoop i j d) → K (tuple #[]) h') →
    qx (some ⟨B, 0, none⟩) n c (i : Int) (j : Int) h K := by
  intro q
  induction q with
  | zero =>
    intro i j h d hq hi hj D k
    refine qCH _ _ _ _ _ _ _ ?_
    unfold qAu
    rw [reverseLoop, if_neg (by omega)] at k
    exact Br.no (decide_eq_false (by omega)) (Ret.mk (k h D))
  | succ q ih =>
    intro i j h d hq hi hj D k
    refine qCH _ _ _ _ _ _ _ ?_
    unfold qAu
    rw [reverseLoop] at k
    refine Br.dec (fun g => ?_) fun g => ?_
    · rw [if_pos (by omega)] at k
      have w2 : IntKind.wrap .i64 ((j : Int) - 1) = ((j - 1 : Nat) : Int) := by rw [qw (by omega) (by omega)]; omega
      rw [qDZ (by omega), w2]
      exact qC0 (J := fun h => qx (some ⟨B, 0, none⟩) n c ((i + 1 : Nat) : Int) ((j - 1 : Nat) : Int) h K) D e0 rfl rfl (by omega) (by omega) fun h1 D1 => ih _ _ h1 _ (by omega) (by omega) (by omega) D1 k
    · rw [if_neg (by omega)] at k
      exact Ret.mk (k h D)
omit hm I in
theorem qSW {h : Heap} {d : Array Int} {a b : Nat} (hab : a < b) (hb : b ≤ n) (D : DaE left g0 B m n sp h d) (k : ∀ h', DaE left g0 B m n sp h' (reverseRange d a b) → K (tuple #[]) h') :
    CallA Tryz.prog qA6 [slice (some ⟨B, 0, none⟩) n c, .int .i64 (a : Int), .int .i64 (b : Int), func (Fn.func qC) #[] #[]] h K := by
  refine qFN _ _ _ _ _ _ _ ?_
  unfold qCe
  have w2 : IntKind.wrap .i64 ((b : Int) - 1) = ((b - 1 : Nat) : Int) := by rw [qw (by omega) (by omega)]; omega
  rw [w2]
  exact qWq e0 hn _ _ _ _ _ (Nat.le_refl _) (by omega) (by omega) D k
end
end Go.Proofs.YtgjeecaombnmiaaGreat

/- A list parted by a pivot, or tried to be put in order by few steps. -/
namespace Go.Proofs.YtgjeecaombnmiaaGreat
open Go Go.Sy Go.Value Go.Sort
set_option linter.unusedVariables false
set_option linter.unusedSimpArgs false

theorem qMh {α : Type} [Inhabited α] {p : α → Bool} {d : Array α} {j i : Nat} (h : i ≤ j) (hp : p d[i]! = true) : scanUp p d j i = scanUp p d j (i + 1) := by
  rw [scanUp, if_pos (by rw [hp, Bool.and_true]; exact decide_eq_true h)]
theorem qDo {α : Type} [Inhabited α] {p : α → Bool} {d : Array α} {j i : Nat} (h : ¬ (i ≤ j ∧ p d[i]! = true)) : scanUp p d j i = i := by
  rw [scanUp, if_neg (by rw [Bool.and_eq_true, decide_eq_true_eq]; exact h)]
theorem qKM {α : Type} [Inhabited α] {p : α → Bool} {d : Array α} {j i : Nat} (h : i ≤ j) (h1 : 1 ≤ i) (hp : p d[j]! = true) : scanDown p d i j = scanDown p d i (j - 1) := by
  cases j with
  | zero => omega
  | succ j => rw [scanDown, if_pos (by rw [hp, Bool.and_true]; exact decide_eq_true h)]; rfl
theorem qC9 {α : Type} [Inhabited α] {p : α → Bool} {d : Array α} {j i : Nat} (h : ¬ (i ≤ j ∧ p d[j]! = true)) : scanDown p d i j = j := by
  cases j with
  | zero => rw [scanDown]
  | succ j => rw [scanDown, if_neg (by rw [Bool.and_eq_true, decide_eq_true_eq]; exact h)]
theorem qHJ {α : Type} [Inhabited α] {p : α → Bool} {d : Array α} {j i n : Nat} (h : i ≤ n) (hj : j < n) : scanUp p d j i ≤ n := by
  by_cases g : i ≤ j + 1
  · have := (scanUp_spec p d j _ i rfl).2.1 g; omega
  · rw [qDo (by omega)]; exact h

section
variable {g0 : Heap} {B m n c : Nat} {sp : List Value} {left : List En} {K : Value → Heap → Prop} (e0 : g0 B = none) (hm : left.length = m) (I : True) (hn : n ≤ 1000000)
include e0 hm I hn
/-! by partition -/
omit e0 in
theorem qWp {a j : Nat} {d : Array Int} (ha : a < n) (hj : j < n) : ∀ (q i : Nat) (h : Heap), j + 1 - i ≤ q → i ≤ n → DaE left g0 B m n sp h d →
    (∀ h', DaE left g0 B m n sp h' d → qr (some ⟨B, 0, none⟩) n c (a : Int) ((scanUp (fun x => qR left x d[a]!) d j i : Nat) : Int) (j : Int) h' K) →
    q7 (some ⟨B, 0, none⟩) n c (a : Int) (i : Int) (j : Int) h K := by
  intro q
  induction q with
  | zero =>
    intro i h hq hi D k
    refine qCk _ _ _ _ _ _ _ _ ?_
    unfold qBC
    rw [qDo (by omega)] at k
    exact Br.no (by simp; omega) (k h D)
  | succ q ih =>
    intro i h hq hi D k
    refine qCk _ _ _ _ _ _ _ _ ?_
    unfold qBC
    rw [qDZ (by omega)]
    refine Br.dec (fun g => qMe D hm I rfl rfl (by omega) (by omega) fun h' D' => Br.intro (fun g2 => ?_) fun g2 => ?_) fun g => ?_
    · rw [qMh (by omega) (by exact g2)] at k
      exact ih _ h' (by omega) (by omega) D' k
    · rw [qDo (fun x => by rw [g2] at x; exact absurd x.2 (by decide))] at k
      exact k h' D'
    · rw [qDo (by omega)] at k
      exact k h D
omit e0 in
theorem qR3 {a j : Nat} {d : Array Int} (ha : a < n) (hj : j < n) : ∀ (q i : Nat) (h : Heap), j + 1 - i ≤ q → i ≤ n → DaE left g0 B m n sp h d →
    (∀ h', DaE left g0 B m n sp h' d → qt (some ⟨B, 0, none⟩) n c (a : Int) ((scanUp (fun x => qR left x d[a]!) d j i : Nat) : Int) (j : Int) h' K) →
    qAY (some ⟨B, 0, none⟩) n c (a : Int) (i : Int) (j : Int) h K := by
  intro q
  induction q with
  | zero =>
    intro i h hq hi D k
    refine qCp _ _ _ _ _ _ _ _ ?_
    unfold qBD
    rw [qDo (by omega)] at k
    exact Br.no (by simp; omega) (k h D)
  | succ q ih =>
    intro i h hq hi D k
    refine qCp _ _ _ _ _ _ _ _ ?_
    unfold qBD
    rw [qDZ (by omega)]
    refine Br.dec (fun g => qMe D hm I rfl rfl (by omega) (by omega) fun h' D' => Br.intro (fun g2 => ?_) fun g2 => ?_) fun g => ?_
    · rw [qMh (by omega) (by exact g2)] at k
      exact ih _ h' (by omega) (by omega) D' k
    · rw [qDo (fun x => by rw [g2] at x; exact absurd x.2 (by decide))] at k
      exact k h' D'
    · rw [qDo (by omega)] at k
      exact k h D
theorem qW9 {a i : Nat} {d : Array Int} (ha : a < i) (hi : i ≤ n) : ∀ (q j : Nat) (h : Heap), j ≤ q → j < n → a ≤ j → DaE left g0 B m n sp h d →
    (i > scanDown (fun x => !qR left x d[a]!) d i j → ∀ h', DaE left g0 B m n sp h' (swp d (scanDown (fun x => !qR left x d[a]!) d i j) a) → K (tuple #[.int .i64 ((scanDown (fun x => !qR left x d[a]!) d i j : Nat) : Int), .bool true]) h') →
    (¬ i > scanDown (fun x => !qR left x d[a]!) d i j → ∀ h', DaE left g0 B m n sp h' (swp d i (scanDown (fun x => !qR left x d[a]!) d i j)) →
      qU (some ⟨B, 0, none⟩) n c (a : Int) ((i + 1 : Nat) : Int) ((scanDown (fun x => !qR left x d[a]!) d i j - 1 : Nat) : Int) h' K) →
    qr (some ⟨B, 0, none⟩) n c (a : Int) (i : Int) (j : Int) h K := by
  intro q
  induction q with
  | zero =>
    intro j h hq hj haj D k1 k2
    refine qCo _ _ _ _ _ _ _ _ ?_
    unfold qBA
    rw [qC9 (by omega)] at k1
    exact Br.no (by simp; omega) (Br.yes (by simp; omega) (qC0 (J := fun h => Ret h K (tuple #[.int .i64 (j : Int), .bool true])) D e0 rfl rfl (by omega) (by omega) fun h1 D1 => Ret.mk (k1 (by omega) h1 D1)))
  | succ q ih =>
    intro j h hq hj haj D k1 k2
    refine qCo _ _ _ _ _ _ _ _ ?_
    unfold qBA
    by_cases g : i ≤ j
    · have w2 : IntKind.wrap .i64 ((j : Int) - 1) = ((j - 1 : Nat) : Int) := by rw [qw (by omega) (by omega)]; omega
      rw [qDZ (by omega), w2]
      refine Br.yes (by simp; omega) (qGN D hm I rfl rfl (by omega) (by omega) fun h' D' => Br.intro (fun g2 => ?_) fun g2 => ?_)
      · rw [qKM g (by omega) (by exact g2)] at k1 k2
        exact ih _ h' (by omega) (by omega) (by omega) D' k1 k2
      · rw [qC9 (fun x => by rw [g2] at x; exact absurd x.2 (by decide))] at k1 k2
        exact Br.no (by simp; omega) (qC0 (J := fun h => qU (some ⟨B, 0, none⟩) n c (a : Int) ((i + 1 : Nat) : Int) ((j - 1 : Nat) : Int) h K) D' e0 rfl rfl (by omega) (by omega) fun h1 D1 => k2 (by omega) h1 D1)
    · rw [qC9 (by omega)] at k1
      exact Br.no (by simp; omega) (Br.yes (by simp; omega) (qC0 (J := fun h => Ret h K (tuple #[.int .i64 (j : Int), .bool true])) D e0 rfl rfl (by omega) (by omega) fun h1 D1 => Ret.mk (k1 (by omega) h1 D1)))
theorem qRs {a i : Nat} {d : Array Int} (ha : a < i) (hi : i ≤ n) : ∀ (q j : Nat) (h : Heap), j ≤ q → j < n → a ≤ j → DaE left g0 B m n sp h d →
    (i > scanDown (fun x => !qR left x d[a]!) d i j → ∀ h', DaE left g0 B m n sp h' (swp d (scanDown (fun x => !qR left x d[a]!) d i j) a) → K (tuple #[.int .i64 ((scanDown (fun x => !qR left x d[a]!) d i j : Nat) : Int), .bool false]) h') →
    (¬ i > scanDown (fun x => !qR left x d[a]!) d i j → ∀ h', DaE left g0 B m n sp h' (swp d i (scanDown (fun x => !qR left x d[a]!) d i j)) →
      qU (some ⟨B, 0, none⟩) n c (a : Int) ((i + 1 : Nat) : Int) ((scanDown (fun x => !qR left x d[a]!) d i j - 1 : Nat) : Int) h' K) →
    qt (some ⟨B, 0, none⟩) n c (a : Int) (i : Int) (j : Int) h K := by
  intro q
  induction q with
  | zero =>
    intro j h hq hj haj D k1 k2
    refine qCl _ _ _ _ _ _ _ _ ?_
    unfold qBB
    rw [qC9 (by omega)] at k1
    exact Br.no (by simp; omega) (Br.yes (by simp; omega) (qC0 (J := fun h => Ret h K (tuple #[.int .i64 (j : Int), .bool false])) D e0 rfl rfl (by omega) (by omega) fun h1 D1 => Ret.mk (k1 (by omega) h1 D1)))
  | succ q ih =>
    intro j h hq hj haj D k1 k2
    refine qCl _ _ _ _ _ _ _ _ ?_
    unfold qBB
    by_cases g : i ≤ j
    · have w2 : IntKind.wrap .i64 ((j : Int) - 1) = ((j - 1 : Nat) : Int) := by rw [qw (by omega) (by omega)]; omega
      rw [qDZ (by omega), w2]
      refine Br.yes (by simp; omega) (qGN D hm I rfl rfl (by omega) (by omega) fun h' D' => Br.intro (fun g2 => ?_) fun g2 => ?_)
      · rw [qKM g (by omega) (by exact g2)] at k1 k2
        exact ih _ h' (by omega) (by omega) (by omega) D' k1 k2
      · rw [qC9 (fun x => by rw [g2] at x; exact absurd x.2 (by decide))] at k1 k2
        exact Br.no (by simp; omega) (qC0 (J := fun h => qU (some ⟨B, 0, none⟩) n c (a : Int) ((i + 1 : Nat) : Int) ((j - 1 : Nat) : Int) h K) D' e0 rfl rfl (by omega) (by omega) fun h1 D1 => k2 (by omega) h1 D1)
    · rw [qC9 (by omega)] at k1
      exact Br.no (by simp; omega) (Br.yes (by simp; omega) (qC0 (J := fun h => Ret h K (tuple #[.int .i64 (j : Int), .bool false])) D e0 rfl rfl (by omega) (by omega) fun h1 D1 => Ret.mk (k1 (by omega) h1 D1)))
theorem qWT {a : Nat} : ∀ (q i j : Nat) (d : Array Int) (h : Heap), j + 1 - i ≤ q → a < i → i ≤ n → a ≤ j → j < n → DaE left g0 B m n sp h d →
    (∀ h', DaE left g0 B m n sp h' (swp (partLoop (qR left) a i j d).2 (partLoop (qR left) a i j d).1 a) → K (tuple #[.int .i64 (((partLoop (qR left) a i j d).1 : Nat) : Int), .bool false]) h') →
    qU (some ⟨B, 0, none⟩) n c (a : Int) (i : Int) (j : Int) h K := by
  intro q
  induction q with
  | zero =>
    intro i j d h hq ha hij haj hj D k
    refine qCm _ _ _ _ _ _ _ _ ?_
    unfold qBE
    refine qR3 hm I hn (by omega) (by omega) _ _ h (Nat.le_refl _) (by omega) D fun h1 D1 => ?_
    have hu := scanUp_ge (fun x => qR left x d[a]!) d j i
    have hu2 := qHJ (p := fun x => qR left x d[a]!) (d := d) hij hj
    rw [partLoop_eq] at k
    refine qRs e0 hm I hn (by omega) (by omega) _ _ h1 (Nat.le_refl _) (by omega) (by omega) D1 (fun g h2 D2 => ?_) fun g h2 D2 => ?_
    · rw [if_pos g] at k; exact k h2 D2
    · have := scanDown_le (fun x => !qR left x d[a]!) d (scanUp (fun x => qR left x d[a]!) d j i) j
      omega
  | succ q ih =>
    intro i j d h hq ha hij haj hj D k
    refine qCm _ _ _ _ _ _ _ _ ?_
    unfold qBE
    refine qR3 hm I hn (by omega) (by omega) _ _ h (Nat.le_refl _) (by omega) D fun h1 D1 => ?_
    have hu := scanUp_ge (fun x => qR left x d[a]!) d j i
    have hu2 := qHJ (p := fun x => qR left x d[a]!) (d := d) hij hj
    rw [partLoop_eq] at k
    refine qRs e0 hm I hn (by omega) (by omega) _ _ h1 (Nat.le_refl _) (by omega) (by omega) D1 (fun g h2 D2 => ?_) fun g h2 D2 => ?_
    · rw [if_pos g] at k; exact k h2 D2
    · have hd := scanDown_le (fun x => !qR left x d[a]!) d (scanUp (fun x => qR left x d[a]!) d j i) j
      rw [if_neg g] at k
      exact ih _ _ _ h2 (by omega) (by omega) (by omega) (by omega) (by omega) D2 k
theorem qRK {h : Heap} {d : Array Int} {a b pivot : Nat} (hab : a + 1 < b) (hb : b ≤ n) (hp1 : a ≤ pivot) (hp2 : pivot < b) (D : DaE left g0 B m n sp h d)
    (k : ∀ h', DaE left g0 B m n sp h' (partition (qR left) d a b pivot).2.2 → K (tuple #[.int .i64 (((partition (qR left) d a b pivot).1 : Nat) : Int), .bool (partition (qR left) d a b pivot).2.1]) h') :
    CallA Tryz.prog qAd [slice (some ⟨B, 0, none⟩) n c, .int .i64 (a : Int), .int .i64 (b : Int), .int .i64 (pivot : Int), func (Fn.func qC) #[] #[]] h K := by
  refine qFx _ _ _ _ _ _ _ _ ?_
  unfold qC8
  have w2 : IntKind.wrap .i64 ((b : Int) - 1) = ((b - 1 : Nat) : Int) := by rw [qw (by omega) (by omega)]; omega
  rw [qDZ (by omega), w2]
  unfold partition at k
  dsimp only at k
  refine qC0 (J := fun h => q7 (some ⟨B, 0, none⟩) n c (a : Int) ((a + 1 : Nat) : Int) ((b - 1 : Nat) : Int) h K) D e0 rfl rfl (by omega) (by omega) fun h1 D1 => ?_
  generalize swp d a pivot = d1 at *
  refine qWp hm I hn (by omega) (by omega) _ _ h1 (Nat.le_refl _) (by omega) D1 fun h2 D2 => ?_
  have hu := scanUp_ge (fun x => qR left x d1[a]!) d1 (b - 1) (a + 1)
  have hu2 := qHJ (p := fun x => qR left x d1[a]!) (d := d1) (j := b - 1) (i := a + 1) (n := n) (by omega) (by omega)
  refine qW9 e0 hm I hn (by omega) (by omega) _ _ h2 (Nat.le_refl _) (by omega) (by omega) D2 (fun g h3 D3 => ?_) fun g h3 D3 => ?_
  · rw [if_pos g] at k; exact k h3 D3
  · have hd := scanDown_le (fun x => !qR left x d1[a]!) d1 (scanUp (fun x => qR left x d1[a]!) d1 (b - 1) (a + 1)) (b - 1)
    rw [if_neg g] at k
    exact qWT e0 hm I hn _ _ _ _ h3 (Nat.le_refl _) (by omega) (by omega) (by omega) (by omega) D3 k
/-! what is as great as the pivot -/
omit e0 in
theorem qWS {a j : Nat} {d : Array Int} (ha : a < n) (hj : j < n) : ∀ (q i : Nat) (h : Heap), j + 1 - i ≤ q → i ≤ n → DaE left g0 B m n sp h d →
    (∀ h', DaE left g0 B m n sp h' d → qg (some ⟨B, 0, none⟩) n c (a : Int) ((scanUp (fun x => !qR left d[a]! x) d j i : Nat) : Int) (j : Int) h' K) →
    qAB (some ⟨B, 0, none⟩) n c (a : Int) (i : Int) (j : Int) h K := by
  intro q
  induction q with
  | zero =>
    intro i h hq hi D k
    refine qBy _ _ _ _ _ _ _ _ ?_
    unfold qAl
    rw [qDo (by omega)] at k
    exact Br.no (by simp; omega) (k h D)
  | succ q ih =>
    intro i h hq hi D k
    refine qBy _ _ _ _ _ _ _ _ ?_
    unfold qAl
    rw [qDZ (by omega)]
    refine Br.dec (fun g => qGN D hm I rfl rfl (by omega) (by omega) fun h' D' => Br.intro (fun g2 => ?_) fun g2 => ?_) fun g => ?_
    · rw [qMh (by omega) (by exact g2)] at k
      exact ih _ h' (by omega) (by omega) D' k
    · rw [qDo (fun x => by rw [g2] at x; exact absurd x.2 (by decide))] at k
      exact k h' D'
    · rw [qDo (by omega)] at k
      exact k h D
theorem qWH {a i : Nat} {d : Array Int} (ha : a < i) (hi : i ≤ n) : ∀ (q j : Nat) (h : Heap), j ≤ q → j < n → a ≤ j → DaE left g0 B m n sp h d →
    (i > scanDown (fun x => qR left d[a]! x) d i j → ∀ h', DaE left g0 B m n sp h' d → K (.int .i64 (i : Int)) h') →
    (¬ i > scanDown (fun x => qR left d[a]! x) d i j → ∀ h', DaE left g0 B m n sp h' (swp d i (scanDown (fun x => qR left d[a]! x) d i j)) →
      qZ (some ⟨B, 0, none⟩) n c (a : Int) ((i + 1 : Nat) : Int) ((scanDown (fun x => qR left d[a]! x) d i j - 1 : Nat) : Int) h' K) →
    qg (some ⟨B, 0, none⟩) n c (a : Int) (i : Int) (j : Int) h K := by
  intro q
  induction q with
  | zero =>
    intro j h hq hj haj D k1 k2
    refine qBz _ _ _ _ _ _ _ _ ?_
    unfold qAm
    rw [qC9 (by omega)] at k1
    exact Br.no (by simp; omega) (Br.yes (by simp; omega) (Ret.mk (k1 (by omega) h D)))
  | succ q ih =>
    intro j h hq hj haj D k1 k2
    refine qBz _ _ _ _ _ _ _ _ ?_
    unfold qAm
    by_cases g : i ≤ j
    · have w2 : IntKind.wrap .i64 ((j : Int) - 1) = ((j - 1 : Nat) : Int) := by rw [qw (by omega) (by omega)]; omega
      rw [qDZ (by omega), w2]
      refine Br.yes (by simp; omega) (qMe D hm I rfl rfl (by omega) (by omega) fun h' D' => Br.intro (fun g2 => ?_) fun g2 => ?_)
      · rw [qKM g (by omega) (by exact g2)] at k1 k2
        exact ih _ h' (by omega) (by omega) (by omega) D' k1 k2
      · rw [qC9 (fun x => by rw [g2] at x; exact absurd x.2 (by decide))] at k1 k2
        exact Br.no (by simp; omega) (qC0 (J := fun h => qZ (some ⟨B, 0, none⟩) n c (a : Int) ((i + 1 : Nat) : Int) ((j - 1 : Nat) : Int) h K) D' e0 rfl rfl (by omega) (by omega) fun h1 D1 => k2 (by omega) h1 D1)
    · rw [qC9 (by omega)] at k1
      exact Br.no (by simp; omega) (Br.yes (by simp; omega) (Ret.mk (k1 (by omega) h D)))
theorem qYu {a : Nat} : ∀ (q i j : Nat) (d : Array Int) (h : Heap), j + 1 - i ≤ q → a < i → i ≤ n → a ≤ j → j < n → DaE left g0 B m n sp h d →
    (∀ h', DaE left g0 B m n sp h' (partEqLoop (qR left) a i j d).2 → K (.int .i64 (((partEqLoop (qR left) a i j d).1 : Nat) : Int)) h') →
    qZ (some ⟨B, 0, none⟩) n c (a : Int) (i : Int) (j : Int) h K := by
  intro q
  induction q with
  | zero =>
    intro i j d h hq ha hij haj hj D k
    refine qBx _ _ _ _ _ _ _ _ ?_
    unfold qAk
    refine qWS hm I hn (by omega) (by omega) _ _ h (Nat.le_refl _) (by omega) D fun h1 D1 => ?_
    have hu := scanUp_ge (fun x => !qR left d[a]! x) d j i
    have hu2 := qHJ (p := fun x => !qR left d[a]! x) (d := d) hij hj
    rw [partEqLoop_eq] at k
    refine qWH e0 hm I hn (by omega) (by omega) _ _ h1 (Nat.le_refl _) (by omega) (by omega) D1 (fun g h2 D2 => ?_) fun g h2 D2 => ?_
    · rw [if_pos g] at k; exact k h2 D2
    · have := scanDown_le (fun x => qR left d[a]! x) d (scanUp (fun x => !qR left d[a]! x) d j i) j
      omega
  | succ q ih =>
    intro i j d h hq ha hij haj hj D k
    refine qBx _ _ _ _ _ _ _ _ ?_
    unfold qAk
    refine qWS hm I hn (by omega) (by omega) _ _ h (Nat.le_refl _) (by omega) D fun h1 D1 => ?_
    have hu := scanUp_ge (fun x => !qR left d[a]! x) d j i
    have hu2 := qHJ (p := fun x => !qR left d[a]! x) (d := d) hij hj
    rw [partEqLoop_eq] at k
    refine qWH e0 hm I hn (by omega) (by omega) _ _ h1 (Nat.le_refl _) (by omega) (by omega) D1 (fun g h2 D2 => ?_) fun g h2 D2 => ?_
    · rw [if_pos g] at k; exact k h2 D2
    · have hd := scanDown_le (fun x => qR left d[a]! x) d (scanUp (fun x => !qR left d[a]! x) d j i) j
      rw [if_neg g] at k
      exact ih _ _ _ h2 (by omega) (by omega) (by omega) (by omega) (by omega) D2 k
theorem qM9 {h : Heap} {d : Array Int} {a b pivot : Nat} (hab : a + 1 < b) (hb : b ≤ n) (hp1 : a ≤ pivot) (hp2 : pivot < b) (D : DaE left g0 B m n sp h d)
    (k : ∀ h', DaE left g0 B m n sp h' (partitionEqual (qR left) d a b pivot).2 → K (.int .i64 (((partitionEqual (qR left) d a b pivot).1 : Nat) : Int)) h') :
    CallA Tryz.prog qCJ [slice (some ⟨B, 0, none⟩) n c, .int .i64 (a : Int), .int .i64 (b : Int), .int .i64 (pivot : Int), func (Fn.func qC) #[] #[]] h K := by
  refine qEr _ _ _ _ _ _ _ _ ?_
  unfold qCD
  have w2 : IntKind.wrap .i64 ((b : Int) - 1) = ((b - 1 : Nat) : Int) := by rw [qw (by omega) (by omega)]; omega
  rw [qDZ (by omega), w2]
  unfold partitionEqual at k
  refine qC0 (J := fun h => qZ (some ⟨B, 0, none⟩) n c (a : Int) ((a + 1 : Nat) : Int) ((b - 1 : Nat) : Int) h K) D e0 rfl rfl (by omega) (by omega) fun h1 D1 => ?_
  exact qYu e0 hm I hn _ _ _ _ h1 (Nat.le_refl _) (by omega) (by omega) (by omega) (by omega) D1 k
/-! few steps -/
theorem qYD {a b i s : Nat} (hb : b ≤ n) (hs : s ≤ 100) : ∀ (q j : Nat) (d : Array Int) (h : Heap), b - j ≤ q → j ≤ n + 1 → 1 ≤ j → DaE left g0 B m n sp h d →
    (∀ h', DaE left g0 B m n sp h' (shiftUp (qR left) b j d) → qH (some ⟨B, 0, none⟩) n c (a : Int) (b : Int) (i : Int) ((s + 1 : Nat) : Int) h' K) →
    qM (some ⟨B, 0, none⟩) n c (a : Int) (b : Int) (i : Int) (s : Int) (j : Int) h K := by
  intro q
  induction q with
  | zero =>
    intro j d h hq hj h1 D k
    refine qBM _ _ _ _ _ _ _ _ _ _ ?_
    unfold qAQ
    rw [shiftUp, if_neg (by omega)] at k
    rw [qDZ (j := s) (by omega)]
    exact Br.no (by simp; omega) (k h D)
  | succ q ih =>
    intro j d h hq hj h1 D k
    refine qBM _ _ _ _ _ _ _ _ _ _ ?_
    unfold qAQ
    have w2 : IntKind.wrap .i64 ((j : Int) - 1) = ((j - 1 : Nat) : Int) := by rw [qw (by omega) (by omega)]; omega
    rw [qDZ (j := s) (by omega), qDZ (j := j) (by omega), w2]
    rw [shiftUp] at k
    refine Br.dec (fun g => qGN D hm I rfl rfl (by omega) (by omega) fun h' D' => Br.intro (fun g2 => ?_) fun g2 => ?_) fun g => ?_
    · rw [if_pos (by omega), if_pos g2] at k
      exact k h' D'
    · rw [if_pos (by omega), if_neg (by rw [g2]; decide)] at k
      exact qC0 (J := fun h => qM (some ⟨B, 0, none⟩) n c (a : Int) (b : Int) (i : Int) (s : Int) ((j + 1 : Nat) : Int) h K) D' e0 rfl rfl (by omega) (by omega) fun h1 D1 => ih _ _ h1 (by omega) (by omega) (by omega) D1 k
    · rw [if_neg (by omega)] at k
      exact k h D
theorem qOa {a b i s : Nat} (hb : b ≤ n) (hs : s ≤ 100) (hi : i ≤ n) {d : Array Int} {h : Heap} (D : DaE left g0 B m n sp h d)
    (k : ∀ h', DaE left g0 B m n sp h' (fixUp (qR left) b i d) → qH (some ⟨B, 0, none⟩) n c (a : Int) (b : Int) (i : Int) ((s + 1 : Nat) : Int) h' K) :
    Br (decide (IntKind.wrap .i64 ((b : Int) - (i : Int)) ≥ 2)) (qM (some ⟨B, 0, none⟩) n c (a : Int) (b : Int) (i : Int) (s : Int) ((i + 1 : Nat) : Int) h K)
      (qH (some ⟨B, 0, none⟩) n c (a : Int) (b : Int) (i : Int) ((s + 1 : Nat) : Int) h K) := by
  rw [qw (by omega) (by omega)]
  unfold fixUp at k
  refine Br.dec (fun g => ?_) fun g => ?_
  · rw [if_pos (by omega)] at k
    exact qYD e0 hm I hn hb hs _ _ _ h (Nat.le_refl _) (by omega) (by omega) D k
  · rw [if_neg (by omega)] at k
    exact k h D
theorem qYQ {a b i s : Nat} (hb : b ≤ n) (hs : s ≤ 100) (hi : i ≤ n) : ∀ (j : Nat) (d : Array Int) (h : Heap), j < n → DaE left g0 B m n sp h d →
    (∀ h', DaE left g0 B m n sp h' (fixUp (qR left) b i (shiftDown (qR left) j d)) → qH (some ⟨B, 0, none⟩) n c (a : Int) (b : Int) (i : Int) ((s + 1 : Nat) : Int) h' K) →
    qY (some ⟨B, 0, none⟩) n c (a : Int) (b : Int) (i : Int) (s : Int) (j : Int) h K := by
  intro j
  induction j with
  | zero =>
    intro d h hj D k
    refine qBJ _ _ _ _ _ _ _ _ _ _ ?_
    unfold qAM
    rw [shiftDown] at k
    rw [qDZ (j := s) (by omega), qDZ (j := i) (by omega)]
    exact Br.no (by simp) (qOa e0 hm I hn hb hs hi D k)
  | succ j ih =>
    intro d h hj D k
    refine qBJ _ _ _ _ _ _ _ _ _ _ ?_
    unfold qAM
    rw [qDZ (j := s) (by omega), qDZ (j := i) (by omega), qX4 (by omega)]
    rw [shiftDown] at k
    refine Br.yes (by simp; omega) (qGN D hm I rfl rfl (by omega) (by omega) fun h' D' => Br.intro (fun g2 => ?_) fun g2 => ?_)
    · rw [if_pos g2] at k
      exact qOa e0 hm I hn hb hs hi D' k
    · rw [if_neg (by rw [g2]; decide)] at k
      exact qC0 (J := fun h => qY (some ⟨B, 0, none⟩) n c (a : Int) (b : Int) (i : Int) (s : Int) (j : Int) h K) D' e0 rfl rfl (by omega) (by omega) fun h1 D1 => ih _ h1 (by omega) D1 k
theorem qX9 {a b s : Nat} (hb : b ≤ n) (hs : s ≤ 100) {d : Array Int} : ∀ (q i : Nat) (h : Heap), b - i ≤ q → a < i → i ≤ b → DaE left g0 B m n sp h d →
      (scanSorted (qR left) d b i = b → ∀ h', DaE left g0 B m n sp h' d → K (.bool true) h') →
      (scanSorted (qR left) d b i ≠ b → b - a < 50 → ∀ h', DaE left g0 B m n sp h' d → K (.bool false) h') →
      (scanSorted (qR left) d b i ≠ b → ¬ b - a < 50 → ∀ h', DaE left g0 B m n sp h' (fixUp (qR left) b (scanSorted (qR left) d b i) (fixDown (qR left) a (scanSorted (qR left) d b i) (swp d (scanSorted (qR left) d b i) (scanSorted (qR left) d b i - 1)))) →
        qH (some ⟨B, 0, none⟩) n c (a : Int) (b : Int) ((scanSorted (qR left) d b i : Nat) : Int) ((s + 1 : Nat) : Int) h' K) →
      qy (some ⟨B, 0, none⟩) n c (a : Int) (b : Int) (i : Int) (s : Int) h K := by
  intro q
  induction q with
  | zero =>
    intro i h hq ha hi D k1 k2 k3
    refine qBN _ _ _ _ _ _ _ _ _ ?_
    unfold qAJ
    have e : scanSorted (qR left) d b i = i := by rw [scanSorted, if_neg (by simp; omega)]
    rw [e] at k1
    exact Br.no (by simp; omega) (Br.yes (by simp; omega) (Ret.mk (k1 (by omega) h D)))
  | succ q ih =>
    intro i h hq ha hi D k1 k2 k3
    refine qBN _ _ _ _ _ _ _ _ _ ?_
    unfold qAJ
    by_cases g : i < b
    · have w2 : IntKind.wrap .i64 ((i : Int) - 1) = ((i - 1 : Nat) : Int) := by rw [qw (by omega) (by omega)]; omega
      have w3 : IntKind.wrap .i64 ((b : Int) - (a : Int)) = ((b - a : Nat) : Int) := by rw [qw (by omega) (by omega)]; omega
      have w4 : IntKind.wrap .i64 ((i : Int) - (a : Int)) = ((i - a : Nat) : Int) := by rw [qw (by omega) (by omega)]; omega
      rw [qDZ (j := s) (by omega), qDZ (j := i) (by omega), w2, w3, w4]
      refine Br.yes (by simp; omega) (qGN D hm I rfl rfl (by omega) (by omega) fun h' D' => Br.intro (fun g2 => ?_) fun g2 => ?_)
      · have e : scanSorted (qR left) d b i = scanSorted (qR left) d b (i + 1) := by rw [scanSorted, if_pos (by rw [g2, Bool.and_true]; exact decide_eq_true g)]
        rw [e] at k1 k2 k3
        exact ih _ h' (by omega) (by omega) (by omega) D' k1 k2 k3
      have e : scanSorted (qR left) d b i = i := by rw [scanSorted, if_neg (by rw [g2]; simp)]
      rw [e] at k2 k3
      refine Br.no (by simp; omega) (Br.dec (fun g3 => Ret.mk (k2 (by omega) (by omega) h' D')) fun g3 => ?_)
      have k3 := k3 (by omega) (by omega)
      unfold fixDown at k3
      refine qC0 (J := fun h => Br (decide (((i - a : Nat) : Int) ≥ 2)) (qY (some ⟨B, 0, none⟩) n c (a : Int) (b : Int) (i : Int) (s : Int) ((i - 1 : Nat) : Int) h K) (Br (decide (IntKind.wrap .i64 ((b : Int) - (i : Int)) ≥ 2)) (qM (some ⟨B, 0, none⟩) n c (a : Int) (b : Int) (i : Int) (s : Int) ((i + 1 : Nat) : Int) h K) (qH (some ⟨B, 0, none⟩) n c (a : Int) (b : Int) (i : Int) ((s + 1 : Nat) : Int) h K))) D' e0 rfl rfl (by omega) (by omega) fun h1 D1 => ?_
      refine Br.dec (fun g4 => ?_) fun g4 => ?_
      · rw [if_pos (by omega)] at k3
        exact qYQ e0 hm I hn hb hs (by omega) _ _ h1 (by omega) D1 k3
      · rw [if_neg (by omega)] at k3
        exact qOa e0 hm I hn hb hs (by omega) D1 k3
    · have e : scanSorted (qR left) d b i = i := by rw [scanSorted, if_neg (by simp; omega)]
      rw [e] at k1
      exact Br.no (by simp; omega) (Br.yes (by simp; omega) (Ret.mk (k1 (by omega) h D)))
theorem qXp {a b : Nat} (hb : b ≤ n) : ∀ (q s i : Nat) (d : Array Int) (h : Heap), q + s = 5 → a < i → i ≤ b → DaE left g0 B m n sp h d →
    (∀ h', DaE left g0 B m n sp h' (partialIns (qR left) a b q i d).1 → K (.bool (partialIns (qR left) a b q i d).2) h') →
    qH (some ⟨B, 0, none⟩) n c (a : Int) (b : Int) (i : Int) (s : Int) h K := by
  intro q
  induction q with
  | zero =>
    intro s i d h hq ha hi D k
    refine qBO _ _ _ _ _ _ _ _ _ ?_
    unfold qAL
    exact Br.no (by simp; omega) (Ret.mk (k h D))
  | succ q ih =>
    intro s i d h hq ha hi D k
    refine qBO _ _ _ _ _ _ _ _ _ ?_
    unfold qAL
    rw [partialIns_succ] at k
    have hsc : i ≤ scanSorted (qR left) d b i ∧ scanSorted (qR left) d b i ≤ b := by
      clear k
      generalize hz : b - i = z
      induction z generalizing i with
      | zero => rw [scanSorted, if_neg (by simp; omega)]; omega
      | succ z ih2 =>
        rw [scanSorted]
        split
        · have := ih2 (i + 1) (by omega) (by omega) (by omega); omega
        · omega
    refine Br.yes (by simp; omega) (qX9 e0 hm I hn hb (by omega) _ _ h (Nat.le_refl _) ha hi D (fun g h' D' => ?_) (fun g g2 h' D' => ?_) fun g g2 h' D' => ?_)
    · rw [if_pos g] at k; exact k h' D'
    · rw [if_neg g, if_pos g2] at k; exact k h' D'
    · rw [if_neg g, if_neg g2] at k
      exact ih _ _ _ h' (by omega) (by omega) hsc.2 D' k
theorem qX3 {h : Heap} {d : Array Int} {a b : Nat} (hab : a < b) (hb : b ≤ n) (D : DaE left g0 B m n sp h d)
    (k : ∀ h', DaE left g0 B m n sp h' (partialInsertionSort (qR left) d a b).1 → K (.bool (partialInsertionSort (qR left) d a b).2) h') :
    CallA Tryz.prog qAW [slice (some ⟨B, 0, none⟩) n c, .int .i64 (a : Int), .int .i64 (b : Int), func (Fn.func qC) #[] #[]] h K := by
  refine qEB _ _ _ _ _ _ _ ?_
  unfold qBb
  rw [qDZ (by omega)]
  exact qXp e0 hm I hn hb 5 0 _ _ h rfl (by omega) (by omega) D k
end
end Go.Proofs.YtgjeecaombnmiaaGreat

/- A list parted: by which pivot; patterns broken. -/
namespace Go.Proofs.YtgjeecaombnmiaaGreat
open Go Go.Sy Go.Value Go.Sort
set_option linter.unusedVariables false
set_option linter.unusedSimpArgs false

def qYg : ByteArray := (ByteArray.mk (List.toArray (List.append (List.append [0, 1, 2, 2, 3, 3, 3, 3, 4, 4, 4, 4, 4, 4, 4, 4, 5, 5, 5, 5, 5, 5, 5, 5, 5, 5, 5, 5, 5, 5, 5, 5, 6, 6, 6, 6, 6, 6, 6, 6, 6, 6, 6, 6, 6, 6, 6, 6, 6, 6, 6, 6, 6, 6, 6, 6, 6, 6, 6, 6, 6, 6, 6, 6] [7, 7, 7, 7, 7, 7, 7, 7, 7, 7, 7, 7, 7, 7, 7, 7, 7, 7, 7, 7, 7, 7, 7, 7, 7, 7, 7, 7, 7, 7, 7, 7, 7, 7, 7, 7, 7, 7, 7, 7, 7, 7, 7, 7, 7, 7, 7, 7, 7, 7, 7, 7, 7, 7, 7, 7, 7, 7, 7, 7, 7, 7, 7, 7]) (List.append [8, 8, 8, 8, 8, 8, 8, 8, 8, 8, 8, 8, 8, 8, 8, 8, 8, 8, 8, 8, 8, 8, 8, 8, 8, 8, 8, 8, 8, 8, 8, 8, 8, 8, 8, 8, 8, 8, 8, 8, 8, 8, 8, 8, 8, 8, 8, 8, 8, 8, 8, 8, 8, 8, 8, 8, 8, 8, 8, 8, 8, 8, 8, 8] [8, 8, 8, 8, 8, 8, 8, 8, 8, 8, 8, 8, 8, 8, 8, 8, 8, 8, 8, 8, 8, 8, 8, 8, 8, 8, 8, 8, 8, 8, 8, 8, 8, 8, 8, 8, 8, 8, 8, 8, 8, 8, 8, 8, 8, 8, 8, 8, 8, 8, 8, 8, 8, 8, 8, 8, 8, 8, 8, 8, 8, 8, 8, 8]))))
theorem qJo : ∀ y : Fin 256, qYg[y.val]? = some (UInt8.ofNat (bitsLen y.val)) ∧ bitsLen y.val ≤ 8 := by decide +kernel
section
variable {h : Heap} {K : Value → Heap → Prop}
theorem qVz {x : Nat} (hx : x < 256) (k : K (.int .i64 ((bitsLen x : Nat) : Int)) h) : CallA Tryz.prog qFs [.int .u64 (x : Int)] h K := by
  refine qM5 _ _ _ ?_
  unfold qII
  refine Br.no (by simp; omega) (Br.no (by simp; omega) (Br.no (by simp; omega) ?_))
  have w : IntKind.wrap .u8 (x : Int) = (x : Int) := by rw [qOe]; omega
  rw [w, Int.toNat_natCast]
  have g := qJo ⟨x, hx⟩
  dsimp only at g
  have t : (UInt8.ofNat (bitsLen x)).toNat = bitsLen x := by simp; omega
  refine ⟨by omega, _, g.1, Ret.mk ?_⟩
  rw [t, qw (x := ((bitsLen x : Nat) : Int)) (by omega) (by omega), Int.zero_add, qw (by omega) (by omega)]
  exact k
theorem qQ4 {x : Nat} (hx : x < 256) (k : K (.int .i64 ((bitsLen x : Nat) : Int)) h) : CallA Tryz.prog qEz [.int .u64 (x : Int)] h K := by
  refine qOM _ _ _ ?_
  unfold qJA
  exact qVz hx ⟨_, rfl, Ret.mk k⟩
theorem qSs {x : Nat} (hx : x < 256) (k : K (.int .u64 ((2 ^ bitsLen x : Nat) : Int)) h) : CallA Tryz.prog qDz [.int .i64 (x : Int)] h K := by
  refine qJb _ _ _ ?_
  unfold qFo
  have w : IntKind.wrap .u64 (x : Int) = (x : Int) := qCR (by omega) (by omega)
  rw [w]
  have g := (qJo ⟨x, hx⟩).2
  dsimp only at g
  refine qQ4 hx ⟨_, rfl, Br.yes (by simp) (Ret.mk ?_)⟩
  have e : (1 : Int) * 2 ^ min (Int.toNat ((bitsLen x : Nat) : Int)) 64 = ((2 ^ bitsLen x : Nat) : Int) := by
    rw [Int.toNat_natCast, Nat.min_eq_left (by omega), Int.one_mul]; simp
  have b : (2 ^ bitsLen x : Nat) ≤ 2 ^ 8 := Nat.pow_le_pow_right (by omega) g
  rw [e]
  generalize (2 ^ bitsLen x : Nat) = M at *
  rw [qCR (by omega) (by omega)]
  exact k
end
theorem qVa (y : Int) {M : Nat} (h1 : 1 ≤ M) (h2 : M ≤ 1024) : ∃ x : Nat, x < M ∧ IntKind.wrap .i64 (IntKind.wrap .u64 ((BitVec.toNat (BitVec.ofInt 64 y &&& BitVec.ofInt 64 (IntKind.wrap .u64 ((M : Int) - 1))) : Nat) : Int)) = (x : Int) := by
  refine ⟨BitVec.toNat (BitVec.ofInt 64 y &&& BitVec.ofInt 64 (IntKind.wrap .u64 ((M : Int) - 1))), ?_, ?_⟩
  · rw [qCR (by omega) (by omega), BitVec.toNat_and]
    have : (BitVec.ofInt 64 ((M : Int) - 1)).toNat = M - 1 := by rw [BitVec.toNat_ofInt]; omega
    rw [this]
    have := @Nat.and_le_right (BitVec.ofInt 64 y).toNat (M - 1)
    omega
  · rw [qCR (n := ((M : Int) - 1)) (by omega) (by omega)]
    have h3 : BitVec.toNat (BitVec.ofInt 64 y &&& BitVec.ofInt 64 ((M : Int) - 1)) ≤ M - 1 := by
      rw [BitVec.toNat_and]
      have : (BitVec.ofInt 64 ((M : Int) - 1)).toNat = M - 1 := by rw [BitVec.toNat_ofInt]; omega
      rw [this]
      exact Nat.and_le_right
    rw [qCR (by omega) (by omega), qw (by omega) (by omega)]
section
variable {g0 : Heap} {B m n c : Nat} {sp : List Value} {left : List En} {K : Value → Heap → Prop}
theorem DaE.ne {h : Heap} {d : Array Int} (D : DaE left g0 B m n sp h d) {r o : Nat} {vs : List Value} (hr : g0 r = none) (hb : B ≠ r) : DaE left g0 B m n sp (h.setN r o vs) d := ⟨qS D.le hr, D.at_.set_ne hb, D.sz, D.rg⟩
theorem qXM {h : Heap} {d : Array Int} {r : Nat} {x : Int} (D : DaE left g0 B m n sp h d) (hr : g0 r = none) (hb : B ≠ r) (A : At h r [.int .u64 x]) (k : ∀ h' y, DaE left g0 B m n sp h' d → At h' r [.int .u64 y] → K (.int .u64 y) h') :
    CallA Tryz.prog qDy [pointer (some ⟨r, 0, none⟩)] h K := by
  refine qJa _ _ _ ?_
  unfold qFj
  refine qB rfl ⟨_, A.cell rfl, qB rfl ⟨_, A.cell rfl, qB rfl ⟨A.canSt (Nat.le_refl _), ?_⟩⟩⟩
  generalize IntKind.wrap .u64 _ = x1
  have A1 : At (h.setN r 0 [.int .u64 x1]) r [.int .u64 x1] := A.set (o := 0)
  have D1 := D.ne (o := 0) (vs := [.int .u64 x1]) hr hb
  generalize h.setN r 0 [.int .u64 x1] = h1 at *
  refine qB rfl ⟨_, A1.cell rfl, qB rfl ⟨_, A1.cell rfl, qB rfl ⟨A1.canSt (Nat.le_refl _), ?_⟩⟩⟩
  generalize IntKind.wrap .u64 _ = x2
  have A2 : At (h1.setN r 0 [.int .u64 x2]) r [.int .u64 x2] := A1.set (o := 0)
  have D2 := D1.ne (o := 0) (vs := [.int .u64 x2]) hr hb
  generalize h1.setN r 0 [.int .u64 x2] = h2 at *
  refine qB rfl ⟨_, A2.cell rfl, qB rfl ⟨_, A2.cell rfl, qB rfl ⟨A2.canSt (Nat.le_refl _), ?_⟩⟩⟩
  generalize IntKind.wrap .u64 _ = x3
  have A3 : At (h2.setN r 0 [.int .u64 x3]) r [.int .u64 x3] := A2.set (o := 0)
  have D3 := D2.ne (o := 0) (vs := [.int .u64 x3]) hr hb
  exact qB rfl ⟨_, A3.cell rfl, Ret.mk (k _ _ D3 A3)⟩
variable (e0 : g0 B = none) (hm : left.length = m) (I : True) (hn : n ≤ 1000000)
include e0 hn
theorem qXq {a b M r : Nat} (h8 : 8 ≤ b - a) (hb : b ≤ n) (hM1 : 1 ≤ M) (hM : M ≤ 2 * (b - a)) (hM2 : M ≤ 1024) (hr : g0 r = none) (hbr : B ≠ r) {d0 : Array Int} :
    ∀ (q idx : Nat) (h : Heap) (d : Array Int) (x : Int), a + (b - a) / 4 * 2 + 2 - idx ≤ q → a ≤ idx → DaE left g0 B m n sp h d → PermIn a b d0 d → At h r [.int .u64 x] →
    (∀ h' d', DaE left g0 B m n sp h' d' → PermIn a b d0 d' → K (tuple #[]) h') →
    qT (some ⟨B, 0, none⟩) n c (a : Int) ((b - a : Nat) : Int) r (M : Int) (idx : Int) h K := by
  have w1 : Int.tdiv ((b - a : Nat) : Int) 4 = (((b - a) / 4 : Nat) : Int) := by rw [Int.tdiv_eq_ediv_of_nonneg (by omega)]; omega
  have w2 : IntKind.wrap .i64 ((((b - a) / 4 : Nat) : Int)) = (((b - a) / 4 : Nat) : Int) := qw (by omega) (by omega)
  have w3 : IntKind.wrap .i64 ((((b - a) / 4 : Nat) : Int) * 2) = (((b - a) / 4 * 2 : Nat) : Int) := by rw [qw (by omega) (by omega)]; omega
  have w4 : IntKind.wrap .i64 ((a : Int) + (((b - a) / 4 * 2 : Nat) : Int)) = ((a + (b - a) / 4 * 2 : Nat) : Int) := by rw [qw (by omega) (by omega)]; omega
  have w5 : IntKind.wrap .i64 (((a + (b - a) / 4 * 2 : Nat) : Int) + 1) = ((a + (b - a) / 4 * 2 + 1 : Nat) : Int) := by rw [qw (by omega) (by omega)]; omega
  intro q
  induction q with
  | zero =>
    intro idx h d x hq hi D P A k
    refine qB7 _ _ _ _ _ _ _ _ _ _ ?_
    unfold qAo
    rw [w1, w2, w3, w4, w5]
    exact Br.no (by simp; omega) (Ret.mk (k h d D P))
  | succ q ih =>
    intro idx h d x hq hi D P A k
    refine qB7 _ _ _ _ _ _ _ _ _ _ ?_
    unfold qAo
    rw [w1, w2, w3, w4, w5]
    refine Br.dec (fun g => qXM D hr hbr A fun h1 y D1 A1 => ⟨_, rfl, ?_⟩) fun g => Ret.mk (k h d D P)
    have hz : d.size = n := D.sz
    obtain ⟨z, hz1, hz2⟩ := qVa y hM1 hM2
    rw [qDZ (j := idx) (by omega)]
    rw [hz2]
    refine Br.dec (fun g2 => ?_) fun g2 => ?_
    · have v1 : IntKind.wrap .i64 ((z : Int) - ((b - a : Nat) : Int)) = ((z - (b - a) : Nat) : Int) := by rw [qw (by omega) (by omega)]; omega
      have v2 : IntKind.wrap .i64 ((a : Int) + ((z - (b - a) : Nat) : Int)) = ((a + (z - (b - a)) : Nat) : Int) := by rw [qw (by omega) (by omega)]; omega
      rw [v1, v2]
      have hA : ∀ h2, DaE left g0 B m n sp h2 (swp d idx (a + (z - (b - a)))) → At h2 r [.int .u64 y] → qT (some ⟨B, 0, none⟩) n c (a : Int) ((b - a : Nat) : Int) r (M : Int) ((idx + 1 : Nat) : Int) h2 K := fun h2 D2 A2 =>
        ih (idx + 1) h2 _ y (by omega) (by omega) D2 (permIn_trans _ _ _ _ _ P (swp_permIn d a b _ _ (by omega) (by omega) (by omega) (by omega) (by omega))) A2 k
      exact qT3 (J := fun h2 => qT (some ⟨B, 0, none⟩) n c (a : Int) ((b - a : Nat) : Int) r (M : Int) ((idx + 1 : Nat) : Int) h2 K) D1 e0 A1 hbr rfl rfl (by omega) (by omega) hA
    · have v2 : IntKind.wrap .i64 ((a : Int) + (z : Int)) = ((a + z : Nat) : Int) := by rw [qw (by omega) (by omega)]; omega
      rw [v2]
      have hA : ∀ h2, DaE left g0 B m n sp h2 (swp d idx (a + z)) → At h2 r [.int .u64 y] → qT (some ⟨B, 0, none⟩) n c (a : Int) ((b - a : Nat) : Int) r (M : Int) ((idx + 1 : Nat) : Int) h2 K := fun h2 D2 A2 =>
        ih (idx + 1) h2 _ y (by omega) (by omega) D2 (permIn_trans _ _ _ _ _ P (swp_permIn d a b _ _ (by omega) (by omega) (by omega) (by omega) (by omega))) A2 k
      exact qT3 (J := fun h2 => qT (some ⟨B, 0, none⟩) n c (a : Int) ((b - a : Nat) : Int) r (M : Int) ((idx + 1 : Nat) : Int) h2 K) D1 e0 A1 hbr rfl rfl (by omega) (by omega) hA
theorem qVn {h : Heap} {d : Array Int} {a b : Nat} (h8 : 8 ≤ b - a) (h256 : b - a < 256) (hb : b ≤ n) (D : DaE left g0 B m n sp h d)
    (k : ∀ h' d', DaE left g0 B m n sp h' d' → PermIn a b d d' → K (tuple #[]) h') :
    CallA Tryz.prog qAx [slice (some ⟨B, 0, none⟩) n c, .int .i64 (a : Int), .int .i64 (b : Int), func (Fn.func qC) #[] #[]] h K := by
  refine qE8 _ _ _ _ _ _ _ ?_
  unfold qCO
  have w0 : IntKind.wrap .i64 ((b : Int) - (a : Int)) = ((b - a : Nat) : Int) := by rw [qw (by omega) (by omega)]; omega
  have w1 : Int.tdiv ((b - a : Nat) : Int) 4 = (((b - a) / 4 : Nat) : Int) := by rw [Int.tdiv_eq_ediv_of_nonneg (by omega)]; omega
  have w2 : IntKind.wrap .i64 ((((b - a) / 4 : Nat) : Int)) = (((b - a) / 4 : Nat) : Int) := qw (by omega) (by omega)
  have w3 : IntKind.wrap .i64 ((((b - a) / 4 : Nat) : Int) * 2) = (((b - a) / 4 * 2 : Nat) : Int) := by rw [qw (by omega) (by omega)]; omega
  have w4 : IntKind.wrap .i64 ((a : Int) + (((b - a) / 4 * 2 : Nat) : Int)) = ((a + (b - a) / 4 * 2 : Nat) : Int) := by rw [qw (by omega) (by omega)]; omega
  have w5 : IntKind.wrap .i64 (((a + (b - a) / 4 * 2 : Nat) : Int) - 1) = ((a + (b - a) / 4 * 2 - 1 : Nat) : Int) := by rw [qw (by omega) (by omega)]; omega
  rw [w0, w1, w2, w3, w4, w5]
  have g := (qJo ⟨b - a, h256⟩).2
  dsimp only at g
  have b1 : (2 ^ bitsLen (b - a) : Nat) ≤ 2 ^ 8 := Nat.pow_le_pow_right (by omega) g
  refine Br.yes (by simp; omega) (ql fun r h1 hr l1 A1 => ⟨A1.canSt (Nat.le_refl _), ?_⟩)
  generalize IntKind.wrap .u64 _ = x
  have hr0 := qJ D.le hr
  have hbr : B ≠ r := D.at_.ne hr
  have A2 : At (h1.setN r 0 [.int .u64 x]) r [.int .u64 x] := A1.set (o := 0)
  have D2 := (D.mv l1).ne (o := 0) (vs := [.int .u64 x]) hr0 hbr
  refine qSs h256 ⟨_, rfl, ?_⟩
  exact qXq e0 hn h8 hb (Nat.one_le_two_pow) (two_pow_bitsLen_le (by omega)) (by omega) hr0 hbr _ _ _ d x (Nat.le_refl _) (by omega) D2 (permIn_refl d a b) A2 k
omit e0
include hm I
omit hn in
theorem qMA {h : Heap} {d : Array Int} {a b r : Nat} {s : Int} (ha : a < n) (hb : b < n) (D : DaE left g0 B m n sp h d) (hr : g0 r = none) (hbr : B ≠ r) (A : At h r [.int .i64 s])
    (k : ∀ h' s' (x y : Nat), DaE left g0 B m n sp h' d → At h' r [.int .i64 s'] → (x = a ∧ y = b ∨ x = b ∧ y = a) → K (tuple #[.int .i64 (x : Int), .int .i64 (y : Int)]) h') :
    CallA Tryz.prog qAH [slice (some ⟨B, 0, none⟩) n c, .int .i64 (a : Int), .int .i64 (b : Int), pointer (some ⟨r, 0, none⟩), func (Fn.func qC) #[] #[]] h K := by
  refine qGO _ _ _ _ _ _ _ _ ?_
  unfold qDd
  refine qXT D hm I A rfl rfl hb ha fun h1 D1 A1 => Br.intro (fun g => ?_) fun g => Ret.mk (k _ _ a b D1 A1 (.inl ⟨rfl, rfl⟩))
  refine qB rfl ⟨_, A1.cell rfl, qB rfl ⟨A1.canSt (Nat.le_refl _), Ret.mk ?_⟩⟩
  generalize IntKind.wrap .i64 _ = x
  have A2 : At (h1.setN r 0 [.int .i64 x]) r [.int .i64 x] := A1.set (o := 0)
  exact k _ _ b a (D1.ne hr hbr) A2 (.inr ⟨rfl, rfl⟩)
omit hn in
theorem qMC {h : Heap} {d : Array Int} {a b c' r : Nat} {s : Int} (ha : a < n) (hb : b < n) (hc : c' < n) (D : DaE left g0 B m n sp h d) (hr : g0 r = none) (hbr : B ≠ r) (A : At h r [.int .i64 s])
    (k : ∀ h' s' (x : Nat), DaE left g0 B m n sp h' d → At h' r [.int .i64 s'] → (x = a ∨ x = b ∨ x = c') → K (.int .i64 (x : Int)) h') :
    CallA Tryz.prog qAt [slice (some ⟨B, 0, none⟩) n c, .int .i64 (a : Int), .int .i64 (b : Int), .int .i64 (c' : Int), pointer (some ⟨r, 0, none⟩), func (Fn.func qC) #[] #[]] h K := by
  refine qGP _ _ _ _ _ _ _ _ _ ?_
  unfold qDa
  refine qMA hm I ha hb D hr hbr A fun h1 s1 x y D1 A1 e1 => ⟨_, _, rfl, qMA hm I (by omega) hc D1 hr hbr A1 fun h2 s2 z w D2 A2 e2 => ⟨_, _, rfl, qMA hm I (by omega) (by omega) D2 hr hbr A2 fun h3 s3 u v D3 A3 e3 => ⟨_, _, rfl, Ret.mk (k _ _ v D3 A3 (by omega))⟩⟩⟩
theorem qJN {h : Heap} {d : Array Int} {a r : Nat} {s : Int} (h1 : 1 ≤ a) (ha : a + 1 < n) (D : DaE left g0 B m n sp h d) (hr : g0 r = none) (hbr : B ≠ r) (A : At h r [.int .i64 s])
    (k : ∀ h' s' (x : Nat), DaE left g0 B m n sp h' d → At h' r [.int .i64 s'] → (a ≤ x + 1 ∧ x ≤ a + 1) → K (.int .i64 (x : Int)) h') :
    CallA Tryz.prog qCA [slice (some ⟨B, 0, none⟩) n c, .int .i64 (a : Int), pointer (some ⟨r, 0, none⟩), func (Fn.func qC) #[] #[]] h K := by
  refine qEt _ _ _ _ _ _ _ ?_
  unfold qB9
  have w2 : IntKind.wrap .i64 ((a : Int) - 1) = ((a - 1 : Nat) : Int) := by rw [qw (by omega) (by omega)]; omega
  rw [qDZ (by omega), w2]
  exact qMC hm I (by omega) (by omega) (by omega) D hr hbr A fun h1 s1 x D1 A1 e => ⟨_, rfl, Ret.mk (k _ _ x D1 A1 (by omega))⟩
theorem qVx {h : Heap} {d : Array Int} {a b : Nat} (h12 : 12 < b - a) (hb : b ≤ n) (D : DaE left g0 B m n sp h d)
    (k : ∀ h' (x : Nat) (hint : Int), DaE left g0 B m n sp h' d → a ≤ x → x < b → K (tuple #[.int .i64 (x : Int), .int .i64 hint]) h') :
    CallA Tryz.prog qA9 [slice (some ⟨B, 0, none⟩) n c, .int .i64 (a : Int), .int .i64 (b : Int), func (Fn.func qC) #[] #[]] h K := by
  refine qFY _ _ _ _ _ _ _ ?_
  unfold qCs
  have w0 : IntKind.wrap .i64 ((b : Int) - (a : Int)) = ((b - a : Nat) : Int) := by rw [qw (by omega) (by omega)]; omega
  have w1 : Int.tdiv ((b - a : Nat) : Int) 4 = (((b - a) / 4 : Nat) : Int) := by rw [Int.tdiv_eq_ediv_of_nonneg (by omega)]; omega
  have hq : (b - a) / 4 * 4 ≤ b - a := by omega
  have hq3 : 3 ≤ (b - a) / 4 := by omega
  generalize (b - a) / 4 = l at *
  have w2 : IntKind.wrap .i64 (l : Int) = (l : Int) := qw (by omega) (by omega)
  have w3 : IntKind.wrap .i64 ((l : Int) * 1) = (l : Int) := by rw [qw (by omega) (by omega)]; omega
  have w4 : IntKind.wrap .i64 ((l : Int) * 2) = ((2 * l : Nat) : Int) := by rw [qw (by omega) (by omega)]; omega
  have w5 : IntKind.wrap .i64 ((l : Int) * 3) = ((3 * l : Nat) : Int) := by rw [qw (by omega) (by omega)]; omega
  have w6 : IntKind.wrap .i64 ((a : Int) + (l : Int)) = ((a + l : Nat) : Int) := by rw [qw (by omega) (by omega)]; omega
  have w7 : IntKind.wrap .i64 ((a : Int) + ((2 * l : Nat) : Int)) = ((a + 2 * l : Nat) : Int) := by rw [qw (by omega) (by omega)]; omega
  have w8 : IntKind.wrap .i64 ((a : Int) + ((3 * l : Nat) : Int)) = ((a + 3 * l : Nat) : Int) := by rw [qw (by omega) (by omega)]; omega
  rw [w0, w1, w2, w3, w4, w5, w6, w7, w8]
  refine ql fun r h1 hr l1 A1 => ?_
  have hr0 := qJ D.le hr
  have hbr : B ≠ r := D.at_.ne hr
  have D1 := D.mv l1
  have fin : ∀ (h' : Heap) (s : Int) (x : Nat), DaE left g0 B m n sp h' d → a ≤ x → x < b → Br (s == 0) (Ret h' K (tuple #[.int .i64 (x : Int), .int .i64 1])) (Br (s == 12) (Ret h' K (tuple #[.int .i64 (x : Int), .int .i64 2])) (Ret h' K (tuple #[.int .i64 (x : Int), .int .i64 0]))) :=
    fun h' s x D' g1 g2 => Br.intro (fun _ => Ret.mk (k _ _ _ D' g1 g2)) fun _ => Br.intro (fun _ => Ret.mk (k _ _ _ D' g1 g2)) fun _ => Ret.mk (k _ _ _ D' g1 g2)
  refine Br.yes (by simp; omega) (Br.intro (fun g => ?_) fun g => ?_)
  · refine qJN hm I hn (by omega) (by omega) D1 hr0 hbr A1 fun h2 s2 x D2 A2 e2 => ⟨_, rfl, qJN hm I hn (by omega) (by omega) D2 hr0 hbr A2 fun h3 s3 y D3 A3 e3 => ⟨_, rfl, qJN hm I hn (by omega) (by omega) D3 hr0 hbr A3 fun h4 s4 z D4 A4 e4 => ⟨_, rfl, ?_⟩⟩⟩
    exact qMC hm I (by omega) (by omega) (by omega) D4 hr0 hbr A4 fun h5 s5 u D5 A5 e5 => ⟨_, rfl, _, A5.cell rfl, fin _ _ _ D5 (by omega) (by omega)⟩
  · exact qMC hm I (by omega) (by omega) (by omega) D1 hr0 hbr A1 fun h5 s5 u D5 A5 e5 => ⟨_, rfl, _, A5.cell rfl, fin _ _ _ D5 (by omega) (by omega)⟩
end
end Go.Proofs.YtgjeecaombnmiaaGreat
