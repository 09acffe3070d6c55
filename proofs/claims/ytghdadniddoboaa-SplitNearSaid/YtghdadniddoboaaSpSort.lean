/- A list put in order: by insertion, by a heap; turned about. -/
import Derived.Test.YtghdadniddoboaaEqSpSort
import Derived.Test.YtghdadniddoboaaSpOrd
namespace Go.Proofs.Ytghdadniddoboaa
open Go Go.Sy Go.Value Go.Sort
set_option linter.unusedVariables false
set_option linter.unusedSimpArgs false

theorem wp1 {j : Nat} (h : j ≤ 4000000000) : IntKind.wrap .i64 ((j : Int) + 1) = ((j + 1 : Nat) : Int) := by rw [wrap_i64_id (by omega) (by omega)]; omega
theorem wm1 {j : Nat} (h : j ≤ 4000000000) : IntKind.wrap .i64 (((j + 1 : Nat) : Int) - 1) = (j : Int) := by rw [wrap_i64_id (by omega) (by omega)]; omega
theorem wid {x : Int} (h1 : -4000000000 ≤ x) (h2 : x ≤ 40000000000) : IntKind.wrap .i64 x = x := wrap_i64_id (by omega) (by omega)

section
variable {g0 : Heap} {B m n c lc : Nat} {sp : List Value} {left : List Int} {lp : Option Addr} {K : Value → Heap → Prop} (e0 : g0 B = none) (hm : left.length = m) (I : Ints .i64 g0 lp left) (hn : n ≤ 1000000)
include e0 hm I hn
/-! by insertion -/
theorem ins_in {a b i : Nat} (hi : i < n) : ∀ (j : Nat) (h : Heap) (d : Array Int), Da g0 B m n sp h d → j ≤ i →
    (∀ h', Da g0 B m n sp h' (insInner (ltO left) a j d) → L_slices_insertionSortCmpFunc_int_0 (some ⟨B, 0, none⟩) n c (a : Int) (b : Int) lp m lc ((i + 1 : Nat) : Int) h' K) →
    L_slices_insertionSortCmpFunc_int_1 (some ⟨B, 0, none⟩) n c (a : Int) (b : Int) lp m lc (i : Int) (j : Int) h K := by
  intro j
  induction j with
  | zero =>
    intro h d D hj k
    refine L_slices_insertionSortCmpFunc_int_1r _ _ _ _ _ _ _ _ _ _ _ _ ?_
    unfold L_slices_insertionSortCmpFunc_int_1T
    rw [wp1 (by omega)]
    exact Br.no (by simp) (k h D)
  | succ j ih =>
    intro h d D hj k
    refine L_slices_insertionSortCmpFunc_int_1r _ _ _ _ _ _ _ _ _ _ _ _ ?_
    unfold L_slices_insertionSortCmpFunc_int_1T
    rw [wp1 (by omega), wm1 (by omega)]
    rw [insInner] at k
    refine Br.dec (fun g => lessA D hm I rfl rfl (by omega) (by omega) fun h' D' => Br.intro (fun g2 => ?_) fun g2 => ?_) fun g => ?_
    · refine swapA (J := fun h => L_slices_insertionSortCmpFunc_int_1 (some ⟨B, 0, none⟩) n c (a : Int) (b : Int) lp m lc (i : Int) (j : Int) h K) D' e0 rfl rfl (by omega) (by omega) fun h'' D'' => ih h'' _ D'' (by omega) ?_
      rw [if_pos (by rw [g2, Bool.and_true]; exact decide_eq_true (by omega))] at k
      exact k
    · rw [if_neg (by rw [g2]; simp)] at k
      exact k h' D'
    · rw [if_neg (by simp; omega)] at k
      exact k h D
theorem ins_out {a b : Nat} (hb : b ≤ n) : ∀ (q i : Nat) (h : Heap) (d : Array Int), b - i ≤ q → Da g0 B m n sp h d →
    (∀ h', Da g0 B m n sp h' (insOuter (ltO left) a b i d) → K (tuple #[]) h') → i ≤ 2000000 →
    L_slices_insertionSortCmpFunc_int_0 (some ⟨B, 0, none⟩) n c (a : Int) (b : Int) lp m lc (i : Int) h K := by
  intro q
  induction q with
  | zero =>
    intro i h d hq D k hi
    refine L_slices_insertionSortCmpFunc_int_0r _ _ _ _ _ _ _ _ _ _ _ ?_
    unfold L_slices_insertionSortCmpFunc_int_0T
    rw [insOuter, if_neg (by omega)] at k
    exact Br.no (by simp; omega) (Ret.mk (k h D))
  | succ q ih =>
    intro i h d hq D k hi
    refine L_slices_insertionSortCmpFunc_int_0r _ _ _ _ _ _ _ _ _ _ _ ?_
    unfold L_slices_insertionSortCmpFunc_int_0T
    rw [insOuter] at k
    refine Br.dec (fun g => ins_in e0 hm I hn (by omega) i h d D (Nat.le_refl _) fun h' D' => ih (i + 1) h' _ (by omega) D' ?_ (by omega)) fun g => ?_
    · rw [if_pos (by omega)] at k; exact k
    · rw [if_neg (by omega)] at k; exact Ret.mk (k h D)
theorem S_insertion {h : Heap} {d : Array Int} {a b : Nat} (ha : a ≤ n) (hb : b ≤ n) (D : Da g0 B m n sp h d) (k : ∀ h', Da g0 B m n sp h' (insertionSort (ltO left) d a b) → K (tuple #[]) h') :
    CallA Try.prog fn_slices_insertionSortCmpFunc_int [slice (some ⟨B, 0, none⟩) n c, .int .i64 (a : Int), .int .i64 (b : Int), func (Fn.func fn_split_by_order) #[agg #[slice lp m lc]] #[]] h K := by
  refine F_slices_insertionSortCmpFunc_int _ _ _ _ _ _ _ _ _ _ ?_
  unfold F_slices_insertionSortCmpFunc_intT
  rw [wp1 (by omega)]
  exact ins_out e0 hm I hn hb _ _ _ _ (Nat.le_refl _) D k (by omega)
/-! by a heap -/
theorem sift_in {hi first : Nat} (hf : first + hi ≤ n) : ∀ (q root : Nat) (h : Heap) (d : Array Int), hi - root ≤ q → root ≤ 1000000 → Da g0 B m n sp h d →
    (∀ h', Da g0 B m n sp h' (siftDown (ltO left) hi first root d) → K (tuple #[]) h') →
    L_slices_siftDownCmpFunc_int_0 (some ⟨B, 0, none⟩) n c (hi : Int) (first : Int) lp m lc (root : Int) h K := by
  intro q
  induction q with
  | zero =>
    intro root h d hq hr D k
    refine L_slices_siftDownCmpFunc_int_0r _ _ _ _ _ _ _ _ _ _ _ ?_
    unfold L_slices_siftDownCmpFunc_int_0T
    rw [siftDown, dif_pos (by omega)] at k
    rw [wid (x := 2 * (root : Int)) (by omega) (by omega), wid (x := 2 * (root : Int) + 1) (by omega) (by omega)]
    exact Br.yes (decide_eq_true (by omega)) (Ret.mk (k h D))
  | succ q ih =>
    intro root h d hq hr D k
    refine L_slices_siftDownCmpFunc_int_0r _ _ _ _ _ _ _ _ _ _ _ ?_
    unfold L_slices_siftDownCmpFunc_int_0T
    have w1 : IntKind.wrap .i64 (2 * (root : Int)) = ((2 * root : Nat) : Int) := by rw [wid (by omega) (by omega)]; omega
    have w2 : IntKind.wrap .i64 (((2 * root : Nat) : Int) + 1) = ((2 * root + 1 : Nat) : Int) := by rw [wid (by omega) (by omega)]; omega
    have w3 : IntKind.wrap .i64 (((2 * root + 1 : Nat) : Int) + 1) = ((2 * root + 2 : Nat) : Int) := by rw [wid (by omega) (by omega)]; omega
    have w4 : IntKind.wrap .i64 ((first : Int) + ((2 * root + 1 : Nat) : Int)) = ((first + (2 * root + 1) : Nat) : Int) := by rw [wid (by omega) (by omega)]; omega
    have w5 : IntKind.wrap .i64 ((first : Int) + ((2 * root + 2 : Nat) : Int)) = ((first + (2 * root + 2) : Nat) : Int) := by rw [wid (by omega) (by omega)]; omega
    have w6 : IntKind.wrap .i64 (((first + (2 * root + 1) : Nat) : Int) + 1) = ((first + (2 * root + 1) + 1 : Nat) : Int) := by rw [wid (by omega) (by omega)]; omega
    have w7 : IntKind.wrap .i64 ((first : Int) + (root : Int)) = ((first + root : Nat) : Int) := by rw [wid (by omega) (by omega)]; omega
    rw [w1, w2, w3, w4, w5, w6, w7]
    rw [siftDown] at k
    have low : ∀ (h : Heap), Da g0 B m n sp h d → 2 * root + 1 < hi →
        (∀ h', Da g0 B m n sp h' (if !ltO left d[first + root]! d[first + (2 * root + 1)]! then d else siftDown (ltO left) hi first (2 * root + 1) (swp d (first + root) (first + (2 * root + 1)))) → K (tuple #[]) h') →
        ∀ h', Da g0 B m n sp h' d → Br (!ltO left d[first + root]! d[first + (2 * root + 1)]!) (Ret h' K (tuple #[])) (∀ h'', Da g0 B m n sp h'' (swp d (first + root) (first + (2 * root + 1))) → L_slices_siftDownCmpFunc_int_0 (some ⟨B, 0, none⟩) n c (hi : Int) (first : Int) lp m lc ((2 * root + 1 : Nat) : Int) h'' K) := by
      intro h D g k h' D'
      refine Br.intro (fun g2 => ?_) fun g2 => fun h'' D'' => ?_
      · rw [if_pos g2] at k; exact Ret.mk (k h' D')
      · rw [if_neg (by rw [g2]; simp)] at k
        exact ih _ h'' _ (by omega) (by omega) D'' k
    refine Br.dec (fun g => ?_) fun g => ?_
    · rw [dif_pos (by omega)] at k
      exact Ret.mk (k h D)
    rw [dif_neg (by omega)] at k
    refine Br.dec (fun g1 => lessA D hm I rfl rfl (by omega) (by omega) fun h' D' => Br.intro (fun g2 => ?_) fun g2 => ?_) fun g1 => ?_
    · rw [if_pos (by rw [g2, Bool.and_true]; exact decide_eq_true (by omega))] at k
      refine lessN D' hm I rfl rfl (by omega) (by omega) fun h2 D2 => Br.intro (fun g3 => ?_) fun g3 => ?_
      · rw [if_pos g3] at k; exact Ret.mk (k h2 D2)
      rw [if_neg (by rw [g3]; simp), dif_pos (by omega)] at k
      exact swapA (J := fun h => L_slices_siftDownCmpFunc_int_0 (some ⟨B, 0, none⟩) n c (hi : Int) (first : Int) lp m lc ((2 * root + 2 : Nat) : Int) h K) D2 e0 rfl rfl (by omega) (by omega) fun h3 D3 => ih _ h3 _ (by omega) (by omega) D3 k
    · rw [if_neg (by rw [g2, Bool.and_false]; simp)] at k
      refine lessN D' hm I rfl rfl (by omega) (by omega) fun h2 D2 => Br.intro (fun g3 => ?_) fun g3 => ?_
      · rw [if_pos g3] at k; exact Ret.mk (k h2 D2)
      rw [if_neg (by rw [g3]; simp)] at k
      exact swapA (J := fun h => L_slices_siftDownCmpFunc_int_0 (some ⟨B, 0, none⟩) n c (hi : Int) (first : Int) lp m lc ((2 * root + 1 : Nat) : Int) h K) D2 e0 rfl rfl (by omega) (by omega) fun h3 D3 => ih _ h3 _ (by omega) (by omega) D3 k
    · rw [if_neg (by rw [decide_eq_false (by omega)]; simp)] at k
      refine lessN D hm I rfl rfl (by omega) (by omega) fun h2 D2 => Br.intro (fun g3 => ?_) fun g3 => ?_
      · rw [if_pos g3] at k; exact Ret.mk (k h2 D2)
      rw [if_neg (by rw [g3]; simp)] at k
      exact swapA (J := fun h => L_slices_siftDownCmpFunc_int_0 (some ⟨B, 0, none⟩) n c (hi : Int) (first : Int) lp m lc ((2 * root + 1 : Nat) : Int) h K) D2 e0 rfl rfl (by omega) (by omega) fun h3 D3 => ih _ h3 _ (by omega) (by omega) D3 k
theorem S_sift {h : Heap} {d : Array Int} {lo hi first : Nat} (hf : first + hi ≤ n) (hl : lo ≤ 1000000) (D : Da g0 B m n sp h d) (k : ∀ h', Da g0 B m n sp h' (siftDown (ltO left) hi first lo d) → K (tuple #[]) h') :
    CallA Try.prog fn_slices_siftDownCmpFunc_int [slice (some ⟨B, 0, none⟩) n c, .int .i64 (lo : Int), .int .i64 (hi : Int), .int .i64 (first : Int), func (Fn.func fn_split_by_order) #[agg #[slice lp m lc]] #[]] h K := by
  refine F_slices_siftDownCmpFunc_int _ _ _ _ _ _ _ _ _ _ _ ?_
  unfold F_slices_siftDownCmpFunc_intT
  exact sift_in e0 hm I hn hf _ _ _ _ (Nat.le_refl _) hl D k
theorem heap_pop {first : Nat} : ∀ (q : Nat) (h : Heap) (d : Array Int), first + q ≤ n → Da g0 B m n sp h d →
    (∀ h', Da g0 B m n sp h' (heapPop (ltO left) first q d) → K (tuple #[]) h') →
    L_slices_heapSortCmpFunc_int_1 (some ⟨B, 0, none⟩) n c lp m lc (first : Int) 0 ((q : Int) - 1) h K := by
  intro q
  induction q with
  | zero =>
    intro h d hf D k
    refine L_slices_heapSortCmpFunc_int_1r _ _ _ _ _ _ _ _ _ _ _ ?_
    unfold L_slices_heapSortCmpFunc_int_1T
    exact Br.no (by decide) (Ret.mk (k h D))
  | succ q ih =>
    intro h d hf D k
    refine L_slices_heapSortCmpFunc_int_1r _ _ _ _ _ _ _ _ _ _ _ ?_
    unfold L_slices_heapSortCmpFunc_int_1T
    have w0 : (((q + 1 : Nat) : Int) - 1) = (q : Int) := by omega
    have w1 : IntKind.wrap .i64 ((first : Int) + (q : Int)) = ((first + q : Nat) : Int) := by rw [wid (by omega) (by omega)]; omega
    have w2 : IntKind.wrap .i64 ((q : Int) - 1) = (q : Int) - 1 := wid (by omega) (by omega)
    rw [w0, w1, w2]
    rw [heapPop] at k
    refine Br.yes (decide_eq_true (by omega)) (swapA (J := fun h => CallA Try.prog fn_slices_siftDownCmpFunc_int [slice (some ⟨B, 0, none⟩) n c, .int .i64 0, .int .i64 (q : Int), .int .i64 (first : Int), func (Fn.func fn_split_by_order) #[agg #[slice lp m lc]] #[]] h fun v h => v = tuple #[] ∧ L_slices_heapSortCmpFunc_int_1 (some ⟨B, 0, none⟩) n c lp m lc (first : Int) 0 ((q : Int) - 1) h K) D e0 rfl rfl (by omega) (by omega) fun h1 D1 => ?_)
    exact S_sift (lo := 0) e0 hm I hn (by omega) (by omega) D1 fun h2 D2 => ⟨rfl, ih h2 _ (by omega) D2 k⟩
theorem heap_build {first hi : Nat} (hf : first + hi ≤ n) : ∀ (q : Nat) (h : Heap) (d : Array Int), q ≤ 1000000 → Da g0 B m n sp h d →
    (∀ h', Da g0 B m n sp h' (heapPop (ltO left) first hi (heapBuild (ltO left) hi first q d)) → K (tuple #[]) h') →
    L_slices_heapSortCmpFunc_int_0 (some ⟨B, 0, none⟩) n c lp m lc (first : Int) 0 (hi : Int) ((q : Int) - 1) h K := by
  intro q
  induction q with
  | zero =>
    intro h d hq D k
    refine L_slices_heapSortCmpFunc_int_0r _ _ _ _ _ _ _ _ _ _ _ _ ?_
    unfold L_slices_heapSortCmpFunc_int_0T
    rw [wid (x := (hi : Int) - 1) (by omega) (by omega)]
    rw [heapBuild] at k
    exact Br.no (by decide) (heap_pop e0 hm I hn _ _ _ hf D k)
  | succ q ih =>
    intro h d hq D k
    refine L_slices_heapSortCmpFunc_int_0r _ _ _ _ _ _ _ _ _ _ _ _ ?_
    unfold L_slices_heapSortCmpFunc_int_0T
    have w0 : (((q + 1 : Nat) : Int) - 1) = (q : Int) := by omega
    have w2 : IntKind.wrap .i64 ((q : Int) - 1) = (q : Int) - 1 := wid (by omega) (by omega)
    rw [w0, w2]
    rw [heapBuild] at k
    refine Br.yes (decide_eq_true (by omega)) ?_
    exact S_sift (lo := q) e0 hm I hn hf (by omega) D fun h2 D2 => ⟨rfl, ih h2 _ (by omega) D2 k⟩
theorem S_heap {h : Heap} {d : Array Int} {a b : Nat} (hab : a < b) (hb : b ≤ n) (D : Da g0 B m n sp h d) (k : ∀ h', Da g0 B m n sp h' (heapSort (ltO left) d a b) → K (tuple #[]) h') :
    CallA Try.prog fn_slices_heapSortCmpFunc_int [slice (some ⟨B, 0, none⟩) n c, .int .i64 (a : Int), .int .i64 (b : Int), func (Fn.func fn_split_by_order) #[agg #[slice lp m lc]] #[]] h K := by
  refine F_slices_heapSortCmpFunc_int _ _ _ _ _ _ _ _ _ _ ?_
  unfold F_slices_heapSortCmpFunc_intT
  have w1 : IntKind.wrap .i64 ((b : Int) - (a : Int)) = ((b - a : Nat) : Int) := by rw [wid (by omega) (by omega)]; omega
  have w2 : IntKind.wrap .i64 (((b - a : Nat) : Int) - 1) = ((b - a - 1 : Nat) : Int) := by rw [wid (by omega) (by omega)]; omega
  have w3 : Int.tdiv ((b - a - 1 : Nat) : Int) 2 = (((b - a - 1) / 2 + 1 : Nat) : Int) - 1 := by
    rw [Int.tdiv_eq_ediv_of_nonneg (by omega)]; omega
  rw [w1, w2, w3, wid (by omega) (by omega)]
  unfold heapSort at k
  exact heap_build e0 hm I hn (by omega) _ _ _ (by omega) D k
/-! turned about -/
omit hm I in
theorem rev_in : ∀ (q i j : Nat) (h : Heap) (d : Array Int), j - i ≤ q → i ≤ 1000000 → j < n → Da g0 B m n sp h d →
    (∀ h', Da g0 B m n sp h' (reverseLoop i j d) → K (tuple #[]) h') →
    L_slices_reverseRangeCmpFunc_int_0 (some ⟨B, 0, none⟩) n c (i : Int) (j : Int) h K := by
  intro q
  induction q with
  | zero =>
    intro i j h d hq hi hj D k
    refine L_slices_reverseRangeCmpFunc_int_0r _ _ _ _ _ _ _ ?_
    unfold L_slices_reverseRangeCmpFunc_int_0T
    rw [reverseLoop, if_neg (by omega)] at k
    exact Br.no (decide_eq_false (by omega)) (Ret.mk (k h D))
  | succ q ih =>
    intro i j h d hq hi hj D k
    refine L_slices_reverseRangeCmpFunc_int_0r _ _ _ _ _ _ _ ?_
    unfold L_slices_reverseRangeCmpFunc_int_0T
    rw [reverseLoop] at k
    refine Br.dec (fun g => ?_) fun g => ?_
    · rw [if_pos (by omega)] at k
      have w2 : IntKind.wrap .i64 ((j : Int) - 1) = ((j - 1 : Nat) : Int) := by rw [wid (by omega) (by omega)]; omega
      rw [wp1 (by omega), w2]
      exact swapA (J := fun h => L_slices_reverseRangeCmpFunc_int_0 (some ⟨B, 0, none⟩) n c ((i + 1 : Nat) : Int) ((j - 1 : Nat) : Int) h K) D e0 rfl rfl (by omega) (by omega) fun h1 D1 => ih _ _ h1 _ (by omega) (by omega) (by omega) D1 k
    · rw [if_neg (by omega)] at k
      exact Ret.mk (k h D)
omit hm I in
theorem S_reverse {h : Heap} {d : Array Int} {a b : Nat} (hab : a < b) (hb : b ≤ n) (D : Da g0 B m n sp h d) (k : ∀ h', Da g0 B m n sp h' (reverseRange d a b) → K (tuple #[]) h') :
    CallA Try.prog fn_slices_reverseRangeCmpFunc_int [slice (some ⟨B, 0, none⟩) n c, .int .i64 (a : Int), .int .i64 (b : Int), func (Fn.func fn_split_by_order) #[agg #[slice lp m lc]] #[]] h K := by
  refine F_slices_reverseRangeCmpFunc_int _ _ _ _ _ _ _ _ _ _ ?_
  unfold F_slices_reverseRangeCmpFunc_intT
  have w2 : IntKind.wrap .i64 ((b : Int) - 1) = ((b - 1 : Nat) : Int) := by rw [wid (by omega) (by omega)]; omega
  rw [w2]
  exact rev_in e0 hn _ _ _ _ _ (Nat.le_refl _) (by omega) (by omega) D k
end
end Go.Proofs.Ytghdadniddoboaa
