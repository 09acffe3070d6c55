import Derived.Test.YtjihfieahkbohaaM07
import Derived.Test.YtjihfieahkbohaaM13
import Derived.Test.YtjihfieahkbohaaM06
/- A list put in order: by insertion, by a heap; turned about. -/
namespace Go.Proofs.Ytjihfieahkbohaa
open Go Go.Sy Go.Value Go.Sort
set_option linter.unusedVariables false
set_option linter.unusedSimpArgs false

theorem wp1I {j : Nat} (h : j ≤ 4000000000) : IntKind.wrap .i64 ((j : Int) + 1) = ((j + 1 : Nat) : Int) := by rw [wrap_i64_id (by omega) (by omega)]; omega
theorem wm1I {j : Nat} (h : j ≤ 4000000000) : IntKind.wrap .i64 (((j + 1 : Nat) : Int) - 1) = (j : Int) := by rw [wrap_i64_id (by omega) (by omega)]; omega
theorem widI {x : Int} (h1 : -4000000000 ≤ x) (h2 : x ≤ 40000000000) : IntKind.wrap .i64 x = x := wrap_i64_id (by omega) (by omega)

section
variable {g0 : Heap} {B m n c : Nat} {sp : List Value} {left : List Int} {K : Value → Heap → Prop} (e0 : g0 B = none) (hm : left.length = m) (I : True) (hn : n ≤ 1000000)
include e0 hm I hn
/-! by insertion -/
theorem ins_inI {a b i : Nat} (hi : i < n) : ∀ (j : Nat) (h : Heap) (d : Array Int), DaI left g0 B m n sp h d → j ≤ i →
    (∀ h', DaI left g0 B m n sp h' (insInner (ltOI left) a j d) → L_slices_insertionSortOrdered_int_0 (some ⟨B, 0, none⟩) n c (a : Int) (b : Int) ((i + 1 : Nat) : Int) h' K) →
    L_slices_insertionSortOrdered_int_1 (some ⟨B, 0, none⟩) n c (a : Int) (b : Int) (i : Int) (j : Int) h K := by
  intro j
  induction j with
  | zero =>
    intro h d D hj k
    refine L_slices_insertionSortOrdered_int_1r _ _ _ _ _ _ _ _ _ ?_
    unfold L_slices_insertionSortOrdered_int_1T
    rw [wp1I (by omega)]
    exact Br.no (by simp) (k h D)
  | succ j ih =>
    intro h d D hj k
    refine L_slices_insertionSortOrdered_int_1r _ _ _ _ _ _ _ _ _ ?_
    unfold L_slices_insertionSortOrdered_int_1T
    rw [wp1I (by omega), wm1I (by omega)]
    rw [insInner] at k
    refine Br.dec (fun g => lessAI D hm I rfl rfl (by omega) (by omega) fun h' D' => Br.intro (fun g2 => ?_) fun g2 => ?_) fun g => ?_
    · refine swapAI (J := fun h => L_slices_insertionSortOrdered_int_1 (some ⟨B, 0, none⟩) n c (a : Int) (b : Int) (i : Int) (j : Int) h K) D' e0 rfl rfl (by omega) (by omega) fun h'' D'' => ih h'' _ D'' (by omega) ?_
      rw [if_pos (by rw [g2, Bool.and_true]; exact decide_eq_true (by omega))] at k
      exact k
    · rw [if_neg (by rw [g2]; simp)] at k
      exact k h' D'
    · rw [if_neg (by simp; omega)] at k
      exact k h D
theorem ins_outI {a b : Nat} (hb : b ≤ n) : ∀ (q i : Nat) (h : Heap) (d : Array Int), b - i ≤ q → DaI left g0 B m n sp h d →
    (∀ h', DaI left g0 B m n sp h' (insOuter (ltOI left) a b i d) → K (tuple #[]) h') → i ≤ 2000000 →
    L_slices_insertionSortOrdered_int_0 (some ⟨B, 0, none⟩) n c (a : Int) (b : Int) (i : Int) h K := by
  intro q
  induction q with
  | zero =>
    intro i h d hq D k hi
    refine L_slices_insertionSortOrdered_int_0r _ _ _ _ _ _ _ _ ?_
    unfold L_slices_insertionSortOrdered_int_0T
    rw [insOuter, if_neg (by omega)] at k
    exact Br.no (by simp; omega) (Ret.mk (k h D))
  | succ q ih =>
    intro i h d hq D k hi
    refine L_slices_insertionSortOrdered_int_0r _ _ _ _ _ _ _ _ ?_
    unfold L_slices_insertionSortOrdered_int_0T
    rw [insOuter] at k
    refine Br.dec (fun g => ins_inI e0 hm I hn (by omega) i h d D (Nat.le_refl _) fun h' D' => ih (i + 1) h' _ (by omega) D' ?_ (by omega)) fun g => ?_
    · rw [if_pos (by omega)] at k; exact k
    · rw [if_neg (by omega)] at k; exact Ret.mk (k h D)
theorem S_insertionI {h : Heap} {d : Array Int} {a b : Nat} (ha : a ≤ n) (hb : b ≤ n) (D : DaI left g0 B m n sp h d) (k : ∀ h', DaI left g0 B m n sp h' (insertionSort (ltOI left) d a b) → K (tuple #[]) h') :
    CallA Try.prog fn_slices_insertionSortOrdered_int [slice (some ⟨B, 0, none⟩) n c, .int .i64 (a : Int), .int .i64 (b : Int)] h K := by
  refine F_slices_insertionSortOrdered_int _ _ _ _ _ _ _ ?_
  unfold F_slices_insertionSortOrdered_intT
  rw [wp1I (by omega)]
  exact ins_outI e0 hm I hn hb _ _ _ _ (Nat.le_refl _) D k (by omega)
/-! by a heap -/
theorem sift_inI {hi first : Nat} (hf : first + hi ≤ n) : ∀ (q root : Nat) (h : Heap) (d : Array Int), hi - root ≤ q → root ≤ 1000000 → DaI left g0 B m n sp h d →
    (∀ h', DaI left g0 B m n sp h' (siftDown (ltOI left) hi first root d) → K (tuple #[]) h') →
    L_slices_siftDownOrdered_int_0 (some ⟨B, 0, none⟩) n c (hi : Int) (first : Int) (root : Int) h K := by
  intro q
  induction q with
  | zero =>
    intro root h d hq hr D k
    refine L_slices_siftDownOrdered_int_0r _ _ _ _ _ _ _ _ ?_
    unfold L_slices_siftDownOrdered_int_0T
    rw [siftDown, dif_pos (by omega)] at k
    rw [widI (x := 2 * (root : Int)) (by omega) (by omega), widI (x := 2 * (root : Int) + 1) (by omega) (by omega)]
    exact Br.yes (decide_eq_true (by omega)) (Ret.mk (k h D))
  | succ q ih =>
    intro root h d hq hr D k
    refine L_slices_siftDownOrdered_int_0r _ _ _ _ _ _ _ _ ?_
    unfold L_slices_siftDownOrdered_int_0T
    have w1 : IntKind.wrap .i64 (2 * (root : Int)) = ((2 * root : Nat) : Int) := by rw [widI (by omega) (by omega)]; omega
    have w2 : IntKind.wrap .i64 (((2 * root : Nat) : Int) + 1) = ((2 * root + 1 : Nat) : Int) := by rw [widI (by omega) (by omega)]; omega
    have w3 : IntKind.wrap .i64 (((2 * root + 1 : Nat) : Int) + 1) = ((2 * root + 2 : Nat) : Int) := by rw [widI (by omega) (by omega)]; omega
    have w4 : IntKind.wrap .i64 ((first : Int) + ((2 * root + 1 : Nat) : Int)) = ((first + (2 * root + 1) : Nat) : Int) := by rw [widI (by omega) (by omega)]; omega
    have w5 : IntKind.wrap .i64 ((first : Int) + ((2 * root + 2 : Nat) : Int)) = ((first + (2 * root + 2) : Nat) : Int) := by rw [widI (by omega) (by omega)]; omega
    have w6 : IntKind.wrap .i64 (((first + (2 * root + 1) : Nat) : Int) + 1) = ((first + (2 * root + 1) + 1 : Nat) : Int) := by rw [widI (by omega) (by omega)]; omega
    have w7 : IntKind.wrap .i64 ((first : Int) + (root : Int)) = ((first + root : Nat) : Int) := by rw [widI (by omega) (by omega)]; omega
    rw [w1, w2, w3, w4, w5, w6, w7]
    rw [siftDown] at k
    have low : ∀ (h : Heap), DaI left g0 B m n sp h d → 2 * root + 1 < hi →
        (∀ h', DaI left g0 B m n sp h' (if !ltOI left d[first + root]! d[first + (2 * root + 1)]! then d else siftDown (ltOI left) hi first (2 * root + 1) (swp d (first + root) (first + (2 * root + 1)))) → K (tuple #[]) h') →
        ∀ h', DaI left g0 B m n sp h' d → Br (!ltOI left d[first + root]! d[first + (2 * root + 1)]!) (Ret h' K (tuple #[])) (∀ h'', DaI left g0 B m n sp h'' (swp d (first + root) (first + (2 * root + 1))) → L_slices_siftDownOrdered_int_0 (some ⟨B, 0, none⟩) n c (hi : Int) (first : Int) ((2 * root + 1 : Nat) : Int) h'' K) := by
      intro h D g k h' D'
      refine Br.intro (fun g2 => ?_) fun g2 => fun h'' D'' => ?_
      · rw [if_pos g2] at k; exact Ret.mk (k h' D')
      · rw [if_neg (by rw [g2]; simp)] at k
        exact ih _ h'' _ (by omega) (by omega) D'' k
    refine Br.dec (fun g => ?_) fun g => ?_
    · rw [dif_pos (by omega)] at k
      exact Ret.mk (k h D)
    rw [dif_neg (by omega)] at k
    refine Br.dec (fun g1 => lessAI D hm I rfl rfl (by omega) (by omega) fun h' D' => Br.intro (fun g2 => ?_) fun g2 => ?_) fun g1 => ?_
    · rw [if_pos (by rw [g2, Bool.and_true]; exact decide_eq_true (by omega))] at k
      refine lessNI D' hm I rfl rfl (by omega) (by omega) fun h2 D2 => Br.intro (fun g3 => ?_) fun g3 => ?_
      · rw [if_pos g3] at k; exact Ret.mk (k h2 D2)
      rw [if_neg (by rw [g3]; simp), dif_pos (by omega)] at k
      exact swapAI (J := fun h => L_slices_siftDownOrdered_int_0 (some ⟨B, 0, none⟩) n c (hi : Int) (first : Int) ((2 * root + 2 : Nat) : Int) h K) D2 e0 rfl rfl (by omega) (by omega) fun h3 D3 => ih _ h3 _ (by omega) (by omega) D3 k
    · rw [if_neg (by rw [g2, Bool.and_false]; simp)] at k
      refine lessNI D' hm I rfl rfl (by omega) (by omega) fun h2 D2 => Br.intro (fun g3 => ?_) fun g3 => ?_
      · rw [if_pos g3] at k; exact Ret.mk (k h2 D2)
      rw [if_neg (by rw [g3]; simp)] at k
      exact swapAI (J := fun h => L_slices_siftDownOrdered_int_0 (some ⟨B, 0, none⟩) n c (hi : Int) (first : Int) ((2 * root + 1 : Nat) : Int) h K) D2 e0 rfl rfl (by omega) (by omega) fun h3 D3 => ih _ h3 _ (by omega) (by omega) D3 k
    · rw [if_neg (by rw [decide_eq_false (by omega)]; simp)] at k
      refine lessNI D hm I rfl rfl (by omega) (by omega) fun h2 D2 => Br.intro (fun g3 => ?_) fun g3 => ?_
      · rw [if_pos g3] at k; exact Ret.mk (k h2 D2)
      rw [if_neg (by rw [g3]; simp)] at k
      exact swapAI (J := fun h => L_slices_siftDownOrdered_int_0 (some ⟨B, 0, none⟩) n c (hi : Int) (first : Int) ((2 * root + 1 : Nat) : Int) h K) D2 e0 rfl rfl (by omega) (by omega) fun h3 D3 => ih _ h3 _ (by omega) (by omega) D3 k
theorem S_siftI {h : Heap} {d : Array Int} {lo hi first : Nat} (hf : first + hi ≤ n) (hl : lo ≤ 1000000) (D : DaI left g0 B m n sp h d) (k : ∀ h', DaI left g0 B m n sp h' (siftDown (ltOI left) hi first lo d) → K (tuple #[]) h') :
    CallA Try.prog fn_slices_siftDownOrdered_int [slice (some ⟨B, 0, none⟩) n c, .int .i64 (lo : Int), .int .i64 (hi : Int), .int .i64 (first : Int)] h K := by
  refine F_slices_siftDownOrdered_int _ _ _ _ _ _ _ _ ?_
  unfold F_slices_siftDownOrdered_intT
  exact sift_inI e0 hm I hn hf _ _ _ _ (Nat.le_refl _) hl D k
theorem heap_popI {first : Nat} : ∀ (q : Nat) (h : Heap) (d : Array Int), first + q ≤ n → DaI left g0 B m n sp h d →
    (∀ h', DaI left g0 B m n sp h' (heapPop (ltOI left) first q d) → K (tuple #[]) h') →
    L_slices_heapSortOrdered_int_1 (some ⟨B, 0, none⟩) n c (first : Int) 0 ((q : Int) - 1) h K := by
  intro q
  induction q with
  | zero =>
    intro h d hf D k
    refine L_slices_heapSortOrdered_int_1r _ _ _ _ _ _ _ _ ?_
    unfold L_slices_heapSortOrdered_int_1T
    exact Br.no (by decide) (Ret.mk (k h D))
  | succ q ih =>
    intro h d hf D k
    refine L_slices_heapSortOrdered_int_1r _ _ _ _ _ _ _ _ ?_
    unfold L_slices_heapSortOrdered_int_1T
    have w0 : (((q + 1 : Nat) : Int) - 1) = (q : Int) := by omega
    have w1 : IntKind.wrap .i64 ((first : Int) + (q : Int)) = ((first + q : Nat) : Int) := by rw [widI (by omega) (by omega)]; omega
    have w2 : IntKind.wrap .i64 ((q : Int) - 1) = (q : Int) - 1 := widI (by omega) (by omega)
    rw [w0, w1, w2]
    rw [heapPop] at k
    refine Br.yes (decide_eq_true (by omega)) (swapAI (J := fun h => CallA Try.prog fn_slices_siftDownOrdered_int [slice (some ⟨B, 0, none⟩) n c, .int .i64 0, .int .i64 (q : Int), .int .i64 (first : Int)] h fun v h => v = tuple #[] ∧ L_slices_heapSortOrdered_int_1 (some ⟨B, 0, none⟩) n c (first : Int) 0 ((q : Int) - 1) h K) D e0 rfl rfl (by omega) (by omega) fun h1 D1 => ?_)
    exact S_siftI (lo := 0) e0 hm I hn (by omega) (by omega) D1 fun h2 D2 => ⟨rfl, ih h2 _ (by omega) D2 k⟩
theorem heap_buildI {first hi : Nat} (hf : first + hi ≤ n) : ∀ (q : Nat) (h : Heap) (d : Array Int), q ≤ 1000000 → DaI left g0 B m n sp h d →
    (∀ h', DaI left g0 B m n sp h' (heapPop (ltOI left) first hi (heapBuild (ltOI left) hi first q d)) → K (tuple #[]) h') →
    L_slices_heapSortOrdered_int_0 (some ⟨B, 0, none⟩) n c (first : Int) 0 (hi : Int) ((q : Int) - 1) h K := by
  intro q
  induction q with
  | zero =>
    intro h d hq D k
    refine L_slices_heapSortOrdered_int_0r _ _ _ _ _ _ _ _ _ ?_
    unfold L_slices_heapSortOrdered_int_0T
    rw [widI (x := (hi : Int) - 1) (by omega) (by omega)]
    rw [heapBuild] at k
    exact Br.no (by decide) (heap_popI e0 hm I hn _ _ _ hf D k)
  | succ q ih =>
    intro h d hq D k
    refine L_slices_heapSortOrdered_int_0r _ _ _ _ _ _ _ _ _ ?_
    unfold L_slices_heapSortOrdered_int_0T
    have w0 : (((q + 1 : Nat) : Int) - 1) = (q : Int) := by omega
    have w2 : IntKind.wrap .i64 ((q : Int) - 1) = (q : Int) - 1 := widI (by omega) (by omega)
    rw [w0, w2]
    rw [heapBuild] at k
    refine Br.yes (decide_eq_true (by omega)) ?_
    exact S_siftI (lo := q) e0 hm I hn hf (by omega) D fun h2 D2 => ⟨rfl, ih h2 _ (by omega) D2 k⟩
theorem S_heapI {h : Heap} {d : Array Int} {a b : Nat} (hab : a < b) (hb : b ≤ n) (D : DaI left g0 B m n sp h d) (k : ∀ h', DaI left g0 B m n sp h' (heapSort (ltOI left) d a b) → K (tuple #[]) h') :
    CallA Try.prog fn_slices_heapSortOrdered_int [slice (some ⟨B, 0, none⟩) n c, .int .i64 (a : Int), .int .i64 (b : Int)] h K := by
  refine F_slices_heapSortOrdered_int _ _ _ _ _ _ _ ?_
  unfold F_slices_heapSortOrdered_intT
  have w1 : IntKind.wrap .i64 ((b : Int) - (a : Int)) = ((b - a : Nat) : Int) := by rw [widI (by omega) (by omega)]; omega
  have w2 : IntKind.wrap .i64 (((b - a : Nat) : Int) - 1) = ((b - a - 1 : Nat) : Int) := by rw [widI (by omega) (by omega)]; omega
  have w3 : Int.tdiv ((b - a - 1 : Nat) : Int) 2 = (((b - a - 1) / 2 + 1 : Nat) : Int) - 1 := by
    rw [Int.tdiv_eq_ediv_of_nonneg (by omega)]; omega
  rw [w1, w2, w3, widI (by omega) (by omega)]
  unfold heapSort at k
  exact heap_buildI e0 hm I hn (by omega) _ _ _ (by omega) D k
/-! turned about -/
omit hm I in
theorem rev_inI : ∀ (q i j : Nat) (h : Heap) (d : Array Int), j - i ≤ q → i ≤ 1000000 → j < n → DaI left g0 B m n sp h d →
    (∀ h', DaI left g0 B m n sp h' (reverseLoop i j d) → K (tuple #[]) h') →
    L_slices_reverseRangeOrdered_int_0 (some ⟨B, 0, none⟩) n c (i : Int) (j : Int) h K := by
  intro q
  induction q with
  | zero =>
    intro i j h d hq hi hj D k
    refine L_slices_reverseRangeOrdered_int_0r _ _ _ _ _ _ _ ?_
    unfold L_slices_reverseRangeOrdered_int_0T
    rw [reverseLoop, if_neg (by omega)] at k
    exact Br.no (decide_eq_false (by omega)) (Ret.mk (k h D))
  | succ q ih =>
    intro i j h d hq hi hj D k
    refine L_slices_reverseRangeOrdered_int_0r _ _ _ _ _ _ _ ?_
    unfold L_slices_reverseRangeOrdered_int_0T
    rw [reverseLoop] at k
    refine Br.dec (fun g => ?_) fun g => ?_
    · rw [if_pos (by omega)] at k
      have w2 : IntKind.wrap .i64 ((j : Int) - 1) = ((j - 1 : Nat) : Int) := by rw [widI (by omega) (by omega)]; omega
      rw [wp1I (by omega), w2]
      exact swapAI (J := fun h => L_slices_reverseRangeOrdered_int_0 (some ⟨B, 0, none⟩) n c ((i + 1 : Nat) : Int) ((j - 1 : Nat) : Int) h K) D e0 rfl rfl (by omega) (by omega) fun h1 D1 => ih _ _ h1 _ (by omega) (by omega) (by omega) D1 k
    · rw [if_neg (by omega)] at k
      exact Ret.mk (k h D)
omit hm I in
theorem S_reverseI {h : Heap} {d : Array Int} {a b : Nat} (hab : a < b) (hb : b ≤ n) (D : DaI left g0 B m n sp h d) (k : ∀ h', DaI left g0 B m n sp h' (reverseRange d a b) → K (tuple #[]) h') :
    CallA Try.prog fn_slices_reverseRangeOrdered_int [slice (some ⟨B, 0, none⟩) n c, .int .i64 (a : Int), .int .i64 (b : Int)] h K := by
  refine F_slices_reverseRangeOrdered_int _ _ _ _ _ _ _ ?_
  unfold F_slices_reverseRangeOrdered_intT
  have w2 : IntKind.wrap .i64 ((b : Int) - 1) = ((b - 1 : Nat) : Int) := by rw [widI (by omega) (by omega)]; omega
  rw [w2]
  exact rev_inI e0 hn _ _ _ _ _ (Nat.le_refl _) (by omega) (by omega) D k
end
end Go.Proofs.Ytjihfieahkbohaa

/- A list parted by a pivot, or tried to be put in order by few steps. -/
namespace Go.Proofs.Ytjihfieahkbohaa
open Go Go.Sy Go.Value Go.Sort
set_option linter.unusedVariables false
set_option linter.unusedSimpArgs false

theorem scanUp_tI {α : Type} [Inhabited α] {p : α → Bool} {d : Array α} {j i : Nat} (h : i ≤ j) (hp : p d[i]! = true) : scanUp p d j i = scanUp p d j (i + 1) := by
  rw [scanUp, if_pos (by rw [hp, Bool.and_true]; exact decide_eq_true h)]
theorem scanUp_fI {α : Type} [Inhabited α] {p : α → Bool} {d : Array α} {j i : Nat} (h : ¬ (i ≤ j ∧ p d[i]! = true)) : scanUp p d j i = i := by
  rw [scanUp, if_neg (by rw [Bool.and_eq_true, decide_eq_true_eq]; exact h)]
theorem scanDown_tI {α : Type} [Inhabited α] {p : α → Bool} {d : Array α} {j i : Nat} (h : i ≤ j) (h1 : 1 ≤ i) (hp : p d[j]! = true) : scanDown p d i j = scanDown p d i (j - 1) := by
  cases j with
  | zero => omega
  | succ j => rw [scanDown, if_pos (by rw [hp, Bool.and_true]; exact decide_eq_true h)]; rfl
theorem scanDown_fI {α : Type} [Inhabited α] {p : α → Bool} {d : Array α} {j i : Nat} (h : ¬ (i ≤ j ∧ p d[j]! = true)) : scanDown p d i j = j := by
  cases j with
  | zero => rw [scanDown]
  | succ j => rw [scanDown, if_neg (by rw [Bool.and_eq_true, decide_eq_true_eq]; exact h)]
theorem scanUp_leI {α : Type} [Inhabited α] {p : α → Bool} {d : Array α} {j i n : Nat} (h : i ≤ n) (hj : j < n) : scanUp p d j i ≤ n := by
  by_cases g : i ≤ j + 1
  · have := (scanUp_spec p d j _ i rfl).2.1 g; omega
  · rw [scanUp_fI (by omega)]; exact h

section
variable {g0 : Heap} {B m n c : Nat} {sp : List Value} {left : List Int} {K : Value → Heap → Prop} (e0 : g0 B = none) (hm : left.length = m) (I : True) (hn : n ≤ 1000000)
include e0 hm I hn
/-! by partition -/
omit e0 in
theorem part_0I {a j : Nat} {d : Array Int} (ha : a < n) (hj : j < n) : ∀ (q i : Nat) (h : Heap), j + 1 - i ≤ q → i ≤ n → DaI left g0 B m n sp h d →
    (∀ h', DaI left g0 B m n sp h' d → L_slices_partitionOrdered_int_1 (some ⟨B, 0, none⟩) n c (a : Int) ((scanUp (fun x => ltOI left x d[a]!) d j i : Nat) : Int) (j : Int) h' K) →
    L_slices_partitionOrdered_int_0 (some ⟨B, 0, none⟩) n c (a : Int) (i : Int) (j : Int) h K := by
  intro q
  induction q with
  | zero =>
    intro i h hq hi D k
    refine L_slices_partitionOrdered_int_0r _ _ _ _ _ _ _ _ ?_
    unfold L_slices_partitionOrdered_int_0T
    rw [scanUp_fI (by omega)] at k
    exact Br.no (by simp; omega) (k h D)
  | succ q ih =>
    intro i h hq hi D k
    refine L_slices_partitionOrdered_int_0r _ _ _ _ _ _ _ _ ?_
    unfold L_slices_partitionOrdered_int_0T
    rw [wp1I (by omega)]
    refine Br.dec (fun g => lessAI D hm I rfl rfl (by omega) (by omega) fun h' D' => Br.intro (fun g2 => ?_) fun g2 => ?_) fun g => ?_
    · rw [scanUp_tI (by omega) (by exact g2)] at k
      exact ih _ h' (by omega) (by omega) D' k
    · rw [scanUp_fI (fun x => by rw [g2] at x; exact absurd x.2 (by decide))] at k
      exact k h' D'
    · rw [scanUp_fI (by omega)] at k
      exact k h D
omit e0 in
theorem part_3I {a j : Nat} {d : Array Int} (ha : a < n) (hj : j < n) : ∀ (q i : Nat) (h : Heap), j + 1 - i ≤ q → i ≤ n → DaI left g0 B m n sp h d →
    (∀ h', DaI left g0 B m n sp h' d → L_slices_partitionOrdered_int_4 (some ⟨B, 0, none⟩) n c (a : Int) ((scanUp (fun x => ltOI left x d[a]!) d j i : Nat) : Int) (j : Int) h' K) →
    L_slices_partitionOrdered_int_3 (some ⟨B, 0, none⟩) n c (a : Int) (i : Int) (j : Int) h K := by
  intro q
  induction q with
  | zero =>
    intro i h hq hi D k
    refine L_slices_partitionOrdered_int_3r _ _ _ _ _ _ _ _ ?_
    unfold L_slices_partitionOrdered_int_3T
    rw [scanUp_fI (by omega)] at k
    exact Br.no (by simp; omega) (k h D)
  | succ q ih =>
    intro i h hq hi D k
    refine L_slices_partitionOrdered_int_3r _ _ _ _ _ _ _ _ ?_
    unfold L_slices_partitionOrdered_int_3T
    rw [wp1I (by omega)]
    refine Br.dec (fun g => lessAI D hm I rfl rfl (by omega) (by omega) fun h' D' => Br.intro (fun g2 => ?_) fun g2 => ?_) fun g => ?_
    · rw [scanUp_tI (by omega) (by exact g2)] at k
      exact ih _ h' (by omega) (by omega) D' k
    · rw [scanUp_fI (fun x => by rw [g2] at x; exact absurd x.2 (by decide))] at k
      exact k h' D'
    · rw [scanUp_fI (by omega)] at k
      exact k h D
theorem part_1I {a i : Nat} {d : Array Int} (ha : a < i) (hi : i ≤ n) : ∀ (q j : Nat) (h : Heap), j ≤ q → j < n → a ≤ j → DaI left g0 B m n sp h d →
    (i > scanDown (fun x => !ltOI left x d[a]!) d i j → ∀ h', DaI left g0 B m n sp h' (swp d (scanDown (fun x => !ltOI left x d[a]!) d i j) a) → K (tuple #[.int .i64 ((scanDown (fun x => !ltOI left x d[a]!) d i j : Nat) : Int), .bool true]) h') →
    (¬ i > scanDown (fun x => !ltOI left x d[a]!) d i j → ∀ h', DaI left g0 B m n sp h' (swp d i (scanDown (fun x => !ltOI left x d[a]!) d i j)) →
      L_slices_partitionOrdered_int_2 (some ⟨B, 0, none⟩) n c (a : Int) ((i + 1 : Nat) : Int) ((scanDown (fun x => !ltOI left x d[a]!) d i j - 1 : Nat) : Int) h' K) →
    L_slices_partitionOrdered_int_1 (some ⟨B, 0, none⟩) n c (a : Int) (i : Int) (j : Int) h K := by
  intro q
  induction q with
  | zero =>
    intro j h hq hj haj D k1 k2
    refine L_slices_partitionOrdered_int_1r _ _ _ _ _ _ _ _ ?_
    unfold L_slices_partitionOrdered_int_1T
    rw [scanDown_fI (by omega)] at k1
    exact Br.no (by simp; omega) (Br.yes (by simp; omega) (swapAI (J := fun h => Ret h K (tuple #[.int .i64 (j : Int), .bool true])) D e0 rfl rfl (by omega) (by omega) fun h1 D1 => Ret.mk (k1 (by omega) h1 D1)))
  | succ q ih =>
    intro j h hq hj haj D k1 k2
    refine L_slices_partitionOrdered_int_1r _ _ _ _ _ _ _ _ ?_
    unfold L_slices_partitionOrdered_int_1T
    by_cases g : i ≤ j
    · have w2 : IntKind.wrap .i64 ((j : Int) - 1) = ((j - 1 : Nat) : Int) := by rw [widI (by omega) (by omega)]; omega
      rw [wp1I (by omega), w2]
      refine Br.yes (by simp; omega) (lessNI D hm I rfl rfl (by omega) (by omega) fun h' D' => Br.intro (fun g2 => ?_) fun g2 => ?_)
      · rw [scanDown_tI g (by omega) (by exact g2)] at k1 k2
        exact ih _ h' (by omega) (by omega) (by omega) D' k1 k2
      · rw [scanDown_fI (fun x => by rw [g2] at x; exact absurd x.2 (by decide))] at k1 k2
        exact Br.no (by simp; omega) (swapAI (J := fun h => L_slices_partitionOrdered_int_2 (some ⟨B, 0, none⟩) n c (a : Int) ((i + 1 : Nat) : Int) ((j - 1 : Nat) : Int) h K) D' e0 rfl rfl (by omega) (by omega) fun h1 D1 => k2 (by omega) h1 D1)
    · rw [scanDown_fI (by omega)] at k1
      exact Br.no (by simp; omega) (Br.yes (by simp; omega) (swapAI (J := fun h => Ret h K (tuple #[.int .i64 (j : Int), .bool true])) D e0 rfl rfl (by omega) (by omega) fun h1 D1 => Ret.mk (k1 (by omega) h1 D1)))
theorem part_4I {a i : Nat} {d : Array Int} (ha : a < i) (hi : i ≤ n) : ∀ (q j : Nat) (h : Heap), j ≤ q → j < n → a ≤ j → DaI left g0 B m n sp h d →
    (i > scanDown (fun x => !ltOI left x d[a]!) d i j → ∀ h', DaI left g0 B m n sp h' (swp d (scanDown (fun x => !ltOI left x d[a]!) d i j) a) → K (tuple #[.int .i64 ((scanDown (fun x => !ltOI left x d[a]!) d i j : Nat) : Int), .bool false]) h') →
    (¬ i > scanDown (fun x => !ltOI left x d[a]!) d i j → ∀ h', DaI left g0 B m n sp h' (swp d i (scanDown (fun x => !ltOI left x d[a]!) d i j)) →
      L_slices_partitionOrdered_int_2 (some ⟨B, 0, none⟩) n c (a : Int) ((i + 1 : Nat) : Int) ((scanDown (fun x => !ltOI left x d[a]!) d i j - 1 : Nat) : Int) h' K) →
    L_slices_partitionOrdered_int_4 (some ⟨B, 0, none⟩) n c (a : Int) (i : Int) (j : Int) h K := by
  intro q
  induction q with
  | zero =>
    intro j h hq hj haj D k1 k2
    refine L_slices_partitionOrdered_int_4r _ _ _ _ _ _ _ _ ?_
    unfold L_slices_partitionOrdered_int_4T
    rw [scanDown_fI (by omega)] at k1
    exact Br.no (by simp; omega) (Br.yes (by simp; omega) (swapAI (J := fun h => Ret h K (tuple #[.int .i64 (j : Int), .bool false])) D e0 rfl rfl (by omega) (by omega) fun h1 D1 => Ret.mk (k1 (by omega) h1 D1)))
  | succ q ih =>
    intro j h hq hj haj D k1 k2
    refine L_slices_partitionOrdered_int_4r _ _ _ _ _ _ _ _ ?_
    unfold L_slices_partitionOrdered_int_4T
    by_cases g : i ≤ j
    · have w2 : IntKind.wrap .i64 ((j : Int) - 1) = ((j - 1 : Nat) : Int) := by rw [widI (by omega) (by omega)]; omega
      rw [wp1I (by omega), w2]
      refine Br.yes (by simp; omega) (lessNI D hm I rfl rfl (by omega) (by omega) fun h' D' => Br.intro (fun g2 => ?_) fun g2 => ?_)
      · rw [scanDown_tI g (by omega) (by exact g2)] at k1 k2
        exact ih _ h' (by omega) (by omega) (by omega) D' k1 k2
      · rw [scanDown_fI (fun x => by rw [g2] at x; exact absurd x.2 (by decide))] at k1 k2
        exact Br.no (by simp; omega) (swapAI (J := fun h => L_slices_partitionOrdered_int_2 (some ⟨B, 0, none⟩) n c (a : Int) ((i + 1 : Nat) : Int) ((j - 1 : Nat) : Int) h K) D' e0 rfl rfl (by omega) (by omega) fun h1 D1 => k2 (by omega) h1 D1)
    · rw [scanDown_fI (by omega)] at k1
      exact Br.no (by simp; omega) (Br.yes (by simp; omega) (swapAI (J := fun h => Ret h K (tuple #[.int .i64 (j : Int), .bool false])) D e0 rfl rfl (by omega) (by omega) fun h1 D1 => Ret.mk (k1 (by omega) h1 D1)))
theorem part_2I {a : Nat} : ∀ (q i j : Nat) (d : Array Int) (h : Heap), j + 1 - i ≤ q → a < i → i ≤ n → a ≤ j → j < n → DaI left g0 B m n sp h d →
    (∀ h', DaI left g0 B m n sp h' (swp (partLoop (ltOI left) a i j d).2 (partLoop (ltOI left) a i j d).1 a) → K (tuple #[.int .i64 (((partLoop (ltOI left) a i j d).1 : Nat) : Int), .bool false]) h') →
    L_slices_partitionOrdered_int_2 (some ⟨B, 0, none⟩) n c (a : Int) (i : Int) (j : Int) h K := by
  intro q
  induction q with
  | zero =>
    intro i j d h hq ha hij haj hj D k
    refine L_slices_partitionOrdered_int_2r _ _ _ _ _ _ _ _ ?_
    unfold L_slices_partitionOrdered_int_2T
    refine part_3I hm I hn (by omega) (by omega) _ _ h (Nat.le_refl _) (by omega) D fun h1 D1 => ?_
    have hu := scanUp_ge (fun x => ltOI left x d[a]!) d j i
    have hu2 := scanUp_leI (p := fun x => ltOI left x d[a]!) (d := d) hij hj
    rw [partLoop_eq] at k
    refine part_4I e0 hm I hn (by omega) (by omega) _ _ h1 (Nat.le_refl _) (by omega) (by omega) D1 (fun g h2 D2 => ?_) fun g h2 D2 => ?_
    · rw [if_pos g] at k; exact k h2 D2
    · have := scanDown_le (fun x => !ltOI left x d[a]!) d (scanUp (fun x => ltOI left x d[a]!) d j i) j
      omega
  | succ q ih =>
    intro i j d h hq ha hij haj hj D k
    refine L_slices_partitionOrdered_int_2r _ _ _ _ _ _ _ _ ?_
    unfold L_slices_partitionOrdered_int_2T
    refine part_3I hm I hn (by omega) (by omega) _ _ h (Nat.le_refl _) (by omega) D fun h1 D1 => ?_
    have hu := scanUp_ge (fun x => ltOI left x d[a]!) d j i
    have hu2 := scanUp_leI (p := fun x => ltOI left x d[a]!) (d := d) hij hj
    rw [partLoop_eq] at k
    refine part_4I e0 hm I hn (by omega) (by omega) _ _ h1 (Nat.le_refl _) (by omega) (by omega) D1 (fun g h2 D2 => ?_) fun g h2 D2 => ?_
    · rw [if_pos g] at k; exact k h2 D2
    · have hd := scanDown_le (fun x => !ltOI left x d[a]!) d (scanUp (fun x => ltOI left x d[a]!) d j i) j
      rw [if_neg g] at k
      exact ih _ _ _ h2 (by omega) (by omega) (by omega) (by omega) (by omega) D2 k
theorem S_partitionI {h : Heap} {d : Array Int} {a b pivot : Nat} (hab : a + 1 < b) (hb : b ≤ n) (hp1 : a ≤ pivot) (hp2 : pivot < b) (D : DaI left g0 B m n sp h d)
    (k : ∀ h', DaI left g0 B m n sp h' (partition (ltOI left) d a b pivot).2.2 → K (tuple #[.int .i64 (((partition (ltOI left) d a b pivot).1 : Nat) : Int), .bool (partition (ltOI left) d a b pivot).2.1]) h') :
    CallA Try.prog fn_slices_partitionOrdered_int [slice (some ⟨B, 0, none⟩) n c, .int .i64 (a : Int), .int .i64 (b : Int), .int .i64 (pivot : Int)] h K := by
  refine F_slices_partitionOrdered_int _ _ _ _ _ _ _ _ ?_
  unfold F_slices_partitionOrdered_intT
  have w2 : IntKind.wrap .i64 ((b : Int) - 1) = ((b - 1 : Nat) : Int) := by rw [widI (by omega) (by omega)]; omega
  rw [wp1I (by omega), w2]
  unfold partition at k
  dsimp only at k
  refine swapAI (J := fun h => L_slices_partitionOrdered_int_0 (some ⟨B, 0, none⟩) n c (a : Int) ((a + 1 : Nat) : Int) ((b - 1 : Nat) : Int) h K) D e0 rfl rfl (by omega) (by omega) fun h1 D1 => ?_
  generalize swp d a pivot = d1 at *
  refine part_0I hm I hn (by omega) (by omega) _ _ h1 (Nat.le_refl _) (by omega) D1 fun h2 D2 => ?_
  have hu := scanUp_ge (fun x => ltOI left x d1[a]!) d1 (b - 1) (a + 1)
  have hu2 := scanUp_leI (p := fun x => ltOI left x d1[a]!) (d := d1) (j := b - 1) (i := a + 1) (n := n) (by omega) (by omega)
  refine part_1I e0 hm I hn (by omega) (by omega) _ _ h2 (Nat.le_refl _) (by omega) (by omega) D2 (fun g h3 D3 => ?_) fun g h3 D3 => ?_
  · rw [if_pos g] at k; exact k h3 D3
  · have hd := scanDown_le (fun x => !ltOI left x d1[a]!) d1 (scanUp (fun x => ltOI left x d1[a]!) d1 (b - 1) (a + 1)) (b - 1)
    rw [if_neg g] at k
    exact part_2I e0 hm I hn _ _ _ _ h3 (Nat.le_refl _) (by omega) (by omega) (by omega) (by omega) D3 k
/-! what is as great as the pivot -/
omit e0 in
theorem eq_1I {a j : Nat} {d : Array Int} (ha : a < n) (hj : j < n) : ∀ (q i : Nat) (h : Heap), j + 1 - i ≤ q → i ≤ n → DaI left g0 B m n sp h d →
    (∀ h', DaI left g0 B m n sp h' d → L_slices_partitionEqualOrdered_int_2 (some ⟨B, 0, none⟩) n c (a : Int) ((scanUp (fun x => !ltOI left d[a]! x) d j i : Nat) : Int) (j : Int) h' K) →
    L_slices_partitionEqualOrdered_int_1 (some ⟨B, 0, none⟩) n c (a : Int) (i : Int) (j : Int) h K := by
  intro q
  induction q with
  | zero =>
    intro i h hq hi D k
    refine L_slices_partitionEqualOrdered_int_1r _ _ _ _ _ _ _ _ ?_
    unfold L_slices_partitionEqualOrdered_int_1T
    rw [scanUp_fI (by omega)] at k
    exact Br.no (by simp; omega) (k h D)
  | succ q ih =>
    intro i h hq hi D k
    refine L_slices_partitionEqualOrdered_int_1r _ _ _ _ _ _ _ _ ?_
    unfold L_slices_partitionEqualOrdered_int_1T
    rw [wp1I (by omega)]
    refine Br.dec (fun g => lessNI D hm I rfl rfl (by omega) (by omega) fun h' D' => Br.intro (fun g2 => ?_) fun g2 => ?_) fun g => ?_
    · rw [scanUp_tI (by omega) (by exact g2)] at k
      exact ih _ h' (by omega) (by omega) D' k
    · rw [scanUp_fI (fun x => by rw [g2] at x; exact absurd x.2 (by decide))] at k
      exact k h' D'
    · rw [scanUp_fI (by omega)] at k
      exact k h D
theorem eq_2I {a i : Nat} {d : Array Int} (ha : a < i) (hi : i ≤ n) : ∀ (q j : Nat) (h : Heap), j ≤ q → j < n → a ≤ j → DaI left g0 B m n sp h d →
    (i > scanDown (fun x => ltOI left d[a]! x) d i j → ∀ h', DaI left g0 B m n sp h' d → K (.int .i64 (i : Int)) h') →
    (¬ i > scanDown (fun x => ltOI left d[a]! x) d i j → ∀ h', DaI left g0 B m n sp h' (swp d i (scanDown (fun x => ltOI left d[a]! x) d i j)) →
      L_slices_partitionEqualOrdered_int_0 (some ⟨B, 0, none⟩) n c (a : Int) ((i + 1 : Nat) : Int) ((scanDown (fun x => ltOI left d[a]! x) d i j - 1 : Nat) : Int) h' K) →
    L_slices_partitionEqualOrdered_int_2 (some ⟨B, 0, none⟩) n c (a : Int) (i : Int) (j : Int) h K := by
  intro q
  induction q with
  | zero =>
    intro j h hq hj haj D k1 k2
    refine L_slices_partitionEqualOrdered_int_2r _ _ _ _ _ _ _ _ ?_
    unfold L_slices_partitionEqualOrdered_int_2T
    rw [scanDown_fI (by omega)] at k1
    exact Br.no (by simp; omega) (Br.yes (by simp; omega) (Ret.mk (k1 (by omega) h D)))
  | succ q ih =>
    intro j h hq hj haj D k1 k2
    refine L_slices_partitionEqualOrdered_int_2r _ _ _ _ _ _ _ _ ?_
    unfold L_slices_partitionEqualOrdered_int_2T
    by_cases g : i ≤ j
    · have w2 : IntKind.wrap .i64 ((j : Int) - 1) = ((j - 1 : Nat) : Int) := by rw [widI (by omega) (by omega)]; omega
      rw [wp1I (by omega), w2]
      refine Br.yes (by simp; omega) (lessAI D hm I rfl rfl (by omega) (by omega) fun h' D' => Br.intro (fun g2 => ?_) fun g2 => ?_)
      · rw [scanDown_tI g (by omega) (by exact g2)] at k1 k2
        exact ih _ h' (by omega) (by omega) (by omega) D' k1 k2
      · rw [scanDown_fI (fun x => by rw [g2] at x; exact absurd x.2 (by decide))] at k1 k2
        exact Br.no (by simp; omega) (swapAI (J := fun h => L_slices_partitionEqualOrdered_int_0 (some ⟨B, 0, none⟩) n c (a : Int) ((i + 1 : Nat) : Int) ((j - 1 : Nat) : Int) h K) D' e0 rfl rfl (by omega) (by omega) fun h1 D1 => k2 (by omega) h1 D1)
    · rw [scanDown_fI (by omega)] at k1
      exact Br.no (by simp; omega) (Br.yes (by simp; omega) (Ret.mk (k1 (by omega) h D)))
theorem eq_0I {a : Nat} : ∀ (q i j : Nat) (d : Array Int) (h : Heap), j + 1 - i ≤ q → a < i → i ≤ n → a ≤ j → j < n → DaI left g0 B m n sp h d →
    (∀ h', DaI left g0 B m n sp h' (partEqLoop (ltOI left) a i j d).2 → K (.int .i64 (((partEqLoop (ltOI left) a i j d).1 : Nat) : Int)) h') →
    L_slices_partitionEqualOrdered_int_0 (some ⟨B, 0, none⟩) n c (a : Int) (i : Int) (j : Int) h K := by
  intro q
  induction q with
  | zero =>
    intro i j d h hq ha hij haj hj D k
    refine L_slices_partitionEqualOrdered_int_0r _ _ _ _ _ _ _ _ ?_
    unfold L_slices_partitionEqualOrdered_int_0T
    refine eq_1I hm I hn (by omega) (by omega) _ _ h (Nat.le_refl _) (by omega) D fun h1 D1 => ?_
    have hu := scanUp_ge (fun x => !ltOI left d[a]! x) d j i
    have hu2 := scanUp_leI (p := fun x => !ltOI left d[a]! x) (d := d) hij hj
    rw [partEqLoop_eq] at k
    refine eq_2I e0 hm I hn (by omega) (by omega) _ _ h1 (Nat.le_refl _) (by omega) (by omega) D1 (fun g h2 D2 => ?_) fun g h2 D2 => ?_
    · rw [if_pos g] at k; exact k h2 D2
    · have := scanDown_le (fun x => ltOI left d[a]! x) d (scanUp (fun x => !ltOI left d[a]! x) d j i) j
      omega
  | succ q ih =>
    intro i j d h hq ha hij haj hj D k
    refine L_slices_partitionEqualOrdered_int_0r _ _ _ _ _ _ _ _ ?_
    unfold L_slices_partitionEqualOrdered_int_0T
    refine eq_1I hm I hn (by omega) (by omega) _ _ h (Nat.le_refl _) (by omega) D fun h1 D1 => ?_
    have hu := scanUp_ge (fun x => !ltOI left d[a]! x) d j i
    have hu2 := scanUp_leI (p := fun x => !ltOI left d[a]! x) (d := d) hij hj
    rw [partEqLoop_eq] at k
    refine eq_2I e0 hm I hn (by omega) (by omega) _ _ h1 (Nat.le_refl _) (by omega) (by omega) D1 (fun g h2 D2 => ?_) fun g h2 D2 => ?_
    · rw [if_pos g] at k; exact k h2 D2
    · have hd := scanDown_le (fun x => ltOI left d[a]! x) d (scanUp (fun x => !ltOI left d[a]! x) d j i) j
      rw [if_neg g] at k
      exact ih _ _ _ h2 (by omega) (by omega) (by omega) (by omega) (by omega) D2 k
theorem S_partitionEqualI {h : Heap} {d : Array Int} {a b pivot : Nat} (hab : a + 1 < b) (hb : b ≤ n) (hp1 : a ≤ pivot) (hp2 : pivot < b) (D : DaI left g0 B m n sp h d)
    (k : ∀ h', DaI left g0 B m n sp h' (partitionEqual (ltOI left) d a b pivot).2 → K (.int .i64 (((partitionEqual (ltOI left) d a b pivot).1 : Nat) : Int)) h') :
    CallA Try.prog fn_slices_partitionEqualOrdered_int [slice (some ⟨B, 0, none⟩) n c, .int .i64 (a : Int), .int .i64 (b : Int), .int .i64 (pivot : Int)] h K := by
  refine F_slices_partitionEqualOrdered_int _ _ _ _ _ _ _ _ ?_
  unfold F_slices_partitionEqualOrdered_intT
  have w2 : IntKind.wrap .i64 ((b : Int) - 1) = ((b - 1 : Nat) : Int) := by rw [widI (by omega) (by omega)]; omega
  rw [wp1I (by omega), w2]
  unfold partitionEqual at k
  refine swapAI (J := fun h => L_slices_partitionEqualOrdered_int_0 (some ⟨B, 0, none⟩) n c (a : Int) ((a + 1 : Nat) : Int) ((b - 1 : Nat) : Int) h K) D e0 rfl rfl (by omega) (by omega) fun h1 D1 => ?_
  exact eq_0I e0 hm I hn _ _ _ _ h1 (Nat.le_refl _) (by omega) (by omega) (by omega) (by omega) D1 k
/-! few steps -/
theorem few_3I {a b i s : Nat} (hb : b ≤ n) (hs : s ≤ 100) : ∀ (q j : Nat) (d : Array Int) (h : Heap), b - j ≤ q → j ≤ n + 1 → 1 ≤ j → DaI left g0 B m n sp h d →
    (∀ h', DaI left g0 B m n sp h' (shiftUp (ltOI left) b j d) → L_slices_partialInsertionSortOrdered_int_0 (some ⟨B, 0, none⟩) n c (a : Int) (b : Int) (i : Int) ((s + 1 : Nat) : Int) h' K) →
    L_slices_partialInsertionSortOrdered_int_3 (some ⟨B, 0, none⟩) n c (a : Int) (b : Int) (i : Int) (s : Int) (j : Int) h K := by
  intro q
  induction q with
  | zero =>
    intro j d h hq hj h1 D k
    refine L_slices_partialInsertionSortOrdered_int_3r _ _ _ _ _ _ _ _ _ _ ?_
    unfold L_slices_partialInsertionSortOrdered_int_3T
    rw [shiftUp, if_neg (by omega)] at k
    rw [wp1I (j := s) (by omega)]
    exact Br.no (by simp; omega) (k h D)
  | succ q ih =>
    intro j d h hq hj h1 D k
    refine L_slices_partialInsertionSortOrdered_int_3r _ _ _ _ _ _ _ _ _ _ ?_
    unfold L_slices_partialInsertionSortOrdered_int_3T
    have w2 : IntKind.wrap .i64 ((j : Int) - 1) = ((j - 1 : Nat) : Int) := by rw [widI (by omega) (by omega)]; omega
    rw [wp1I (j := s) (by omega), wp1I (j := j) (by omega), w2]
    rw [shiftUp] at k
    refine Br.dec (fun g => lessNI D hm I rfl rfl (by omega) (by omega) fun h' D' => Br.intro (fun g2 => ?_) fun g2 => ?_) fun g => ?_
    · rw [if_pos (by omega), if_pos g2] at k
      exact k h' D'
    · rw [if_pos (by omega), if_neg (by rw [g2]; decide)] at k
      exact swapAI (J := fun h => L_slices_partialInsertionSortOrdered_int_3 (some ⟨B, 0, none⟩) n c (a : Int) (b : Int) (i : Int) (s : Int) ((j + 1 : Nat) : Int) h K) D' e0 rfl rfl (by omega) (by omega) fun h1 D1 => ih _ _ h1 (by omega) (by omega) (by omega) D1 k
    · rw [if_neg (by omega)] at k
      exact k h D
theorem few_upI {a b i s : Nat} (hb : b ≤ n) (hs : s ≤ 100) (hi : i ≤ n) {d : Array Int} {h : Heap} (D : DaI left g0 B m n sp h d)
    (k : ∀ h', DaI left g0 B m n sp h' (fixUp (ltOI left) b i d) → L_slices_partialInsertionSortOrdered_int_0 (some ⟨B, 0, none⟩) n c (a : Int) (b : Int) (i : Int) ((s + 1 : Nat) : Int) h' K) :
    Br (decide (IntKind.wrap .i64 ((b : Int) - (i : Int)) ≥ 2)) (L_slices_partialInsertionSortOrdered_int_3 (some ⟨B, 0, none⟩) n c (a : Int) (b : Int) (i : Int) (s : Int) ((i + 1 : Nat) : Int) h K)
      (L_slices_partialInsertionSortOrdered_int_0 (some ⟨B, 0, none⟩) n c (a : Int) (b : Int) (i : Int) ((s + 1 : Nat) : Int) h K) := by
  rw [widI (by omega) (by omega)]
  unfold fixUp at k
  refine Br.dec (fun g => ?_) fun g => ?_
  · rw [if_pos (by omega)] at k
    exact few_3I e0 hm I hn hb hs _ _ _ h (Nat.le_refl _) (by omega) (by omega) D k
  · rw [if_neg (by omega)] at k
    exact k h D
theorem few_2I {a b i s : Nat} (hb : b ≤ n) (hs : s ≤ 100) (hi : i ≤ n) : ∀ (j : Nat) (d : Array Int) (h : Heap), j < n → DaI left g0 B m n sp h d →
    (∀ h', DaI left g0 B m n sp h' (fixUp (ltOI left) b i (shiftDown (ltOI left) j d)) → L_slices_partialInsertionSortOrdered_int_0 (some ⟨B, 0, none⟩) n c (a : Int) (b : Int) (i : Int) ((s + 1 : Nat) : Int) h' K) →
    L_slices_partialInsertionSortOrdered_int_2 (some ⟨B, 0, none⟩) n c (a : Int) (b : Int) (i : Int) (s : Int) (j : Int) h K := by
  intro j
  induction j with
  | zero =>
    intro d h hj D k
    refine L_slices_partialInsertionSortOrdered_int_2r _ _ _ _ _ _ _ _ _ _ ?_
    unfold L_slices_partialInsertionSortOrdered_int_2T
    rw [shiftDown] at k
    rw [wp1I (j := s) (by omega), wp1I (j := i) (by omega)]
    exact Br.no (by simp) (few_upI e0 hm I hn hb hs hi D k)
  | succ j ih =>
    intro d h hj D k
    refine L_slices_partialInsertionSortOrdered_int_2r _ _ _ _ _ _ _ _ _ _ ?_
    unfold L_slices_partialInsertionSortOrdered_int_2T
    rw [wp1I (j := s) (by omega), wp1I (j := i) (by omega), wm1I (by omega)]
    rw [shiftDown] at k
    refine Br.yes (by simp; omega) (lessNI D hm I rfl rfl (by omega) (by omega) fun h' D' => Br.intro (fun g2 => ?_) fun g2 => ?_)
    · rw [if_pos g2] at k
      exact few_upI e0 hm I hn hb hs hi D' k
    · rw [if_neg (by rw [g2]; decide)] at k
      exact swapAI (J := fun h => L_slices_partialInsertionSortOrdered_int_2 (some ⟨B, 0, none⟩) n c (a : Int) (b : Int) (i : Int) (s : Int) (j : Int) h K) D' e0 rfl rfl (by omega) (by omega) fun h1 D1 => ih _ h1 (by omega) D1 k
theorem few_1I {a b s : Nat} (hb : b ≤ n) (hs : s ≤ 100) {d : Array Int} : ∀ (q i : Nat) (h : Heap), b - i ≤ q → a < i → i ≤ b → DaI left g0 B m n sp h d →
      (scanSorted (ltOI left) d b i = b → ∀ h', DaI left g0 B m n sp h' d → K (.bool true) h') →
      (scanSorted (ltOI left) d b i ≠ b → b - a < 50 → ∀ h', DaI left g0 B m n sp h' d → K (.bool false) h') →
      (scanSorted (ltOI left) d b i ≠ b → ¬ b - a < 50 → ∀ h', DaI left g0 B m n sp h' (fixUp (ltOI left) b (scanSorted (ltOI left) d b i) (fixDown (ltOI left) a (scanSorted (ltOI left) d b i) (swp d (scanSorted (ltOI left) d b i) (scanSorted (ltOI left) d b i - 1)))) →
        L_slices_partialInsertionSortOrdered_int_0 (some ⟨B, 0, none⟩) n c (a : Int) (b : Int) ((scanSorted (ltOI left) d b i : Nat) : Int) ((s + 1 : Nat) : Int) h' K) →
      L_slices_partialInsertionSortOrdered_int_1 (some ⟨B, 0, none⟩) n c (a : Int) (b : Int) (i : Int) (s : Int) h K := by
  intro q
  induction q with
  | zero =>
    intro i h hq ha hi D k1 k2 k3
    refine L_slices_partialInsertionSortOrdered_int_1r _ _ _ _ _ _ _ _ _ ?_
    unfold L_slices_partialInsertionSortOrdered_int_1T
    have e : scanSorted (ltOI left) d b i = i := by rw [scanSorted, if_neg (by simp; omega)]
    rw [e] at k1
    exact Br.no (by simp; omega) (Br.yes (by simp; omega) (Ret.mk (k1 (by omega) h D)))
  | succ q ih =>
    intro i h hq ha hi D k1 k2 k3
    refine L_slices_partialInsertionSortOrdered_int_1r _ _ _ _ _ _ _ _ _ ?_
    unfold L_slices_partialInsertionSortOrdered_int_1T
    by_cases g : i < b
    · have w2 : IntKind.wrap .i64 ((i : Int) - 1) = ((i - 1 : Nat) : Int) := by rw [widI (by omega) (by omega)]; omega
      have w3 : IntKind.wrap .i64 ((b : Int) - (a : Int)) = ((b - a : Nat) : Int) := by rw [widI (by omega) (by omega)]; omega
      have w4 : IntKind.wrap .i64 ((i : Int) - (a : Int)) = ((i - a : Nat) : Int) := by rw [widI (by omega) (by omega)]; omega
      rw [wp1I (j := s) (by omega), wp1I (j := i) (by omega), w2, w3, w4]
      refine Br.yes (by simp; omega) (lessNI D hm I rfl rfl (by omega) (by omega) fun h' D' => Br.intro (fun g2 => ?_) fun g2 => ?_)
      · have e : scanSorted (ltOI left) d b i = scanSorted (ltOI left) d b (i + 1) := by rw [scanSorted, if_pos (by rw [g2, Bool.and_true]; exact decide_eq_true g)]
        rw [e] at k1 k2 k3
        exact ih _ h' (by omega) (by omega) (by omega) D' k1 k2 k3
      have e : scanSorted (ltOI left) d b i = i := by rw [scanSorted, if_neg (by rw [g2]; simp)]
      rw [e] at k2 k3
      refine Br.no (by simp; omega) (Br.dec (fun g3 => Ret.mk (k2 (by omega) (by omega) h' D')) fun g3 => ?_)
      have k3 := k3 (by omega) (by omega)
      unfold fixDown at k3
      refine swapAI (J := fun h => Br (decide (((i - a : Nat) : Int) ≥ 2)) (L_slices_partialInsertionSortOrdered_int_2 (some ⟨B, 0, none⟩) n c (a : Int) (b : Int) (i : Int) (s : Int) ((i - 1 : Nat) : Int) h K) (Br (decide (IntKind.wrap .i64 ((b : Int) - (i : Int)) ≥ 2)) (L_slices_partialInsertionSortOrdered_int_3 (some ⟨B, 0, none⟩) n c (a : Int) (b : Int) (i : Int) (s : Int) ((i + 1 : Nat) : Int) h K) (L_slices_partialInsertionSortOrdered_int_0 (some ⟨B, 0, none⟩) n c (a : Int) (b : Int) (i : Int) ((s + 1 : Nat) : Int) h K))) D' e0 rfl rfl (by omega) (by omega) fun h1 D1 => ?_
      refine Br.dec (fun g4 => ?_) fun g4 => ?_
      · rw [if_pos (by omega)] at k3
        exact few_2I e0 hm I hn hb hs (by omega) _ _ h1 (by omega) D1 k3
      · rw [if_neg (by omega)] at k3
        exact few_upI e0 hm I hn hb hs (by omega) D1 k3
    · have e : scanSorted (ltOI left) d b i = i := by rw [scanSorted, if_neg (by simp; omega)]
      rw [e] at k1
      exact Br.no (by simp; omega) (Br.yes (by simp; omega) (Ret.mk (k1 (by omega) h D)))
theorem few_0I {a b : Nat} (hb : b ≤ n) : ∀ (q s i : Nat) (d : Array Int) (h : Heap), q + s = 5 → a < i → i ≤ b → DaI left g0 B m n sp h d →
    (∀ h', DaI left g0 B m n sp h' (partialIns (ltOI left) a b q i d).1 → K (.bool (partialIns (ltOI left) a b q i d).2) h') →
    L_slices_partialInsertionSortOrdered_int_0 (some ⟨B, 0, none⟩) n c (a : Int) (b : Int) (i : Int) (s : Int) h K := by
  intro q
  induction q with
  | zero =>
    intro s i d h hq ha hi D k
    refine L_slices_partialInsertionSortOrdered_int_0r _ _ _ _ _ _ _ _ _ ?_
    unfold L_slices_partialInsertionSortOrdered_int_0T
    exact Br.no (by simp; omega) (Ret.mk (k h D))
  | succ q ih =>
    intro s i d h hq ha hi D k
    refine L_slices_partialInsertionSortOrdered_int_0r _ _ _ _ _ _ _ _ _ ?_
    unfold L_slices_partialInsertionSortOrdered_int_0T
    rw [partialIns_succ] at k
    have hsc : i ≤ scanSorted (ltOI left) d b i ∧ scanSorted (ltOI left) d b i ≤ b := by
      clear k
      generalize hz : b - i = z
      induction z generalizing i with
      | zero => rw [scanSorted, if_neg (by simp; omega)]; omega
      | succ z ih2 =>
        rw [scanSorted]
        split
        · have := ih2 (i + 1) (by omega) (by omega) (by omega); omega
        · omega
    refine Br.yes (by simp; omega) (few_1I e0 hm I hn hb (by omega) _ _ h (Nat.le_refl _) ha hi D (fun g h' D' => ?_) (fun g g2 h' D' => ?_) fun g g2 h' D' => ?_)
    · rw [if_pos g] at k; exact k h' D'
    · rw [if_neg g, if_pos g2] at k; exact k h' D'
    · rw [if_neg g, if_neg g2] at k
      exact ih _ _ _ h' (by omega) (by omega) hsc.2 D' k
theorem S_fewI {h : Heap} {d : Array Int} {a b : Nat} (hab : a < b) (hb : b ≤ n) (D : DaI left g0 B m n sp h d)
    (k : ∀ h', DaI left g0 B m n sp h' (partialInsertionSort (ltOI left) d a b).1 → K (.bool (partialInsertionSort (ltOI left) d a b).2) h') :
    CallA Try.prog fn_slices_partialInsertionSortOrdered_int [slice (some ⟨B, 0, none⟩) n c, .int .i64 (a : Int), .int .i64 (b : Int)] h K := by
  refine F_slices_partialInsertionSortOrdered_int _ _ _ _ _ _ _ ?_
  unfold F_slices_partialInsertionSortOrdered_intT
  rw [wp1I (by omega)]
  exact few_0I e0 hm I hn hb 5 0 _ _ h rfl (by omega) (by omega) D k
end
end Go.Proofs.Ytjihfieahkbohaa
