/- A list parted by a pivot, or tried to be put in order by few steps. -/
import Derived.Test.YtghdadniddoboaaEqSpSortB
import Derived.Test.YtghdadniddoboaaSpSort
namespace Go.Proofs.Ytghdadniddoboaa
open Go Go.Sy Go.Value Go.Sort
set_option linter.unusedVariables false
set_option linter.unusedSimpArgs false

theorem scanUp_t {α : Type} [Inhabited α] {p : α → Bool} {d : Array α} {j i : Nat} (h : i ≤ j) (hp : p d[i]! = true) : scanUp p d j i = scanUp p d j (i + 1) := by
  rw [scanUp, if_pos (by rw [hp, Bool.and_true]; exact decide_eq_true h)]
theorem scanUp_f {α : Type} [Inhabited α] {p : α → Bool} {d : Array α} {j i : Nat} (h : ¬ (i ≤ j ∧ p d[i]! = true)) : scanUp p d j i = i := by
  rw [scanUp, if_neg (by rw [Bool.and_eq_true, decide_eq_true_eq]; exact h)]
theorem scanDown_t {α : Type} [Inhabited α] {p : α → Bool} {d : Array α} {j i : Nat} (h : i ≤ j) (h1 : 1 ≤ i) (hp : p d[j]! = true) : scanDown p d i j = scanDown p d i (j - 1) := by
  cases j with
  | zero => omega
  | succ j => rw [scanDown, if_pos (by rw [hp, Bool.and_true]; exact decide_eq_true h)]; rfl
theorem scanDown_f {α : Type} [Inhabited α] {p : α → Bool} {d : Array α} {j i : Nat} (h : ¬ (i ≤ j ∧ p d[j]! = true)) : scanDown p d i j = j := by
  cases j with
  | zero => rw [scanDown]
  | succ j => rw [scanDown, if_neg (by rw [Bool.and_eq_true, decide_eq_true_eq]; exact h)]
theorem scanUp_le {α : Type} [Inhabited α] {p : α → Bool} {d : Array α} {j i n : Nat} (h : i ≤ n) (hj : j < n) : scanUp p d j i ≤ n := by
  by_cases g : i ≤ j + 1
  · have := (scanUp_spec p d j _ i rfl).2.1 g; omega
  · rw [scanUp_f (by omega)]; exact h

section
variable {g0 : Heap} {B m n c lc : Nat} {sp : List Value} {left : List Int} {lp : Option Addr} {K : Value → Heap → Prop} (e0 : g0 B = none) (hm : left.length = m) (I : Ints .i64 g0 lp left) (hn : n ≤ 1000000)
include e0 hm I hn
/-! by partition -/
omit e0 in
theorem part_0 {a j : Nat} {d : Array Int} (ha : a < n) (hj : j < n) : ∀ (q i : Nat) (h : Heap), j + 1 - i ≤ q → i ≤ n → Da g0 B m n sp h d →
    (∀ h', Da g0 B m n sp h' d → L_slices_partitionCmpFunc_int_1 (some ⟨B, 0, none⟩) n c (a : Int) lp m lc ((scanUp (fun x => ltO left x d[a]!) d j i : Nat) : Int) (j : Int) h' K) →
    L_slices_partitionCmpFunc_int_0 (some ⟨B, 0, none⟩) n c (a : Int) lp m lc (i : Int) (j : Int) h K := by
  intro q
  induction q with
  | zero =>
    intro i h hq hi D k
    refine L_slices_partitionCmpFunc_int_0r _ _ _ _ _ _ _ _ _ _ _ ?_
    unfold L_slices_partitionCmpFunc_int_0T
    rw [scanUp_f (by omega)] at k
    exact Br.no (by simp; omega) (k h D)
  | succ q ih =>
    intro i h hq hi D k
    refine L_slices_partitionCmpFunc_int_0r _ _ _ _ _ _ _ _ _ _ _ ?_
    unfold L_slices_partitionCmpFunc_int_0T
    rw [wp1 (by omega)]
    refine Br.dec (fun g => lessA D hm I rfl rfl (by omega) (by omega) fun h' D' => Br.intro (fun g2 => ?_) fun g2 => ?_) fun g => ?_
    · rw [scanUp_t (by omega) (by exact g2)] at k
      exact ih _ h' (by omega) (by omega) D' k
    · rw [scanUp_f (fun x => by rw [g2] at x; exact absurd x.2 (by decide))] at k
      exact k h' D'
    · rw [scanUp_f (by omega)] at k
      exact k h D
omit e0 in
theorem part_3 {a j : Nat} {d : Array Int} (ha : a < n) (hj : j < n) : ∀ (q i : Nat) (h : Heap), j + 1 - i ≤ q → i ≤ n → Da g0 B m n sp h d →
    (∀ h', Da g0 B m n sp h' d → L_slices_partitionCmpFunc_int_4 (some ⟨B, 0, none⟩) n c (a : Int) lp m lc ((scanUp (fun x => ltO left x d[a]!) d j i : Nat) : Int) (j : Int) h' K) →
    L_slices_partitionCmpFunc_int_3 (some ⟨B, 0, none⟩) n c (a : Int) lp m lc (i : Int) (j : Int) h K := by
  intro q
  induction q with
  | zero =>
    intro i h hq hi D k
    refine L_slices_partitionCmpFunc_int_3r _ _ _ _ _ _ _ _ _ _ _ ?_
    unfold L_slices_partitionCmpFunc_int_3T
    rw [scanUp_f (by omega)] at k
    exact Br.no (by simp; omega) (k h D)
  | succ q ih =>
    intro i h hq hi D k
    refine L_slices_partitionCmpFunc_int_3r _ _ _ _ _ _ _ _ _ _ _ ?_
    unfold L_slices_partitionCmpFunc_int_3T
    rw [wp1 (by omega)]
    refine Br.dec (fun g => lessA D hm I rfl rfl (by omega) (by omega) fun h' D' => Br.intro (fun g2 => ?_) fun g2 => ?_) fun g => ?_
    · rw [scanUp_t (by omega) (by exact g2)] at k
      exact ih _ h' (by omega) (by omega) D' k
    · rw [scanUp_f (fun x => by rw [g2] at x; exact absurd x.2 (by decide))] at k
      exact k h' D'
    · rw [scanUp_f (by omega)] at k
      exact k h D
theorem part_1 {a i : Nat} {d : Array Int} (ha : a < i) (hi : i ≤ n) : ∀ (q j : Nat) (h : Heap), j ≤ q → j < n → a ≤ j → Da g0 B m n sp h d →
    (i > scanDown (fun x => !ltO left x d[a]!) d i j → ∀ h', Da g0 B m n sp h' (swp d (scanDown (fun x => !ltO left x d[a]!) d i j) a) → K (tuple #[.int .i64 ((scanDown (fun x => !ltO left x d[a]!) d i j : Nat) : Int), .bool true]) h') →
    (¬ i > scanDown (fun x => !ltO left x d[a]!) d i j → ∀ h', Da g0 B m n sp h' (swp d i (scanDown (fun x => !ltO left x d[a]!) d i j)) →
      L_slices_partitionCmpFunc_int_2 (some ⟨B, 0, none⟩) n c (a : Int) lp m lc ((i + 1 : Nat) : Int) ((scanDown (fun x => !ltO left x d[a]!) d i j - 1 : Nat) : Int) h' K) →
    L_slices_partitionCmpFunc_int_1 (some ⟨B, 0, none⟩) n c (a : Int) lp m lc (i : Int) (j : Int) h K := by
  intro q
  induction q with
  | zero =>
    intro j h hq hj haj D k1 k2
    refine L_slices_partitionCmpFunc_int_1r _ _ _ _ _ _ _ _ _ _ _ ?_
    unfold L_slices_partitionCmpFunc_int_1T
    rw [scanDown_f (by omega)] at k1
    exact Br.no (by simp; omega) (Br.yes (by simp; omega) (swapA (J := fun h => Ret h K (tuple #[.int .i64 (j : Int), .bool true])) D e0 rfl rfl (by omega) (by omega) fun h1 D1 => Ret.mk (k1 (by omega) h1 D1)))
  | succ q ih =>
    intro j h hq hj haj D k1 k2
    refine L_slices_partitionCmpFunc_int_1r _ _ _ _ _ _ _ _ _ _ _ ?_
    unfold L_slices_partitionCmpFunc_int_1T
    by_cases g : i ≤ j
    · have w2 : IntKind.wrap .i64 ((j : Int) - 1) = ((j - 1 : Nat) : Int) := by rw [wid (by omega) (by omega)]; omega
      rw [wp1 (by omega), w2]
      refine Br.yes (by simp; omega) (lessN D hm I rfl rfl (by omega) (by omega) fun h' D' => Br.intro (fun g2 => ?_) fun g2 => ?_)
      · rw [scanDown_t g (by omega) (by exact g2)] at k1 k2
        exact ih _ h' (by omega) (by omega) (by omega) D' k1 k2
      · rw [scanDown_f (fun x => by rw [g2] at x; exact absurd x.2 (by decide))] at k1 k2
        exact Br.no (by simp; omega) (swapA (J := fun h => L_slices_partitionCmpFunc_int_2 (some ⟨B, 0, none⟩) n c (a : Int) lp m lc ((i + 1 : Nat) : Int) ((j - 1 : Nat) : Int) h K) D' e0 rfl rfl (by omega) (by omega) fun h1 D1 => k2 (by omega) h1 D1)
    · rw [scanDown_f (by omega)] at k1
      exact Br.no (by simp; omega) (Br.yes (by simp; omega) (swapA (J := fun h => Ret h K (tuple #[.int .i64 (j : Int), .bool true])) D e0 rfl rfl (by omega) (by omega) fun h1 D1 => Ret.mk (k1 (by omega) h1 D1)))
theorem part_4 {a i : Nat} {d : Array Int} (ha : a < i) (hi : i ≤ n) : ∀ (q j : Nat) (h : Heap), j ≤ q → j < n → a ≤ j → Da g0 B m n sp h d →
    (i > scanDown (fun x => !ltO left x d[a]!) d i j → ∀ h', Da g0 B m n sp h' (swp d (scanDown (fun x => !ltO left x d[a]!) d i j) a) → K (tuple #[.int .i64 ((scanDown (fun x => !ltO left x d[a]!) d i j : Nat) : Int), .bool false]) h') →
    (¬ i > scanDown (fun x => !ltO left x d[a]!) d i j → ∀ h', Da g0 B m n sp h' (swp d i (scanDown (fun x => !ltO left x d[a]!) d i j)) →
      L_slices_partitionCmpFunc_int_2 (some ⟨B, 0, none⟩) n c (a : Int) lp m lc ((i + 1 : Nat) : Int) ((scanDown (fun x => !ltO left x d[a]!) d i j - 1 : Nat) : Int) h' K) →
    L_slices_partitionCmpFunc_int_4 (some ⟨B, 0, none⟩) n c (a : Int) lp m lc (i : Int) (j : Int) h K := by
  intro q
  induction q with
  | zero =>
    intro j h hq hj haj D k1 k2
    refine L_slices_partitionCmpFunc_int_4r _ _ _ _ _ _ _ _ _ _ _ ?_
    unfold L_slices_partitionCmpFunc_int_4T
    rw [scanDown_f (by omega)] at k1
    exact Br.no (by simp; omega) (Br.yes (by simp; omega) (swapA (J := fun h => Ret h K (tuple #[.int .i64 (j : Int), .bool false])) D e0 rfl rfl (by omega) (by omega) fun h1 D1 => Ret.mk (k1 (by omega) h1 D1)))
  | succ q ih =>
    intro j h hq hj haj D k1 k2
    refine L_slices_partitionCmpFunc_int_4r _ _ _ _ _ _ _ _ _ _ _ ?_
    unfold L_slices_partitionCmpFunc_int_4T
    by_cases g : i ≤ j
    · have w2 : IntKind.wrap .i64 ((j : Int) - 1) = ((j - 1 : Nat) : Int) := by rw [wid (by omega) (by omega)]; omega
      rw [wp1 (by omega), w2]
      refine Br.yes (by simp; omega) (lessN D hm I rfl rfl (by omega) (by omega) fun h' D' => Br.intro (fun g2 => ?_) fun g2 => ?_)
      · rw [scanDown_t g (by omega) (by exact g2)] at k1 k2
        exact ih _ h' (by omega) (by omega) (by omega) D' k1 k2
      · rw [scanDown_f (fun x => by rw [g2] at x; exact absurd x.2 (by decide))] at k1 k2
        exact Br.no (by simp; omega) (swapA (J := fun h => L_slices_partitionCmpFunc_int_2 (some ⟨B, 0, none⟩) n c (a : Int) lp m lc ((i + 1 : Nat) : Int) ((j - 1 : Nat) : Int) h K) D' e0 rfl rfl (by omega) (by omega) fun h1 D1 => k2 (by omega) h1 D1)
    · rw [scanDown_f (by omega)] at k1
      exact Br.no (by simp; omega) (Br.yes (by simp; omega) (swapA (J := fun h => Ret h K (tuple #[.int .i64 (j : Int), .bool false])) D e0 rfl rfl (by omega) (by omega) fun h1 D1 => Ret.mk (k1 (by omega) h1 D1)))
theorem part_2 {a : Nat} : ∀ (q i j : Nat) (d : Array Int) (h : Heap), j + 1 - i ≤ q → a < i → i ≤ n → a ≤ j → j < n → Da g0 B m n sp h d →
    (∀ h', Da g0 B m n sp h' (swp (partLoop (ltO left) a i j d).2 (partLoop (ltO left) a i j d).1 a) → K (tuple #[.int .i64 (((partLoop (ltO left) a i j d).1 : Nat) : Int), .bool false]) h') →
    L_slices_partitionCmpFunc_int_2 (some ⟨B, 0, none⟩) n c (a : Int) lp m lc (i : Int) (j : Int) h K := by
  intro q
  induction q with
  | zero =>
    intro i j d h hq ha hij haj hj D k
    refine L_slices_partitionCmpFunc_int_2r _ _ _ _ _ _ _ _ _ _ _ ?_
    unfold L_slices_partitionCmpFunc_int_2T
    refine part_3 hm I hn (by omega) (by omega) _ _ h (Nat.le_refl _) (by omega) D fun h1 D1 => ?_
    have hu := scanUp_ge (fun x => ltO left x d[a]!) d j i
    have hu2 := scanUp_le (p := fun x => ltO left x d[a]!) (d := d) hij hj
    rw [partLoop_eq] at k
    refine part_4 e0 hm I hn (by omega) (by omega) _ _ h1 (Nat.le_refl _) (by omega) (by omega) D1 (fun g h2 D2 => ?_) fun g h2 D2 => ?_
    · rw [if_pos g] at k; exact k h2 D2
    · have := scanDown_le (fun x => !ltO left x d[a]!) d (scanUp (fun x => ltO left x d[a]!) d j i) j
      omega
  | succ q ih =>
    intro i j d h hq ha hij haj hj D k
    refine L_slices_partitionCmpFunc_int_2r _ _ _ _ _ _ _ _ _ _ _ ?_
    unfold L_slices_partitionCmpFunc_int_2T
    refine part_3 hm I hn (by omega) (by omega) _ _ h (Nat.le_refl _) (by omega) D fun h1 D1 => ?_
    have hu := scanUp_ge (fun x => ltO left x d[a]!) d j i
    have hu2 := scanUp_le (p := fun x => ltO left x d[a]!) (d := d) hij hj
    rw [partLoop_eq] at k
    refine part_4 e0 hm I hn (by omega) (by omega) _ _ h1 (Nat.le_refl _) (by omega) (by omega) D1 (fun g h2 D2 => ?_) fun g h2 D2 => ?_
    · rw [if_pos g] at k; exact k h2 D2
    · have hd := scanDown_le (fun x => !ltO left x d[a]!) d (scanUp (fun x => ltO left x d[a]!) d j i) j
      rw [if_neg g] at k
      exact ih _ _ _ h2 (by omega) (by omega) (by omega) (by omega) (by omega) D2 k
theorem S_partition {h : Heap} {d : Array Int} {a b pivot : Nat} (hab : a + 1 < b) (hb : b ≤ n) (hp1 : a ≤ pivot) (hp2 : pivot < b) (D : Da g0 B m n sp h d)
    (k : ∀ h', Da g0 B m n sp h' (partition (ltO left) d a b pivot).2.2 → K (tuple #[.int .i64 (((partition (ltO left) d a b pivot).1 : Nat) : Int), .bool (partition (ltO left) d a b pivot).2.1]) h') :
    CallA Try.prog fn_slices_partitionCmpFunc_int [slice (some ⟨B, 0, none⟩) n c, .int .i64 (a : Int), .int .i64 (b : Int), .int .i64 (pivot : Int), func (Fn.func fn_split_by_order) #[agg #[slice lp m lc]] #[]] h K := by
  refine F_slices_partitionCmpFunc_int _ _ _ _ _ _ _ _ _ _ _ ?_
  unfold F_slices_partitionCmpFunc_intT
  have w2 : IntKind.wrap .i64 ((b : Int) - 1) = ((b - 1 : Nat) : Int) := by rw [wid (by omega) (by omega)]; omega
  rw [wp1 (by omega), w2]
  unfold partition at k
  dsimp only at k
  refine swapA (J := fun h => L_slices_partitionCmpFunc_int_0 (some ⟨B, 0, none⟩) n c (a : Int) lp m lc ((a + 1 : Nat) : Int) ((b - 1 : Nat) : Int) h K) D e0 rfl rfl (by omega) (by omega) fun h1 D1 => ?_
  generalize swp d a pivot = d1 at *
  refine part_0 hm I hn (by omega) (by omega) _ _ h1 (Nat.le_refl _) (by omega) D1 fun h2 D2 => ?_
  have hu := scanUp_ge (fun x => ltO left x d1[a]!) d1 (b - 1) (a + 1)
  have hu2 := scanUp_le (p := fun x => ltO left x d1[a]!) (d := d1) (j := b - 1) (i := a + 1) (n := n) (by omega) (by omega)
  refine part_1 e0 hm I hn (by omega) (by omega) _ _ h2 (Nat.le_refl _) (by omega) (by omega) D2 (fun g h3 D3 => ?_) fun g h3 D3 => ?_
  · rw [if_pos g] at k; exact k h3 D3
  · have hd := scanDown_le (fun x => !ltO left x d1[a]!) d1 (scanUp (fun x => ltO left x d1[a]!) d1 (b - 1) (a + 1)) (b - 1)
    rw [if_neg g] at k
    exact part_2 e0 hm I hn _ _ _ _ h3 (Nat.le_refl _) (by omega) (by omega) (by omega) (by omega) D3 k
/-! what is as great as the pivot -/
omit e0 in
theorem eq_1 {a j : Nat} {d : Array Int} (ha : a < n) (hj : j < n) : ∀ (q i : Nat) (h : Heap), j + 1 - i ≤ q → i ≤ n → Da g0 B m n sp h d →
    (∀ h', Da g0 B m n sp h' d → L_slices_partitionEqualCmpFunc_int_2 (some ⟨B, 0, none⟩) n c (a : Int) lp m lc ((scanUp (fun x => !ltO left d[a]! x) d j i : Nat) : Int) (j : Int) h' K) →
    L_slices_partitionEqualCmpFunc_int_1 (some ⟨B, 0, none⟩) n c (a : Int) lp m lc (i : Int) (j : Int) h K := by
  intro q
  induction q with
  | zero =>
    intro i h hq hi D k
    refine L_slices_partitionEqualCmpFunc_int_1r _ _ _ _ _ _ _ _ _ _ _ ?_
    unfold L_slices_partitionEqualCmpFunc_int_1T
    rw [scanUp_f (by omega)] at k
    exact Br.no (by simp; omega) (k h D)
  | succ q ih =>
    intro i h hq hi D k
    refine L_slices_partitionEqualCmpFunc_int_1r _ _ _ _ _ _ _ _ _ _ _ ?_
    unfold L_slices_partitionEqualCmpFunc_int_1T
    rw [wp1 (by omega)]
    refine Br.dec (fun g => lessN D hm I rfl rfl (by omega) (by omega) fun h' D' => Br.intro (fun g2 => ?_) fun g2 => ?_) fun g => ?_
    · rw [scanUp_t (by omega) (by exact g2)] at k
      exact ih _ h' (by omega) (by omega) D' k
    · rw [scanUp_f (fun x => by rw [g2] at x; exact absurd x.2 (by decide))] at k
      exact k h' D'
    · rw [scanUp_f (by omega)] at k
      exact k h D
theorem eq_2 {a i : Nat} {d : Array Int} (ha : a < i) (hi : i ≤ n) : ∀ (q j : Nat) (h : Heap), j ≤ q → j < n → a ≤ j → Da g0 B m n sp h d →
    (i > scanDown (fun x => ltO left d[a]! x) d i j → ∀ h', Da g0 B m n sp h' d → K (.int .i64 (i : Int)) h') →
    (¬ i > scanDown (fun x => ltO left d[a]! x) d i j → ∀ h', Da g0 B m n sp h' (swp d i (scanDown (fun x => ltO left d[a]! x) d i j)) →
      L_slices_partitionEqualCmpFunc_int_0 (some ⟨B, 0, none⟩) n c (a : Int) lp m lc ((i + 1 : Nat) : Int) ((scanDown (fun x => ltO left d[a]! x) d i j - 1 : Nat) : Int) h' K) →
    L_slices_partitionEqualCmpFunc_int_2 (some ⟨B, 0, none⟩) n c (a : Int) lp m lc (i : Int) (j : Int) h K := by
  intro q
  induction q with
  | zero =>
    intro j h hq hj haj D k1 k2
    refine L_slices_partitionEqualCmpFunc_int_2r _ _ _ _ _ _ _ _ _ _ _ ?_
    unfold L_slices_partitionEqualCmpFunc_int_2T
    rw [scanDown_f (by omega)] at k1
    exact Br.no (by simp; omega) (Br.yes (by simp; omega) (Ret.mk (k1 (by omega) h D)))
  | succ q ih =>
    intro j h hq hj haj D k1 k2
    refine L_slices_partitionEqualCmpFunc_int_2r _ _ _ _ _ _ _ _ _ _ _ ?_
    unfold L_slices_partitionEqualCmpFunc_int_2T
    by_cases g : i ≤ j
    · have w2 : IntKind.wrap .i64 ((j : Int) - 1) = ((j - 1 : Nat) : Int) := by rw [wid (by omega) (by omega)]; omega
      rw [wp1 (by omega), w2]
      refine Br.yes (by simp; omega) (lessA D hm I rfl rfl (by omega) (by omega) fun h' D' => Br.intro (fun g2 => ?_) fun g2 => ?_)
      · rw [scanDown_t g (by omega) (by exact g2)] at k1 k2
        exact ih _ h' (by omega) (by omega) (by omega) D' k1 k2
      · rw [scanDown_f (fun x => by rw [g2] at x; exact absurd x.2 (by decide))] at k1 k2
        exact Br.no (by simp; omega) (swapA (J := fun h => L_slices_partitionEqualCmpFunc_int_0 (some ⟨B, 0, none⟩) n c (a : Int) lp m lc ((i + 1 : Nat) : Int) ((j - 1 : Nat) : Int) h K) D' e0 rfl rfl (by omega) (by omega) fun h1 D1 => k2 (by omega) h1 D1)
    · rw [scanDown_f (by omega)] at k1
      exact Br.no (by simp; omega) (Br.yes (by simp; omega) (Ret.mk (k1 (by omega) h D)))
theorem eq_0 {a : Nat} : ∀ (q i j : Nat) (d : Array Int) (h : Heap), j + 1 - i ≤ q → a < i → i ≤ n → a ≤ j → j < n → Da g0 B m n sp h d →
    (∀ h', Da g0 B m n sp h' (partEqLoop (ltO left) a i j d).2 → K (.int .i64 (((partEqLoop (ltO left) a i j d).1 : Nat) : Int)) h') →
    L_slices_partitionEqualCmpFunc_int_0 (some ⟨B, 0, none⟩) n c (a : Int) lp m lc (i : Int) (j : Int) h K := by
  intro q
  induction q with
  | zero =>
    intro i j d h hq ha hij haj hj D k
    refine L_slices_partitionEqualCmpFunc_int_0r _ _ _ _ _ _ _ _ _ _ _ ?_
    unfold L_slices_partitionEqualCmpFunc_int_0T
    refine eq_1 hm I hn (by omega) (by omega) _ _ h (Nat.le_refl _) (by omega) D fun h1 D1 => ?_
    have hu := scanUp_ge (fun x => !ltO left d[a]! x) d j i
    have hu2 := scanUp_le (p := fun x => !ltO left d[a]! x) (d := d) hij hj
    rw [partEqLoop_eq] at k
    refine eq_2 e0 hm I hn (by omega) (by omega) _ _ h1 (Nat.le_refl _) (by omega) (by omega) D1 (fun g h2 D2 => ?_) fun g h2 D2 => ?_
    · rw [if_pos g] at k; exact k h2 D2
    · have := scanDown_le (fun x => ltO left d[a]! x) d (scanUp (fun x => !ltO left d[a]! x) d j i) j
      omega
  | succ q ih =>
    intro i j d h hq ha hij haj hj D k
    refine L_slices_partitionEqualCmpFunc_int_0r _ _ _ _ _ _ _ _ _ _ _ ?_
    unfold L_slices_partitionEqualCmpFunc_int_0T
    refine eq_1 hm I hn (by omega) (by omega) _ _ h (Nat.le_refl _) (by omega) D fun h1 D1 => ?_
    have hu := scanUp_ge (fun x => !ltO left d[a]! x) d j i
    have hu2 := scanUp_le (p := fun x => !ltO left d[a]! x) (d := d) hij hj
    rw [partEqLoop_eq] at k
    refine eq_2 e0 hm I hn (by omega) (by omega) _ _ h1 (Nat.le_refl _) (by omega) (by omega) D1 (fun g h2 D2 => ?_) fun g h2 D2 => ?_
    · rw [if_pos g] at k; exact k h2 D2
    · have hd := scanDown_le (fun x => ltO left d[a]! x) d (scanUp (fun x => !ltO left d[a]! x) d j i) j
      rw [if_neg g] at k
      exact ih _ _ _ h2 (by omega) (by omega) (by omega) (by omega) (by omega) D2 k
theorem S_partitionEqual {h : Heap} {d : Array Int} {a b pivot : Nat} (hab : a + 1 < b) (hb : b ≤ n) (hp1 : a ≤ pivot) (hp2 : pivot < b) (D : Da g0 B m n sp h d)
    (k : ∀ h', Da g0 B m n sp h' (partitionEqual (ltO left) d a b pivot).2 → K (.int .i64 (((partitionEqual (ltO left) d a b pivot).1 : Nat) : Int)) h') :
    CallA Try.prog fn_slices_partitionEqualCmpFunc_int [slice (some ⟨B, 0, none⟩) n c, .int .i64 (a : Int), .int .i64 (b : Int), .int .i64 (pivot : Int), func (Fn.func fn_split_by_order) #[agg #[slice lp m lc]] #[]] h K := by
  refine F_slices_partitionEqualCmpFunc_int _ _ _ _ _ _ _ _ _ _ _ ?_
  unfold F_slices_partitionEqualCmpFunc_intT
  have w2 : IntKind.wrap .i64 ((b : Int) - 1) = ((b - 1 : Nat) : Int) := by rw [wid (by omega) (by omega)]; omega
  rw [wp1 (by omega), w2]
  unfold partitionEqual at k
  refine swapA (J := fun h => L_slices_partitionEqualCmpFunc_int_0 (some ⟨B, 0, none⟩) n c (a : Int) lp m lc ((a + 1 : Nat) : Int) ((b - 1 : Nat) : Int) h K) D e0 rfl rfl (by omega) (by omega) fun h1 D1 => ?_
  exact eq_0 e0 hm I hn _ _ _ _ h1 (Nat.le_refl _) (by omega) (by omega) (by omega) (by omega) D1 k
/-! few steps -/
theorem few_3 {a b i s : Nat} (hb : b ≤ n) (hs : s ≤ 100) : ∀ (q j : Nat) (d : Array Int) (h : Heap), b - j ≤ q → j ≤ n + 1 → 1 ≤ j → Da g0 B m n sp h d →
    (∀ h', Da g0 B m n sp h' (shiftUp (ltO left) b j d) → L_slices_partialInsertionSortCmpFunc_int_0 (some ⟨B, 0, none⟩) n c (a : Int) (b : Int) lp m lc (i : Int) ((s + 1 : Nat) : Int) h' K) →
    L_slices_partialInsertionSortCmpFunc_int_3 (some ⟨B, 0, none⟩) n c (a : Int) (b : Int) lp m lc (i : Int) (s : Int) (j : Int) h K := by
  intro q
  induction q with
  | zero =>
    intro j d h hq hj h1 D k
    refine L_slices_partialInsertionSortCmpFunc_int_3r _ _ _ _ _ _ _ _ _ _ _ _ _ ?_
    unfold L_slices_partialInsertionSortCmpFunc_int_3T
    rw [shiftUp, if_neg (by omega)] at k
    rw [wp1 (j := s) (by omega)]
    exact Br.no (by simp; omega) (k h D)
  | succ q ih =>
    intro j d h hq hj h1 D k
    refine L_slices_partialInsertionSortCmpFunc_int_3r _ _ _ _ _ _ _ _ _ _ _ _ _ ?_
    unfold L_slices_partialInsertionSortCmpFunc_int_3T
    have w2 : IntKind.wrap .i64 ((j : Int) - 1) = ((j - 1 : Nat) : Int) := by rw [wid (by omega) (by omega)]; omega
    rw [wp1 (j := s) (by omega), wp1 (j := j) (by omega), w2]
    rw [shiftUp] at k
    refine Br.dec (fun g => lessN D hm I rfl rfl (by omega) (by omega) fun h' D' => Br.intro (fun g2 => ?_) fun g2 => ?_) fun g => ?_
    · rw [if_pos (by omega), if_pos g2] at k
      exact k h' D'
    · rw [if_pos (by omega), if_neg (by rw [g2]; decide)] at k
      exact swapA (J := fun h => L_slices_partialInsertionSortCmpFunc_int_3 (some ⟨B, 0, none⟩) n c (a : Int) (b : Int) lp m lc (i : Int) (s : Int) ((j + 1 : Nat) : Int) h K) D' e0 rfl rfl (by omega) (by omega) fun h1 D1 => ih _ _ h1 (by omega) (by omega) (by omega) D1 k
    · rw [if_neg (by omega)] at k
      exact k h D
theorem few_up {a b i s : Nat} (hb : b ≤ n) (hs : s ≤ 100) (hi : i ≤ n) {d : Array Int} {h : Heap} (D : Da g0 B m n sp h d)
    (k : ∀ h', Da g0 B m n sp h' (fixUp (ltO left) b i d) → L_slices_partialInsertionSortCmpFunc_int_0 (some ⟨B, 0, none⟩) n c (a : Int) (b : Int) lp m lc (i : Int) ((s + 1 : Nat) : Int) h' K) :
    Br (decide (IntKind.wrap .i64 ((b : Int) - (i : Int)) ≥ 2)) (L_slices_partialInsertionSortCmpFunc_int_3 (some ⟨B, 0, none⟩) n c (a : Int) (b : Int) lp m lc (i : Int) (s : Int) ((i + 1 : Nat) : Int) h K)
      (L_slices_partialInsertionSortCmpFunc_int_0 (some ⟨B, 0, none⟩) n c (a : Int) (b : Int) lp m lc (i : Int) ((s + 1 : Nat) : Int) h K) := by
  rw [wid (by omega) (by omega)]
  unfold fixUp at k
  refine Br.dec (fun g => ?_) fun g => ?_
  · rw [if_pos (by omega)] at k
    exact few_3 e0 hm I hn hb hs _ _ _ h (Nat.le_refl _) (by omega) (by omega) D k
  · rw [if_neg (by omega)] at k
    exact k h D
theorem few_2 {a b i s : Nat} (hb : b ≤ n) (hs : s ≤ 100) (hi : i ≤ n) : ∀ (j : Nat) (d : Array Int) (h : Heap), j < n → Da g0 B m n sp h d →
    (∀ h', Da g0 B m n sp h' (fixUp (ltO left) b i (shiftDown (ltO left) j d)) → L_slices_partialInsertionSortCmpFunc_int_0 (some ⟨B, 0, none⟩) n c (a : Int) (b : Int) lp m lc (i : Int) ((s + 1 : Nat) : Int) h' K) →
    L_slices_partialInsertionSortCmpFunc_int_2 (some ⟨B, 0, none⟩) n c (a : Int) (b : Int) lp m lc (i : Int) (s : Int) (j : Int) h K := by
  intro j
  induction j with
  | zero =>
    intro d h hj D k
    refine L_slices_partialInsertionSortCmpFunc_int_2r _ _ _ _ _ _ _ _ _ _ _ _ _ ?_
    unfold L_slices_partialInsertionSortCmpFunc_int_2T
    rw [shiftDown] at k
    rw [wp1 (j := s) (by omega), wp1 (j := i) (by omega)]
    exact Br.no (by simp) (few_up e0 hm I hn hb hs hi D k)
  | succ j ih =>
    intro d h hj D k
    refine L_slices_partialInsertionSortCmpFunc_int_2r _ _ _ _ _ _ _ _ _ _ _ _ _ ?_
    unfold L_slices_partialInsertionSortCmpFunc_int_2T
    rw [wp1 (j := s) (by omega), wp1 (j := i) (by omega), wm1 (by omega)]
    rw [shiftDown] at k
    refine Br.yes (by simp; omega) (lessN D hm I rfl rfl (by omega) (by omega) fun h' D' => Br.intro (fun g2 => ?_) fun g2 => ?_)
    · rw [if_pos g2] at k
      exact few_up e0 hm I hn hb hs hi D' k
    · rw [if_neg (by rw [g2]; decide)] at k
      exact swapA (J := fun h => L_slices_partialInsertionSortCmpFunc_int_2 (some ⟨B, 0, none⟩) n c (a : Int) (b : Int) lp m lc (i : Int) (s : Int) (j : Int) h K) D' e0 rfl rfl (by omega) (by omega) fun h1 D1 => ih _ h1 (by omega) D1 k
theorem few_1 {a b s : Nat} (hb : b ≤ n) (hs : s ≤ 100) {d : Array Int} : ∀ (q i : Nat) (h : Heap), b - i ≤ q → a < i → i ≤ b → Da g0 B m n sp h d →
      (scanSorted (ltO left) d b i = b → ∀ h', Da g0 B m n sp h' d → K (.bool true) h') →
      (scanSorted (ltO left) d b i ≠ b → b - a < 50 → ∀ h', Da g0 B m n sp h' d → K (.bool false) h') →
      (scanSorted (ltO left) d b i ≠ b → ¬ b - a < 50 → ∀ h', Da g0 B m n sp h' (fixUp (ltO left) b (scanSorted (ltO left) d b i) (fixDown (ltO left) a (scanSorted (ltO left) d b i) (swp d (scanSorted (ltO left) d b i) (scanSorted (ltO left) d b i - 1)))) →
        L_slices_partialInsertionSortCmpFunc_int_0 (some ⟨B, 0, none⟩) n c (a : Int) (b : Int) lp m lc ((scanSorted (ltO left) d b i : Nat) : Int) ((s + 1 : Nat) : Int) h' K) →
      L_slices_partialInsertionSortCmpFunc_int_1 (some ⟨B, 0, none⟩) n c (a : Int) (b : Int) lp m lc (i : Int) (s : Int) h K := by
  intro q
  induction q with
  | zero =>
    intro i h hq ha hi D k1 k2 k3
    refine L_slices_partialInsertionSortCmpFunc_int_1r _ _ _ _ _ _ _ _ _ _ _ _ ?_
    unfold L_slices_partialInsertionSortCmpFunc_int_1T
    have e : scanSorted (ltO left) d b i = i := by rw [scanSorted, if_neg (by simp; omega)]
    rw [e] at k1
    exact Br.no (by simp; omega) (Br.yes (by simp; omega) (Ret.mk (k1 (by omega) h D)))
  | succ q ih =>
    intro i h hq ha hi D k1 k2 k3
    refine L_slices_partialInsertionSortCmpFunc_int_1r _ _ _ _ _ _ _ _ _ _ _ _ ?_
    unfold L_slices_partialInsertionSortCmpFunc_int_1T
    by_cases g : i < b
    · have w2 : IntKind.wrap .i64 ((i : Int) - 1) = ((i - 1 : Nat) : Int) := by rw [wid (by omega) (by omega)]; omega
      have w3 : IntKind.wrap .i64 ((b : Int) - (a : Int)) = ((b - a : Nat) : Int) := by rw [wid (by omega) (by omega)]; omega
      have w4 : IntKind.wrap .i64 ((i : Int) - (a : Int)) = ((i - a : Nat) : Int) := by rw [wid (by omega) (by omega)]; omega
      rw [wp1 (j := s) (by omega), wp1 (j := i) (by omega), w2, w3, w4]
      refine Br.yes (by simp; omega) (lessN D hm I rfl rfl (by omega) (by omega) fun h' D' => Br.intro (fun g2 => ?_) fun g2 => ?_)
      · have e : scanSorted (ltO left) d b i = scanSorted (ltO left) d b (i + 1) := by rw [scanSorted, if_pos (by rw [g2, Bool.and_true]; exact decide_eq_true g)]
        rw [e] at k1 k2 k3
        exact ih _ h' (by omega) (by omega) (by omega) D' k1 k2 k3
      have e : scanSorted (ltO left) d b i = i := by rw [scanSorted, if_neg (by rw [g2]; simp)]
      rw [e] at k2 k3
      refine Br.no (by simp; omega) (Br.dec (fun g3 => Ret.mk (k2 (by omega) (by omega) h' D')) fun g3 => ?_)
      have k3 := k3 (by omega) (by omega)
      unfold fixDown at k3
      refine swapA (J := fun h => Br (decide (((i - a : Nat) : Int) ≥ 2)) (L_slices_partialInsertionSortCmpFunc_int_2 (some ⟨B, 0, none⟩) n c (a : Int) (b : Int) lp m lc (i : Int) (s : Int) ((i - 1 : Nat) : Int) h K) (Br (decide (IntKind.wrap .i64 ((b : Int) - (i : Int)) ≥ 2)) (L_slices_partialInsertionSortCmpFunc_int_3 (some ⟨B, 0, none⟩) n c (a : Int) (b : Int) lp m lc (i : Int) (s : Int) ((i + 1 : Nat) : Int) h K) (L_slices_partialInsertionSortCmpFunc_int_0 (some ⟨B, 0, none⟩) n c (a : Int) (b : Int) lp m lc (i : Int) ((s + 1 : Nat) : Int) h K))) D' e0 rfl rfl (by omega) (by omega) fun h1 D1 => ?_
      refine Br.dec (fun g4 => ?_) fun g4 => ?_
      · rw [if_pos (by omega)] at k3
        exact few_2 e0 hm I hn hb hs (by omega) _ _ h1 (by omega) D1 k3
      · rw [if_neg (by omega)] at k3
        exact few_up e0 hm I hn hb hs (by omega) D1 k3
    · have e : scanSorted (ltO left) d b i = i := by rw [scanSorted, if_neg (by simp; omega)]
      rw [e] at k1
      exact Br.no (by simp; omega) (Br.yes (by simp; omega) (Ret.mk (k1 (by omega) h D)))
theorem few_0 {a b : Nat} (hb : b ≤ n) : ∀ (q s i : Nat) (d : Array Int) (h : Heap), q + s = 5 → a < i → i ≤ b → Da g0 B m n sp h d →
    (∀ h', Da g0 B m n sp h' (partialIns (ltO left) a b q i d).1 → K (.bool (partialIns (ltO left) a b q i d).2) h') →
    L_slices_partialInsertionSortCmpFunc_int_0 (some ⟨B, 0, none⟩) n c (a : Int) (b : Int) lp m lc (i : Int) (s : Int) h K := by
  intro q
  induction q with
  | zero =>
    intro s i d h hq ha hi D k
    refine L_slices_partialInsertionSortCmpFunc_int_0r _ _ _ _ _ _ _ _ _ _ _ _ ?_
    unfold L_slices_partialInsertionSortCmpFunc_int_0T
    exact Br.no (by simp; omega) (Ret.mk (k h D))
  | succ q ih =>
    intro s i d h hq ha hi D k
    refine L_slices_partialInsertionSortCmpFunc_int_0r _ _ _ _ _ _ _ _ _ _ _ _ ?_
    unfold L_slices_partialInsertionSortCmpFunc_int_0T
    rw [partialIns_succ] at k
    have hsc : i ≤ scanSorted (ltO left) d b i ∧ scanSorted (ltO left) d b i ≤ b := by
      clear k
      generalize hz : b - i = z
      induction z generalizing i with
      | zero => rw [scanSorted, if_neg (by simp; omega)]; omega
      | succ z ih2 =>
        rw [scanSorted]
        split
        · have := ih2 (i + 1) (by omega) (by omega) (by omega); omega
        · omega
    refine Br.yes (by simp; omega) (few_1 e0 hm I hn hb (by omega) _ _ h (Nat.le_refl _) ha hi D (fun g h' D' => ?_) (fun g g2 h' D' => ?_) fun g g2 h' D' => ?_)
    · rw [if_pos g] at k; exact k h' D'
    · rw [if_neg g, if_pos g2] at k; exact k h' D'
    · rw [if_neg g, if_neg g2] at k
      exact ih _ _ _ h' (by omega) (by omega) hsc.2 D' k
theorem S_few {h : Heap} {d : Array Int} {a b : Nat} (hab : a < b) (hb : b ≤ n) (D : Da g0 B m n sp h d)
    (k : ∀ h', Da g0 B m n sp h' (partialInsertionSort (ltO left) d a b).1 → K (.bool (partialInsertionSort (ltO left) d a b).2) h') :
    CallA Try.prog fn_slices_partialInsertionSortCmpFunc_int [slice (some ⟨B, 0, none⟩) n c, .int .i64 (a : Int), .int .i64 (b : Int), func (Fn.func fn_split_by_order) #[agg #[slice lp m lc]] #[]] h K := by
  refine F_slices_partialInsertionSortCmpFunc_int _ _ _ _ _ _ _ _ _ _ ?_
  unfold F_slices_partialInsertionSortCmpFunc_intT
  rw [wp1 (by omega)]
  exact few_0 e0 hm I hn hb 5 0 _ _ h rfl (by omega) (by omega) D k
end
end Go.Proofs.Ytghdadniddoboaa
