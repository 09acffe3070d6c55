import Derived.Test.YtjihfieahkbohaaM05
import Derived.Test.YtjihfieahkbohaaM10
import Derived.Test.YtjihfieahkbohaaM04
/- A list parted by a pivot, or tried to be put in order by few steps. -/
namespace Go.Proofs.Ytjihfieahkbohaa
open Go Go.Sy Go.Value Go.Sort
set_option linter.unusedVariables false
set_option linter.unusedSimpArgs false

theorem scanUp_tE {α : Type} [Inhabited α] {p : α → Bool} {d : Array α} {j i : Nat} (h : i ≤ j) (hp : p d[i]! = true) : scanUp p d j i = scanUp p d j (i + 1) := by
  rw [scanUp, if_pos (by rw [hp, Bool.and_true]; exact decide_eq_true h)]
theorem scanUp_fE {α : Type} [Inhabited α] {p : α → Bool} {d : Array α} {j i : Nat} (h : ¬ (i ≤ j ∧ p d[i]! = true)) : scanUp p d j i = i := by
  rw [scanUp, if_neg (by rw [Bool.and_eq_true, decide_eq_true_eq]; exact h)]
theorem scanDown_tE {α : Type} [Inhabited α] {p : α → Bool} {d : Array α} {j i : Nat} (h : i ≤ j) (h1 : 1 ≤ i) (hp : p d[j]! = true) : scanDown p d i j = scanDown p d i (j - 1) := by
  cases j with
  | zero => omega
  | succ j => rw [scanDown, if_pos (by rw [hp, Bool.and_true]; exact decide_eq_true h)]; rfl
theorem scanDown_fE {α : Type} [Inhabited α] {p : α → Bool} {d : Array α} {j i : Nat} (h : ¬ (i ≤ j ∧ p d[j]! = true)) : scanDown p d i j = j := by
  cases j with
  | zero => rw [scanDown]
  | succ j => rw [scanDown, if_neg (by rw [Bool.and_eq_true, decide_eq_true_eq]; exact h)]
theorem scanUp_leE {α : Type} [Inhabited α] {p : α → Bool} {d : Array α} {j i n : Nat} (h : i ≤ n) (hj : j < n) : scanUp p d j i ≤ n := by
  by_cases g : i ≤ j + 1
  · have := (scanUp_spec p d j _ i rfl).2.1 g; omega
  · rw [scanUp_fE (by omega)]; exact h

section
variable {g0 : Heap} {B m n c : Nat} {sp : List Value} {left : List En} {K : Value → Heap → Prop} (e0 : g0 B = none) (hm : left.length = m) (I : True) (hn : n ≤ 1000000)
include e0 hm I hn
/-! by partition -/
omit e0 in
theorem part_0E {a j : Nat} {d : Array Int} (ha : a < n) (hj : j < n) : ∀ (q i : Nat) (h : Heap), j + 1 - i ≤ q → i ≤ n → DaE left g0 B m n sp h d →
    (∀ h', DaE left g0 B m n sp h' d → L_slices_partitionCmpFunc_deal_entry_1 (some ⟨B, 0, none⟩) n c (a : Int) ((scanUp (fun x => ltOE left x d[a]!) d j i : Nat) : Int) (j : Int) h' K) →
    L_slices_partitionCmpFunc_deal_entry_0 (some ⟨B, 0, none⟩) n c (a : Int) (i : Int) (j : Int) h K := by
  intro q
  induction q with
  | zero =>
    intro i h hq hi D k
    refine L_slices_partitionCmpFunc_deal_entry_0r _ _ _ _ _ _ _ _ ?_
    unfold L_slices_partitionCmpFunc_deal_entry_0T
    rw [scanUp_fE (by omega)] at k
    exact Br.no (by simp; omega) (k h D)
  | succ q ih =>
    intro i h hq hi D k
    refine L_slices_partitionCmpFunc_deal_entry_0r _ _ _ _ _ _ _ _ ?_
    unfold L_slices_partitionCmpFunc_deal_entry_0T
    rw [wp1E (by omega)]
    refine Br.dec (fun g => lessAE D hm I rfl rfl (by omega) (by omega) fun h' D' => Br.intro (fun g2 => ?_) fun g2 => ?_) fun g => ?_
    · rw [scanUp_tE (by omega) (by exact g2)] at k
      exact ih _ h' (by omega) (by omega) D' k
    · rw [scanUp_fE (fun x => by rw [g2] at x; exact absurd x.2 (by decide))] at k
      exact k h' D'
    · rw [scanUp_fE (by omega)] at k
      exact k h D
omit e0 in
theorem part_3E {a j : Nat} {d : Array Int} (ha : a < n) (hj : j < n) : ∀ (q i : Nat) (h : Heap), j + 1 - i ≤ q → i ≤ n → DaE left g0 B m n sp h d →
    (∀ h', DaE left g0 B m n sp h' d → L_slices_partitionCmpFunc_deal_entry_4 (some ⟨B, 0, none⟩) n c (a : Int) ((scanUp (fun x => ltOE left x d[a]!) d j i : Nat) : Int) (j : Int) h' K) →
    L_slices_partitionCmpFunc_deal_entry_3 (some ⟨B, 0, none⟩) n c (a : Int) (i : Int) (j : Int) h K := by
  intro q
  induction q with
  | zero =>
    intro i h hq hi D k
    refine L_slices_partitionCmpFunc_deal_entry_3r _ _ _ _ _ _ _ _ ?_
    unfold L_slices_partitionCmpFunc_deal_entry_3T
    rw [scanUp_fE (by omega)] at k
    exact Br.no (by simp; omega) (k h D)
  | succ q ih =>
    intro i h hq hi D k
    refine L_slices_partitionCmpFunc_deal_entry_3r _ _ _ _ _ _ _ _ ?_
    unfold L_slices_partitionCmpFunc_deal_entry_3T
    rw [wp1E (by omega)]
    refine Br.dec (fun g => lessAE D hm I rfl rfl (by omega) (by omega) fun h' D' => Br.intro (fun g2 => ?_) fun g2 => ?_) fun g => ?_
    · rw [scanUp_tE (by omega) (by exact g2)] at k
      exact ih _ h' (by omega) (by omega) D' k
    · rw [scanUp_fE (fun x => by rw [g2] at x; exact absurd x.2 (by decide))] at k
      exact k h' D'
    · rw [scanUp_fE (by omega)] at k
      exact k h D
theorem part_1E {a i : Nat} {d : Array Int} (ha : a < i) (hi : i ≤ n) : ∀ (q j : Nat) (h : Heap), j ≤ q → j < n → a ≤ j → DaE left g0 B m n sp h d →
    (i > scanDown (fun x => !ltOE left x d[a]!) d i j → ∀ h', DaE left g0 B m n sp h' (swp d (scanDown (fun x => !ltOE left x d[a]!) d i j) a) → K (tuple #[.int .i64 ((scanDown (fun x => !ltOE left x d[a]!) d i j : Nat) : Int), .bool true]) h') →
    (¬ i > scanDown (fun x => !ltOE left x d[a]!) d i j → ∀ h', DaE left g0 B m n sp h' (swp d i (scanDown (fun x => !ltOE left x d[a]!) d i j)) →
      L_slices_partitionCmpFunc_deal_entry_2 (some ⟨B, 0, none⟩) n c (a : Int) ((i + 1 : Nat) : Int) ((scanDown (fun x => !ltOE left x d[a]!) d i j - 1 : Nat) : Int) h' K) →
    L_slices_partitionCmpFunc_deal_entry_1 (some ⟨B, 0, none⟩) n c (a : Int) (i : Int) (j : Int) h K := by
  intro q
  induction q with
  | zero =>
    intro j h hq hj haj D k1 k2
    refine L_slices_partitionCmpFunc_deal_entry_1r _ _ _ _ _ _ _ _ ?_
    unfold L_slices_partitionCmpFunc_deal_entry_1T
    rw [scanDown_fE (by omega)] at k1
    exact Br.no (by simp; omega) (Br.yes (by simp; omega) (swapAE (J := fun h => Ret h K (tuple #[.int .i64 (j : Int), .bool true])) D e0 rfl rfl (by omega) (by omega) fun h1 D1 => Ret.mk (k1 (by omega) h1 D1)))
  | succ q ih =>
    intro j h hq hj haj D k1 k2
    refine L_slices_partitionCmpFunc_deal_entry_1r _ _ _ _ _ _ _ _ ?_
    unfold L_slices_partitionCmpFunc_deal_entry_1T
    by_cases g : i ≤ j
    · have w2 : IntKind.wrap .i64 ((j : Int) - 1) = ((j - 1 : Nat) : Int) := by rw [widE (by omega) (by omega)]; omega
      rw [wp1E (by omega), w2]
      refine Br.yes (by simp; omega) (lessNE D hm I rfl rfl (by omega) (by omega) fun h' D' => Br.intro (fun g2 => ?_) fun g2 => ?_)
      · rw [scanDown_tE g (by omega) (by exact g2)] at k1 k2
        exact ih _ h' (by omega) (by omega) (by omega) D' k1 k2
      · rw [scanDown_fE (fun x => by rw [g2] at x; exact absurd x.2 (by decide))] at k1 k2
        exact Br.no (by simp; omega) (swapAE (J := fun h => L_slices_partitionCmpFunc_deal_entry_2 (some ⟨B, 0, none⟩) n c (a : Int) ((i + 1 : Nat) : Int) ((j - 1 : Nat) : Int) h K) D' e0 rfl rfl (by omega) (by omega) fun h1 D1 => k2 (by omega) h1 D1)
    · rw [scanDown_fE (by omega)] at k1
      exact Br.no (by simp; omega) (Br.yes (by simp; omega) (swapAE (J := fun h => Ret h K (tuple #[.int .i64 (j : Int), .bool true])) D e0 rfl rfl (by omega) (by omega) fun h1 D1 => Ret.mk (k1 (by omega) h1 D1)))
theorem part_4E {a i : Nat} {d : Array Int} (ha : a < i) (hi : i ≤ n) : ∀ (q j : Nat) (h : Heap), j ≤ q → j < n → a ≤ j → DaE left g0 B m n sp h d →
    (i > scanDown (fun x => !ltOE left x d[a]!) d i j → ∀ h', DaE left g0 B m n sp h' (swp d (scanDown (fun x => !ltOE left x d[a]!) d i j) a) → K (tuple #[.int .i64 ((scanDown (fun x => !ltOE left x d[a]!) d i j : Nat) : Int), .bool false]) h') →
    (¬ i > scanDown (fun x => !ltOE left x d[a]!) d i j → ∀ h', DaE left g0 B m n sp h' (swp d i (scanDown (fun x => !ltOE left x d[a]!) d i j)) →
      L_slices_partitionCmpFunc_deal_entry_2 (some ⟨B, 0, none⟩) n c (a : Int) ((i + 1 : Nat) : Int) ((scanDown (fun x => !ltOE left x d[a]!) d i j - 1 : Nat) : Int) h' K) →
    L_slices_partitionCmpFunc_deal_entry_4 (some ⟨B, 0, none⟩) n c (a : Int) (i : Int) (j : Int) h K := by
  intro q
  induction q with
  | zero =>
    intro j h hq hj haj D k1 k2
    refine L_slices_partitionCmpFunc_deal_entry_4r _ _ _ _ _ _ _ _ ?_
    unfold L_slices_partitionCmpFunc_deal_entry_4T
    rw [scanDown_fE (by omega)] at k1
    exact Br.no (by simp; omega) (Br.yes (by simp; omega) (swapAE (J := fun h => Ret h K (tuple #[.int .i64 (j : Int), .bool false])) D e0 rfl rfl (by omega) (by omega) fun h1 D1 => Ret.mk (k1 (by omega) h1 D1)))
  | succ q ih =>
    intro j h hq hj haj D k1 k2
    refine L_slices_partitionCmpFunc_deal_entry_4r _ _ _ _ _ _ _ _ ?_
    unfold L_slices_partitionCmpFunc_deal_entry_4T
    by_cases g : i ≤ j
    · have w2 : IntKind.wrap .i64 ((j : Int) - 1) = ((j - 1 : Nat) : Int) := by rw [widE (by omega) (by omega)]; omega
      rw [wp1E (by omega), w2]
      refine Br.yes (by simp; omega) (lessNE D hm I rfl rfl (by omega) (by omega) fun h' D' => Br.intro (fun g2 => ?_) fun g2 => ?_)
      · rw [scanDown_tE g (by omega) (by exact g2)] at k1 k2
        exact ih _ h' (by omega) (by omega) (by omega) D' k1 k2
      · rw [scanDown_fE (fun x => by rw [g2] at x; exact absurd x.2 (by decide))] at k1 k2
        exact Br.no (by simp; omega) (swapAE (J := fun h => L_slices_partitionCmpFunc_deal_entry_2 (some ⟨B, 0, none⟩) n c (a : Int) ((i + 1 : Nat) : Int) ((j - 1 : Nat) : Int) h K) D' e0 rfl rfl (by omega) (by omega) fun h1 D1 => k2 (by omega) h1 D1)
    · rw [scanDown_fE (by omega)] at k1
      exact Br.no (by simp; omega) (Br.yes (by simp; omega) (swapAE (J := fun h => Ret h K (tuple #[.int .i64 (j : Int), .bool false])) D e0 rfl rfl (by omega) (by omega) fun h1 D1 => Ret.mk (k1 (by omega) h1 D1)))
theorem part_2E {a : Nat} : ∀ (q i j : Nat) (d : Array Int) (h : Heap), j + 1 - i ≤ q → a < i → i ≤ n → a ≤ j → j < n → DaE left g0 B m n sp h d →
    (∀ h', DaE left g0 B m n sp h' (swp (partLoop (ltOE left) a i j d).2 (partLoop (ltOE left) a i j d).1 a) → K (tuple #[.int .i64 (((partLoop (ltOE left) a i j d).1 : Nat) : Int), .bool false]) h') →
    L_slices_partitionCmpFunc_deal_entry_2 (some ⟨B, 0, none⟩) n c (a : Int) (i : Int) (j : Int) h K := by
  intro q
  induction q with
  | zero =>
    intro i j d h hq ha hij haj hj D k
    refine L_slices_partitionCmpFunc_deal_entry_2r _ _ _ _ _ _ _ _ ?_
    unfold L_slices_partitionCmpFunc_deal_entry_2T
    refine part_3E hm I hn (by omega) (by omega) _ _ h (Nat.le_refl _) (by omega) D fun h1 D1 => ?_
    have hu := scanUp_ge (fun x => ltOE left x d[a]!) d j i
    have hu2 := scanUp_leE (p := fun x => ltOE left x d[a]!) (d := d) hij hj
    rw [partLoop_eq] at k
    refine part_4E e0 hm I hn (by omega) (by omega) _ _ h1 (Nat.le_refl _) (by omega) (by omega) D1 (fun g h2 D2 => ?_) fun g h2 D2 => ?_
    · rw [if_pos g] at k; exact k h2 D2
    · have := scanDown_le (fun x => !ltOE left x d[a]!) d (scanUp (fun x => ltOE left x d[a]!) d j i) j
      omega
  | succ q ih =>
    intro i j d h hq ha hij haj hj D k
    refine L_slices_partitionCmpFunc_deal_entry_2r _ _ _ _ _ _ _ _ ?_
    unfold L_slices_partitionCmpFunc_deal_entry_2T
    refine part_3E hm I hn (by omega) (by omega) _ _ h (Nat.le_refl _) (by omega) D fun h1 D1 => ?_
    have hu := scanUp_ge (fun x => ltOE left x d[a]!) d j i
    have hu2 := scanUp_leE (p := fun x => ltOE left x d[a]!) (d := d) hij hj
    rw [partLoop_eq] at k
    refine part_4E e0 hm I hn (by omega) (by omega) _ _ h1 (Nat.le_refl _) (by omega) (by omega) D1 (fun g h2 D2 => ?_) fun g h2 D2 => ?_
    · rw [if_pos g] at k; exact k h2 D2
    · have hd := scanDown_le (fun x => !ltOE left x d[a]!) d (scanUp (fun x => ltOE left x d[a]!) d j i) j
      rw [if_neg g] at k
      exact ih _ _ _ h2 (by omega) (by omega) (by omega) (by omega) (by omega) D2 k
theorem S_partitionE {h : Heap} {d : Array Int} {a b pivot : Nat} (hab : a + 1 < b) (hb : b ≤ n) (hp1 : a ≤ pivot) (hp2 : pivot < b) (D : DaE left g0 B m n sp h d)
    (k : ∀ h', DaE left g0 B m n sp h' (partition (ltOE left) d a b pivot).2.2 → K (tuple #[.int .i64 (((partition (ltOE left) d a b pivot).1 : Nat) : Int), .bool (partition (ltOE left) d a b pivot).2.1]) h') :
    CallA Try.prog fn_slices_partitionCmpFunc_deal_entry [slice (some ⟨B, 0, none⟩) n c, .int .i64 (a : Int), .int .i64 (b : Int), .int .i64 (pivot : Int), func (Fn.func fn_pdeal_Book_All_1) #[] #[]] h K := by
  refine F_slices_partitionCmpFunc_deal_entry _ _ _ _ _ _ _ _ ?_
  unfold F_slices_partitionCmpFunc_deal_entryT
  have w2 : IntKind.wrap .i64 ((b : Int) - 1) = ((b - 1 : Nat) : Int) := by rw [widE (by omega) (by omega)]; omega
  rw [wp1E (by omega), w2]
  unfold partition at k
  dsimp only at k
  refine swapAE (J := fun h => L_slices_partitionCmpFunc_deal_entry_0 (some ⟨B, 0, none⟩) n c (a : Int) ((a + 1 : Nat) : Int) ((b - 1 : Nat) : Int) h K) D e0 rfl rfl (by omega) (by omega) fun h1 D1 => ?_
  generalize swp d a pivot = d1 at *
  refine part_0E hm I hn (by omega) (by omega) _ _ h1 (Nat.le_refl _) (by omega) D1 fun h2 D2 => ?_
  have hu := scanUp_ge (fun x => ltOE left x d1[a]!) d1 (b - 1) (a + 1)
  have hu2 := scanUp_leE (p := fun x => ltOE left x d1[a]!) (d := d1) (j := b - 1) (i := a + 1) (n := n) (by omega) (by omega)
  refine part_1E e0 hm I hn (by omega) (by omega) _ _ h2 (Nat.le_refl _) (by omega) (by omega) D2 (fun g h3 D3 => ?_) fun g h3 D3 => ?_
  · rw [if_pos g] at k; exact k h3 D3
  · have hd := scanDown_le (fun x => !ltOE left x d1[a]!) d1 (scanUp (fun x => ltOE left x d1[a]!) d1 (b - 1) (a + 1)) (b - 1)
    rw [if_neg g] at k
    exact part_2E e0 hm I hn _ _ _ _ h3 (Nat.le_refl _) (by omega) (by omega) (by omega) (by omega) D3 k
/-! what is as great as the pivot -/
omit e0 in
theorem eq_1E {a j : Nat} {d : Array Int} (ha : a < n) (hj : j < n) : ∀ (q i : Nat) (h : Heap), j + 1 - i ≤ q → i ≤ n → DaE left g0 B m n sp h d →
    (∀ h', DaE left g0 B m n sp h' d → L_slices_partitionEqualCmpFunc_deal_entry_2 (some ⟨B, 0, none⟩) n c (a : Int) ((scanUp (fun x => !ltOE left d[a]! x) d j i : Nat) : Int) (j : Int) h' K) →
    L_slices_partitionEqualCmpFunc_deal_entry_1 (some ⟨B, 0, none⟩) n c (a : Int) (i : Int) (j : Int) h K := by
  intro q
  induction q with
  | zero =>
    intro i h hq hi D k
    refine L_slices_partitionEqualCmpFunc_deal_entry_1r _ _ _ _ _ _ _ _ ?_
    unfold L_slices_partitionEqualCmpFunc_deal_entry_1T
    rw [scanUp_fE (by omega)] at k
    exact Br.no (by simp; omega) (k h D)
  | succ q ih =>
    intro i h hq hi D k
    refine L_slices_partitionEqualCmpFunc_deal_entry_1r _ _ _ _ _ _ _ _ ?_
    unfold L_slices_partitionEqualCmpFunc_deal_entry_1T
    rw [wp1E (by omega)]
    refine Br.dec (fun g => lessNE D hm I rfl rfl (by omega) (by omega) fun h' D' => Br.intro (fun g2 => ?_) fun g2 => ?_) fun g => ?_
    · rw [scanUp_tE (by omega) (by exact g2)] at k
      exact ih _ h' (by omega) (by omega) D' k
    · rw [scanUp_fE (fun x => by rw [g2] at x; exact absurd x.2 (by decide))] at k
      exact k h' D'
    · rw [scanUp_fE (by omega)] at k
      exact k h D
theorem eq_2E {a i : Nat} {d : Array Int} (ha : a < i) (hi : i ≤ n) : ∀ (q j : Nat) (h : Heap), j ≤ q → j < n → a ≤ j → DaE left g0 B m n sp h d →
    (i > scanDown (fun x => ltOE left d[a]! x) d i j → ∀ h', DaE left g0 B m n sp h' d → K (.int .i64 (i : Int)) h') →
    (¬ i > scanDown (fun x => ltOE left d[a]! x) d i j → ∀ h', DaE left g0 B m n sp h' (swp d i (scanDown (fun x => ltOE left d[a]! x) d i j)) →
      L_slices_partitionEqualCmpFunc_deal_entry_0 (some ⟨B, 0, none⟩) n c (a : Int) ((i + 1 : Nat) : Int) ((scanDown (fun x => ltOE left d[a]! x) d i j - 1 : Nat) : Int) h' K) →
    L_slices_partitionEqualCmpFunc_deal_entry_2 (some ⟨B, 0, none⟩) n c (a : Int) (i : Int) (j : Int) h K := by
  intro q
  induction q with
  | zero =>
    intro j h hq hj haj D k1 k2
    refine L_slices_partitionEqualCmpFunc_deal_entry_2r _ _ _ _ _ _ _ _ ?_
    unfold L_slices_partitionEqualCmpFunc_deal_entry_2T
    rw [scanDown_fE (by omega)] at k1
    exact Br.no (by simp; omega) (Br.yes (by simp; omega) (Ret.mk (k1 (by omega) h D)))
  | succ q ih =>
    intro j h hq hj haj D k1 k2
    refine L_slices_partitionEqualCmpFunc_deal_entry_2r _ _ _ _ _ _ _ _ ?_
    unfold L_slices_partitionEqualCmpFunc_deal_entry_2T
    by_cases g : i ≤ j
    · have w2 : IntKind.wrap .i64 ((j : Int) - 1) = ((j - 1 : Nat) : Int) := by rw [widE (by omega) (by omega)]; omega
      rw [wp1E (by omega), w2]
      refine Br.yes (by simp; omega) (lessAE D hm I rfl rfl (by omega) (by omega) fun h' D' => Br.intro (fun g2 => ?_) fun g2 => ?_)
      · rw [scanDown_tE g (by omega) (by exact g2)] at k1 k2
        exact ih _ h' (by omega) (by omega) (by omega) D' k1 k2
      · rw [scanDown_fE (fun x => by rw [g2] at x; exact absurd x.2 (by decide))] at k1 k2
        exact Br.no (by simp; omega) (swapAE (J := fun h => L_slices_partitionEqualCmpFunc_deal_entry_0 (some ⟨B, 0, none⟩) n c (a : Int) ((i + 1 : Nat) : Int) ((j - 1 : Nat) : Int) h K) D' e0 rfl rfl (by omega) (by omega) fun h1 D1 => k2 (by omega) h1 D1)
    · rw [scanDown_fE (by omega)] at k1
      exact Br.no (by simp; omega) (Br.yes (by simp; omega) (Ret.mk (k1 (by omega) h D)))
theorem eq_0E {a : Nat} : ∀ (q i j : Nat) (d : Array Int) (h : Heap), j + 1 - i ≤ q → a < i → i ≤ n → a ≤ j → j < n → DaE left g0 B m n sp h d →
    (∀ h', DaE left g0 B m n sp h' (partEqLoop (ltOE left) a i j d).2 → K (.int .i64 (((partEqLoop (ltOE left) a i j d).1 : Nat) : Int)) h') →
    L_slices_partitionEqualCmpFunc_deal_entry_0 (some ⟨B, 0, none⟩) n c (a : Int) (i : Int) (j : Int) h K := by
  intro q
  induction q with
  | zero =>
    intro i j d h hq ha hij haj hj D k
    refine L_slices_partitionEqualCmpFunc_deal_entry_0r _ _ _ _ _ _ _ _ ?_
    unfold L_slices_partitionEqualCmpFunc_deal_entry_0T
    refine eq_1E hm I hn (by omega) (by omega) _ _ h (Nat.le_refl _) (by omega) D fun h1 D1 => ?_
    have hu := scanUp_ge (fun x => !ltOE left d[a]! x) d j i
    have hu2 := scanUp_leE (p := fun x => !ltOE left d[a]! x) (d := d) hij hj
    rw [partEqLoop_eq] at k
    refine eq_2E e0 hm I hn (by omega) (by omega) _ _ h1 (Nat.le_refl _) (by omega) (by omega) D1 (fun g h2 D2 => ?_) fun g h2 D2 => ?_
    · rw [if_pos g] at k; exact k h2 D2
    · have := scanDown_le (fun x => ltOE left d[a]! x) d (scanUp (fun x => !ltOE left d[a]! x) d j i) j
      omega
  | succ q ih =>
    intro i j d h hq ha hij haj hj D k
    refine L_slices_partitionEqualCmpFunc_deal_entry_0r _ _ _ _ _ _ _ _ ?_
    unfold L_slices_partitionEqualCmpFunc_deal_entry_0T
    refine eq_1E hm I hn (by omega) (by omega) _ _ h (Nat.le_refl _) (by omega) D fun h1 D1 => ?_
    have hu := scanUp_ge (fun x => !ltOE left d[a]! x) d j i
    have hu2 := scanUp_leE (p := fun x => !ltOE left d[a]! x) (d := d) hij hj
    rw [partEqLoop_eq] at k
    refine eq_2E e0 hm I hn (by omega) (by omega) _ _ h1 (Nat.le_refl _) (by omega) (by omega) D1 (fun g h2 D2 => ?_) fun g h2 D2 => ?_
    · rw [if_pos g] at k; exact k h2 D2
    · have hd := scanDown_le (fun x => ltOE left d[a]! x) d (scanUp (fun x => !ltOE left d[a]! x) d j i) j
      rw [if_neg g] at k
      exact ih _ _ _ h2 (by omega) (by omega) (by omega) (by omega) (by omega) D2 k
theorem S_partitionEqualE {h : Heap} {d : Array Int} {a b pivot : Nat} (hab : a + 1 < b) (hb : b ≤ n) (hp1 : a ≤ pivot) (hp2 : pivot < b) (D : DaE left g0 B m n sp h d)
    (k : ∀ h', DaE left g0 B m n sp h' (partitionEqual (ltOE left) d a b pivot).2 → K (.int .i64 (((partitionEqual (ltOE left) d a b pivot).1 : Nat) : Int)) h') :
    CallA Try.prog fn_slices_partitionEqualCmpFunc_deal_entry [slice (some ⟨B, 0, none⟩) n c, .int .i64 (a : Int), .int .i64 (b : Int), .int .i64 (pivot : Int), func (Fn.func fn_pdeal_Book_All_1) #[] #[]] h K := by
  refine F_slices_partitionEqualCmpFunc_deal_entry _ _ _ _ _ _ _ _ ?_
  unfold F_slices_partitionEqualCmpFunc_deal_entryT
  have w2 : IntKind.wrap .i64 ((b : Int) - 1) = ((b - 1 : Nat) : Int) := by rw [widE (by omega) (by omega)]; omega
  rw [wp1E (by omega), w2]
  unfold partitionEqual at k
  refine swapAE (J := fun h => L_slices_partitionEqualCmpFunc_deal_entry_0 (some ⟨B, 0, none⟩) n c (a : Int) ((a + 1 : Nat) : Int) ((b - 1 : Nat) : Int) h K) D e0 rfl rfl (by omega) (by omega) fun h1 D1 => ?_
  exact eq_0E e0 hm I hn _ _ _ _ h1 (Nat.le_refl _) (by omega) (by omega) (by omega) (by omega) D1 k
/-! few steps -/
theorem few_3E {a b i s : Nat} (hb : b ≤ n) (hs : s ≤ 100) : ∀ (q j : Nat) (d : Array Int) (h : Heap), b - j ≤ q → j ≤ n + 1 → 1 ≤ j → DaE left g0 B m n sp h d →
    (∀ h', DaE left g0 B m n sp h' (shiftUp (ltOE left) b j d) → L_slices_partialInsertionSortCmpFunc_deal_entry_0 (some ⟨B, 0, none⟩) n c (a : Int) (b : Int) (i : Int) ((s + 1 : Nat) : Int) h' K) →
    L_slices_partialInsertionSortCmpFunc_deal_entry_3 (some ⟨B, 0, none⟩) n c (a : Int) (b : Int) (i : Int) (s : Int) (j : Int) h K := by
  intro q
  induction q with
  | zero =>
    intro j d h hq hj h1 D k
    refine L_slices_partialInsertionSortCmpFunc_deal_entry_3r _ _ _ _ _ _ _ _ _ _ ?_
    unfold L_slices_partialInsertionSortCmpFunc_deal_entry_3T
    rw [shiftUp, if_neg (by omega)] at k
    rw [wp1E (j := s) (by omega)]
    exact Br.no (by simp; omega) (k h D)
  | succ q ih =>
    intro j d h hq hj h1 D k
    refine L_slices_partialInsertionSortCmpFunc_deal_entry_3r _ _ _ _ _ _ _ _ _ _ ?_
    unfold L_slices_partialInsertionSortCmpFunc_deal_entry_3T
    have w2 : IntKind.wrap .i64 ((j : Int) - 1) = ((j - 1 : Nat) : Int) := by rw [widE (by omega) (by omega)]; omega
    rw [wp1E (j := s) (by omega), wp1E (j := j) (by omega), w2]
    rw [shiftUp] at k
    refine Br.dec (fun g => lessNE D hm I rfl rfl (by omega) (by omega) fun h' D' => Br.intro (fun g2 => ?_) fun g2 => ?_) fun g => ?_
    · rw [if_pos (by omega), if_pos g2] at k
      exact k h' D'
    · rw [if_pos (by omega), if_neg (by rw [g2]; decide)] at k
      exact swapAE (J := fun h => L_slices_partialInsertionSortCmpFunc_deal_entry_3 (some ⟨B, 0, none⟩) n c (a : Int) (b : Int) (i : Int) (s : Int) ((j + 1 : Nat) : Int) h K) D' e0 rfl rfl (by omega) (by omega) fun h1 D1 => ih _ _ h1 (by omega) (by omega) (by omega) D1 k
    · rw [if_neg (by omega)] at k
      exact k h D
theorem few_upE {a b i s : Nat} (hb : b ≤ n) (hs : s ≤ 100) (hi : i ≤ n) {d : Array Int} {h : Heap} (D : DaE left g0 B m n sp h d)
    (k : ∀ h', DaE left g0 B m n sp h' (fixUp (ltOE left) b i d) → L_slices_partialInsertionSortCmpFunc_deal_entry_0 (some ⟨B, 0, none⟩) n c (a : Int) (b : Int) (i : Int) ((s + 1 : Nat) : Int) h' K) :
    Br (decide (IntKind.wrap .i64 ((b : Int) - (i : Int)) ≥ 2)) (L_slices_partialInsertionSortCmpFunc_deal_entry_3 (some ⟨B, 0, none⟩) n c (a : Int) (b : Int) (i : Int) (s : Int) ((i + 1 : Nat) : Int) h K)
      (L_slices_partialInsertionSortCmpFunc_deal_entry_0 (some ⟨B, 0, none⟩) n c (a : Int) (b : Int) (i : Int) ((s + 1 : Nat) : Int) h K) := by
  rw [widE (by omega) (by omega)]
  unfold fixUp at k
  refine Br.dec (fun g => ?_) fun g => ?_
  · rw [if_pos (by omega)] at k
    exact few_3E e0 hm I hn hb hs _ _ _ h (Nat.le_refl _) (by omega) (by omega) D k
  · rw [if_neg (by omega)] at k
    exact k h D
theorem few_2E {a b i s : Nat} (hb : b ≤ n) (hs : s ≤ 100) (hi : i ≤ n) : ∀ (j : Nat) (d : Array Int) (h : Heap), j < n → DaE left g0 B m n sp h d →
    (∀ h', DaE left g0 B m n sp h' (fixUp (ltOE left) b i (shiftDown (ltOE left) j d)) → L_slices_partialInsertionSortCmpFunc_deal_entry_0 (some ⟨B, 0, none⟩) n c (a : Int) (b : Int) (i : Int) ((s + 1 : Nat) : Int) h' K) →
    L_slices_partialInsertionSortCmpFunc_deal_entry_2 (some ⟨B, 0, none⟩) n c (a : Int) (b : Int) (i : Int) (s : Int) (j : Int) h K := by
  intro j
  induction j with
  | zero =>
    intro d h hj D k
    refine L_slices_partialInsertionSortCmpFunc_deal_entry_2r _ _ _ _ _ _ _ _ _ _ ?_
    unfold L_slices_partialInsertionSortCmpFunc_deal_entry_2T
    rw [shiftDown] at k
    rw [wp1E (j := s) (by omega), wp1E (j := i) (by omega)]
    exact Br.no (by simp) (few_upE e0 hm I hn hb hs hi D k)
  | succ j ih =>
    intro d h hj D k
    refine L_slices_partialInsertionSortCmpFunc_deal_entry_2r _ _ _ _ _ _ _ _ _ _ ?_
    unfold L_slices_partialInsertionSortCmpFunc_deal_entry_2T
    rw [wp1E (j := s) (by omega), wp1E (j := i) (by omega), wm1E (by omega)]
    rw [shiftDown] at k
    refine Br.yes (by simp; omega) (lessNE D hm I rfl rfl (by omega) (by omega) fun h' D' => Br.intro (fun g2 => ?_) fun g2 => ?_)
    · rw [if_pos g2] at k
      exact few_upE e0 hm I hn hb hs hi D' k
    · rw [if_neg (by rw [g2]; decide)] at k
      exact swapAE (J := fun h => L_slices_partialInsertionSortCmpFunc_deal_entry_2 (some ⟨B, 0, none⟩) n c (a : Int) (b : Int) (i : Int) (s : Int) (j : Int) h K) D' e0 rfl rfl (by omega) (by omega) fun h1 D1 => ih _ h1 (by omega) D1 k
theorem few_1E {a b s : Nat} (hb : b ≤ n) (hs : s ≤ 100) {d : Array Int} : ∀ (q i : Nat) (h : Heap), b - i ≤ q → a < i → i ≤ b → DaE left g0 B m n sp h d →
      (scanSorted (ltOE left) d b i = b → ∀ h', DaE left g0 B m n sp h' d → K (.bool true) h') →
      (scanSorted (ltOE left) d b i ≠ b → b - a < 50 → ∀ h', DaE left g0 B m n sp h' d → K (.bool false) h') →
      (scanSorted (ltOE left) d b i ≠ b → ¬ b - a < 50 → ∀ h', DaE left g0 B m n sp h' (fixUp (ltOE left) b (scanSorted (ltOE left) d b i) (fixDown (ltOE left) a (scanSorted (ltOE left) d b i) (swp d (scanSorted (ltOE left) d b i) (scanSorted (ltOE left) d b i - 1)))) →
        L_slices_partialInsertionSortCmpFunc_deal_entry_0 (some ⟨B, 0, none⟩) n c (a : Int) (b : Int) ((scanSorted (ltOE left) d b i : Nat) : Int) ((s + 1 : Nat) : Int) h' K) →
      L_slices_partialInsertionSortCmpFunc_deal_entry_1 (some ⟨B, 0, none⟩) n c (a : Int) (b : Int) (i : Int) (s : Int) h K := by
  intro q
  induction q with
  | zero =>
    intro i h hq ha hi D k1 k2 k3
    refine L_slices_partialInsertionSortCmpFunc_deal_entry_1r _ _ _ _ _ _ _ _ _ ?_
    unfold L_slices_partialInsertionSortCmpFunc_deal_entry_1T
    have e : scanSorted (ltOE left) d b i = i := by rw [scanSorted, if_neg (by simp; omega)]
    rw [e] at k1
    exact Br.no (by simp; omega) (Br.yes (by simp; omega) (Ret.mk (k1 (by omega) h D)))
  | succ q ih =>
    intro i h hq ha hi D k1 k2 k3
    refine L_slices_partialInsertionSortCmpFunc_deal_entry_1r _ _ _ _ _ _ _ _ _ ?_
    unfold L_slices_partialInsertionSortCmpFunc_deal_entry_1T
    by_cases g : i < b
    · have w2 : IntKind.wrap .i64 ((i : Int) - 1) = ((i - 1 : Nat) : Int) := by rw [widE (by omega) (by omega)]; omega
      have w3 : IntKind.wrap .i64 ((b : Int) - (a : Int)) = ((b - a : Nat) : Int) := by rw [widE (by omega) (by omega)]; omega
      have w4 : IntKind.wrap .i64 ((i : Int) - (a : Int)) = ((i - a : Nat) : Int) := by rw [widE (by omega) (by omega)]; omega
      rw [wp1E (j := s) (by omega), wp1E (j := i) (by omega), w2, w3, w4]
      refine Br.yes (by simp; omega) (lessNE D hm I rfl rfl (by omega) (by omega) fun h' D' => Br.intro (fun g2 => ?_) fun g2 => ?_)
      · have e : scanSorted (ltOE left) d b i = scanSorted (ltOE left) d b (i + 1) := by rw [scanSorted, if_pos (by rw [g2, Bool.and_true]; exact decide_eq_true g)]
        rw [e] at k1 k2 k3
        exact ih _ h' (by omega) (by omega) (by omega) D' k1 k2 k3
      have e : scanSorted (ltOE left) d b i = i := by rw [scanSorted, if_neg (by rw [g2]; simp)]
      rw [e] at k2 k3
      refine Br.no (by simp; omega) (Br.dec (fun g3 => Ret.mk (k2 (by omega) (by omega) h' D')) fun g3 => ?_)
      have k3 := k3 (by omega) (by omega)
      unfold fixDown at k3
      refine swapAE (J := fun h => Br (decide (((i - a : Nat) : Int) ≥ 2)) (L_slices_partialInsertionSortCmpFunc_deal_entry_2 (some ⟨B, 0, none⟩) n c (a : Int) (b : Int) (i : Int) (s : Int) ((i - 1 : Nat) : Int) h K) (Br (decide (IntKind.wrap .i64 ((b : Int) - (i : Int)) ≥ 2)) (L_slices_partialInsertionSortCmpFunc_deal_entry_3 (some ⟨B, 0, none⟩) n c (a : Int) (b : Int) (i : Int) (s : Int) ((i + 1 : Nat) : Int) h K) (L_slices_partialInsertionSortCmpFunc_deal_entry_0 (some ⟨B, 0, none⟩) n c (a : Int) (b : Int) (i : Int) ((s + 1 : Nat) : Int) h K))) D' e0 rfl rfl (by omega) (by omega) fun h1 D1 => ?_
      refine Br.dec (fun g4 => ?_) fun g4 => ?_
      · rw [if_pos (by omega)] at k3
        exact few_2E e0 hm I hn hb hs (by omega) _ _ h1 (by omega) D1 k3
      · rw [if_neg (by omega)] at k3
        exact few_upE e0 hm I hn hb hs (by omega) D1 k3
    · have e : scanSorted (ltOE left) d b i = i := by rw [scanSorted, if_neg (by simp; omega)]
      rw [e] at k1
      exact Br.no (by simp; omega) (Br.yes (by simp; omega) (Ret.mk (k1 (by omega) h D)))
theorem few_0E {a b : Nat} (hb : b ≤ n) : ∀ (q s i : Nat) (d : Array Int) (h : Heap), q + s = 5 → a < i → i ≤ b → DaE left g0 B m n sp h d →
    (∀ h', DaE left g0 B m n sp h' (partialIns (ltOE left) a b q i d).1 → K (.bool (partialIns (ltOE left) a b q i d).2) h') →
    L_slices_partialInsertionSortCmpFunc_deal_entry_0 (some ⟨B, 0, none⟩) n c (a : Int) (b : Int) (i : Int) (s : Int) h K := by
  intro q
  induction q with
  | zero =>
    intro s i d h hq ha hi D k
    refine L_slices_partialInsertionSortCmpFunc_deal_entry_0r _ _ _ _ _ _ _ _ _ ?_
    unfold L_slices_partialInsertionSortCmpFunc_deal_entry_0T
    exact Br.no (by simp; omega) (Ret.mk (k h D))
  | succ q ih =>
    intro s i d h hq ha hi D k
    refine L_slices_partialInsertionSortCmpFunc_deal_entry_0r _ _ _ _ _ _ _ _ _ ?_
    unfold L_slices_partialInsertionSortCmpFunc_deal_entry_0T
    rw [partialIns_succ] at k
    have hsc : i ≤ scanSorted (ltOE left) d b i ∧ scanSorted (ltOE left) d b i ≤ b := by
      clear k
      generalize hz : b - i = z
      induction z generalizing i with
      | zero => rw [scanSorted, if_neg (by simp; omega)]; omega
      | succ z ih2 =>
        rw [scanSorted]
        split
        · have := ih2 (i + 1) (by omega) (by omega) (by omega); omega
        · omega
    refine Br.yes (by simp; omega) (few_1E e0 hm I hn hb (by omega) _ _ h (Nat.le_refl _) ha hi D (fun g h' D' => ?_) (fun g g2 h' D' => ?_) fun g g2 h' D' => ?_)
    · rw [if_pos g] at k; exact k h' D'
    · rw [if_neg g, if_pos g2] at k; exact k h' D'
    · rw [if_neg g, if_neg g2] at k
      exact ih _ _ _ h' (by omega) (by omega) hsc.2 D' k
theorem S_fewE {h : Heap} {d : Array Int} {a b : Nat} (hab : a < b) (hb : b ≤ n) (D : DaE left g0 B m n sp h d)
    (k : ∀ h', DaE left g0 B m n sp h' (partialInsertionSort (ltOE left) d a b).1 → K (.bool (partialInsertionSort (ltOE left) d a b).2) h') :
    CallA Try.prog fn_slices_partialInsertionSortCmpFunc_deal_entry [slice (some ⟨B, 0, none⟩) n c, .int .i64 (a : Int), .int .i64 (b : Int), func (Fn.func fn_pdeal_Book_All_1) #[] #[]] h K := by
  refine F_slices_partialInsertionSortCmpFunc_deal_entry _ _ _ _ _ _ _ ?_
  unfold F_slices_partialInsertionSortCmpFunc_deal_entryT
  rw [wp1E (by omega)]
  exact few_0E e0 hm I hn hb 5 0 _ _ h rfl (by omega) (by omega) D k
end
end Go.Proofs.Ytjihfieahkbohaa

/- A list parted: by which pivot; patterns broken. -/
namespace Go.Proofs.Ytjihfieahkbohaa
open Go Go.Sy Go.Value Go.Sort
set_option linter.unusedVariables false
set_option linter.unusedSimpArgs false

def tab8E : ByteArray := (ByteArray.mk (List.toArray (List.append (List.append [0, 1, 2, 2, 3, 3, 3, 3, 4, 4, 4, 4, 4, 4, 4, 4, 5, 5, 5, 5, 5, 5, 5, 5, 5, 5, 5, 5, 5, 5, 5, 5, 6, 6, 6, 6, 6, 6, 6, 6, 6, 6, 6, 6, 6, 6, 6, 6, 6, 6, 6, 6, 6, 6, 6, 6, 6, 6, 6, 6, 6, 6, 6, 6] [7, 7, 7, 7, 7, 7, 7, 7, 7, 7, 7, 7, 7, 7, 7, 7, 7, 7, 7, 7, 7, 7, 7, 7, 7, 7, 7, 7, 7, 7, 7, 7, 7, 7, 7, 7, 7, 7, 7, 7, 7, 7, 7, 7, 7, 7, 7, 7, 7, 7, 7, 7, 7, 7, 7, 7, 7, 7, 7, 7, 7, 7, 7, 7]) (List.append [8, 8, 8, 8, 8, 8, 8, 8, 8, 8, 8, 8, 8, 8, 8, 8, 8, 8, 8, 8, 8, 8, 8, 8, 8, 8, 8, 8, 8, 8, 8, 8, 8, 8, 8, 8, 8, 8, 8, 8, 8, 8, 8, 8, 8, 8, 8, 8, 8, 8, 8, 8, 8, 8, 8, 8, 8, 8, 8, 8, 8, 8, 8, 8] [8, 8, 8, 8, 8, 8, 8, 8, 8, 8, 8, 8, 8, 8, 8, 8, 8, 8, 8, 8, 8, 8, 8, 8, 8, 8, 8, 8, 8, 8, 8, 8, 8, 8, 8, 8, 8, 8, 8, 8, 8, 8, 8, 8, 8, 8, 8, 8, 8, 8, 8, 8, 8, 8, 8, 8, 8, 8, 8, 8, 8, 8, 8, 8]))))
theorem tab8_getE : ∀ y : Fin 256, tab8E[y.val]? = some (UInt8.ofNat (bitsLen y.val)) ∧ bitsLen y.val ≤ 8 := by decide +kernel
section
variable {h : Heap} {K : Value → Heap → Prop}
theorem S_len64E {x : Nat} (hx : x < 256) (k : K (.int .i64 ((bitsLen x : Nat) : Int)) h) : CallA Try.prog fn_math_bits_Len64 [.int .u64 (x : Int)] h K := by
  refine F_math_bits_Len64 _ _ _ ?_
  unfold F_math_bits_Len64T
  refine Br.no (by simp; omega) (Br.no (by simp; omega) (Br.no (by simp; omega) ?_))
  have w : IntKind.wrap .u8 (x : Int) = (x : Int) := by rw [wrap_u8]; omega
  rw [w, Int.toNat_natCast]
  have g := tab8_getE ⟨x, hx⟩
  dsimp only at g
  have t : (UInt8.ofNat (bitsLen x)).toNat = bitsLen x := by simp; omega
  refine ⟨by omega, _, g.1, Ret.mk ?_⟩
  rw [t, widE (x := ((bitsLen x : Nat) : Int)) (by omega) (by omega), Int.zero_add, widE (by omega) (by omega)]
  exact k
theorem S_lenE {x : Nat} (hx : x < 256) (k : K (.int .i64 ((bitsLen x : Nat) : Int)) h) : CallA Try.prog fn_math_bits_Len [.int .u64 (x : Int)] h K := by
  refine F_math_bits_Len _ _ _ ?_
  unfold F_math_bits_LenT
  exact S_len64E hx ⟨_, rfl, Ret.mk k⟩
theorem S_nextPowE {x : Nat} (hx : x < 256) (k : K (.int .u64 ((2 ^ bitsLen x : Nat) : Int)) h) : CallA Try.prog fn_slices_nextPowerOfTwo [.int .i64 (x : Int)] h K := by
  refine F_slices_nextPowerOfTwo _ _ _ ?_
  unfold F_slices_nextPowerOfTwoT
  have w : IntKind.wrap .u64 (x : Int) = (x : Int) := wrap_u64_id (by omega) (by omega)
  rw [w]
  have g := (tab8_getE ⟨x, hx⟩).2
  dsimp only at g
  refine S_lenE hx ⟨_, rfl, Br.yes (by simp) (Ret.mk ?_)⟩
  have e : (1 : Int) * 2 ^ min (Int.toNat ((bitsLen x : Nat) : Int)) 64 = ((2 ^ bitsLen x : Nat) : Int) := by
    rw [Int.toNat_natCast, Nat.min_eq_left (by omega), Int.one_mul]; simp
  have b : (2 ^ bitsLen x : Nat) ≤ 2 ^ 8 := Nat.pow_le_pow_right (by omega) g
  rw [e]
  generalize (2 ^ bitsLen x : Nat) = M at *
  rw [wrap_u64_id (by omega) (by omega)]
  exact k
end
theorem rand_ltE (y : Int) {M : Nat} (h1 : 1 ≤ M) (h2 : M ≤ 1024) : ∃ x : Nat, x < M ∧ IntKind.wrap .i64 (IntKind.wrap .u64 ((BitVec.toNat (BitVec.ofInt 64 y &&& BitVec.ofInt 64 (IntKind.wrap .u64 ((M : Int) - 1))) : Nat) : Int)) = (x : Int) := by
  refine ⟨BitVec.toNat (BitVec.ofInt 64 y &&& BitVec.ofInt 64 (IntKind.wrap .u64 ((M : Int) - 1))), ?_, ?_⟩
  · rw [wrap_u64_id (by omega) (by omega), BitVec.toNat_and]
    have : (BitVec.ofInt 64 ((M : Int) - 1)).toNat = M - 1 := by rw [BitVec.toNat_ofInt]; omega
    rw [this]
    have := @Nat.and_le_right (BitVec.ofInt 64 y).toNat (M - 1)
    omega
  · rw [wrap_u64_id (n := ((M : Int) - 1)) (by omega) (by omega)]
    have h3 : BitVec.toNat (BitVec.ofInt 64 y &&& BitVec.ofInt 64 ((M : Int) - 1)) ≤ M - 1 := by
      rw [BitVec.toNat_and]
      have : (BitVec.ofInt 64 ((M : Int) - 1)).toNat = M - 1 := by rw [BitVec.toNat_ofInt]; omega
      rw [this]
      exact Nat.and_le_right
    rw [wrap_u64_id (by omega) (by omega), widE (by omega) (by omega)]
section
variable {g0 : Heap} {B m n c : Nat} {sp : List Value} {left : List En} {K : Value → Heap → Prop}
theorem DaE.ne {h : Heap} {d : Array Int} (D : DaE left g0 B m n sp h d) {r o : Nat} {vs : List Value} (hr : g0 r = none) (hb : B ≠ r) : DaE left g0 B m n sp (h.setN r o vs) d := ⟨le_setN D.le hr, D.at_.set_ne hb, D.sz, D.rg⟩
theorem S_nextE {h : Heap} {d : Array Int} {r : Nat} {x : Int} (D : DaE left g0 B m n sp h d) (hr : g0 r = none) (hb : B ≠ r) (A : At h r [.int .u64 x]) (k : ∀ h' y, DaE left g0 B m n sp h' d → At h' r [.int .u64 y] → K (.int .u64 y) h') :
    CallA Try.prog fn_pslices_xorshift_Next [pointer (some ⟨r, 0, none⟩)] h K := by
  refine F_pslices_xorshift_Next _ _ _ ?_
  unfold F_pslices_xorshift_NextT
  refine withAddr_intro rfl ⟨_, A.cell rfl, withAddr_intro rfl ⟨_, A.cell rfl, withAddr_intro rfl ⟨A.canSt (Nat.le_refl _), ?_⟩⟩⟩
  generalize IntKind.wrap .u64 _ = x1
  have A1 : At (h.setN r 0 [.int .u64 x1]) r [.int .u64 x1] := A.set (o := 0)
  have D1 := D.ne (o := 0) (vs := [.int .u64 x1]) hr hb
  generalize h.setN r 0 [.int .u64 x1] = h1 at *
  refine withAddr_intro rfl ⟨_, A1.cell rfl, withAddr_intro rfl ⟨_, A1.cell rfl, withAddr_intro rfl ⟨A1.canSt (Nat.le_refl _), ?_⟩⟩⟩
  generalize IntKind.wrap .u64 _ = x2
  have A2 : At (h1.setN r 0 [.int .u64 x2]) r [.int .u64 x2] := A1.set (o := 0)
  have D2 := D1.ne (o := 0) (vs := [.int .u64 x2]) hr hb
  generalize h1.setN r 0 [.int .u64 x2] = h2 at *
  refine withAddr_intro rfl ⟨_, A2.cell rfl, withAddr_intro rfl ⟨_, A2.cell rfl, withAddr_intro rfl ⟨A2.canSt (Nat.le_refl _), ?_⟩⟩⟩
  generalize IntKind.wrap .u64 _ = x3
  have A3 : At (h2.setN r 0 [.int .u64 x3]) r [.int .u64 x3] := A2.set (o := 0)
  have D3 := D2.ne (o := 0) (vs := [.int .u64 x3]) hr hb
  exact withAddr_intro rfl ⟨_, A3.cell rfl, Ret.mk (k _ _ D3 A3)⟩
variable (e0 : g0 B = none) (hm : left.length = m) (I : True) (hn : n ≤ 1000000)
include e0 hn
theorem brk_0E {a b M r : Nat} (h8 : 8 ≤ b - a) (hb : b ≤ n) (hM1 : 1 ≤ M) (hM : M ≤ 2 * (b - a)) (hM2 : M ≤ 1024) (hr : g0 r = none) (hbr : B ≠ r) {d0 : Array Int} :
    ∀ (q idx : Nat) (h : Heap) (d : Array Int) (x : Int), a + (b - a) / 4 * 2 + 2 - idx ≤ q → a ≤ idx → DaE left g0 B m n sp h d → PermIn a b d0 d → At h r [.int .u64 x] →
    (∀ h' d', DaE left g0 B m n sp h' d' → PermIn a b d0 d' → K (tuple #[]) h') →
    L_slices_breakPatternsCmpFunc_deal_entry_0 (some ⟨B, 0, none⟩) n c (a : Int) ((b - a : Nat) : Int) r (M : Int) (idx : Int) h K := by
  have w1 : Int.tdiv ((b - a : Nat) : Int) 4 = (((b - a) / 4 : Nat) : Int) := by rw [Int.tdiv_eq_ediv_of_nonneg (by omega)]; omega
  have w2 : IntKind.wrap .i64 ((((b - a) / 4 : Nat) : Int)) = (((b - a) / 4 : Nat) : Int) := widE (by omega) (by omega)
  have w3 : IntKind.wrap .i64 ((((b - a) / 4 : Nat) : Int) * 2) = (((b - a) / 4 * 2 : Nat) : Int) := by rw [widE (by omega) (by omega)]; omega
  have w4 : IntKind.wrap .i64 ((a : Int) + (((b - a) / 4 * 2 : Nat) : Int)) = ((a + (b - a) / 4 * 2 : Nat) : Int) := by rw [widE (by omega) (by omega)]; omega
  have w5 : IntKind.wrap .i64 (((a + (b - a) / 4 * 2 : Nat) : Int) + 1) = ((a + (b - a) / 4 * 2 + 1 : Nat) : Int) := by rw [widE (by omega) (by omega)]; omega
  intro q
  induction q with
  | zero =>
    intro idx h d x hq hi D P A k
    refine L_slices_breakPatternsCmpFunc_deal_entry_0r _ _ _ _ _ _ _ _ _ _ ?_
    unfold L_slices_breakPatternsCmpFunc_deal_entry_0T
    rw [w1, w2, w3, w4, w5]
    exact Br.no (by simp; omega) (Ret.mk (k h d D P))
  | succ q ih =>
    intro idx h d x hq hi D P A k
    refine L_slices_breakPatternsCmpFunc_deal_entry_0r _ _ _ _ _ _ _ _ _ _ ?_
    unfold L_slices_breakPatternsCmpFunc_deal_entry_0T
    rw [w1, w2, w3, w4, w5]
    refine Br.dec (fun g => S_nextE D hr hbr A fun h1 y D1 A1 => ⟨_, rfl, ?_⟩) fun g => Ret.mk (k h d D P)
    have hz : d.size = n := D.sz
    obtain ⟨z, hz1, hz2⟩ := rand_ltE y hM1 hM2
    rw [wp1E (j := idx) (by omega)]
    rw [hz2]
    refine Br.dec (fun g2 => ?_) fun g2 => ?_
    · have v1 : IntKind.wrap .i64 ((z : Int) - ((b - a : Nat) : Int)) = ((z - (b - a) : Nat) : Int) := by rw [widE (by omega) (by omega)]; omega
      have v2 : IntKind.wrap .i64 ((a : Int) + ((z - (b - a) : Nat) : Int)) = ((a + (z - (b - a)) : Nat) : Int) := by rw [widE (by omega) (by omega)]; omega
      rw [v1, v2]
      have hA : ∀ h2, DaE left g0 B m n sp h2 (swp d idx (a + (z - (b - a)))) → At h2 r [.int .u64 y] → L_slices_breakPatternsCmpFunc_deal_entry_0 (some ⟨B, 0, none⟩) n c (a : Int) ((b - a : Nat) : Int) r (M : Int) ((idx + 1 : Nat) : Int) h2 K := fun h2 D2 A2 =>
        ih (idx + 1) h2 _ y (by omega) (by omega) D2 (permIn_trans _ _ _ _ _ P (swp_permIn d a b _ _ (by omega) (by omega) (by omega) (by omega) (by omega))) A2 k
      exact swapRE (J := fun h2 => L_slices_breakPatternsCmpFunc_deal_entry_0 (some ⟨B, 0, none⟩) n c (a : Int) ((b - a : Nat) : Int) r (M : Int) ((idx + 1 : Nat) : Int) h2 K) D1 e0 A1 hbr rfl rfl (by omega) (by omega) hA
    · have v2 : IntKind.wrap .i64 ((a : Int) + (z : Int)) = ((a + z : Nat) : Int) := by rw [widE (by omega) (by omega)]; omega
      rw [v2]
      have hA : ∀ h2, DaE left g0 B m n sp h2 (swp d idx (a + z)) → At h2 r [.int .u64 y] → L_slices_breakPatternsCmpFunc_deal_entry_0 (some ⟨B, 0, none⟩) n c (a : Int) ((b - a : Nat) : Int) r (M : Int) ((idx + 1 : Nat) : Int) h2 K := fun h2 D2 A2 =>
        ih (idx + 1) h2 _ y (by omega) (by omega) D2 (permIn_trans _ _ _ _ _ P (swp_permIn d a b _ _ (by omega) (by omega) (by omega) (by omega) (by omega))) A2 k
      exact swapRE (J := fun h2 => L_slices_breakPatternsCmpFunc_deal_entry_0 (some ⟨B, 0, none⟩) n c (a : Int) ((b - a : Nat) : Int) r (M : Int) ((idx + 1 : Nat) : Int) h2 K) D1 e0 A1 hbr rfl rfl (by omega) (by omega) hA
theorem S_breakE {h : Heap} {d : Array Int} {a b : Nat} (h8 : 8 ≤ b - a) (h256 : b - a < 256) (hb : b ≤ n) (D : DaE left g0 B m n sp h d)
    (k : ∀ h' d', DaE left g0 B m n sp h' d' → PermIn a b d d' → K (tuple #[]) h') :
    CallA Try.prog fn_slices_breakPatternsCmpFunc_deal_entry [slice (some ⟨B, 0, none⟩) n c, .int .i64 (a : Int), .int .i64 (b : Int), func (Fn.func fn_pdeal_Book_All_1) #[] #[]] h K := by
  refine F_slices_breakPatternsCmpFunc_deal_entry _ _ _ _ _ _ _ ?_
  unfold F_slices_breakPatternsCmpFunc_deal_entryT
  have w0 : IntKind.wrap .i64 ((b : Int) - (a : Int)) = ((b - a : Nat) : Int) := by rw [widE (by omega) (by omega)]; omega
  have w1 : Int.tdiv ((b - a : Nat) : Int) 4 = (((b - a) / 4 : Nat) : Int) := by rw [Int.tdiv_eq_ediv_of_nonneg (by omega)]; omega
  have w2 : IntKind.wrap .i64 ((((b - a) / 4 : Nat) : Int)) = (((b - a) / 4 : Nat) : Int) := widE (by omega) (by omega)
  have w3 : IntKind.wrap .i64 ((((b - a) / 4 : Nat) : Int) * 2) = (((b - a) / 4 * 2 : Nat) : Int) := by rw [widE (by omega) (by omega)]; omega
  have w4 : IntKind.wrap .i64 ((a : Int) + (((b - a) / 4 * 2 : Nat) : Int)) = ((a + (b - a) / 4 * 2 : Nat) : Int) := by rw [widE (by omega) (by omega)]; omega
  have w5 : IntKind.wrap .i64 (((a + (b - a) / 4 * 2 : Nat) : Int) - 1) = ((a + (b - a) / 4 * 2 - 1 : Nat) : Int) := by rw [widE (by omega) (by omega)]; omega
  rw [w0, w1, w2, w3, w4, w5]
  have g := (tab8_getE ⟨b - a, h256⟩).2
  dsimp only at g
  have b1 : (2 ^ bitsLen (b - a) : Nat) ≤ 2 ^ 8 := Nat.pow_le_pow_right (by omega) g
  refine Br.yes (by simp; omega) (newB_at fun r h1 hr l1 A1 => ⟨A1.canSt (Nat.le_refl _), ?_⟩)
  generalize IntKind.wrap .u64 _ = x
  have hr0 := none_of_le D.le hr
  have hbr : B ≠ r := D.at_.ne hr
  have A2 : At (h1.setN r 0 [.int .u64 x]) r [.int .u64 x] := A1.set (o := 0)
  have D2 := (D.mv l1).ne (o := 0) (vs := [.int .u64 x]) hr0 hbr
  refine S_nextPowE h256 ⟨_, rfl, ?_⟩
  exact brk_0E e0 hn h8 hb (Nat.one_le_two_pow) (two_pow_bitsLen_le (by omega)) (by omega) hr0 hbr _ _ _ d x (Nat.le_refl _) (by omega) D2 (permIn_refl d a b) A2 k
omit e0
include hm I
omit hn in
theorem S_order2E {h : Heap} {d : Array Int} {a b r : Nat} {s : Int} (ha : a < n) (hb : b < n) (D : DaE left g0 B m n sp h d) (hr : g0 r = none) (hbr : B ≠ r) (A : At h r [.int .i64 s])
    (k : ∀ h' s' (x y : Nat), DaE left g0 B m n sp h' d → At h' r [.int .i64 s'] → (x = a ∧ y = b ∨ x = b ∧ y = a) → K (tuple #[.int .i64 (x : Int), .int .i64 (y : Int)]) h') :
    CallA Try.prog fn_slices_order2CmpFunc_deal_entry [slice (some ⟨B, 0, none⟩) n c, .int .i64 (a : Int), .int .i64 (b : Int), pointer (some ⟨r, 0, none⟩), func (Fn.func fn_pdeal_Book_All_1) #[] #[]] h K := by
  refine F_slices_order2CmpFunc_deal_entry _ _ _ _ _ _ _ _ ?_
  unfold F_slices_order2CmpFunc_deal_entryT
  refine lessRE D hm I A rfl rfl hb ha fun h1 D1 A1 => Br.intro (fun g => ?_) fun g => Ret.mk (k _ _ a b D1 A1 (.inl ⟨rfl, rfl⟩))
  refine withAddr_intro rfl ⟨_, A1.cell rfl, withAddr_intro rfl ⟨A1.canSt (Nat.le_refl _), Ret.mk ?_⟩⟩
  generalize IntKind.wrap .i64 _ = x
  have A2 : At (h1.setN r 0 [.int .i64 x]) r [.int .i64 x] := A1.set (o := 0)
  exact k _ _ b a (D1.ne hr hbr) A2 (.inr ⟨rfl, rfl⟩)
omit hn in
theorem S_medianE {h : Heap} {d : Array Int} {a b c' r : Nat} {s : Int} (ha : a < n) (hb : b < n) (hc : c' < n) (D : DaE left g0 B m n sp h d) (hr : g0 r = none) (hbr : B ≠ r) (A : At h r [.int .i64 s])
    (k : ∀ h' s' (x : Nat), DaE left g0 B m n sp h' d → At h' r [.int .i64 s'] → (x = a ∨ x = b ∨ x = c') → K (.int .i64 (x : Int)) h') :
    CallA Try.prog fn_slices_medianCmpFunc_deal_entry [slice (some ⟨B, 0, none⟩) n c, .int .i64 (a : Int), .int .i64 (b : Int), .int .i64 (c' : Int), pointer (some ⟨r, 0, none⟩), func (Fn.func fn_pdeal_Book_All_1) #[] #[]] h K := by
  refine F_slices_medianCmpFunc_deal_entry _ _ _ _ _ _ _ _ _ ?_
  unfold F_slices_medianCmpFunc_deal_entryT
  refine S_order2E hm I ha hb D hr hbr A fun h1 s1 x y D1 A1 e1 => ⟨_, _, rfl, S_order2E hm I (by omega) hc D1 hr hbr A1 fun h2 s2 z w D2 A2 e2 => ⟨_, _, rfl, S_order2E hm I (by omega) (by omega) D2 hr hbr A2 fun h3 s3 u v D3 A3 e3 => ⟨_, _, rfl, Ret.mk (k _ _ v D3 A3 (by omega))⟩⟩⟩
theorem S_medianAdjE {h : Heap} {d : Array Int} {a r : Nat} {s : Int} (h1 : 1 ≤ a) (ha : a + 1 < n) (D : DaE left g0 B m n sp h d) (hr : g0 r = none) (hbr : B ≠ r) (A : At h r [.int .i64 s])
    (k : ∀ h' s' (x : Nat), DaE left g0 B m n sp h' d → At h' r [.int .i64 s'] → (a ≤ x + 1 ∧ x ≤ a + 1) → K (.int .i64 (x : Int)) h') :
    CallA Try.prog fn_slices_medianAdjacentCmpFunc_deal_entry [slice (some ⟨B, 0, none⟩) n c, .int .i64 (a : Int), pointer (some ⟨r, 0, none⟩), func (Fn.func fn_pdeal_Book_All_1) #[] #[]] h K := by
  refine F_slices_medianAdjacentCmpFunc_deal_entry _ _ _ _ _ _ _ ?_
  unfold F_slices_medianAdjacentCmpFunc_deal_entryT
  have w2 : IntKind.wrap .i64 ((a : Int) - 1) = ((a - 1 : Nat) : Int) := by rw [widE (by omega) (by omega)]; omega
  rw [wp1E (by omega), w2]
  exact S_medianE hm I (by omega) (by omega) (by omega) D hr hbr A fun h1 s1 x D1 A1 e => ⟨_, rfl, Ret.mk (k _ _ x D1 A1 (by omega))⟩
theorem S_pivotE {h : Heap} {d : Array Int} {a b : Nat} (h12 : 12 < b - a) (hb : b ≤ n) (D : DaE left g0 B m n sp h d)
    (k : ∀ h' (x : Nat) (hint : Int), DaE left g0 B m n sp h' d → a ≤ x → x < b → K (tuple #[.int .i64 (x : Int), .int .i64 hint]) h') :
    CallA Try.prog fn_slices_choosePivotCmpFunc_deal_entry [slice (some ⟨B, 0, none⟩) n c, .int .i64 (a : Int), .int .i64 (b : Int), func (Fn.func fn_pdeal_Book_All_1) #[] #[]] h K := by
  refine F_slices_choosePivotCmpFunc_deal_entry _ _ _ _ _ _ _ ?_
  unfold F_slices_choosePivotCmpFunc_deal_entryT
  have w0 : IntKind.wrap .i64 ((b : Int) - (a : Int)) = ((b - a : Nat) : Int) := by rw [widE (by omega) (by omega)]; omega
  have w1 : Int.tdiv ((b - a : Nat) : Int) 4 = (((b - a) / 4 : Nat) : Int) := by rw [Int.tdiv_eq_ediv_of_nonneg (by omega)]; omega
  have hq : (b - a) / 4 * 4 ≤ b - a := by omega
  have hq3 : 3 ≤ (b - a) / 4 := by omega
  generalize (b - a) / 4 = l at *
  have w2 : IntKind.wrap .i64 (l : Int) = (l : Int) := widE (by omega) (by omega)
  have w3 : IntKind.wrap .i64 ((l : Int) * 1) = (l : Int) := by rw [widE (by omega) (by omega)]; omega
  have w4 : IntKind.wrap .i64 ((l : Int) * 2) = ((2 * l : Nat) : Int) := by rw [widE (by omega) (by omega)]; omega
  have w5 : IntKind.wrap .i64 ((l : Int) * 3) = ((3 * l : Nat) : Int) := by rw [widE (by omega) (by omega)]; omega
  have w6 : IntKind.wrap .i64 ((a : Int) + (l : Int)) = ((a + l : Nat) : Int) := by rw [widE (by omega) (by omega)]; omega
  have w7 : IntKind.wrap .i64 ((a : Int) + ((2 * l : Nat) : Int)) = ((a + 2 * l : Nat) : Int) := by rw [widE (by omega) (by omega)]; omega
  have w8 : IntKind.wrap .i64 ((a : Int) + ((3 * l : Nat) : Int)) = ((a + 3 * l : Nat) : Int) := by rw [widE (by omega) (by omega)]; omega
  rw [w0, w1, w2, w3, w4, w5, w6, w7, w8]
  refine newB_at fun r h1 hr l1 A1 => ?_
  have hr0 := none_of_le D.le hr
  have hbr : B ≠ r := D.at_.ne hr
  have D1 := D.mv l1
  have fin : ∀ (h' : Heap) (s : Int) (x : Nat), DaE left g0 B m n sp h' d → a ≤ x → x < b → Br (s == 0) (Ret h' K (tuple #[.int .i64 (x : Int), .int .i64 1])) (Br (s == 12) (Ret h' K (tuple #[.int .i64 (x : Int), .int .i64 2])) (Ret h' K (tuple #[.int .i64 (x : Int), .int .i64 0]))) :=
    fun h' s x D' g1 g2 => Br.intro (fun _ => Ret.mk (k _ _ _ D' g1 g2)) fun _ => Br.intro (fun _ => Ret.mk (k _ _ _ D' g1 g2)) fun _ => Ret.mk (k _ _ _ D' g1 g2)
  refine Br.yes (by simp; omega) (Br.intro (fun g => ?_) fun g => ?_)
  · refine S_medianAdjE hm I hn (by omega) (by omega) D1 hr0 hbr A1 fun h2 s2 x D2 A2 e2 => ⟨_, rfl, S_medianAdjE hm I hn (by omega) (by omega) D2 hr0 hbr A2 fun h3 s3 y D3 A3 e3 => ⟨_, rfl, S_medianAdjE hm I hn (by omega) (by omega) D3 hr0 hbr A3 fun h4 s4 z D4 A4 e4 => ⟨_, rfl, ?_⟩⟩⟩
    exact S_medianE hm I (by omega) (by omega) (by omega) D4 hr0 hbr A4 fun h5 s5 u D5 A5 e5 => ⟨_, rfl, _, A5.cell rfl, fin _ _ _ D5 (by omega) (by omega)⟩
  · exact S_medianE hm I (by omega) (by omega) (by omega) D1 hr0 hbr A1 fun h5 s5 u D5 A5 e5 => ⟨_, rfl, _, A5.cell rfl, fin _ _ _ D5 (by omega) (by omega)⟩
end
end Go.Proofs.Ytjihfieahkbohaa
