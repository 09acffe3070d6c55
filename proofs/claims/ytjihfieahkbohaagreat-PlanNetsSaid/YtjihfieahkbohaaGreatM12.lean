import Derived.Test.YtjihfieahkbohaaGreatM04
import Derived.Test.YtjihfieahkbohaaGreatM11
import Derived.Test.YtjihfieahkbohaaGreatM03
/- A list parted by a pivot, or tried to be put in order by few steps. -/
namespace Go.Proofs.YtjihfieahkbohaaGreat
open Go Go.Sy Go.Value Go.Sort
set_option linter.unusedVariables false
set_option linter.unusedSimpArgs false

theorem qNr {α : Type} [Inhabited α] {p : α → Bool} {d : Array α} {j i : Nat} (h : i ≤ j) (hp : p d[i]! = true) : scanUp p d j i = scanUp p d j (i + 1) := by
  rw [scanUp, if_pos (by rw [hp, Bool.and_true]; exact decide_eq_true h)]
theorem qFL {α : Type} [Inhabited α] {p : α → Bool} {d : Array α} {j i : Nat} (h : ¬ (i ≤ j ∧ p d[i]! = true)) : scanUp p d j i = i := by
  rw [scanUp, if_neg (by rw [Bool.and_eq_true, decide_eq_true_eq]; exact h)]
theorem qL4 {α : Type} [Inhabited α] {p : α → Bool} {d : Array α} {j i : Nat} (h : i ≤ j) (h1 : 1 ≤ i) (hp : p d[j]! = true) : scanDown p d i j = scanDown p d i (j - 1) := by
  cases j with
  | zero => omega
  | succ j => rw [scanDown, if_pos (by rw [hp, Bool.and_true]; exact decide_eq_true h)]; rfl
theorem qEJ {α : Type} [Inhabited α] {p : α → Bool} {d : Array α} {j i : Nat} (h : ¬ (i ≤ j ∧ p d[j]! = true)) : scanDown p d i j = j := by
  cases j with
  | zero => rw [scanDown]
  | succ j => rw [scanDown, if_neg (by rw [Bool.and_eq_true, decide_eq_true_eq]; exact h)]
theorem qI8 {α : Type} [Inhabited α] {p : α → Bool} {d : Array α} {j i n : Nat} (h : i ≤ n) (hj : j < n) : scanUp p d j i ≤ n := by
  by_cases g : i ≤ j + 1
  · have := (scanUp_spec p d j _ i rfl).2.1 g; omega
  · rw [qFL (by omega)]; exact h

section
variable {g0 : Heap} {B m n c : Nat} {sp : List Value} {left : List En} {K : Value → Heap → Prop} (e0 : g0 B = none) (hm : left.length = m) (I : True) (hn : n ≤ 1000000)
include e0 hm I hn
/-! by partition -/
omit e0 in
theorem qXW {a j : Nat} {d : Array Int} (ha : a < n) (hj : j < n) : ∀ (q i : Nat) (h : Heap), j + 1 - i ≤ q → i ≤ n → DaE left g0 B m n sp h d →
    (∀ h', DaE left g0 B m n sp h' d → qm (some ⟨B, 0, none⟩) n c (a : Int) ((scanUp (fun x => qR left x d[a]!) d j i : Nat) : Int) (j : Int) h' K) →
    qAL (some ⟨B, 0, none⟩) n c (a : Int) (i : Int) (j : Int) h K := by
  intro q
  induction q with
  | zero =>
    intro i h hq hi D k
    refine qDw _ _ _ _ _ _ _ _ ?_
    unfold qBr
    rw [qFL (by omega)] at k
    exact Br.no (by simp; omega) (k h D)
  | succ q ih =>
    intro i h hq hi D k
    refine qDw _ _ _ _ _ _ _ _ ?_
    unfold qBr
    rw [qEv (by omega)]
    refine Br.dec (fun g => qNZ D hm I rfl rfl (by omega) (by omega) fun h' D' => Br.intro (fun g2 => ?_) fun g2 => ?_) fun g => ?_
    · rw [qNr (by omega) (by exact g2)] at k
      exact ih _ h' (by omega) (by omega) D' k
    · rw [qFL (fun x => by rw [g2] at x; exact absurd x.2 (by decide))] at k
      exact k h' D'
    · rw [qFL (by omega)] at k
      exact k h D
omit e0 in
theorem qS0 {a j : Nat} {d : Array Int} (ha : a < n) (hj : j < n) : ∀ (q i : Nat) (h : Heap), j + 1 - i ≤ q → i ≤ n → DaE left g0 B m n sp h d →
    (∀ h', DaE left g0 B m n sp h' d → qo (some ⟨B, 0, none⟩) n c (a : Int) ((scanUp (fun x => qR left x d[a]!) d j i : Nat) : Int) (j : Int) h' K) →
    qAw (some ⟨B, 0, none⟩) n c (a : Int) (i : Int) (j : Int) h K := by
  intro q
  induction q with
  | zero =>
    intro i h hq hi D k
    refine qDl _ _ _ _ _ _ _ _ ?_
    unfold qBu
    rw [qFL (by omega)] at k
    exact Br.no (by simp; omega) (k h D)
  | succ q ih =>
    intro i h hq hi D k
    refine qDl _ _ _ _ _ _ _ _ ?_
    unfold qBu
    rw [qEv (by omega)]
    refine Br.dec (fun g => qNZ D hm I rfl rfl (by omega) (by omega) fun h' D' => Br.intro (fun g2 => ?_) fun g2 => ?_) fun g => ?_
    · rw [qNr (by omega) (by exact g2)] at k
      exact ih _ h' (by omega) (by omega) D' k
    · rw [qFL (fun x => by rw [g2] at x; exact absurd x.2 (by decide))] at k
      exact k h' D'
    · rw [qFL (by omega)] at k
      exact k h D
theorem qXH {a i : Nat} {d : Array Int} (ha : a < i) (hi : i ≤ n) : ∀ (q j : Nat) (h : Heap), j ≤ q → j < n → a ≤ j → DaE left g0 B m n sp h d →
    (i > scanDown (fun x => !qR left x d[a]!) d i j → ∀ h', DaE left g0 B m n sp h' (swp d (scanDown (fun x => !qR left x d[a]!) d i j) a) → K (tuple #[.int .i64 ((scanDown (fun x => !qR left x d[a]!) d i j : Nat) : Int), .bool true]) h') →
    (¬ i > scanDown (fun x => !qR left x d[a]!) d i j → ∀ h', DaE left g0 B m n sp h' (swp d i (scanDown (fun x => !qR left x d[a]!) d i j)) →
      qT (some ⟨B, 0, none⟩) n c (a : Int) ((i + 1 : Nat) : Int) ((scanDown (fun x => !qR left x d[a]!) d i j - 1 : Nat) : Int) h' K) →
    qm (some ⟨B, 0, none⟩) n c (a : Int) (i : Int) (j : Int) h K := by
  intro q
  induction q with
  | zero =>
    intro j h hq hj haj D k1 k2
    refine qDt _ _ _ _ _ _ _ _ ?_
    unfold qBv
    rw [qEJ (by omega)] at k1
    exact Br.no (by simp; omega) (Br.yes (by simp; omega) (qD0 (J := fun h => Ret h K (tuple #[.int .i64 (j : Int), .bool true])) D e0 rfl rfl (by omega) (by omega) fun h1 D1 => Ret.mk (k1 (by omega) h1 D1)))
  | succ q ih =>
    intro j h hq hj haj D k1 k2
    refine qDt _ _ _ _ _ _ _ _ ?_
    unfold qBv
    by_cases g : i ≤ j
    · have w2 : IntKind.wrap .i64 ((j : Int) - 1) = ((j - 1 : Nat) : Int) := by rw [q9 (by omega) (by omega)]; omega
      rw [qEv (by omega), w2]
      refine Br.yes (by simp; omega) (qH8 D hm I rfl rfl (by omega) (by omega) fun h' D' => Br.intro (fun g2 => ?_) fun g2 => ?_)
      · rw [qL4 g (by omega) (by exact g2)] at k1 k2
        exact ih _ h' (by omega) (by omega) (by omega) D' k1 k2
      · rw [qEJ (fun x => by rw [g2] at x; exact absurd x.2 (by decide))] at k1 k2
        exact Br.no (by simp; omega) (qD0 (J := fun h => qT (some ⟨B, 0, none⟩) n c (a : Int) ((i + 1 : Nat) : Int) ((j - 1 : Nat) : Int) h K) D' e0 rfl rfl (by omega) (by omega) fun h1 D1 => k2 (by omega) h1 D1)
    · rw [qEJ (by omega)] at k1
      exact Br.no (by simp; omega) (Br.yes (by simp; omega) (qD0 (J := fun h => Ret h K (tuple #[.int .i64 (j : Int), .bool true])) D e0 rfl rfl (by omega) (by omega) fun h1 D1 => Ret.mk (k1 (by omega) h1 D1)))
theorem qS1 {a i : Nat} {d : Array Int} (ha : a < i) (hi : i ≤ n) : ∀ (q j : Nat) (h : Heap), j ≤ q → j < n → a ≤ j → DaE left g0 B m n sp h d →
    (i > scanDown (fun x => !qR left x d[a]!) d i j → ∀ h', DaE left g0 B m n sp h' (swp d (scanDown (fun x => !qR left x d[a]!) d i j) a) → K (tuple #[.int .i64 ((scanDown (fun x => !qR left x d[a]!) d i j : Nat) : Int), .bool false]) h') →
    (¬ i > scanDown (fun x => !qR left x d[a]!) d i j → ∀ h', DaE left g0 B m n sp h' (swp d i (scanDown (fun x => !qR left x d[a]!) d i j)) →
      qT (some ⟨B, 0, none⟩) n c (a : Int) ((i + 1 : Nat) : Int) ((scanDown (fun x => !qR left x d[a]!) d i j - 1 : Nat) : Int) h' K) →
    qo (some ⟨B, 0, none⟩) n c (a : Int) (i : Int) (j : Int) h K := by
  intro q
  induction q with
  | zero =>
    intro j h hq hj haj D k1 k2
    refine qDq _ _ _ _ _ _ _ _ ?_
    unfold qBt
    rw [qEJ (by omega)] at k1
    exact Br.no (by simp; omega) (Br.yes (by simp; omega) (qD0 (J := fun h => Ret h K (tuple #[.int .i64 (j : Int), .bool false])) D e0 rfl rfl (by omega) (by omega) fun h1 D1 => Ret.mk (k1 (by omega) h1 D1)))
  | succ q ih =>
    intro j h hq hj haj D k1 k2
    refine qDq _ _ _ _ _ _ _ _ ?_
    unfold qBt
    by_cases g : i ≤ j
    · have w2 : IntKind.wrap .i64 ((j : Int) - 1) = ((j - 1 : Nat) : Int) := by rw [q9 (by omega) (by omega)]; omega
      rw [qEv (by omega), w2]
      refine Br.yes (by simp; omega) (qH8 D hm I rfl rfl (by omega) (by omega) fun h' D' => Br.intro (fun g2 => ?_) fun g2 => ?_)
      · rw [qL4 g (by omega) (by exact g2)] at k1 k2
        exact ih _ h' (by omega) (by omega) (by omega) D' k1 k2
      · rw [qEJ (fun x => by rw [g2] at x; exact absurd x.2 (by decide))] at k1 k2
        exact Br.no (by simp; omega) (qD0 (J := fun h => qT (some ⟨B, 0, none⟩) n c (a : Int) ((i + 1 : Nat) : Int) ((j - 1 : Nat) : Int) h K) D' e0 rfl rfl (by omega) (by omega) fun h1 D1 => k2 (by omega) h1 D1)
    · rw [qEJ (by omega)] at k1
      exact Br.no (by simp; omega) (Br.yes (by simp; omega) (qD0 (J := fun h => Ret h K (tuple #[.int .i64 (j : Int), .bool false])) D e0 rfl rfl (by omega) (by omega) fun h1 D1 => Ret.mk (k1 (by omega) h1 D1)))
theorem qXZ {a : Nat} : ∀ (q i j : Nat) (d : Array Int) (h : Heap), j + 1 - i ≤ q → a < i → i ≤ n → a ≤ j → j < n → DaE left g0 B m n sp h d →
    (∀ h', DaE left g0 B m n sp h' (swp (partLoop (qR left) a i j d).2 (partLoop (qR left) a i j d).1 a) → K (tuple #[.int .i64 (((partLoop (qR left) a i j d).1 : Nat) : Int), .bool false]) h') →
    qT (some ⟨B, 0, none⟩) n c (a : Int) (i : Int) (j : Int) h K := by
  intro q
  induction q with
  | zero =>
    intro i j d h hq ha hij haj hj D k
    refine qDs _ _ _ _ _ _ _ _ ?_
    unfold qBs
    refine qS0 hm I hn (by omega) (by omega) _ _ h (Nat.le_refl _) (by omega) D fun h1 D1 => ?_
    have hu := scanUp_ge (fun x => qR left x d[a]!) d j i
    have hu2 := qI8 (p := fun x => qR left x d[a]!) (d := d) hij hj
    rw [partLoop_eq] at k
    refine qS1 e0 hm I hn (by omega) (by omega) _ _ h1 (Nat.le_refl _) (by omega) (by omega) D1 (fun g h2 D2 => ?_) fun g h2 D2 => ?_
    · rw [if_pos g] at k; exact k h2 D2
    · have := scanDown_le (fun x => !qR left x d[a]!) d (scanUp (fun x => qR left x d[a]!) d j i) j
      omega
  | succ q ih =>
    intro i j d h hq ha hij haj hj D k
    refine qDs _ _ _ _ _ _ _ _ ?_
    unfold qBs
    refine qS0 hm I hn (by omega) (by omega) _ _ h (Nat.le_refl _) (by omega) D fun h1 D1 => ?_
    have hu := scanUp_ge (fun x => qR left x d[a]!) d j i
    have hu2 := qI8 (p := fun x => qR left x d[a]!) (d := d) hij hj
    rw [partLoop_eq] at k
    refine qS1 e0 hm I hn (by omega) (by omega) _ _ h1 (Nat.le_refl _) (by omega) (by omega) D1 (fun g h2 D2 => ?_) fun g h2 D2 => ?_
    · rw [if_pos g] at k; exact k h2 D2
    · have hd := scanDown_le (fun x => !qR left x d[a]!) d (scanUp (fun x => qR left x d[a]!) d j i) j
      rw [if_neg g] at k
      exact ih _ _ _ h2 (by omega) (by omega) (by omega) (by omega) (by omega) D2 k
theorem qRR {h : Heap} {d : Array Int} {a b pivot : Nat} (hab : a + 1 < b) (hb : b ≤ n) (hp1 : a ≤ pivot) (hp2 : pivot < b) (D : DaE left g0 B m n sp h d)
    (k : ∀ h', DaE left g0 B m n sp h' (partition (qR left) d a b pivot).2.2 → K (tuple #[.int .i64 (((partition (qR left) d a b pivot).1 : Nat) : Int), .bool (partition (qR left) d a b pivot).2.1]) h') :
    CallA Tryz.prog qA0 [slice (some ⟨B, 0, none⟩) n c, .int .i64 (a : Int), .int .i64 (b : Int), .int .i64 (pivot : Int), func (Fn.func qD) #[] #[]] h K := by
  refine qHJ _ _ _ _ _ _ _ _ ?_
  unfold qEG
  have w2 : IntKind.wrap .i64 ((b : Int) - 1) = ((b - 1 : Nat) : Int) := by rw [q9 (by omega) (by omega)]; omega
  rw [qEv (by omega), w2]
  unfold partition at k
  dsimp only at k
  refine qD0 (J := fun h => qAL (some ⟨B, 0, none⟩) n c (a : Int) ((a + 1 : Nat) : Int) ((b - 1 : Nat) : Int) h K) D e0 rfl rfl (by omega) (by omega) fun h1 D1 => ?_
  generalize swp d a pivot = d1 at *
  refine qXW hm I hn (by omega) (by omega) _ _ h1 (Nat.le_refl _) (by omega) D1 fun h2 D2 => ?_
  have hu := scanUp_ge (fun x => qR left x d1[a]!) d1 (b - 1) (a + 1)
  have hu2 := qI8 (p := fun x => qR left x d1[a]!) (d := d1) (j := b - 1) (i := a + 1) (n := n) (by omega) (by omega)
  refine qXH e0 hm I hn (by omega) (by omega) _ _ h2 (Nat.le_refl _) (by omega) (by omega) D2 (fun g h3 D3 => ?_) fun g h3 D3 => ?_
  · rw [if_pos g] at k; exact k h3 D3
  · have hd := scanDown_le (fun x => !qR left x d1[a]!) d1 (scanUp (fun x => qR left x d1[a]!) d1 (b - 1) (a + 1)) (b - 1)
    rw [if_neg g] at k
    exact qXZ e0 hm I hn _ _ _ _ h3 (Nat.le_refl _) (by omega) (by omega) (by omega) (by omega) D3 k
/-! what is as great as the pivot -/
omit e0 in
theorem qW8 {a j : Nat} {d : Array Int} (ha : a < n) (hj : j < n) : ∀ (q i : Nat) (h : Heap), j + 1 - i ≤ q → i ≤ n → DaE left g0 B m n sp h d →
    (∀ h', DaE left g0 B m n sp h' d → qh (some ⟨B, 0, none⟩) n c (a : Int) ((scanUp (fun x => !qR left d[a]! x) d j i : Nat) : Int) (j : Int) h' K) →
    qAW (some ⟨B, 0, none⟩) n c (a : Int) (i : Int) (j : Int) h K := by
  intro q
  induction q with
  | zero =>
    intro i h hq hi D k
    refine qCw _ _ _ _ _ _ _ _ ?_
    unfold qBC
    rw [qFL (by omega)] at k
    exact Br.no (by simp; omega) (k h D)
  | succ q ih =>
    intro i h hq hi D k
    refine qCw _ _ _ _ _ _ _ _ ?_
    unfold qBC
    rw [qEv (by omega)]
    refine Br.dec (fun g => qH8 D hm I rfl rfl (by omega) (by omega) fun h' D' => Br.intro (fun g2 => ?_) fun g2 => ?_) fun g => ?_
    · rw [qNr (by omega) (by exact g2)] at k
      exact ih _ h' (by omega) (by omega) D' k
    · rw [qFL (fun x => by rw [g2] at x; exact absurd x.2 (by decide))] at k
      exact k h' D'
    · rw [qFL (by omega)] at k
      exact k h D
theorem qW1 {a i : Nat} {d : Array Int} (ha : a < i) (hi : i ≤ n) : ∀ (q j : Nat) (h : Heap), j ≤ q → j < n → a ≤ j → DaE left g0 B m n sp h d →
    (i > scanDown (fun x => qR left d[a]! x) d i j → ∀ h', DaE left g0 B m n sp h' d → K (.int .i64 (i : Int)) h') →
    (¬ i > scanDown (fun x => qR left d[a]! x) d i j → ∀ h', DaE left g0 B m n sp h' (swp d i (scanDown (fun x => qR left d[a]! x) d i j)) →
      qX (some ⟨B, 0, none⟩) n c (a : Int) ((i + 1 : Nat) : Int) ((scanDown (fun x => qR left d[a]! x) d i j - 1 : Nat) : Int) h' K) →
    qh (some ⟨B, 0, none⟩) n c (a : Int) (i : Int) (j : Int) h K := by
  intro q
  induction q with
  | zero =>
    intro j h hq hj haj D k1 k2
    refine qCt _ _ _ _ _ _ _ _ ?_
    unfold qBE
    rw [qEJ (by omega)] at k1
    exact Br.no (by simp; omega) (Br.yes (by simp; omega) (Ret.mk (k1 (by omega) h D)))
  | succ q ih =>
    intro j h hq hj haj D k1 k2
    refine qCt _ _ _ _ _ _ _ _ ?_
    unfold qBE
    by_cases g : i ≤ j
    · have w2 : IntKind.wrap .i64 ((j : Int) - 1) = ((j - 1 : Nat) : Int) := by rw [q9 (by omega) (by omega)]; omega
      rw [qEv (by omega), w2]
      refine Br.yes (by simp; omega) (qNZ D hm I rfl rfl (by omega) (by omega) fun h' D' => Br.intro (fun g2 => ?_) fun g2 => ?_)
      · rw [qL4 g (by omega) (by exact g2)] at k1 k2
        exact ih _ h' (by omega) (by omega) (by omega) D' k1 k2
      · rw [qEJ (fun x => by rw [g2] at x; exact absurd x.2 (by decide))] at k1 k2
        exact Br.no (by simp; omega) (qD0 (J := fun h => qX (some ⟨B, 0, none⟩) n c (a : Int) ((i + 1 : Nat) : Int) ((j - 1 : Nat) : Int) h K) D' e0 rfl rfl (by omega) (by omega) fun h1 D1 => k2 (by omega) h1 D1)
    · rw [qEJ (by omega)] at k1
      exact Br.no (by simp; omega) (Br.yes (by simp; omega) (Ret.mk (k1 (by omega) h D)))
theorem qZM {a : Nat} : ∀ (q i j : Nat) (d : Array Int) (h : Heap), j + 1 - i ≤ q → a < i → i ≤ n → a ≤ j → j < n → DaE left g0 B m n sp h d →
    (∀ h', DaE left g0 B m n sp h' (partEqLoop (qR left) a i j d).2 → K (.int .i64 (((partEqLoop (qR left) a i j d).1 : Nat) : Int)) h') →
    qX (some ⟨B, 0, none⟩) n c (a : Int) (i : Int) (j : Int) h K := by
  intro q
  induction q with
  | zero =>
    intro i j d h hq ha hij haj hj D k
    refine qCy _ _ _ _ _ _ _ _ ?_
    unfold qBB
    refine qW8 hm I hn (by omega) (by omega) _ _ h (Nat.le_refl _) (by omega) D fun h1 D1 => ?_
    have hu := scanUp_ge (fun x => !qR left d[a]! x) d j i
    have hu2 := qI8 (p := fun x => !qR left d[a]! x) (d := d) hij hj
    rw [partEqLoop_eq] at k
    refine qW1 e0 hm I hn (by omega) (by omega) _ _ h1 (Nat.le_refl _) (by omega) (by omega) D1 (fun g h2 D2 => ?_) fun g h2 D2 => ?_
    · rw [if_pos g] at k; exact k h2 D2
    · have := scanDown_le (fun x => qR left d[a]! x) d (scanUp (fun x => !qR left d[a]! x) d j i) j
      omega
  | succ q ih =>
    intro i j d h hq ha hij haj hj D k
    refine qCy _ _ _ _ _ _ _ _ ?_
    unfold qBB
    refine qW8 hm I hn (by omega) (by omega) _ _ h (Nat.le_refl _) (by omega) D fun h1 D1 => ?_
    have hu := scanUp_ge (fun x => !qR left d[a]! x) d j i
    have hu2 := qI8 (p := fun x => !qR left d[a]! x) (d := d) hij hj
    rw [partEqLoop_eq] at k
    refine qW1 e0 hm I hn (by omega) (by omega) _ _ h1 (Nat.le_refl _) (by omega) (by omega) D1 (fun g h2 D2 => ?_) fun g h2 D2 => ?_
    · rw [if_pos g] at k; exact k h2 D2
    · have hd := scanDown_le (fun x => qR left d[a]! x) d (scanUp (fun x => !qR left d[a]! x) d j i) j
      rw [if_neg g] at k
      exact ih _ _ _ h2 (by omega) (by omega) (by omega) (by omega) (by omega) D2 k
theorem qOd {h : Heap} {d : Array Int} {a b pivot : Nat} (hab : a + 1 < b) (hb : b ≤ n) (hp1 : a ≤ pivot) (hp2 : pivot < b) (D : DaE left g0 B m n sp h d)
    (k : ∀ h', DaE left g0 B m n sp h' (partitionEqual (qR left) d a b pivot).2 → K (.int .i64 (((partitionEqual (qR left) d a b pivot).1 : Nat) : Int)) h') :
    CallA Tryz.prog qDN [slice (some ⟨B, 0, none⟩) n c, .int .i64 (a : Int), .int .i64 (b : Int), .int .i64 (pivot : Int), func (Fn.func qD) #[] #[]] h K := by
  refine qGX _ _ _ _ _ _ _ _ ?_
  unfold qDI
  have w2 : IntKind.wrap .i64 ((b : Int) - 1) = ((b - 1 : Nat) : Int) := by rw [q9 (by omega) (by omega)]; omega
  rw [qEv (by omega), w2]
  unfold partitionEqual at k
  refine qD0 (J := fun h => qX (some ⟨B, 0, none⟩) n c (a : Int) ((a + 1 : Nat) : Int) ((b - 1 : Nat) : Int) h K) D e0 rfl rfl (by omega) (by omega) fun h1 D1 => ?_
  exact qZM e0 hm I hn _ _ _ _ h1 (Nat.le_refl _) (by omega) (by omega) (by omega) (by omega) D1 k
/-! few steps -/
theorem qXx {a b i s : Nat} (hb : b ≤ n) (hs : s ≤ 100) : ∀ (q j : Nat) (d : Array Int) (h : Heap), b - j ≤ q → j ≤ n + 1 → 1 ≤ j → DaE left g0 B m n sp h d →
    (∀ h', DaE left g0 B m n sp h' (shiftUp (qR left) b j d) → qH (some ⟨B, 0, none⟩) n c (a : Int) (b : Int) (i : Int) ((s + 1 : Nat) : Int) h' K) →
    qL (some ⟨B, 0, none⟩) n c (a : Int) (b : Int) (i : Int) (s : Int) (j : Int) h K := by
  intro q
  induction q with
  | zero =>
    intro j d h hq hj h1 D k
    refine qB8 _ _ _ _ _ _ _ _ _ _ ?_
    unfold qAg
    rw [shiftUp, if_neg (by omega)] at k
    rw [qEv (j := s) (by omega)]
    exact Br.no (by simp; omega) (k h D)
  | succ q ih =>
    intro j d h hq hj h1 D k
    refine qB8 _ _ _ _ _ _ _ _ _ _ ?_
    unfold qAg
    have w2 : IntKind.wrap .i64 ((j : Int) - 1) = ((j - 1 : Nat) : Int) := by rw [q9 (by omega) (by omega)]; omega
    rw [qEv (j := s) (by omega), qEv (j := j) (by omega), w2]
    rw [shiftUp] at k
    refine Br.dec (fun g => qH8 D hm I rfl rfl (by omega) (by omega) fun h' D' => Br.intro (fun g2 => ?_) fun g2 => ?_) fun g => ?_
    · rw [if_pos (by omega), if_pos g2] at k
      exact k h' D'
    · rw [if_pos (by omega), if_neg (by rw [g2]; decide)] at k
      exact qD0 (J := fun h => qL (some ⟨B, 0, none⟩) n c (a : Int) (b : Int) (i : Int) (s : Int) ((j + 1 : Nat) : Int) h K) D' e0 rfl rfl (by omega) (by omega) fun h1 D1 => ih _ _ h1 (by omega) (by omega) (by omega) D1 k
    · rw [if_neg (by omega)] at k
      exact k h D
theorem qQH {a b i s : Nat} (hb : b ≤ n) (hs : s ≤ 100) (hi : i ≤ n) {d : Array Int} {h : Heap} (D : DaE left g0 B m n sp h d)
    (k : ∀ h', DaE left g0 B m n sp h' (fixUp (qR left) b i d) → qH (some ⟨B, 0, none⟩) n c (a : Int) (b : Int) (i : Int) ((s + 1 : Nat) : Int) h' K) :
    Br (decide (IntKind.wrap .i64 ((b : Int) - (i : Int)) ≥ 2)) (qL (some ⟨B, 0, none⟩) n c (a : Int) (b : Int) (i : Int) (s : Int) ((i + 1 : Nat) : Int) h K)
      (qH (some ⟨B, 0, none⟩) n c (a : Int) (b : Int) (i : Int) ((s + 1 : Nat) : Int) h K) := by
  rw [q9 (by omega) (by omega)]
  unfold fixUp at k
  refine Br.dec (fun g => ?_) fun g => ?_
  · rw [if_pos (by omega)] at k
    exact qXx e0 hm I hn hb hs _ _ _ h (Nat.le_refl _) (by omega) (by omega) D k
  · rw [if_neg (by omega)] at k
    exact k h D
theorem qYM {a b i s : Nat} (hb : b ≤ n) (hs : s ≤ 100) (hi : i ≤ n) : ∀ (j : Nat) (d : Array Int) (h : Heap), j < n → DaE left g0 B m n sp h d →
    (∀ h', DaE left g0 B m n sp h' (fixUp (qR left) b i (shiftDown (qR left) j d)) → qH (some ⟨B, 0, none⟩) n c (a : Int) (b : Int) (i : Int) ((s + 1 : Nat) : Int) h' K) →
    qW (some ⟨B, 0, none⟩) n c (a : Int) (b : Int) (i : Int) (s : Int) (j : Int) h K := by
  intro j
  induction j with
  | zero =>
    intro d h hj D k
    refine qCB _ _ _ _ _ _ _ _ _ _ ?_
    unfold qAi
    rw [shiftDown] at k
    rw [qEv (j := s) (by omega), qEv (j := i) (by omega)]
    exact Br.no (by simp) (qQH e0 hm I hn hb hs hi D k)
  | succ j ih =>
    intro d h hj D k
    refine qCB _ _ _ _ _ _ _ _ _ _ ?_
    unfold qAi
    rw [qEv (j := s) (by omega), qEv (j := i) (by omega), qYb (by omega)]
    rw [shiftDown] at k
    refine Br.yes (by simp; omega) (qH8 D hm I rfl rfl (by omega) (by omega) fun h' D' => Br.intro (fun g2 => ?_) fun g2 => ?_)
    · rw [if_pos g2] at k
      exact qQH e0 hm I hn hb hs hi D' k
    · rw [if_neg (by rw [g2]; decide)] at k
      exact qD0 (J := fun h => qW (some ⟨B, 0, none⟩) n c (a : Int) (b : Int) (i : Int) (s : Int) (j : Int) h K) D' e0 rfl rfl (by omega) (by omega) fun h1 D1 => ih _ h1 (by omega) D1 k
theorem qXy {a b s : Nat} (hb : b ≤ n) (hs : s ≤ 100) {d : Array Int} : ∀ (q i : Nat) (h : Heap), b - i ≤ q → a < i → i ≤ b → DaE left g0 B m n sp h d →
      (scanSorted (qR left) d b i = b → ∀ h', DaE left g0 B m n sp h' d → K (.bool true) h') →
      (scanSorted (qR left) d b i ≠ b → b - a < 50 → ∀ h', DaE left g0 B m n sp h' d → K (.bool false) h') →
      (scanSorted (qR left) d b i ≠ b → ¬ b - a < 50 → ∀ h', DaE left g0 B m n sp h' (fixUp (qR left) b (scanSorted (qR left) d b i) (fixDown (qR left) a (scanSorted (qR left) d b i) (swp d (scanSorted (qR left) d b i) (scanSorted (qR left) d b i - 1)))) →
        qH (some ⟨B, 0, none⟩) n c (a : Int) (b : Int) ((scanSorted (qR left) d b i : Nat) : Int) ((s + 1 : Nat) : Int) h' K) →
      qAC (some ⟨B, 0, none⟩) n c (a : Int) (b : Int) (i : Int) (s : Int) h K := by
  intro q
  induction q with
  | zero =>
    intro i h hq ha hi D k1 k2 k3
    refine qB9 _ _ _ _ _ _ _ _ _ ?_
    unfold qAj
    have e : scanSorted (qR left) d b i = i := by rw [scanSorted, if_neg (by simp; omega)]
    rw [e] at k1
    exact Br.no (by simp; omega) (Br.yes (by simp; omega) (Ret.mk (k1 (by omega) h D)))
  | succ q ih =>
    intro i h hq ha hi D k1 k2 k3
    refine qB9 _ _ _ _ _ _ _ _ _ ?_
    unfold qAj
    by_cases g : i < b
    · have w2 : IntKind.wrap .i64 ((i : Int) - 1) = ((i - 1 : Nat) : Int) := by rw [q9 (by omega) (by omega)]; omega
      have w3 : IntKind.wrap .i64 ((b : Int) - (a : Int)) = ((b - a : Nat) : Int) := by rw [q9 (by omega) (by omega)]; omega
      have w4 : IntKind.wrap .i64 ((i : Int) - (a : Int)) = ((i - a : Nat) : Int) := by rw [q9 (by omega) (by omega)]; omega
      rw [qEv (j := s) (by omega), qEv (j := i) (by omega), w2, w3, w4]
      refine Br.yes (by simp; omega) (qH8 D hm I rfl rfl (by omega) (by omega) fun h' D' => Br.intro (fun g2 => ?_) fun g2 => ?_)
      · have e : scanSorted (qR left) d b i = scanSorted (qR left) d b (i + 1) := by rw [scanSorted, if_pos (by rw [g2, Bool.and_true]; exact decide_eq_true g)]
        rw [e] at k1 k2 k3
        exact ih _ h' (by omega) (by omega) (by omega) D' k1 k2 k3
      have e : scanSorted (qR left) d b i = i := by rw [scanSorted, if_neg (by rw [g2]; simp)]
      rw [e] at k2 k3
      refine Br.no (by simp; omega) (Br.dec (fun g3 => Ret.mk (k2 (by omega) (by omega) h' D')) fun g3 => ?_)
      have k3 := k3 (by omega) (by omega)
      unfold fixDown at k3
      refine qD0 (J := fun h => Br (decide (((i - a : Nat) : Int) ≥ 2)) (qW (some ⟨B, 0, none⟩) n c (a : Int) (b : Int) (i : Int) (s : Int) ((i - 1 : Nat) : Int) h K) (Br (decide (IntKind.wrap .i64 ((b : Int) - (i : Int)) ≥ 2)) (qL (some ⟨B, 0, none⟩) n c (a : Int) (b : Int) (i : Int) (s : Int) ((i + 1 : Nat) : Int) h K) (qH (some ⟨B, 0, none⟩) n c (a : Int) (b : Int) (i : Int) ((s + 1 : Nat) : Int) h K))) D' e0 rfl rfl (by omega) (by omega) fun h1 D1 => ?_
      refine Br.dec (fun g4 => ?_) fun g4 => ?_
      · rw [if_pos (by omega)] at k3
        exact qYM e0 hm I hn hb hs (by omega) _ _ h1 (by omega) D1 k3
      · rw [if_neg (by omega)] at k3
        exact qQH e0 hm I hn hb hs (by omega) D1 k3
    · have e : scanSorted (qR left) d b i = i := by rw [scanSorted, if_neg (by simp; omega)]
      rw [e] at k1
      exact Br.no (by simp; omega) (Br.yes (by simp; omega) (Ret.mk (k1 (by omega) h D)))
theorem qYK {a b : Nat} (hb : b ≤ n) : ∀ (q s i : Nat) (d : Array Int) (h : Heap), q + s = 5 → a < i → i ≤ b → DaE left g0 B m n sp h d →
    (∀ h', DaE left g0 B m n sp h' (partialIns (qR left) a b q i d).1 → K (.bool (partialIns (qR left) a b q i d).2) h') →
    qH (some ⟨B, 0, none⟩) n c (a : Int) (b : Int) (i : Int) (s : Int) h K := by
  intro q
  induction q with
  | zero =>
    intro s i d h hq ha hi D k
    refine qB7 _ _ _ _ _ _ _ _ _ ?_
    unfold qAh
    exact Br.no (by simp; omega) (Ret.mk (k h D))
  | succ q ih =>
    intro s i d h hq ha hi D k
    refine qB7 _ _ _ _ _ _ _ _ _ ?_
    unfold qAh
    rw [partialIns_succ] at k
    have hsc : i ≤ scanSorted (qR left) d b i ∧ scanSorted (qR left) d b i ≤ b := by
      clear k
      generalize hz : b - i = z
      induction z generalizing i with
      | zero => rw [scanSorted, if_neg (by simp; omega)]; omega
      | succ z ih2 =>
        rw [scanSorted]
        split
        · have := ih2 (i + 1) (by omega) (by omega) (by omega); omega
        · omega
    refine Br.yes (by simp; omega) (qXy e0 hm I hn hb (by omega) _ _ h (Nat.le_refl _) ha hi D (fun g h' D' => ?_) (fun g g2 h' D' => ?_) fun g g2 h' D' => ?_)
    · rw [if_pos g] at k; exact k h' D'
    · rw [if_neg g, if_pos g2] at k; exact k h' D'
    · rw [if_neg g, if_neg g2] at k
      exact ih _ _ _ h' (by omega) (by omega) hsc.2 D' k
theorem qXs {h : Heap} {d : Array Int} {a b : Nat} (hab : a < b) (hb : b ≤ n) (D : DaE left g0 B m n sp h d)
    (k : ∀ h', DaE left g0 B m n sp h' (partialInsertionSort (qR left) d a b).1 → K (.bool (partialInsertionSort (qR left) d a b).2) h') :
    CallA Tryz.prog qAt [slice (some ⟨B, 0, none⟩) n c, .int .i64 (a : Int), .int .i64 (b : Int), func (Fn.func qD) #[] #[]] h K := by
  refine qFo _ _ _ _ _ _ _ ?_
  unfold qCO
  rw [qEv (by omega)]
  exact qYK e0 hm I hn hb 5 0 _ _ h rfl (by omega) (by omega) D k
end
end Go.Proofs.YtjihfieahkbohaaGreat

/- A list parted: by which pivot; patterns broken. -/
namespace Go.Proofs.YtjihfieahkbohaaGreat
open Go Go.Sy Go.Value Go.Sort
set_option linter.unusedVariables false
set_option linter.unusedSimpArgs false

def qYt : ByteArray := (ByteArray.mk (List.toArray (List.append (List.append [0, 1, 2, 2, 3, 3, 3, 3, 4, 4, 4, 4, 4, 4, 4, 4, 5, 5, 5, 5, 5, 5, 5, 5, 5, 5, 5, 5, 5, 5, 5, 5, 6, 6, 6, 6, 6, 6, 6, 6, 6, 6, 6, 6, 6, 6, 6, 6, 6, 6, 6, 6, 6, 6, 6, 6, 6, 6, 6, 6, 6, 6, 6, 6] [7, 7, 7, 7, 7, 7, 7, 7, 7, 7, 7, 7, 7, 7, 7, 7, 7, 7, 7, 7, 7, 7, 7, 7, 7, 7, 7, 7, 7, 7, 7, 7, 7, 7, 7, 7, 7, 7, 7, 7, 7, 7, 7, 7, 7, 7, 7, 7, 7, 7, 7, 7, 7, 7, 7, 7, 7, 7, 7, 7, 7, 7, 7, 7]) (List.append [8, 8, 8, 8, 8, 8, 8, 8, 8, 8, 8, 8, 8, 8, 8, 8, 8, 8, 8, 8, 8, 8, 8, 8, 8, 8, 8, 8, 8, 8, 8, 8, 8, 8, 8, 8, 8, 8, 8, 8, 8, 8, 8, 8, 8, 8, 8, 8, 8, 8, 8, 8, 8, 8, 8, 8, 8, 8, 8, 8, 8, 8, 8, 8] [8, 8, 8, 8, 8, 8, 8, 8, 8, 8, 8, 8, 8, 8, 8, 8, 8, 8, 8, 8, 8, 8, 8, 8, 8, 8, 8, 8, 8, 8, 8, 8, 8, 8, 8, 8, 8, 8, 8, 8, 8, 8, 8, 8, 8, 8, 8, 8, 8, 8, 8, 8, 8, 8, 8, 8, 8, 8, 8, 8, 8, 8, 8, 8]))))
theorem qLp : ∀ y : Fin 256, qYt[y.val]? = some (UInt8.ofNat (bitsLen y.val)) ∧ bitsLen y.val ≤ 8 := by decide +kernel
section
variable {h : Heap} {K : Value → Heap → Prop}
theorem qVn {x : Nat} (hx : x < 256) (k : K (.int .i64 ((bitsLen x : Nat) : Int)) h) : CallA Tryz.prog qF1 [.int .u64 (x : Int)] h K := by
  refine qKl _ _ _ ?_
  unfold qHI
  refine Br.no (by simp; omega) (Br.no (by simp; omega) (Br.no (by simp; omega) ?_))
  have w : IntKind.wrap .u8 (x : Int) = (x : Int) := by rw [qS2]; omega
  rw [w, Int.toNat_natCast]
  have g := qLp ⟨x, hx⟩
  dsimp only at g
  have t : (UInt8.ofNat (bitsLen x)).toNat = bitsLen x := by simp; omega
  refine ⟨by omega, _, g.1, Ret.mk ?_⟩
  rw [t, q9 (x := ((bitsLen x : Nat) : Int)) (by omega) (by omega), Int.zero_add, q9 (by omega) (by omega)]
  exact k
theorem qR5 {x : Nat} (hx : x < 256) (k : K (.int .i64 ((bitsLen x : Nat) : Int)) h) : CallA Tryz.prog qD8 [.int .u64 (x : Int)] h K := by
  refine qLk _ _ _ ?_
  unfold qIO
  exact qVn hx ⟨_, rfl, Ret.mk k⟩
theorem qTn {x : Nat} (hx : x < 256) (k : K (.int .u64 ((2 ^ bitsLen x : Nat) : Int)) h) : CallA Tryz.prog qCQ [.int .i64 (x : Int)] h K := by
  refine qHn _ _ _ ?_
  unfold qFT
  have w : IntKind.wrap .u64 (x : Int) = (x : Int) := qAQ (by omega) (by omega)
  rw [w]
  have g := (qLp ⟨x, hx⟩).2
  dsimp only at g
  refine qR5 hx ⟨_, rfl, Br.yes (by simp) (Ret.mk ?_)⟩
  have e : (1 : Int) * 2 ^ min (Int.toNat ((bitsLen x : Nat) : Int)) 64 = ((2 ^ bitsLen x : Nat) : Int) := by
    rw [Int.toNat_natCast, Nat.min_eq_left (by omega), Int.one_mul]; simp
  have b : (2 ^ bitsLen x : Nat) ≤ 2 ^ 8 := Nat.pow_le_pow_right (by omega) g
  rw [e]
  generalize (2 ^ bitsLen x : Nat) = M at *
  rw [qAQ (by omega) (by omega)]
  exact k
end
theorem qWV (y : Int) {M : Nat} (h1 : 1 ≤ M) (h2 : M ≤ 1024) : ∃ x : Nat, x < M ∧ IntKind.wrap .i64 (IntKind.wrap .u64 ((BitVec.toNat (BitVec.ofInt 64 y &&& BitVec.ofInt 64 (IntKind.wrap .u64 ((M : Int) - 1))) : Nat) : Int)) = (x : Int) := by
  refine ⟨BitVec.toNat (BitVec.ofInt 64 y &&& BitVec.ofInt 64 (IntKind.wrap .u64 ((M : Int) - 1))), ?_, ?_⟩
  · rw [qAQ (by omega) (by omega), BitVec.toNat_and]
    have : (BitVec.ofInt 64 ((M : Int) - 1)).toNat = M - 1 := by rw [BitVec.toNat_ofInt]; omega
    rw [this]
    have := @Nat.and_le_right (BitVec.ofInt 64 y).toNat (M - 1)
    omega
  · rw [qAQ (n := ((M : Int) - 1)) (by omega) (by omega)]
    have h3 : BitVec.toNat (BitVec.ofInt 64 y &&& BitVec.ofInt 64 ((M : Int) - 1)) ≤ M - 1 := by
      rw [BitVec.toNat_and]
      have : (BitVec.ofInt 64 ((M : Int) - 1)).toNat = M - 1 := by rw [BitVec.toNat_ofInt]; omega
      rw [this]
      exact Nat.and_le_right
    rw [qAQ (by omega) (by omega), q9 (by omega) (by omega)]
section
variable {g0 : Heap} {B m n c : Nat} {sp : List Value} {left : List En} {K : Value → Heap → Prop}
theorem DaE.ne {h : Heap} {d : Array Int} (D : DaE left g0 B m n sp h d) {r o : Nat} {vs : List Value} (hr : g0 r = none) (hb : B ≠ r) : DaE left g0 B m n sp (h.setN r o vs) d := ⟨qAf D.le hr, D.at_.set_ne hb, D.sz, D.rg⟩
theorem qXM {h : Heap} {d : Array Int} {r : Nat} {x : Int} (D : DaE left g0 B m n sp h d) (hr : g0 r = none) (hb : B ≠ r) (A : At h r [.int .u64 x]) (k : ∀ h' y, DaE left g0 B m n sp h' d → At h' r [.int .u64 y] → K (.int .u64 y) h') :
    CallA Tryz.prog qCN [pointer (some ⟨r, 0, none⟩)] h K := by
  refine qHm _ _ _ ?_
  unfold qFh
  refine qB rfl ⟨_, A.cell rfl, qB rfl ⟨_, A.cell rfl, qB rfl ⟨A.canSt (Nat.le_refl _), ?_⟩⟩⟩
  generalize IntKind.wrap .u64 _ = x1
  have A1 : At (h.setN r 0 [.int .u64 x1]) r [.int .u64 x1] := A.set (o := 0)
  have D1 := D.ne (o := 0) (vs := [.int .u64 x1]) hr hb
  generalize h.setN r 0 [.int .u64 x1] = h1 at *
  refine qB rfl ⟨_, A1.cell rfl, qB rfl ⟨_, A1.cell rfl, qB rfl ⟨A1.canSt (Nat.le_refl _), ?_⟩⟩⟩
  generalize IntKind.wrap .u64 _ = x2
  have A2 : At (h1.setN r 0 [.int .u64 x2]) r [.int .u64 x2] := A1.set (o := 0)
  have D2 := D1.ne (o := 0) (vs := [.int .u64 x2]) hr hb
  generalize h1.setN r 0 [.int .u64 x2] = h2 at *
  refine qB rfl ⟨_, A2.cell rfl, qB rfl ⟨_, A2.cell rfl, qB rfl ⟨A2.canSt (Nat.le_refl _), ?_⟩⟩⟩
  generalize IntKind.wrap .u64 _ = x3
  have A3 : At (h2.setN r 0 [.int .u64 x3]) r [.int .u64 x3] := A2.set (o := 0)
  have D3 := D2.ne (o := 0) (vs := [.int .u64 x3]) hr hb
  exact qB rfl ⟨_, A3.cell rfl, Ret.mk (k _ _ D3 A3)⟩
variable (e0 : g0 B = none) (hm : left.length = m) (I : True) (hn : n ≤ 1000000)
include e0 hn
theorem qYW {a b M r : Nat} (h8 : 8 ≤ b - a) (hb : b ≤ n) (hM1 : 1 ≤ M) (hM : M ≤ 2 * (b - a)) (hM2 : M ≤ 1024) (hr : g0 r = none) (hbr : B ≠ r) {d0 : Array Int} :
    ∀ (q idx : Nat) (h : Heap) (d : Array Int) (x : Int), a + (b - a) / 4 * 2 + 2 - idx ≤ q → a ≤ idx → DaE left g0 B m n sp h d → PermIn a b d0 d → At h r [.int .u64 x] →
    (∀ h' d', DaE left g0 B m n sp h' d' → PermIn a b d0 d' → K (tuple #[]) h') →
    qS (some ⟨B, 0, none⟩) n c (a : Int) ((b - a : Nat) : Int) r (M : Int) (idx : Int) h K := by
  have w1 : Int.tdiv ((b - a : Nat) : Int) 4 = (((b - a) / 4 : Nat) : Int) := by rw [Int.tdiv_eq_ediv_of_nonneg (by omega)]; omega
  have w2 : IntKind.wrap .i64 ((((b - a) / 4 : Nat) : Int)) = (((b - a) / 4 : Nat) : Int) := q9 (by omega) (by omega)
  have w3 : IntKind.wrap .i64 ((((b - a) / 4 : Nat) : Int) * 2) = (((b - a) / 4 * 2 : Nat) : Int) := by rw [q9 (by omega) (by omega)]; omega
  have w4 : IntKind.wrap .i64 ((a : Int) + (((b - a) / 4 * 2 : Nat) : Int)) = ((a + (b - a) / 4 * 2 : Nat) : Int) := by rw [q9 (by omega) (by omega)]; omega
  have w5 : IntKind.wrap .i64 (((a + (b - a) / 4 * 2 : Nat) : Int) + 1) = ((a + (b - a) / 4 * 2 + 1 : Nat) : Int) := by rw [q9 (by omega) (by omega)]; omega
  intro q
  induction q with
  | zero =>
    intro idx h d x hq hi D P A k
    refine qC5 _ _ _ _ _ _ _ _ _ _ ?_
    unfold qBJ
    rw [w1, w2, w3, w4, w5]
    exact Br.no (by simp; omega) (Ret.mk (k h d D P))
  | succ q ih =>
    intro idx h d x hq hi D P A k
    refine qC5 _ _ _ _ _ _ _ _ _ _ ?_
    unfold qBJ
    rw [w1, w2, w3, w4, w5]
    refine Br.dec (fun g => qXM D hr hbr A fun h1 y D1 A1 => ⟨_, rfl, ?_⟩) fun g => Ret.mk (k h d D P)
    have hz : d.size = n := D.sz
    obtain ⟨z, hz1, hz2⟩ := qWV y hM1 hM2
    rw [qEv (j := idx) (by omega)]
    rw [hz2]
    refine Br.dec (fun g2 => ?_) fun g2 => ?_
    · have v1 : IntKind.wrap .i64 ((z : Int) - ((b - a : Nat) : Int)) = ((z - (b - a) : Nat) : Int) := by rw [q9 (by omega) (by omega)]; omega
      have v2 : IntKind.wrap .i64 ((a : Int) + ((z - (b - a) : Nat) : Int)) = ((a + (z - (b - a)) : Nat) : Int) := by rw [q9 (by omega) (by omega)]; omega
      rw [v1, v2]
      have hA : ∀ h2, DaE left g0 B m n sp h2 (swp d idx (a + (z - (b - a)))) → At h2 r [.int .u64 y] → qS (some ⟨B, 0, none⟩) n c (a : Int) ((b - a : Nat) : Int) r (M : Int) ((idx + 1 : Nat) : Int) h2 K := fun h2 D2 A2 =>
        ih (idx + 1) h2 _ y (by omega) (by omega) D2 (permIn_trans _ _ _ _ _ P (swp_permIn d a b _ _ (by omega) (by omega) (by omega) (by omega) (by omega))) A2 k
      exact qVO (J := fun h2 => qS (some ⟨B, 0, none⟩) n c (a : Int) ((b - a : Nat) : Int) r (M : Int) ((idx + 1 : Nat) : Int) h2 K) D1 e0 A1 hbr rfl rfl (by omega) (by omega) hA
    · have v2 : IntKind.wrap .i64 ((a : Int) + (z : Int)) = ((a + z : Nat) : Int) := by rw [q9 (by omega) (by omega)]; omega
      rw [v2]
      have hA : ∀ h2, DaE left g0 B m n sp h2 (swp d idx (a + z)) → At h2 r [.int .u64 y] → qS (some ⟨B, 0, none⟩) n c (a : Int) ((b - a : Nat) : Int) r (M : Int) ((idx + 1 : Nat) : Int) h2 K := fun h2 D2 A2 =>
        ih (idx + 1) h2 _ y (by omega) (by omega) D2 (permIn_trans _ _ _ _ _ P (swp_permIn d a b _ _ (by omega) (by omega) (by omega) (by omega) (by omega))) A2 k
      exact qVO (J := fun h2 => qS (some ⟨B, 0, none⟩) n c (a : Int) ((b - a : Nat) : Int) r (M : Int) ((idx + 1 : Nat) : Int) h2 K) D1 e0 A1 hbr rfl rfl (by omega) (by omega) hA
theorem qVa {h : Heap} {d : Array Int} {a b : Nat} (h8 : 8 ≤ b - a) (h256 : b - a < 256) (hb : b ≤ n) (D : DaE left g0 B m n sp h d)
    (k : ∀ h' d', DaE left g0 B m n sp h' d' → PermIn a b d d' → K (tuple #[]) h') :
    CallA Tryz.prog qBc [slice (some ⟨B, 0, none⟩) n c, .int .i64 (a : Int), .int .i64 (b : Int), func (Fn.func qD) #[] #[]] h K := by
  refine qGg _ _ _ _ _ _ _ ?_
  unfold qDR
  have w0 : IntKind.wrap .i64 ((b : Int) - (a : Int)) = ((b - a : Nat) : Int) := by rw [q9 (by omega) (by omega)]; omega
  have w1 : Int.tdiv ((b - a : Nat) : Int) 4 = (((b - a) / 4 : Nat) : Int) := by rw [Int.tdiv_eq_ediv_of_nonneg (by omega)]; omega
  have w2 : IntKind.wrap .i64 ((((b - a) / 4 : Nat) : Int)) = (((b - a) / 4 : Nat) : Int) := q9 (by omega) (by omega)
  have w3 : IntKind.wrap .i64 ((((b - a) / 4 : Nat) : Int) * 2) = (((b - a) / 4 * 2 : Nat) : Int) := by rw [q9 (by omega) (by omega)]; omega
  have w4 : IntKind.wrap .i64 ((a : Int) + (((b - a) / 4 * 2 : Nat) : Int)) = ((a + (b - a) / 4 * 2 : Nat) : Int) := by rw [q9 (by omega) (by omega)]; omega
  have w5 : IntKind.wrap .i64 (((a + (b - a) / 4 * 2 : Nat) : Int) - 1) = ((a + (b - a) / 4 * 2 - 1 : Nat) : Int) := by rw [q9 (by omega) (by omega)]; omega
  rw [w0, w1, w2, w3, w4, w5]
  have g := (qLp ⟨b - a, h256⟩).2
  dsimp only at g
  have b1 : (2 ^ bitsLen (b - a) : Nat) ≤ 2 ^ 8 := Nat.pow_le_pow_right (by omega) g
  refine Br.yes (by simp; omega) (qr fun r h1 hr l1 A1 => ⟨A1.canSt (Nat.le_refl _), ?_⟩)
  generalize IntKind.wrap .u64 _ = x
  have hr0 := qAk D.le hr
  have hbr : B ≠ r := D.at_.ne hr
  have A2 : At (h1.setN r 0 [.int .u64 x]) r [.int .u64 x] := A1.set (o := 0)
  have D2 := (D.mv l1).ne (o := 0) (vs := [.int .u64 x]) hr0 hbr
  refine qTn h256 ⟨_, rfl, ?_⟩
  exact qYW e0 hn h8 hb (Nat.one_le_two_pow) (two_pow_bitsLen_le (by omega)) (by omega) hr0 hbr _ _ _ d x (Nat.le_refl _) (by omega) D2 (permIn_refl d a b) A2 k
omit e0
include hm I
omit hn in
theorem qOA {h : Heap} {d : Array Int} {a b r : Nat} {s : Int} (ha : a < n) (hb : b < n) (D : DaE left g0 B m n sp h d) (hr : g0 r = none) (hbr : B ≠ r) (A : At h r [.int .i64 s])
    (k : ∀ h' s' (x y : Nat), DaE left g0 B m n sp h' d → At h' r [.int .i64 s'] → (x = a ∧ y = b ∨ x = b ∧ y = a) → K (tuple #[.int .i64 (x : Int), .int .i64 (y : Int)]) h') :
    CallA Tryz.prog qAe [slice (some ⟨B, 0, none⟩) n c, .int .i64 (a : Int), .int .i64 (b : Int), pointer (some ⟨r, 0, none⟩), func (Fn.func qD) #[] #[]] h K := by
  refine qIC _ _ _ _ _ _ _ _ ?_
  unfold qEz
  refine qYi D hm I A rfl rfl hb ha fun h1 D1 A1 => Br.intro (fun g => ?_) fun g => Ret.mk (k _ _ a b D1 A1 (.inl ⟨rfl, rfl⟩))
  refine qB rfl ⟨_, A1.cell rfl, qB rfl ⟨A1.canSt (Nat.le_refl _), Ret.mk ?_⟩⟩
  generalize IntKind.wrap .i64 _ = x
  have A2 : At (h1.setN r 0 [.int .i64 x]) r [.int .i64 x] := A1.set (o := 0)
  exact k _ _ b a (D1.ne hr hbr) A2 (.inr ⟨rfl, rfl⟩)
omit hn in
theorem qNf {h : Heap} {d : Array Int} {a b c' r : Nat} {s : Int} (ha : a < n) (hb : b < n) (hc : c' < n) (D : DaE left g0 B m n sp h d) (hr : g0 r = none) (hbr : B ≠ r) (A : At h r [.int .i64 s])
    (k : ∀ h' s' (x : Nat), DaE left g0 B m n sp h' d → At h' r [.int .i64 s'] → (x = a ∨ x = b ∨ x = c') → K (.int .i64 (x : Int)) h') :
    CallA Tryz.prog qBS [slice (some ⟨B, 0, none⟩) n c, .int .i64 (a : Int), .int .i64 (b : Int), .int .i64 (c' : Int), pointer (some ⟨r, 0, none⟩), func (Fn.func qD) #[] #[]] h K := by
  refine qH4 _ _ _ _ _ _ _ _ _ ?_
  unfold qE3
  refine qOA hm I ha hb D hr hbr A fun h1 s1 x y D1 A1 e1 => ⟨_, _, rfl, qOA hm I (by omega) hc D1 hr hbr A1 fun h2 s2 z w D2 A2 e2 => ⟨_, _, rfl, qOA hm I (by omega) (by omega) D2 hr hbr A2 fun h3 s3 u v D3 A3 e3 => ⟨_, _, rfl, Ret.mk (k _ _ v D3 A3 (by omega))⟩⟩⟩
theorem qLB {h : Heap} {d : Array Int} {a r : Nat} {s : Int} (h1 : 1 ≤ a) (ha : a + 1 < n) (D : DaE left g0 B m n sp h d) (hr : g0 r = none) (hbr : B ≠ r) (A : At h r [.int .i64 s])
    (k : ∀ h' s' (x : Nat), DaE left g0 B m n sp h' d → At h' r [.int .i64 s'] → (a ≤ x + 1 ∧ x ≤ a + 1) → K (.int .i64 (x : Int)) h') :
    CallA Tryz.prog qDK [slice (some ⟨B, 0, none⟩) n c, .int .i64 (a : Int), pointer (some ⟨r, 0, none⟩), func (Fn.func qD) #[] #[]] h K := by
  refine qGY _ _ _ _ _ _ _ ?_
  unfold qDJ
  have w2 : IntKind.wrap .i64 ((a : Int) - 1) = ((a - 1 : Nat) : Int) := by rw [q9 (by omega) (by omega)]; omega
  rw [qEv (by omega), w2]
  exact qNf hm I (by omega) (by omega) (by omega) D hr hbr A fun h1 s1 x D1 A1 e => ⟨_, rfl, Ret.mk (k _ _ x D1 A1 (by omega))⟩
theorem qV5 {h : Heap} {d : Array Int} {a b : Nat} (h12 : 12 < b - a) (hb : b ≤ n) (D : DaE left g0 B m n sp h d)
    (k : ∀ h' (x : Nat) (hint : Int), DaE left g0 B m n sp h' d → a ≤ x → x < b → K (tuple #[.int .i64 (x : Int), .int .i64 hint]) h') :
    CallA Tryz.prog qBx [slice (some ⟨B, 0, none⟩) n c, .int .i64 (a : Int), .int .i64 (b : Int), func (Fn.func qD) #[] #[]] h K := by
  refine qHA _ _ _ _ _ _ _ ?_
  unfold qDm
  have w0 : IntKind.wrap .i64 ((b : Int) - (a : Int)) = ((b - a : Nat) : Int) := by rw [q9 (by omega) (by omega)]; omega
  have w1 : Int.tdiv ((b - a : Nat) : Int) 4 = (((b - a) / 4 : Nat) : Int) := by rw [Int.tdiv_eq_ediv_of_nonneg (by omega)]; omega
  have hq : (b - a) / 4 * 4 ≤ b - a := by omega
  have hq3 : 3 ≤ (b - a) / 4 := by omega
  generalize (b - a) / 4 = l at *
  have w2 : IntKind.wrap .i64 (l : Int) = (l : Int) := q9 (by omega) (by omega)
  have w3 : IntKind.wrap .i64 ((l : Int) * 1) = (l : Int) := by rw [q9 (by omega) (by omega)]; omega
  have w4 : IntKind.wrap .i64 ((l : Int) * 2) = ((2 * l : Nat) : Int) := by rw [q9 (by omega) (by omega)]; omega
  have w5 : IntKind.wrap .i64 ((l : Int) * 3) = ((3 * l : Nat) : Int) := by rw [q9 (by omega) (by omega)]; omega
  have w6 : IntKind.wrap .i64 ((a : Int) + (l : Int)) = ((a + l : Nat) : Int) := by rw [q9 (by omega) (by omega)]; omega
  have w7 : IntKind.wrap .i64 ((a : Int) + ((2 * l : Nat) : Int)) = ((a + 2 * l : Nat) : Int) := by rw [q9 (by omega) (by omega)]; omega
  have w8 : IntKind.wrap .i64 ((a : Int) + ((3 * l : Nat) : Int)) = ((a + 3 * l : Nat) : Int) := by rw [q9 (by omega) (by omega)]; omega
  rw [w0, w1, w2, w3, w4, w5, w6, w7, w8]
  refine qr fun r h1 hr l1 A1 => ?_
  have hr0 := qAk D.le hr
  have hbr : B ≠ r := D.at_.ne hr
  have D1 := D.mv l1
  have fin : ∀ (h' : Heap) (s : Int) (x : Nat), DaE left g0 B m n sp h' d → a ≤ x → x < b → Br (s == 0) (Ret h' K (tuple #[.int .i64 (x : Int), .int .i64 1])) (Br (s == 12) (Ret h' K (tuple #[.int .i64 (x : Int), .int .i64 2])) (Ret h' K (tuple #[.int .i64 (x : Int), .int .i64 0]))) :=
    fun h' s x D' g1 g2 => Br.intro (fun _ => Ret.mk (k _ _ _ D' g1 g2)) fun _ => Br.intro (fun _ => Ret.mk (k _ _ _ D' g1 g2)) fun _ => Ret.mk (k _ _ _ D' g1 g2)
  refine Br.yes (by simp; omega) (Br.intro (fun g => ?_) fun g => ?_)
  · refine qLB hm I hn (by omega) (by omega) D1 hr0 hbr A1 fun h2 s2 x D2 A2 e2 => ⟨_, rfl, qLB hm I hn (by omega) (by omega) D2 hr0 hbr A2 fun h3 s3 y D3 A3 e3 => ⟨_, rfl, qLB hm I hn (by omega) (by omega) D3 hr0 hbr A3 fun h4 s4 z D4 A4 e4 => ⟨_, rfl, ?_⟩⟩⟩
    exact qNf hm I (by omega) (by omega) (by omega) D4 hr0 hbr A4 fun h5 s5 u D5 A5 e5 => ⟨_, rfl, _, A5.cell rfl, fin _ _ _ D5 (by omega) (by omega)⟩
  · exact qNf hm I (by omega) (by omega) (by omega) D1 hr0 hbr A1 fun h5 s5 u D5 A5 e5 => ⟨_, rfl, _, A5.cell rfl, fin _ _ _ D5 (by omega) (by omega)⟩
end
end Go.Proofs.YtjihfieahkbohaaGreat

/- A list put in order: a permutation, sorted. -/
namespace Go.Proofs.YtjihfieahkbohaaGreat
open Go Go.Sy Go.Value Go.Sort
set_option linter.unusedVariables false
set_option linter.unusedSimpArgs false

section
variable {g0 : Heap} {B m n c : Nat} {sp : List Value} {left : List En} (e0 : g0 B = none) (hm : left.length = m) (I : True) (hn : n < 256)
include e0 hm I hn
theorem qWD : ∀ (q a b : Nat) (limit : Int) (wb wp : Bool) (d : Array Int) (h : Heap) (K : Value → Heap → Prop), b - a ≤ q → a ≤ b → b ≤ n → 0 ≤ limit + 1000 - q → limit ≤ 1000 → DaE left g0 B m n sp h d → Below (qR left) a b d →
    (∀ h' d', DaE left g0 B m n sp h' d' → PermIn a b d d' → SortedIn (qR left) a b d' → K (tuple #[]) h') →
    qV (some ⟨B, 0, none⟩) n c (a : Int) (b : Int) limit wb wp h K := by
  intro q
  induction q with
  | zero =>
    intro a b limit wb wp d h K hq hab hb hl1 hl2 D hB k
    have hz : d.size = n := D.sz
    refine qCF _ _ _ _ _ _ _ _ _ _ ?_
    unfold qAz
    have w0 : IntKind.wrap .i64 ((b : Int) - (a : Int)) = ((b - a : Nat) : Int) := by rw [q9 (by omega) (by omega)]; omega
    rw [w0]
    refine Br.yes (by simp; omega) (qOE e0 hm I (by omega) (by omega) hb D fun h1 D1 => ⟨rfl, Ret.mk ?_⟩)
    have := insertionSort_holds (qOK left) d a b hab (by omega)
    exact k h1 _ D1 this.1 this.2
  | succ q ih =>
    intro a b limit wb wp d h K hq hab hb hl1 hl2 D hB k
    have hz : d.size = n := D.sz
    refine qCF _ _ _ _ _ _ _ _ _ _ ?_
    unfold qAz
    have w0 : IntKind.wrap .i64 ((b : Int) - (a : Int)) = ((b - a : Nat) : Int) := by rw [q9 (by omega) (by omega)]; omega
    rw [w0]
    refine Br.dec (fun g => ?_) fun g => ?_
    · refine qOE e0 hm I (by omega) (by omega) hb D fun h1 D1 => ⟨rfl, Ret.mk ?_⟩
      have := insertionSort_holds (qOK left) d a b hab (by omega)
      exact k h1 _ D1 this.1 this.2
    refine Br.intro (fun _ => ?_) fun _ => ?_
    · refine qXP e0 hm I (by omega) (by omega) hb D fun h1 D1 => ⟨rfl, Ret.mk ?_⟩
      have := heapSort_holds (qOK left) d a b hab (by omega)
      exact k h1 _ D1 this.1 this.2
    have h12 : 12 < b - a := by omega
    -- behind the patterns
    have cont : ∀ (lim : Int) (h : Heap) (d1 : Array Int), 0 ≤ lim + 1000 - q → lim ≤ 1000 → DaE left g0 B m n sp h d1 → PermIn a b d d1 → qAs (some ⟨B, 0, none⟩) n c (a : Int) (b : Int) lim wb wp ((b - a : Nat) : Int) h K := by
      intro lim h d1 hl3 hl4 D1 P1
      have B1 := hB.perm (by omega) P1
      refine qGf _ _ _ _ _ _ _ _ _ _ _ ?_
      unfold qDW
      -- the parts
      have part : ∀ (h : Heap) (d3 : Array Int) (pivot : Nat), DaE left g0 B m n sp h d3 → PermIn a b d d3 → a ≤ pivot → pivot < b → ql (some ⟨B, 0, none⟩) n c (a : Int) (b : Int) lim wb wp ((b - a : Nat) : Int) (pivot : Int) h K := by
        intro h d3 pivot D3 P3 hp1 hp2
        have B3 := hB.perm (by omega) P3
        have hz3 : d3.size = n := D3.sz
        refine qGk _ _ _ _ _ _ _ _ _ _ _ _ ?_
        unfold qDX
        have ordinary : ∀ h, DaE left g0 B m n sp h d3 → CallA Tryz.prog qA0 [slice (some ⟨B, 0, none⟩) n c, .int .i64 (a : Int), .int .i64 (b : Int), .int .i64 (pivot : Int), func (Fn.func qD) #[] #[]] h fun v h =>
            ∃ (x : Int), ∃ (y : Bool), v = tuple #[.int .i64 x, .bool y] ∧ Br (decide (IntKind.wrap .i64 (x - (a : Int)) < IntKind.wrap .i64 ((b : Int) - x)))
              (CallA Tryz.prog qAE [slice (some ⟨B, 0, none⟩) n c, .int .i64 (a : Int), .int .i64 x, .int .i64 lim, func (Fn.func qD) #[] #[]] h fun v h => v = tuple #[] ∧
                qV (some ⟨B, 0, none⟩) n c (IntKind.wrap .i64 (x + 1)) (b : Int) lim (decide (IntKind.wrap .i64 (x - (a : Int)) ≥ IntKind.wrap .i64 (Int.tdiv ((b - a : Nat) : Int) 8))) y h K)
              (CallA Tryz.prog qAE [slice (some ⟨B, 0, none⟩) n c, .int .i64 (IntKind.wrap .i64 (x + 1)), .int .i64 (b : Int), .int .i64 lim, func (Fn.func qD) #[] #[]] h fun v h => v = tuple #[] ∧
                qV (some ⟨B, 0, none⟩) n c (a : Int) x lim (decide (IntKind.wrap .i64 ((b : Int) - x) ≥ IntKind.wrap .i64 (Int.tdiv ((b - a : Nat) : Int) 8))) y h K) := by
          intro h D3
          refine qRR e0 hm I (by omega) (by omega) hb hp1 hp2 D3 fun h4 D4 => ⟨_, _, rfl, ?_⟩
          generalize hx : partition (qR left) d3 a b pivot = r at *
          obtain ⟨mid, ap, d4⟩ := r
          obtain ⟨g1, g2, hs4, hBa, hBr, hleft, hright⟩ := round_part (qOK left) (partition_holds (qR left)) hp1 hp2 (by omega) B3 hx
          dsimp only at D4 ⊢
          have w1 : IntKind.wrap .i64 ((mid : Int) - (a : Int)) = ((mid - a : Nat) : Int) := by rw [q9 (by omega) (by omega)]; omega
          have w2 : IntKind.wrap .i64 ((b : Int) - (mid : Int)) = ((b - mid : Nat) : Int) := by rw [q9 (by omega) (by omega)]; omega
          rw [w1, w2, qEv (by omega)]
          refine Br.intro (fun _ => ?_) fun _ => ?_
          · refine qBT _ _ _ _ _ _ _ _ ?_
            unfold qAX
            refine ih a mid lim true true d4 h4 _ (by omega) g1 (by omega) hl3 hl4 D4 hBa fun h5 d5 D5 l1 l2 => ⟨rfl, ?_⟩
            obtain ⟨hBL, hfin⟩ := hleft _ l1 l2
            refine ih (mid + 1) b lim _ ap d5 h5 _ (by omega) (by omega) hb hl3 hl4 D5 hBL fun h6 d6 D6 r1 r2 => ?_
            obtain ⟨q1, q2⟩ := hfin _ r1 r2
            exact k h6 _ D6 (permIn_trans _ _ _ a b P3 q1) q2
          · refine qBT _ _ _ _ _ _ _ _ ?_
            unfold qAX
            refine ih (mid + 1) b lim true true d4 h4 _ (by omega) (by omega) hb hl3 hl4 D4 hBr fun h5 d5 D5 l1 l2 => ⟨rfl, ?_⟩
            obtain ⟨hBL, hfin⟩ := hright _ l1 l2
            refine ih a mid lim _ ap d5 h5 _ (by omega) g1 (by omega) hl3 hl4 D5 hBL fun h6 d6 D6 r1 r2 => ?_
            obtain ⟨q1, q2⟩ := hfin _ r1 r2
            exact k h6 _ D6 (permIn_trans _ _ _ a b P3 q1) q2
        refine Br.dec (fun ga => ?_) fun ga => ordinary h D3
        have w1 : IntKind.wrap .i64 ((a : Int) - 1) = ((a - 1 : Nat) : Int) := by rw [q9 (by omega) (by omega)]; omega
        rw [w1]
        refine qH8 D3 hm I rfl rfl (by omega) (by omega) fun h' D' => Br.intro (fun g2 => ?_) fun g2 => ordinary h' D'
        refine qOd e0 hm I (by omega) (by omega) hb hp1 hp2 D' fun h4 D4 => ⟨_, rfl, ?_⟩
        generalize hx : partitionEqual (qR left) d3 a b pivot = r at *
        obtain ⟨mid, d4⟩ := r
        obtain ⟨m1, m2, hs4, hB4, hfin⟩ := round_eq (qOK left) (partitionEqual_holds (lt := qR left)) (by omega) hp1 hp2 (by omega) B3 (by simpa using g2) hx
        dsimp only at D4 ⊢
        refine ih mid b lim wb wp d4 h4 _ (by omega) m2 hb hl3 hl4 D4 hB4 fun h6 d6 D6 r1 r2 => ?_
        obtain ⟨q1, q2⟩ := hfin _ r1 r2
        exact k h6 _ D6 (permIn_trans _ _ _ a b P3 q1) q2
      -- few steps
      have few : ∀ (h : Heap) (d2 : Array Int) (pivot : Nat) (hint : Int), DaE left g0 B m n sp h d2 → PermIn a b d d2 → a ≤ pivot → pivot < b → qAq (some ⟨B, 0, none⟩) n c (a : Int) (b : Int) lim wb wp ((b - a : Nat) : Int) (pivot : Int) hint h K := by
        intro h d2 pivot hint D2 P2 hp1 hp2
        have B2 := hB.perm (by omega) P2
        have hz2 : d2.size = n := D2.sz
        refine qGj _ _ _ _ _ _ _ _ _ _ _ _ _ ?_
        unfold qDd
        refine Br.intro (fun _ => Br.intro (fun _ => Br.intro (fun _ => ?_) fun _ => part h d2 pivot D2 P2 hp1 hp2) fun _ => part h d2 pivot D2 P2 hp1 hp2) fun _ => part h d2 pivot D2 P2 hp1 hp2
        have s := partialInsertionSort_holds (qOK left) d2 a b (by omega) (by omega) B2
        refine qXs e0 hm I (by omega) (by omega) hb D2 fun h3 D3 => ⟨_, rfl, Br.intro (fun g => Ret.mk ?_) fun g => ?_⟩
        · exact k h3 _ D3 (permIn_trans _ _ _ a b P2 s.1) (s.2 g)
        · exact part h3 _ pivot D3 (permIn_trans _ _ _ a b P2 s.1) hp1 hp2
      refine qV5 hm I (by omega) h12 hb D1 fun h2 x hint D2 hx1 hx2 => ⟨_, _, rfl, Br.intro (fun _ => ?_) fun _ => few h2 d1 x hint D2 P1 hx1 hx2⟩
      refine qT3 e0 (by omega) (by omega) hb D2 fun h3 D3 => ⟨rfl, ?_⟩
      have s := reverseRange_holds d1 a b hab (by have := D1.sz; omega)
      have w1 : IntKind.wrap .i64 ((b : Int) - 1) = ((b - 1 : Nat) : Int) := by rw [q9 (by omega) (by omega)]; omega
      have w2 : IntKind.wrap .i64 ((x : Int) - (a : Int)) = ((x - a : Nat) : Int) := by rw [q9 (by omega) (by omega)]; omega
      have w3 : IntKind.wrap .i64 (((b - 1 : Nat) : Int) - ((x - a : Nat) : Int)) = ((b - 1 - (x - a) : Nat) : Int) := by rw [q9 (by omega) (by omega)]; omega
      rw [w1, w2, w3]
      exact few h3 _ _ 1 D3 (permIn_trans _ _ _ a b P1 s) (by omega) (by omega)
    refine Br.intro (fun _ => ?_) fun _ => cont limit h d (by omega) hl2 D (permIn_refl d a b)
    refine qVa e0 (by omega) (by omega) (by omega) hb D fun h1 d1 D1 P1 => ⟨rfl, ?_⟩
    rw [q9 (x := limit - 1) (by omega) (by omega)]
    exact cont _ h1 d1 (by omega) (by omega) D1 P1
theorem qSj {h : Heap} {d : Array Int} {K : Value → Heap → Prop} (D : DaE left g0 B m n sp h d)
    (k : ∀ h' d', DaE left g0 B m n sp h' d' → PermIn 0 n d d' → SortedIn (qR left) 0 n d' → K (tuple #[]) h') :
    CallA Tryz.prog qAn [slice (some ⟨B, 0, none⟩) n c, func (Fn.func qD) #[] #[]] h K := by
  refine qDp _ _ _ _ _ ?_
  unfold qBj
  rw [qAQ (by omega) (by omega)]
  have g := (qLp ⟨n, hn⟩).2
  dsimp only at g
  refine qR5 hn ⟨_, rfl, ?_⟩
  refine qBT _ _ _ _ _ _ _ _ ?_
  unfold qAX
  refine qWD e0 hm I hn n 0 n _ true true d h _ (by omega) (by omega) (Nat.le_refl _) (by omega) (by omega) D (.inl rfl) fun h1 d1 D1 P1 s1 => ⟨rfl, Ret.mk (k h1 d1 D1 P1 s1)⟩
end
end Go.Proofs.YtjihfieahkbohaaGreat
