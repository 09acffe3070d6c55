/- Shares, plainly: parts, what is left over, who gets one more. -/
import Derived.Test.YtghdadniddoboaaSpOrd
import Derived.Test.YtghdadniddoboaaMoneySum
namespace Go.Proofs.Ytghdadniddoboaa
open Go Go.Sy Go.Value
set_option linter.unusedVariables false
set_option linter.unusedSimpArgs false

def baseL (t s : Int) (ws : List Int) : List Int := ws.map fun w => t * w / s
def restL (t s : Int) (ws : List Int) : List Int := ws.map fun w => t * w % s
theorem baseL_len (t s : Int) (ws : List Int) : (baseL t s ws).length = ws.length := by simp [baseL]
theorem restL_len (t s : Int) (ws : List Int) : (restL t s ws).length = ws.length := by simp [restL]
def upTo (n : Nat) : List Int := (List.range n).map fun (i : Nat) => (i : Int)
theorem upTo_len (n : Nat) : (upTo n).length = n := by simp [upTo]
theorem upTo_succ (n : Nat) : upTo (n + 1) = upTo n ++ [(n : Int)] := by simp [upTo, List.range_succ]
theorem upTo_mem {n : Nat} {x : Int} : x ∈ upTo n ↔ 0 ≤ x ∧ x < (n : Int) := by
  unfold upTo
  rw [List.mem_map]
  constructor
  · rintro ⟨i, h, rfl⟩; rw [List.mem_range] at h; omega
  · intro h; exact ⟨x.toNat, List.mem_range.2 (by omega), by omega⟩
/-- the numbers below n, put in order -/
def ordL (left : List Int) (n : Nat) : List Int := (upTo n).mergeSort fun x y => !ltO left y x
theorem ordL_of {left : List Int} {n : Nat} {d : Array Int} (hp : Go.Sort.PermIn 0 n (upTo n).toArray d) (hs : Go.Sort.SortedIn (ltO left) 0 n d) : d.toList = ordL left n := by
  have hz : (upTo n).toArray.size = n := by simp [upTo_len]
  have := Go.Sort.sorted_unique_holds (lt := ltO left) (swoO left) (totO left) (upTo n).toArray d (by rw [hz]; exact hp) (by rw [hz]; exact hs)
  simpa [ordL] using this
theorem ordL_is {left : List Int} {n : Nat} {c : List Int} (hp : c.Perm (upTo n)) (hs : c.Pairwise fun x y => ltO left y x = false) : ordL left n = c := by
  have hl : c.length = n := by rw [hp.length_eq, upTo_len]
  have := ordL_of (left := left) (n := n) (d := c.toArray) ⟨by simp [hl, upTo_len], fun i hi => ?_, ?_⟩ fun i j _ hij hj => ?_
  · simpa using this.symm
  · have g1 : ¬ i < c.toArray.size := by simp; omega
    have g2 : ¬ i < (upTo n).toArray.size := by simp [upTo_len]; omega
    rw [getElem!_neg c.toArray i g1, getElem!_neg (upTo n).toArray i g2]
  · have e1 : (c.toArray.extract 0 n).toList = c := by simp [← hl]
    have e2 : ((upTo n).toArray.extract 0 n).toList = upTo n := by
      have := upTo_len n
      simp [List.take_of_length_le (Nat.le_of_eq this)]
    rw [e1, e2]; exact hp
  · rw [List.pairwise_iff_getElem] at hs
    have h1 : i < c.length := by omega
    have h2 : j < c.length := by omega
    have := hs i j h1 h2 hij
    rw [getElem!_pos c.toArray i (by simpa using h1), getElem!_pos c.toArray j (by simpa using h2)]
    simpa using this
theorem ordL_perm (left : List Int) (n : Nat) : (ordL left n).Perm (upTo n) := List.mergeSort_perm _ _
theorem ordL_len (left : List Int) (n : Nat) : (ordL left n).length = n := by rw [(ordL_perm left n).length_eq, upTo_len]
theorem ordL_sorted (left : List Int) (n : Nat) : (ordL left n).Pairwise fun x y => ltO left y x = false := by
  have := List.pairwise_mergeSort (le := fun x y => !ltO left y x) (fun a b c h1 h2 => ?_) (fun a b => ?_) (upTo n)
  · exact this.imp fun h => by simpa using h
  · simp only [Bool.not_eq_true'] at h1 h2 ⊢
    exact (swoO left).ntrans _ _ _ h2 h1
  · cases h : ltO left b a with
    | false => simp
    | true =>
      have : ltO left a b = false := by rw [ltO_no]; rw [ltO_iff] at h; omega
      simp [this]

/-- one more each -/
def bump1 (l : List Int) (i : Int) : List Int := l.set i.toNat (l.getD i.toNat 0 + 1)
def bump (l : List Int) (who : List Int) : List Int := who.foldl bump1 l
theorem bump1_len (l : List Int) (i : Int) : (bump1 l i).length = l.length := by simp [bump1]
theorem bump_len : ∀ (who l : List Int), (bump l who).length = l.length
  | [], l => rfl
  | i :: who, l => by rw [bump, List.foldl_cons]; exact (bump_len who _).trans (bump1_len _ _)
theorem sumL_set : ∀ (l : List Int) (i : Nat) (v : Int), i < l.length → sumL (l.set i v) = sumL l - l.getD i 0 + v
  | x :: l, 0, v, _ => by simp [sumL]; omega
  | x :: l, i + 1, v, h => by
    have := sumL_set l i v (by simpa using h)
    simp only [List.set_cons_succ, sumL, this, List.getD_cons_succ]
    omega
theorem bump1_sum {l : List Int} {i : Int} (h0 : 0 ≤ i) (h : i < (l.length : Int)) : sumL (bump1 l i) = sumL l + 1 := by
  unfold bump1
  rw [sumL_set _ _ _ (by omega)]
  omega
theorem bump_sum : ∀ (who l : List Int), (∀ i ∈ who, 0 ≤ i ∧ i < (l.length : Int)) → sumL (bump l who) = sumL l + who.length
  | [], l, _ => by simp [bump]
  | i :: who, l, h => by
    have h1 := h i (List.mem_cons_self ..)
    rw [bump, List.foldl_cons]
    have := bump_sum who (bump1 l i) fun k hk => by rw [bump1_len]; exact h k (List.mem_cons_of_mem _ hk)
    rw [bump] at this
    rw [this, bump1_sum h1.1 h1.2]
    simp only [List.length_cons]
    omega
def geL (l : List Int) : Prop := ∀ x ∈ l, 0 ≤ x
theorem bump1_ge {l : List Int} (i : Int) (h : geL l) : geL (bump1 l i) := fun x hx => by
  unfold bump1 at hx
  rcases List.mem_or_eq_of_mem_set hx with hx | hx
  · exact h x hx
  · have : 0 ≤ l.getD i.toNat 0 := by
      rw [List.getD_eq_getElem?_getD]
      cases e : l[i.toNat]? with
      | none => simp
      | some y => simp only [Option.getD_some]; exact h y (List.mem_of_getElem? e)
    omega
theorem bump_ge : ∀ (who l : List Int), geL l → geL (bump l who)
  | [], l, h => h
  | i :: who, l, h => by rw [bump, List.foldl_cons]; exact bump_ge who _ (bump1_ge i h)
theorem sum_ge : ∀ {l : List Int}, geL l → 0 ≤ sumL l ∧ ∀ x ∈ l, x ≤ sumL l
  | [], _ => by simp [sumL]
  | y :: l, h => by
    have ih := sum_ge (l := l) fun x hx => h x (List.mem_cons_of_mem _ hx)
    have hy := h y (List.mem_cons_self ..)
    simp only [sumL]
    refine ⟨by omega, fun x hx => ?_⟩
    rcases List.mem_cons.1 hx with rfl | hx
    · omega
    · have := ih.2 x hx; omega
/-! what the parts come to -/
theorem parts_sum (t s : Int) : ∀ ws : List Int, sumL (baseL t s ws) * s + sumL (restL t s ws) = t * sumL ws
  | [] => by simp [baseL, restL, sumL]
  | w :: ws => by
    have ih := parts_sum t s ws
    have h := Int.mul_ediv_add_emod (t * w) s
    simp only [baseL, restL, List.map_cons, sumL] at ih ⊢
    generalize t * w / s = q at *
    generalize t * w % s = r at *
    rw [Int.mul_add, Int.add_mul]
    have : s * q = q * s := Int.mul_comm _ _
    omega
theorem base_ge {t s : Int} (ht : 0 ≤ t) (hs : 0 < s) {ws : List Int} (hw : geL ws) : geL (baseL t s ws) := fun x hx => by
  unfold baseL at hx
  rw [List.mem_map] at hx
  obtain ⟨w, hw1, rfl⟩ := hx
  exact Int.ediv_nonneg (Int.mul_nonneg ht (hw w hw1)) (by omega)
theorem rest_range {t s : Int} (hs : 0 < s) {ws : List Int} : ∀ x ∈ restL t s ws, 0 ≤ x ∧ x < s := fun x hx => by
  unfold restL at hx
  rw [List.mem_map] at hx
  obtain ⟨w, hw1, rfl⟩ := hx
  exact ⟨Int.emod_nonneg _ (by omega), Int.emod_lt_of_pos _ hs⟩
theorem sum_lt {s : Int} : ∀ {l : List Int}, (∀ x ∈ l, 0 ≤ x ∧ x < s) → 0 ≤ sumL l ∧ sumL l ≤ (l.length : Int) * s ∧ (l ≠ [] → sumL l < (l.length : Int) * s)
  | [], _ => by simp [sumL]
  | y :: l, h => by
    have ih := sum_lt (l := l) fun x hx => h x (List.mem_cons_of_mem _ hx)
    have hy := h y (List.mem_cons_self ..)
    simp only [sumL, List.length_cons]
    have e : ((l.length + 1 : Nat) : Int) * s = (l.length : Int) * s + s := by
      rw [Int.natCast_add, Int.add_mul]; simp
    rw [e]
    refine ⟨by omega, by omega, fun _ => by omega⟩
/-- how many units are missing behind the parts: fewer than there are weights -/
theorem missing_range {t : Int} {ws : List Int} (hs : 0 < sumL ws) (hne : ws ≠ []) :
    0 ≤ t - sumL (baseL t (sumL ws) ws) ∧ t - sumL (baseL t (sumL ws) ws) < (ws.length : Int) := by
  have h1 := parts_sum t (sumL ws) ws
  have h2 := sum_lt (rest_range (t := t) (ws := ws) hs)
  have h3 := h2.2.2 (by intro e; apply hne; have := congrArg List.length e; rw [restL_len] at this; exact List.length_eq_zero_iff.1 this)
  rw [restL_len] at h3
  generalize sumL (restL t (sumL ws) ws) = r at *
  generalize sumL (baseL t (sumL ws) ws) = b at *
  generalize sumL ws = s at *
  have e : (t - b) * s = r := by rw [Int.sub_mul]; omega
  constructor
  · rcases Int.lt_or_le (t - b) 0 with h | h
    · have := Int.mul_neg_of_neg_of_pos h hs; omega
    · exact h
  · rcases Int.lt_or_le (t - b) (ws.length : Int) with h | h
    · exact h
    · have := Int.mul_le_mul_of_nonneg_right h (Int.le_of_lt hs); omega
/-- the shares, and why there are none -/
def anyNeg (ws : List Int) : Bool := ws.any fun x => decide (x < 0)
def anyPos (ws : List Int) : Bool := ws.any fun x => decide (x > 0)
def sharesL (t : Int) (ws : List Int) : List Int :=
  bump (baseL t (sumL ws) ws) ((ordL (restL t (sumL ws) ws) ws.length).take (t - sumL (baseL t (sumL ws) ws)).toNat)
def sharesR (t : Int) (ws : List Int) : List Int × Int :=
  if 64 < ws.length then ([], 4) else if t < 0 then ([], 1) else if anyNeg ws = true then ([], 1) else if anyPos ws = false then ([], 1) else
  if (fit (sumL ws)).2 ≠ 0 then ([], (fit (sumL ws)).2) else (sharesL t ws, 0)
theorem geL_of {ws : List Int} (h : anyNeg ws = false) : geL ws := fun x hx => by
  unfold anyNeg at h
  rw [List.any_eq_false] at h
  have := h x hx
  simp at this; omega
theorem pos_of {ws : List Int} (h : anyNeg ws = false) (hp : anyPos ws = true) : 0 < sumL ws ∧ ws ≠ [] := by
  unfold anyPos at hp
  rw [List.any_eq_true] at hp
  obtain ⟨x, hx, h2⟩ := hp
  have := (sum_ge (geL_of h)).2 x hx
  have h2 : x > 0 := by simpa using h2
  exact ⟨by omega, fun e => by rw [e] at hx; cases hx⟩
theorem sharesL_len (t : Int) (ws : List Int) : (sharesL t ws).length = ws.length := by rw [sharesL, bump_len, baseL_len]
theorem sharesL_sum {t : Int} {ws : List Int} (hs : 0 < sumL ws) (hne : ws ≠ []) : sumL (sharesL t ws) = t := by
  have hm := missing_range (t := t) hs hne
  unfold sharesL
  rw [bump_sum]
  · rw [List.length_take, ordL_len]
    omega
  · intro i hi
    have := (ordL_perm (restL t (sumL ws) ws) ws.length).mem_iff.1 (List.mem_of_mem_take hi)
    rw [upTo_mem] at this
    rw [baseL_len]; exact this
theorem sharesL_ge {t : Int} (ht : 0 ≤ t) {ws : List Int} (hs : 0 < sumL ws) (hw : geL ws) : geL (sharesL t ws) := bump_ge _ _ (base_ge ht hs hw)
end Go.Proofs.Ytghdadniddoboaa
