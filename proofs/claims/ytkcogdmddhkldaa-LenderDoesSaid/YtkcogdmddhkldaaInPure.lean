/- Proposals, in plain words: pair by pair, what nets come to; sums stay, signs stay, and at the end none are left of both signs. -/
import Derived.Test.YtkcogdmddhkldaaMat
namespace Go.Proofs.Ytkcogdmddhkldaa
open Go Go.Sy Go.Value
set_option linter.unusedVariables false
set_option linter.unusedSimpArgs false

structure Swp where
  fr : Nat
  to : Nat
  cur : Nat
  amount : Int
  base : Int
def amtM (M : Mx) (c to fr : Nat) : Int := if rdM M fr c < -(rdM M to c) then rdM M fr c else -(rdM M to c)
def nextM (M : Mx) (c to fr : Nat) (a b : Int) : Mx := wrM (wrM (wrM (wrM M to 0 (rdM M to 0 - b)) fr 0 (rdM M fr 0 + b)) to c (rdM M to c + a)) fr c (rdM M fr c - a)
/-- one pair -/
def pairS (ch : Int → Int × Int) (c : Nat) (least : Int) (to fr : Nat) (S : Mx × List Swp) : Option (Mx × List Swp) :=
  if rdM S.1 to c ≥ 0 ∨ rdM S.1 fr c ≤ 0 then some S
  else if rdM S.1 to c = -9223372036854775808 then none
  else if amtM S.1 c to fr < least then some S
  else if (ch (amtM S.1 c to fr)).2 ≠ 0 then none
  else if (fit (rdM S.1 to 0 - (ch (amtM S.1 c to fr)).1)).2 ≠ 0 ∨ (fit (rdM S.1 fr 0 + (ch (amtM S.1 c to fr)).1)).2 ≠ 0 then none
  else some (nextM S.1 c to fr (amtM S.1 c to fr) (ch (amtM S.1 c to fr)).1, S.2 ++ [⟨fr, to, c, amtM S.1 c to fr, (ch (amtM S.1 c to fr)).1⟩])
def frL (ch : Int → Int × Int) (c : Nat) (least : Int) (to : Nat) : Nat → Nat → Mx × List Swp → Option (Mx × List Swp)
  | 0, _, S => some S
  | m + 1, fr, S => match pairS ch c least to fr S with
    | none => none
    | some S' => frL ch c least to m (fr + 1) S'
def toL (ch : Int → Int × Int) (c : Nat) (least : Int) (n : Nat) : Nat → Nat → Mx × List Swp → Option (Mx × List Swp)
  | 0, _, S => some S
  | m + 1, to, S => match frL ch c least to n 0 S with
    | none => none
    | some S' => toL ch c least n m (to + 1) S'
def curL (ch : Nat → Int → Int × Int) (least : Int) (n : Nat) : Nat → Nat → Mx × List Swp → Option (Mx × List Swp)
  | 0, _, S => some S
  | m + 1, c, S => match toL (ch c) c least n n 0 S with
    | none => none
    | some S' => curL ch least n m (c + 1) S'
theorem pair_done {ch : Int → Int × Int} {c : Nat} {least : Int} {to fr : Nat} {S : Mx × List Swp} (h : rdM S.1 to c ≥ 0) : pairS ch c least to fr S = some S := by
  unfold pairS; rw [if_pos (.inl h)]
theorem frL_done {ch : Int → Int × Int} {c : Nat} {least : Int} {to : Nat} {S : Mx × List Swp} (h : rdM S.1 to c ≥ 0) : ∀ m fr, frL ch c least to m fr S = some S
  | 0, _ => rfl
  | m + 1, fr => by rw [frL, pair_done h]; exact frL_done h m (fr + 1)

/-- what one column's pairs keep -/
structure KeepC (n w c : Nat) (A B : Mx) : Prop where
  sh : shM B n w
  oth : ∀ i d, d ≠ 0 → d ≠ c → rdM B i d = rdM A i d
  sum : ∀ d, sumL (colM B d) = sumL (colM A d)
  pos : ∀ i, 0 < rdM A i c → 0 ≤ rdM B i c ∧ rdM B i c ≤ rdM A i c
  neg : ∀ i, rdM A i c < 0 → rdM A i c ≤ rdM B i c ∧ rdM B i c ≤ 0
  zero : ∀ i, rdM A i c = 0 → rdM B i c = 0
  i64 : ∀ i d, I64 (rdM B i d)
theorem KeepC.refl {n w c : Nat} {A : Mx} (s : shM A n w) (h : ∀ i d, I64 (rdM A i d)) : KeepC n w c A A := ⟨s, fun _ _ _ _ => rfl, fun _ => rfl, fun _ _ => by omega, fun _ _ => by omega, fun _ e => e, h⟩
theorem KeepC.trans {n w c : Nat} {A B C : Mx} (x : KeepC n w c A B) (y : KeepC n w c B C) : KeepC n w c A C := by
  refine ⟨y.sh, fun i d h1 h2 => (y.oth i d h1 h2).trans (x.oth i d h1 h2), fun d => (y.sum d).trans (x.sum d), fun i h => ?_, fun i h => ?_, fun i h => y.zero i (x.zero i h), y.i64⟩
  · have h1 := x.pos i h
    by_cases h2 : rdM B i c = 0
    · have := y.zero i h2; omega
    · have := y.pos i (by omega); omega
  · have h1 := x.neg i h
    by_cases h2 : rdM B i c = 0
    · have := y.zero i h2; omega
    · have := y.neg i (by omega); omega
theorem next_rd {M : Mx} {n w c to fr : Nat} {a b : Int} (s : shM M n w) (ht : to < n) (hf : fr < n) (hne : to ≠ fr) (hc : c < w) (h0 : 0 < c) (i d : Nat) :
    rdM (nextM M c to fr a b) i d = if i = fr ∧ d = c then rdM M fr c - a else if i = to ∧ d = c then rdM M to c + a else if i = fr ∧ d = 0 then rdM M fr 0 + b else if i = to ∧ d = 0 then rdM M to 0 - b else rdM M i d := by
  unfold nextM
  rw [rd_wr (((s.wr ht).wr hf).wr ht) hf hc, rd_wr ((s.wr ht).wr hf) ht hc, rd_wr (s.wr ht) hf (by omega), rd_wr s ht (by omega)]
theorem next_keep {M : Mx} {n w c to fr : Nat} {a b : Int} (s : shM M n w) (ht : to < n) (hf : fr < n) (hne : to ≠ fr) (hc : c < w) (h0 : 0 < c) (hi : ∀ i d, I64 (rdM M i d))
    (a1 : 0 ≤ a) (a2 : a ≤ rdM M fr c) (a3 : a ≤ -(rdM M to c)) (b1 : I64 (rdM M to 0 - b)) (b2 : I64 (rdM M fr 0 + b)) : KeepC n w c M (nextM M c to fr a b) := by
  have e := next_rd (a := a) (b := b) s ht hf hne hc h0
  refine ⟨(((s.wr ht).wr hf).wr ht).wr hf, fun i d d0 dc => ?_, fun d => ?_, fun i h => ?_, fun i h => ?_, fun i h => ?_, fun i d => ?_⟩
  · rw [e]; simp [d0, dc]
  · unfold nextM
    rw [col_wr (((s.wr ht).wr hf).wr ht) hf hc, col_wr ((s.wr ht).wr hf) ht hc, col_wr (s.wr ht) hf (by omega), col_wr s ht (by omega)]
    simp only [rd_wr ((s.wr ht).wr hf) ht hc, rd_wr (s.wr ht) hf (show 0 < w by omega), rd_wr s ht (show 0 < w by omega)]
    by_cases dc : d = c
    · subst dc
      have d0 : ¬ d = 0 := by omega
      simp [d0, hne, fun x : fr = to => hne x.symm]
      omega
    · by_cases d0 : d = 0
      · subst d0
        simp [dc, hne, fun x : fr = to => hne x.symm]
        omega
      · simp [dc, d0]
  · rw [e]
    by_cases h1 : i = fr
    · subst h1; simp; omega
    · by_cases h2 : i = to
      · subst h2; omega
      · simp [h1, h2]; omega
  · rw [e]
    by_cases h1 : i = fr
    · subst h1; omega
    · by_cases h2 : i = to
      · subst h2; simp [h1]; omega
      · simp [h1, h2]; omega
  · rw [e]
    by_cases h1 : i = fr
    · subst h1; simp; omega
    · by_cases h2 : i = to
      · subst h2; simp [h1]; omega
      · simp [h1, h2]; omega
  · rw [e]
    have x1 := hi fr c
    have x2 := hi to c
    unfold I64 at *
    split
    · omega
    · split
      · omega
      · split
        · omega
        · split
          · omega
          · exact hi i d
/-- what swaps there are -/
def okSw (least : Int) (x : Swp) : Prop := least ≤ x.amount ∧ x.fr ≠ x.to ∧ 1 ≤ x.cur ∧ 0 ≤ x.base
theorem pair_keep {ch : Int → Int × Int} {c : Nat} {least : Int} {to fr n w : Nat} {S S' : Mx × List Swp} (hch : ∀ a, 0 ≤ a → (ch a).2 = 0 → 0 ≤ (ch a).1) (hl : 1 ≤ least) (s : shM S.1 n w) (hi : ∀ i d, I64 (rdM S.1 i d)) (ht : to < n) (hf : fr < n) (hc : c < w) (h0 : 0 < c)
    (hs : ∀ x ∈ S.2, okSw least x) (e : pairS ch c least to fr S = some S') : KeepC n w c S.1 S'.1 ∧ ∀ x ∈ S'.2, okSw least x := by
  unfold pairS at e
  split at e
  · cases e; exact ⟨KeepC.refl s hi, hs⟩
  · rename_i h1
    split at e
    · cases e
    · split at e
      · cases e; exact ⟨KeepC.refl s hi, hs⟩
      · rename_i h3
        split at e
        · cases e
        · rename_i h4
          split at e
          · cases e
          · rename_i h5
            cases e
            have hne : to ≠ fr := fun x => by subst x; omega
            have am : 0 < amtM S.1 c to fr ∧ amtM S.1 c to fr ≤ rdM S.1 fr c ∧ amtM S.1 c to fr ≤ -(rdM S.1 to c) := by
              unfold amtM; split <;> omega
            have b5 : I64 (rdM S.1 to 0 - (ch (amtM S.1 c to fr)).1) ∧ I64 (rdM S.1 fr 0 + (ch (amtM S.1 c to fr)).1) := by
              exact ⟨fit_in fun x => h5 (.inl x), fit_in fun x => h5 (.inr x)⟩
            refine ⟨next_keep s ht hf hne hc h0 hi (by omega) am.2.1 am.2.2 b5.1 b5.2, fun x hx => ?_⟩
            rcases List.mem_append.1 hx with hx | hx
            · exact hs x hx
            · rw [List.mem_singleton] at hx
              subst hx
              exact ⟨by dsimp only; omega, fun x => hne x.symm, h0, hch _ (by omega) (by simpa using h4)⟩
section
variable {ch : Int → Int × Int} {c : Nat} {least : Int} {n w : Nat} (hch : ∀ a, 0 ≤ a → (ch a).2 = 0 → 0 ≤ (ch a).1) (hl : 1 ≤ least) (hc : c < w) (h0 : 0 < c)
include hch hl hc h0
theorem frL_keep {to : Nat} (ht : to < n) : ∀ (m fr : Nat) (S S' : Mx × List Swp), m + fr = n → shM S.1 n w → (∀ i d, I64 (rdM S.1 i d)) → (∀ x ∈ S.2, okSw least x) → frL ch c least to m fr S = some S' → KeepC n w c S.1 S'.1 ∧ ∀ x ∈ S'.2, okSw least x
  | 0, _, S, S', _, s, hi, hs, e => by cases e; exact ⟨KeepC.refl s hi, hs⟩
  | m + 1, fr, S, S', hm, s, hi, hs, e => by
    rw [frL] at e
    split at e
    · cases e
    · rename_i T hT
      obtain ⟨k1, o1⟩ := pair_keep hch hl s hi ht (by omega) hc h0 hs hT
      obtain ⟨k2, o2⟩ := frL_keep ht m (fr + 1) T S' (by omega) k1.sh k1.i64 o1 e
      exact ⟨k1.trans k2, o2⟩
theorem toL_keep : ∀ (m to : Nat) (S S' : Mx × List Swp), m + to = n → shM S.1 n w → (∀ i d, I64 (rdM S.1 i d)) → (∀ x ∈ S.2, okSw least x) → toL ch c least n m to S = some S' → KeepC n w c S.1 S'.1 ∧ ∀ x ∈ S'.2, okSw least x
  | 0, _, S, S', _, s, hi, hs, e => by cases e; exact ⟨KeepC.refl s hi, hs⟩
  | m + 1, to, S, S', hm, s, hi, hs, e => by
    rw [toL] at e
    split at e
    · cases e
    · rename_i T hT
      obtain ⟨k1, o1⟩ := frL_keep hch hl hc h0 (by omega) n 0 S T (by omega) s hi hs hT
      obtain ⟨k2, o2⟩ := toL_keep m (to + 1) T S' (by omega) k1.sh k1.i64 o1 e
      exact ⟨k1.trans k2, o2⟩
end
/-- what all columns' pairs keep -/
structure KeepA (n w : Nat) (A B : Mx) : Prop where
  sh : shM B n w
  sum : ∀ d, sumL (colM B d) = sumL (colM A d)
  pos : ∀ i c, 0 < c → 0 < rdM A i c → 0 ≤ rdM B i c ∧ rdM B i c ≤ rdM A i c
  neg : ∀ i c, 0 < c → rdM A i c < 0 → rdM A i c ≤ rdM B i c ∧ rdM B i c ≤ 0
  zero : ∀ i c, 0 < c → rdM A i c = 0 → rdM B i c = 0
  i64 : ∀ i d, I64 (rdM B i d)
theorem curL_keep {ch : Nat → Int → Int × Int} {least : Int} {n w : Nat} (hch : ∀ c a, 0 ≤ a → (ch c a).2 = 0 → 0 ≤ (ch c a).1) (hl : 1 ≤ least) : ∀ (m c : Nat) (S S' : Mx × List Swp), m + c = w → 0 < c → shM S.1 n w → (∀ i d, I64 (rdM S.1 i d)) → (∀ x ∈ S.2, okSw least x) →
    curL ch least n m c S = some S' → KeepA n w S.1 S'.1 ∧ (∀ x ∈ S'.2, okSw least x) ∧ ∀ i d, 0 < d → d < c → rdM S'.1 i d = rdM S.1 i d
  | 0, _, S, S', _, _, s, hi, hs, e => by cases e; exact ⟨⟨s, fun _ => rfl, fun _ _ _ _ => by omega, fun _ _ _ _ => by omega, fun _ _ _ e => e, hi⟩, hs, fun _ _ _ _ => rfl⟩
  | m + 1, c, S, S', hm, h0, s, hi, hs, e => by
    rw [curL] at e
    split at e
    · cases e
    · rename_i T hT
      obtain ⟨k1, o1⟩ := toL_keep (hch c) hl (by omega) h0 n 0 S T (by omega) s hi hs hT
      obtain ⟨k2, o2, st⟩ := curL_keep hch hl m (c + 1) T S' (by omega) (by omega) k1.sh k1.i64 o1 e
      refine ⟨⟨k2.sh, fun d => (k2.sum d).trans (k1.sum d), fun i d d0 h => ?_, fun i d d0 h => ?_, fun i d d0 h => ?_, k2.i64⟩, o2, fun i d d0 hd => ?_⟩
      · by_cases hd : d = c
        · subst hd
          rw [st i d d0 (by omega)]
          exact k1.pos i h
        · have e1 := k1.oth i d (by omega) hd
          rw [← e1] at h ⊢
          exact k2.pos i d d0 h
      · by_cases hd : d = c
        · subst hd
          rw [st i d d0 (by omega)]
          exact k1.neg i h
        · have e1 := k1.oth i d (by omega) hd
          rw [← e1] at h ⊢
          exact k2.neg i d d0 h
      · by_cases hd : d = c
        · subst hd
          rw [st i d d0 (by omega)]
          exact k1.zero i h
        · have e1 := k1.oth i d (by omega) hd
          rw [← e1] at h
          exact k2.zero i d d0 h
      · rw [st i d d0 (by omega), k1.oth i d (by omega) (by omega)]
end Go.Proofs.Ytkcogdmddhkldaa
