/- Where the least is 1: behind all pairs a column holds no two signs; and then nothing more is proposed. -/
import Derived.Test.YtkcogdmddhkldaaInPure
namespace Go.Proofs.Ytkcogdmddhkldaa
open Go Go.Sy Go.Value
set_option linter.unusedVariables false
set_option linter.unusedSimpArgs false

/-- no two signs in a column -/
def oneS (M : Mx) (n c : Nat) : Prop := (∀ i, i < n → 0 ≤ rdM M i c) ∨ ∀ i, i < n → rdM M i c ≤ 0
section
variable {ch : Int → Int × Int} {c : Nat} {n w : Nat} (hc : c < w) (h0 : 0 < c)
include hc h0
theorem frL_clear {to : Nat} (ht : to < n) : ∀ (m fr : Nat) (S S' : Mx × List Swp), m + fr = n → shM S.1 n w → (∀ i d, I64 (rdM S.1 i d)) → (0 ≤ rdM S.1 to c ∨ ∀ j, j < fr → rdM S.1 j c ≤ 0) → frL ch c 1 to m fr S = some S' →
    0 ≤ rdM S'.1 to c ∨ ∀ j, j < n → rdM S'.1 j c ≤ 0
  | 0, fr, S, S', hm, s, hi, p, e => by
    cases e
    rcases p with p | p
    · exact .inl p
    · exact .inr fun j hj => p j (by omega)
  | m + 1, fr, S, S', hm, s, hi, p, e => by
    rw [frL] at e
    split at e
    · cases e
    · rename_i T hT
      have hf : fr < n := by omega
      have key : shM T.1 n w ∧ (∀ i d, I64 (rdM T.1 i d)) ∧ (0 ≤ rdM T.1 to c ∨ ∀ j, j < fr + 1 → rdM T.1 j c ≤ 0) := by
        unfold pairS at hT
        split at hT
        · rename_i h1
          cases hT
          refine ⟨s, hi, ?_⟩
          rcases p with p | p
          · exact .inl p
          · rcases h1 with h1 | h1
            · exact .inl h1
            · refine .inr fun j hj => ?_
              by_cases hj2 : j = fr
              · rw [hj2]; exact h1
              · exact p j (by omega)
        · rename_i h1
          split at hT
          · cases hT
          · split at hT
            · rename_i h3
              exfalso
              unfold amtM at h3
              split at h3 <;> omega
            · split at hT
              · cases hT
              · split at hT
                · cases hT
                · rename_i h4 h5
                  cases hT
                  have hne : to ≠ fr := fun x => by subst x; omega
                  have b5 : I64 (rdM S.1 to 0 - (ch (amtM S.1 c to fr)).1) ∧ I64 (rdM S.1 fr 0 + (ch (amtM S.1 c to fr)).1) :=
                    ⟨fit_in fun x => h5 (.inl x), fit_in fun x => h5 (.inr x)⟩
                  have am : 0 < amtM S.1 c to fr ∧ amtM S.1 c to fr ≤ rdM S.1 fr c ∧ amtM S.1 c to fr ≤ -(rdM S.1 to c) ∧ (amtM S.1 c to fr = rdM S.1 fr c ∨ amtM S.1 c to fr = -(rdM S.1 to c)) := by
                    unfold amtM; split <;> omega
                  have kp := next_keep s ht hf hne hc h0 hi (by omega) am.2.1 am.2.2.1 b5.1 b5.2
                  have e2 := next_rd (a := amtM S.1 c to fr) (b := (ch (amtM S.1 c to fr)).1) s ht hf hne hc h0
                  refine ⟨kp.sh, kp.i64, ?_⟩
                  dsimp only
                  rcases am.2.2.2 with a | a
                  · refine .inr fun j hj => ?_
                    rw [e2]
                    by_cases hj2 : j = fr
                    · subst hj2; simp; omega
                    · by_cases hj3 : j = to
                      · subst hj3; simp [hj2]; omega
                      · simp [hj2, hj3, show ¬ c = 0 by omega]
                        rcases p with p | p
                        · omega
                        · exact p j (by omega)
                  · refine .inl ?_
                    rw [e2]
                    simp [hne]
                    omega
      exact frL_clear ht m (fr + 1) T S' (by omega) key.1 key.2.1 key.2.2 e
end
section
variable {ch : Int → Int × Int} {c : Nat} {n w : Nat} (hch : ∀ a, 0 ≤ a → (ch a).2 = 0 → 0 ≤ (ch a).1) (hc : c < w) (h0 : 0 < c)
include hch hc h0
theorem toL_clear : ∀ (m to : Nat) (S S' : Mx × List Swp), m + to = n → shM S.1 n w → (∀ i d, I64 (rdM S.1 i d)) → (∀ x ∈ S.2, okSw 1 x) → (∀ t, t < to → 0 ≤ rdM S.1 t c ∨ ∀ j, j < n → rdM S.1 j c ≤ 0) → toL ch c 1 n m to S = some S' → oneS S'.1 n c
  | 0, to, S, S', hm, s, hi, hs, p, e => by
    cases e
    by_cases h : ∀ j, j < n → rdM S.1 j c ≤ 0
    · exact .inr h
    · refine .inl fun i hi2 => ?_
      rcases p i (by omega) with p | p
      · exact p
      · exact (h p).elim
  | m + 1, to, S, S', hm, s, hi, hs, p, e => by
    rw [toL] at e
    split at e
    · cases e
    · rename_i T hT
      obtain ⟨kp, os⟩ := frL_keep hch (Int.le_refl 1) hc h0 (by omega) n 0 S T (by omega) s hi hs hT
      have cl := frL_clear hc h0 (by omega) n 0 S T (by omega) s hi (.inr fun j hj => absurd hj (by omega)) hT
      refine toL_clear m (to + 1) T S' (by omega) kp.sh kp.i64 os (fun t ht => ?_) e
      by_cases h2 : t = to
      · rw [h2]; exact cl
      · rcases p t (by omega) with p | p
        · refine .inl ?_
          by_cases hz : rdM S.1 t c = 0
          · rw [kp.zero t hz]; omega
          · exact (kp.pos t (by omega)).1
        · refine .inr fun j hj => ?_
          have := p j hj
          by_cases hz : rdM S.1 j c = 0
          · rw [kp.zero j hz]; omega
          · exact (kp.neg j (by omega)).2
end
theorem curL_clear {ch : Nat → Int → Int × Int} {n w : Nat} (hch : ∀ c a, 0 ≤ a → (ch c a).2 = 0 → 0 ≤ (ch c a).1) : ∀ (m c : Nat) (S S' : Mx × List Swp), m + c = w → 0 < c → shM S.1 n w → (∀ i d, I64 (rdM S.1 i d)) → (∀ x ∈ S.2, okSw 1 x) →
    (∀ d, 0 < d → d < c → oneS S.1 n d) → curL ch 1 n m c S = some S' → ∀ d, 0 < d → d < w → oneS S'.1 n d
  | 0, c, S, S', hm, h0, s, hi, hs, p, e => by cases e; exact fun d d0 hd => p d d0 (by omega)
  | m + 1, c, S, S', hm, h0, s, hi, hs, p, e => by
    rw [curL] at e
    split at e
    · cases e
    · rename_i T hT
      obtain ⟨k1, o1⟩ := toL_keep (hch c) (Int.le_refl 1) (by omega) h0 n 0 S T (by omega) s hi hs hT
      have cl := toL_clear (hch c) (by omega) h0 n 0 S T (by omega) s hi hs (fun t ht => absurd ht (by omega)) hT
      refine curL_clear hch m (c + 1) T S' (by omega) (by omega) k1.sh k1.i64 o1 (fun d d0 hd => ?_) e
      by_cases h2 : d = c
      · rw [h2]; exact cl
      · have q := p d d0 (by omega)
        unfold oneS at *
        rcases q with q | q
        · exact .inl fun i hi => by rw [k1.oth i d (by omega) h2]; exact q i hi
        · exact .inr fun i hi => by rw [k1.oth i d (by omega) h2]; exact q i hi
theorem frL_none {ch : Int → Int × Int} {c n to : Nat} {least : Int} {S : Mx × List Swp} (ht : to < n) (o : oneS S.1 n c) : ∀ m fr, m + fr = n → frL ch c least to m fr S = some S
  | 0, _, _ => rfl
  | m + 1, fr, hm => by
    have : pairS ch c least to fr S = some S := by
      unfold pairS
      rw [if_pos]
      rcases o with o | o
      · exact .inl (o to ht)
      · exact .inr (o fr (by omega))
    rw [frL, this]
    exact frL_none ht o m (fr + 1) (by omega)
theorem toL_none {ch : Int → Int × Int} {c n : Nat} {least : Int} {S : Mx × List Swp} (o : oneS S.1 n c) : ∀ m to, m + to = n → toL ch c least n m to S = some S
  | 0, _, _ => rfl
  | m + 1, to, hm => by
    rw [toL, frL_none (by omega) o n 0 (by omega)]
    exact toL_none o m (to + 1) (by omega)
theorem curL_none {ch : Nat → Int → Int × Int} {n w : Nat} {least : Int} {S : Mx × List Swp} (o : ∀ d, 0 < d → d < w → oneS S.1 n d) : ∀ m c, m + c = w → 0 < c → curL ch least n m c S = some S
  | 0, _, _, _ => rfl
  | m + 1, c, hm, h0 => by
    rw [curL, toL_none (o c h0 (by omega)) n 0 (by omega)]
    exact curL_none o m (c + 1) (by omega) (by omega)
theorem sum_nonneg : ∀ l : List Int, (∀ x ∈ l, 0 ≤ x) → 0 ≤ sumL l ∧ (sumL l = 0 → ∀ x ∈ l, x = 0)
  | [], _ => ⟨by simp [sumL], fun _ x hx => (by cases hx)⟩
  | a :: l, h => by
    have h1 := h a (List.mem_cons_self ..)
    obtain ⟨h2, h3⟩ := sum_nonneg l fun x hx => h x (List.mem_cons_of_mem _ hx)
    refine ⟨by simp only [sumL]; omega, fun e x hx => ?_⟩
    simp only [sumL] at e
    rcases List.mem_cons.1 hx with rfl | hx
    · omega
    · exact h3 (by omega) x hx
theorem sum_nonpos : ∀ l : List Int, (∀ x ∈ l, x ≤ 0) → sumL l ≤ 0 ∧ (sumL l = 0 → ∀ x ∈ l, x = 0)
  | [], _ => ⟨by simp [sumL], fun _ x hx => (by cases hx)⟩
  | a :: l, h => by
    have h1 := h a (List.mem_cons_self ..)
    obtain ⟨h2, h3⟩ := sum_nonpos l fun x hx => h x (List.mem_cons_of_mem _ hx)
    refine ⟨by simp only [sumL]; omega, fun e x hx => ?_⟩
    simp only [sumL] at e
    rcases List.mem_cons.1 hx with rfl | hx
    · omega
    · exact h3 (by omega) x hx
theorem oneS_zero {M : Mx} {n c : Nat} (hn : M.length = n) (o : oneS M n c) (e : sumL (colM M c) = 0) : ∀ i, i < n → rdM M i c = 0 := by
  intro i hi
  have mem : ∀ x ∈ colM M c, ∃ j, j < n ∧ x = rdM M j c := fun x hx => by
    obtain ⟨j, hj⟩ := List.getElem?_of_mem hx
    have hl : j < M.length := by
      have := (List.getElem?_eq_some_iff.1 hj).1
      unfold colM at this
      rw [List.length_map] at this
      exact this
    rw [colM_get M c j hl] at hj
    exact ⟨j, by omega, (Option.some.inj hj).symm⟩
  have hmem : rdM M i c ∈ colM M c := List.mem_of_getElem? (colM_get M c i (by omega))
  rcases o with o | o
  · exact (sum_nonneg _ fun x hx => by obtain ⟨j, hj, rfl⟩ := mem x hx; exact o j hj).2 e _ hmem
  · exact (sum_nonpos _ fun x hx => by obtain ⟨j, hj, rfl⟩ := mem x hx; exact o j hj).2 e _ hmem
end Go.Proofs.Ytkcogdmddhkldaa
