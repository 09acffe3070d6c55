/- Tables of whole numbers: rows, columns, what is written; and all rows in a row. -/
import Derived.Test.YtkcogdmddhkldaaMoneySum
namespace Go.Proofs.Ytkcogdmddhkldaa
open Go Go.Sy Go.Value
set_option linter.unusedVariables false
set_option linter.unusedSimpArgs false

abbrev Mx := List (List Int)
def rdM (M : Mx) (i c : Nat) : Int := (M.getD i []).getD c 0
def wrM (M : Mx) (i c : Nat) (v : Int) : Mx := M.set i ((M.getD i []).set c v)
theorem fit_in {x : Int} (h : ¬ (fit x).2 ≠ 0) : I64 x := Classical.byContradiction fun hx => h (by rw [fit_over hx]; decide)
/-! reading and writing -/
def shM (M : Mx) (n w : Nat) : Prop := M.length = n ∧ ∀ r ∈ M, r.length = w
theorem shM.row {M : Mx} {n w i : Nat} (s : shM M n w) (h : i < n) : (M.getD i []).length = w := by
  rw [List.getD_eq_getElem?_getD, List.getElem?_eq_getElem (by rw [s.1]; exact h)]
  exact s.2 _ (List.getElem_mem _)
theorem shM.wr {M : Mx} {n w i c : Nat} {v : Int} (s : shM M n w) (h : i < n) : shM (wrM M i c v) n w := by
  refine ⟨by unfold wrM; rw [List.length_set]; exact s.1, fun r hr => ?_⟩
  unfold wrM at hr
  rcases List.mem_or_eq_of_mem_set hr with e | e
  · exact s.2 r e
  · rw [e, List.length_set]; exact s.row h
theorem rd_wr {M : Mx} {n w i c : Nat} {v : Int} (s : shM M n w) (h : i < n) (hc : c < w) (j d : Nat) : rdM (wrM M i c v) j d = if j = i ∧ d = c then v else rdM M j d := by
  unfold rdM wrM
  have hr := s.row h
  have hl : i < M.length := by rw [s.1]; exact h
  by_cases hj : j = i
  · subst hj
    have e1 : (M.set j ((M.getD j []).set c v)).getD j [] = (M.getD j []).set c v := by
      rw [List.getD_eq_getElem?_getD, List.getElem?_set_self hl]; rfl
    rw [e1]
    by_cases hd : d = c
    · subst hd
      rw [if_pos ⟨rfl, rfl⟩, List.getD_eq_getElem?_getD, List.getElem?_set_self (by omega)]; rfl
    · rw [if_neg (fun x => hd x.2), List.getD_eq_getElem?_getD, List.getElem?_set_ne (fun x => hd x.symm), ← List.getD_eq_getElem?_getD]
  · rw [if_neg (fun x => hj x.1)]
    have e1 : (M.set i ((M.getD i []).set c v)).getD j [] = M.getD j [] := by
      rw [List.getD_eq_getElem?_getD, List.getElem?_set_ne (fun x => hj x.symm), ← List.getD_eq_getElem?_getD]
    rw [e1]
/-- a column -/
def colM (M : Mx) (c : Nat) : List Int := M.map fun r => r.getD c 0
theorem colM_get (M : Mx) (c i : Nat) (h : i < M.length) : (colM M c)[i]? = some (rdM M i c) := by
  have e : M.getD i [] = M[i] := by rw [List.getD_eq_getElem?_getD, List.getElem?_eq_getElem h]; rfl
  unfold colM rdM
  rw [List.getElem?_map, List.getElem?_eq_getElem h, e]; rfl
theorem sum_set : ∀ (l : List Int) (i : Nat) (v : Int), i < l.length → sumL (l.set i v) = sumL l - l.getD i 0 + v
  | [], _, _, h => by simp at h
  | a :: l, 0, v, _ => by simp [sumL]; omega
  | a :: l, i + 1, v, h => by
    have := sum_set l i v (by simpa using h)
    simp only [List.set_cons_succ, sumL, List.getD_cons_succ]
    omega
theorem col_wr {M : Mx} {n w i c : Nat} {v : Int} (s : shM M n w) (h : i < n) (hc : c < w) (d : Nat) : sumL (colM (wrM M i c v) d) = if d = c then sumL (colM M d) - rdM M i d + v else sumL (colM M d) := by
  have hl : i < M.length := by rw [s.1]; exact h
  have e : colM (wrM M i c v) d = (colM M d).set i (if d = c then v else rdM M i d) := by
    refine List.ext_getElem? fun j => ?_
    by_cases hj : j < M.length
    · rw [colM_get _ _ _ (by unfold wrM; rw [List.length_set]; exact hj), rd_wr s h hc]
      by_cases hji : j = i
      · subst hji
        rw [List.getElem?_set_self (by unfold colM; rw [List.length_map]; exact hj)]
        by_cases hd : d = c
        · rw [if_pos ⟨rfl, hd⟩, if_pos hd]
        · rw [if_neg (fun x => hd x.2), if_neg hd]
      · rw [if_neg (fun x => hji x.1), List.getElem?_set_ne (fun x => hji x.symm), colM_get _ _ _ hj]
    · rw [List.getElem?_eq_none (by unfold colM wrM; rw [List.length_map, List.length_set]; omega), List.getElem?_eq_none (by rw [List.length_set]; unfold colM; rw [List.length_map]; omega)]
  rw [e, sum_set _ _ _ (by unfold colM; rw [List.length_map]; exact hl)]
  have g : (colM M d).getD i 0 = rdM M i d := by rw [List.getD_eq_getElem?_getD, colM_get _ _ _ hl]; rfl
  rw [g]
  split <;> omega
/-! all rows in a row -/
theorem flat_len {w : Nat} : ∀ {M : Mx}, (∀ r ∈ M, r.length = w) → M.flatten.length = M.length * w
  | [], _ => by simp
  | r :: M, h => by
    rw [List.flatten_cons, List.length_append, h r (List.mem_cons_self ..), flat_len (M := M) (fun x hx => h x (List.mem_cons_of_mem _ hx)), List.length_cons, Nat.succ_mul]
    omega
theorem flat_get {w : Nat} : ∀ {M : Mx}, (∀ r ∈ M, r.length = w) → ∀ {i c : Nat}, i < M.length → c < w → M.flatten[i * w + c]? = some (rdM M i c)
  | [], _, _, _, hi, _ => by simp at hi
  | r :: M, h, 0, c, _, hc => by
    have hr := h r (List.mem_cons_self ..)
    rw [List.flatten_cons, Nat.zero_mul, Nat.zero_add, List.getElem?_append_left (by omega)]
    unfold rdM
    rw [List.getD_cons_zero, List.getD_eq_getElem?_getD, List.getElem?_eq_getElem (by omega)]; rfl
  | r :: M, h, i + 1, c, hi, hc => by
    have hr := h r (List.mem_cons_self ..)
    have := flat_get (M := M) (fun x hx => h x (List.mem_cons_of_mem _ hx)) (i := i) (c := c) (by simpa using hi) hc
    rw [List.flatten_cons, List.getElem?_append_right (by rw [hr, Nat.succ_mul]; omega), hr, Nat.succ_mul, show i * w + w + c - w = i * w + c by omega, this]
    rfl
theorem flat_set {w : Nat} {v : Int} : ∀ {M : Mx}, (∀ r ∈ M, r.length = w) → ∀ {i c : Nat}, i < M.length → c < w → (wrM M i c v).flatten = M.flatten.set (i * w + c) v
  | [], _, _, _, hi, _ => by simp at hi
  | r :: M, h, 0, c, _, hc => by
    have hr := h r (List.mem_cons_self ..)
    show ((r.set c v) :: M).flatten = _
    rw [List.flatten_cons, List.flatten_cons, Nat.zero_mul, Nat.zero_add, List.set_append_left _ _ (by omega)]
  | r :: M, h, i + 1, c, hi, hc => by
    have hr := h r (List.mem_cons_self ..)
    have := flat_set (v := v) (M := M) (fun x hx => h x (List.mem_cons_of_mem _ hx)) (i := i) (c := c) (by simpa using hi) hc
    show (r :: wrM M i c v).flatten = _
    rw [List.flatten_cons, List.flatten_cons, this, List.set_append_right _ _ (by rw [hr, Nat.succ_mul]; omega), hr, Nat.succ_mul, show i * w + w + c - w = i * w + c by omega]
theorem wr_rd_self {M : Mx} {n w i c : Nat} (s : shM M n w) (h : i < n) (hc : c < w) : wrM M i c (rdM M i c) = M := by
  unfold wrM
  have hl : i < M.length := by rw [s.1]; exact h
  have hr := s.row h
  have e : (M.getD i []).set c (rdM M i c) = M.getD i [] := by
    unfold rdM
    rw [List.getD_eq_getElem?_getD (l := M.getD i []), List.getElem?_eq_getElem (by omega)]
    exact List.set_getElem_self _
  rw [e, List.getD_eq_getElem?_getD, List.getElem?_eq_getElem hl]
  exact List.set_getElem_self _
theorem wr_wr {M : Mx} {n w i c : Nat} {u v : Int} (s : shM M n w) (h : i < n) : wrM (wrM M i c u) i c v = wrM M i c v := by
  have hl : i < M.length := by rw [s.1]; exact h
  unfold wrM
  rw [List.set_set]
  congr 1
  rw [List.getD_eq_getElem?_getD, List.getElem?_set_self hl]
  simp only [Option.getD_some, List.set_set]
theorem mx_ext {A B : Mx} {n w : Nat} (a : shM A n w) (b : shM B n w) (h : ∀ i c, i < n → c < w → rdM A i c = rdM B i c) : A = B := by
  refine List.ext_getElem (by rw [a.1, b.1]) fun i h1 h2 => ?_
  have hi : i < n := by rw [← a.1]; exact h1
  have e1 : A.getD i [] = A[i] := by rw [List.getD_eq_getElem?_getD, List.getElem?_eq_getElem h1]; rfl
  have e2 : B.getD i [] = B[i] := by rw [List.getD_eq_getElem?_getD, List.getElem?_eq_getElem h2]; rfl
  have r1 := a.row hi
  have r2 := b.row hi
  rw [e1] at r1
  rw [e2] at r2
  refine List.ext_getElem (by omega) fun c h3 h4 => ?_
  have := h i c hi (by omega)
  unfold rdM at this
  rw [e1, e2, List.getD_eq_getElem?_getD, List.getD_eq_getElem?_getD, List.getElem?_eq_getElem h3, List.getElem?_eq_getElem h4] at this
  exact this
theorem rd_out {M : Mx} {n w i c : Nat} (s : shM M n w) (h : ¬ (i < n ∧ c < w)) : rdM M i c = 0 := by
  unfold rdM
  by_cases hi : i < n
  · have := s.row hi
    rw [List.getD_eq_getElem?_getD (l := M.getD i []), List.getElem?_eq_none (by omega)]; rfl
  · have : M.getD i [] = [] := by rw [List.getD_eq_getElem?_getD, List.getElem?_eq_none (by rw [s.1]; omega)]; rfl
    rw [this]; rfl
end Go.Proofs.Ytkcogdmddhkldaa
