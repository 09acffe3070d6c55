/- The law SplitWhole: shares are the total, all together. -/
import Derived.Test.YtghdadniddoboaaEqSpWhole
import Derived.Test.YtghdadniddoboaaSpAwake
import Derived.Test.YtghdadniddoboaaSpNear
namespace Go.Proofs.Ytghdadniddoboaa
open Go Go.Sy Go.Value
set_option linter.unusedVariables false
set_option linter.unusedSimpArgs false

section
variable {K : Value → Heap → Prop} {h : Heap}
theorem whole_loop {q lp : Option Addr} {W L : List Int} {n qc lc : Nat} {t : Int} (IW : Ints .i64 h q W) (IL : Ints .i64 h lp L) (hW : W.length = n) (hL : L.length = n) (hn : n ≤ 1000) (hg : ∀ x ∈ L, 0 ≤ x ∧ x ≤ t) (hz : ∀ i (h1 : i < W.length), W[i] = 0 → L.getD i 0 = 0) (k : K (.bool true) h) :
    ∀ (m j : Nat), m + j = n → L_law02_SplitWhole_0 t q n qc lp n lc t 0 lp n lc (n : Int) (j : Int) h K := by
  intro m
  induction m with
  | zero =>
    intro j hj
    refine L_law02_SplitWhole_0r _ _ _ _ _ _ _ _ _ _ _ _ _ _ _ _ ?_
    unfold L_law02_SplitWhole_0T
    refine Br.no (by simp; omega) (Br.yes rfl (Br.yes (by simp) (Ret.mk ?_)))
    rw [show ((n : Int) == (n : Int)) = true by simp]; exact k
  | succ m ih =>
    intro j hj
    refine L_law02_SplitWhole_0r _ _ _ _ _ _ _ _ _ _ _ _ _ _ _ _ ?_
    unfold L_law02_SplitWhole_0T
    have xW : W[j]? = some W[j] := List.getElem?_eq_getElem (by omega)
    have xL : L[j]? = some L[j] := List.getElem?_eq_getElem (by omega)
    have g0 := hg L[j] (List.getElem_mem _)
    have z := hz j (by omega)
    have e : L.getD j 0 = L[j] := by rw [List.getD_eq_getElem?_getD, xL]; rfl
    rw [e] at z
    rw [wp1 (by omega)]
    generalize L[j] = x at *
    generalize W[j] = w at *
    have nx := ih (j + 1) (by omega)
    refine Br.yes (by simp; omega) (ix IL hL rfl xL (Br.no (by simp; omega) (Br.no (by simp; omega) (ix IW hW rfl xW (Br.intro (fun g => ?_) fun g => nx)))))
    have := z (by simpa using g)
    exact Br.no (by simp; omega) nx
end
theorem law02_SplitWhole_ok {t : Int} (ht : I64 t) {l : List Int} {p : Option Addr} {ln c : Nat} {h : Heap} (i : Ints .i64 h p l) (hn : l.length = ln) (hl : ln * 8 ≤ 140737488351232)
    (hI : allI64 l) : CallA Try.prog fn_law02_SplitWhole [int .i64 t, slice p ln c] h fun v h' => v = .bool true ∧ h.le h' := by
  refine F_law02_SplitWhole _ _ _ _ _ _ ?_
  unfold F_law02_SplitWholeT
  have fin : ∀ h', h.le h' → Ret h' (fun v h' => v = .bool true ∧ h.le h') (.bool true) := fun h' l => ⟨h', h'.le_refl, rfl, l⟩
  refine S_law02_awake fun h1 l1 => ⟨_, rfl, Br.no rfl (Br.dec (fun _ => fin _ l1) fun g => ?_)⟩
  refine S_Shares (i.le l1) hn (by omega) hI ht fun p' c' h2 l2 J => ⟨_, _, _, _, rfl, ?_⟩
  have l02 := Heap.le_trans l1 l2
  unfold sharesR at J ⊢
  split at J
  · rename_i g1; rw [if_pos g1]; exact Br.yes rfl (fin _ l02)
  rename_i g1
  rw [if_neg g1]
  split at J
  · rename_i g2; rw [if_pos g2]; exact Br.yes rfl (fin _ l02)
  rename_i g2
  rw [if_neg g2]
  split at J
  · rename_i g3; rw [if_pos g3]; exact Br.yes rfl (fin _ l02)
  rename_i g3
  rw [if_neg g3]
  split at J
  · rename_i g4; rw [if_pos g4]; exact Br.yes rfl (fin _ l02)
  rename_i g4
  rw [if_neg g4]
  split at J
  · rename_i g5; rw [if_pos g5]; exact Br.yes (by simpa using g5) (fin _ l02)
  rename_i g5
  rw [if_neg g5]
  have g3 : anyNeg l = false := by simpa using g3
  have hp := pos_of g3 (by simpa using g4)
  have hge := sharesL_ge (t := t) (by omega) hp.1 (geL_of g3)
  have hsum := sharesL_sum (t := t) hp.1 hp.2
  have hle := (sum_ge hge).2
  rw [hsum] at hle
  dsimp only at J ⊢
  refine Br.no rfl (S_Sum (by rw [sharesL_len]; omega) (fun x hx => by have := hge x hx; have := hle x hx; unfold I64 at ht ⊢; omega) h2 J _ ⟨_, _, rfl, ?_⟩)
  rw [hsum, fit_ok ht, sharesL_len, hn]
  exact whole_loop (K := fun v h' => v = .bool true ∧ h.le h') (i.le l02) J hn (by rw [sharesL_len, hn]) (by omega) (fun x hx => ⟨hge x hx, hle x hx⟩) (fun j hj e => share_zero hp.1 hp.2 hj e) ⟨rfl, l02⟩ ln 0 (by omega)
end Go.Proofs.Ytghdadniddoboaa
