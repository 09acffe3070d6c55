/- The law SplitFills: what is filled in is the total less what is left. -/
import Derived.Test.YtghdadniddoboaaEqSpLaw
import Derived.Test.YtghdadniddoboaaSpAwake
namespace Go.Proofs.Ytghdadniddoboaa
open Go Go.Sy Go.Value
set_option linter.unusedVariables false
set_option linter.unusedSimpArgs false

theorem chain_ok : ∀ (l : List Int) (a : Int), geL l → 0 ≤ a → a + sumL l ≤ 9223372036854775807 → chainL a l = (a + sumL l, 0)
  | [], a, _, _, _ => by simp [chainL, sumL]
  | x :: l, a, hl, ha, hs => by
    have hx := hl x (List.mem_cons_self ..)
    have hg : geL l := fun y hy => hl y (List.mem_cons_of_mem _ hy)
    have := (sum_ge hg).1
    simp only [sumL] at hs ⊢
    rw [chainL, if_pos (by omega), chain_ok l (a + x) hg (by omega) (by omega)]
    congr 1; omega
theorem fillS_facts : ∀ (rs : List Int) (t : Int), geL rs → 0 ≤ t → geL (fillS rs t).1 ∧ 0 ≤ (fillS rs t).2 ∧ sumL (fillS rs t).1 + (fillS rs t).2 = t
  | [], t, _, ht => by simp [fillS, sumL, geL]; exact ht
  | r :: rs, t, hr, ht => by
    have h0 := hr r (List.mem_cons_self ..)
    have hv : 0 ≤ (if t < r then t else r) ∧ (if t < r then t else r) ≤ t := by split <;> omega
    rw [fillS]
    generalize (if t < r then t else r) = v at *
    have ih := fillS_facts rs (t - v) (fun y hy => hr y (List.mem_cons_of_mem _ hy)) (by omega)
    refine ⟨fun x hx => ?_, ih.2.1, by simp only [sumL]; omega⟩
    rcases List.mem_cons.1 hx with rfl | hx
    · exact hv.1
    · exact ih.1 x hx
section
variable {K : Value → Heap → Prop} {h : Heap}
theorem fills_loop {q lp : Option Addr} {R L : List Int} {n qc lc : Nat} {left : Int} (IR : Ints .i64 h q R) (IL : Ints .i64 h lp L) (hR : R.length = n) (hL : L.length = n) (hn : n ≤ 1000) (hg : geL R) (k : K (.bool true) h) :
    ∀ (m j : Nat) (t : Int) (full : Bool), m + j = n → 0 ≤ t → L.drop j = (fillS (R.drop j) t).1 → left = (fillS (R.drop j) t).2 → (full = false → t = 0) →
    L_law02_SplitFills_0 q n qc left full lp n lc (n : Int) (j : Int) h K := by
  intro m
  induction m with
  | zero =>
    intro j t full hj ht e1 e2 hf
    refine L_law02_SplitFills_0r _ _ _ _ _ _ _ _ _ _ _ _ ?_
    unfold L_law02_SplitFills_0T
    rw [List.drop_eq_nil_of_le (by omega : R.length ≤ j)] at e2
    have e2 : left = t := e2
    refine Br.no (by simp; omega) (Br.intro (fun _ => Ret.mk k) fun g => ?_)
    cases full with
    | true => exact Ret.mk k
    | false => rw [e2, hf rfl] at g; cases g
  | succ m ih =>
    intro j t full hj ht e1 e2 hf
    refine L_law02_SplitFills_0r _ _ _ _ _ _ _ _ _ _ _ _ ?_
    unfold L_law02_SplitFills_0T
    have xR : R[j]? = some R[j] := List.getElem?_eq_getElem (by omega)
    have xL : L[j]? = some L[j] := List.getElem?_eq_getElem (by omega)
    have g0 := hg R[j] (List.getElem_mem _)
    rw [List.drop_eq_getElem_cons (by omega : j < R.length), fillS] at e1 e2
    rw [List.drop_eq_getElem_cons (by omega : j < L.length)] at e1
    have e3 := (List.cons.inj e1).1
    have e4 := (List.cons.inj e1).2
    have hv : 0 ≤ (if t < R[j] then t else R[j]) ∧ (if t < R[j] then t else R[j]) ≤ t ∧ (if t < R[j] then t else R[j]) ≤ R[j] ∧ ((if t < R[j] then t else R[j]) ≠ R[j] → t - (if t < R[j] then t else R[j]) = 0) := by split <;> omega
    rw [← e3] at e2 e4 hv
    have w1 : IntKind.wrap .i64 ((j : Int) + 1) = ((j + 1 : Nat) : Int) := wp1 (by omega)
    rw [w1]
    generalize R[j] = r at *
    generalize L[j] = x at *
    have nx := fun full' => ih (j + 1) (t - x) full' (by omega) (by omega) e4 e2
    have fb : (full = true → ((x == r) = false → t - x = 0)) ∧ (full = false → t - x = 0) := by
      refine ⟨fun _ g => hv.2.2.2 (by simpa using g), fun g => by have := hf g; omega⟩
    refine Br.yes (by simp; omega) (ix IL hL rfl xL (Br.no (by simp; omega) (ix IR hR rfl xR (Br.no (by simp; omega) (Br.intro (fun g => ?_) fun g => ?_)))))
    · cases full with
      | false => have := hf rfl; have g : x > 0 := by simpa using g
                 omega
      | true => exact Br.no rfl (Br.yes rfl (ix IR hR rfl xR (nx _ (fb.1 rfl))))
    · cases full with
      | false => exact Br.no rfl (nx _ fun _ => fb.2 rfl)
      | true => exact Br.yes rfl (ix IR hR rfl xR (nx _ (fb.1 rfl)))
end
theorem law02_SplitFills_ok {t : Int} (ht : I64 t) {l : List Int} {p : Option Addr} {ln c : Nat} {h : Heap} (i : Ints .i64 h p l) (hn : l.length = ln) (hl : ln * 8 ≤ 140737488351232)
    (hI : allI64 l) : CallA Try.prog fn_law02_SplitFills [int .i64 t, slice p ln c] h fun v h' => v = .bool true ∧ h.le h' := by
  refine F_law02_SplitFills _ _ _ _ _ _ ?_
  unfold F_law02_SplitFillsT
  have fin : ∀ h', h.le h' → Ret h' (fun v h' => v = .bool true ∧ h.le h') (.bool true) := fun h' l => ⟨h', h'.le_refl, rfl, l⟩
  refine S_law02_awake fun h1 l1 => ⟨_, rfl, Br.no rfl (Br.dec (fun _ => fin _ l1) fun g => ?_)⟩
  refine S_FillS (i.le l1) hn (by omega) hI ht fun p' c' h2 l2 J => ⟨_, _, _, _, _, rfl, ?_⟩
  have l02 := Heap.le_trans l1 l2
  unfold fillR at J ⊢
  split at J
  · rename_i g1; rw [if_pos g1]; exact Br.yes rfl (Br.yes rfl (fin _ l02))
  rename_i g1
  rw [if_neg g1]
  split at J
  · rename_i g2; rw [if_pos g2]; exact Br.yes rfl (Br.yes rfl (fin _ l02))
  rename_i g2
  rw [if_neg g2]
  split at J
  · rename_i g3; rw [if_pos g3]; exact Br.yes rfl (Br.yes rfl (fin _ l02))
  rename_i g3
  rw [if_neg g3]
  have hg : geL l := geL_of (by simpa using g3)
  have ff := fillS_facts l t hg (by omega)
  have hlen := fillS_len l t
  dsimp only at J ⊢
  have hI2 : allI64 (fillS l t).1 := fun x hx => by
    have := ff.1 x hx
    have h2 := (sum_ge ff.1).2 x hx
    unfold I64 at ht ⊢
    omega
  have hleft : I64 (fillS l t).2 := by
    have := (sum_ge ff.1).1
    unfold I64 at ht ⊢
    omega
  refine Br.no rfl (S_Chain (by omega) hI2 hleft h2 J _ ⟨_, _, rfl, ?_⟩)
  rw [chain_ok _ _ ff.1 ff.2.1 (by unfold I64 at ht; omega)]
  refine Br.no rfl (Br.no (by simp; omega) (Br.no (by simp; omega) (Br.no (by simp; omega) ?_)))
  rw [hlen, hn]
  exact fills_loop (K := fun v h' => v = .bool true ∧ h.le h') (i.le l02) J hn (by omega) (by omega) hg ⟨rfl, l02⟩ ln 0 t true (by omega) (by omega) rfl rfl fun e => by cases e
end Go.Proofs.Ytghdadniddoboaa
