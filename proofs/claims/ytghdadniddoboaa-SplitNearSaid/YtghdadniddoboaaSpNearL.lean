/- The law SplitNear: no share is one unit from its exact part; a greater weight has no lesser share. -/
import Derived.Test.YtghdadniddoboaaEqSpNear
import Derived.Test.YtghdadniddoboaaSpAwake
import Derived.Test.YtghdadniddoboaaSpNear
namespace Go.Proofs.Ytghdadniddoboaa
open Go Go.Sy Go.Value
set_option linter.unusedVariables false
set_option linter.unusedSimpArgs false

section
variable {K : Value → Heap → Prop} {h : Heap}
theorem near_1 {q lp : Option Addr} {W L : List Int} {n qc lc i : Nat} {t s w : Int} (IW : Ints .i64 h q W) (IL : Ints .i64 h lp L) (hW : W.length = n) (hL : L.length = n) (hn : n ≤ 1000) (hg : ∀ x ∈ L, 0 ≤ x) (hi : i < n) (hw : W[i]? = some w)
    (h1 : ∀ k x, W[k]? = some x → x < w → L.getD k 0 ≤ L.getD i 0) (h2 : ∀ k x, W[k]? = some x → w = x → L.getD i 0 - 1 ≤ L.getD k 0 ∧ (i < k → L.getD k 0 ≤ L.getD i 0))
    (hI : ∀ x ∈ L, x ≤ 9223372036854775807) (k : L_law02_SplitNear_0 t q n qc lp n lc s q n qc (n : Int) ((i + 1 : Nat) : Int) h K) :
    ∀ (m j : Nat), m + j = n → L_law02_SplitNear_1 t q n qc lp n lc s (i : Int) w q n qc (n : Int) (i : Int) q n qc (n : Int) (j : Int) h K := by
  intro m
  have xi : L[i]? = some (L.getD i 0) := by rw [List.getD_eq_getElem?_getD, List.getElem?_eq_getElem (by omega)]; rfl
  have gi := hg _ (List.mem_of_getElem? xi)
  have gI := hI _ (List.mem_of_getElem? xi)
  induction m with
  | zero =>
    intro j hj
    refine L_law02_SplitNear_1r _ _ _ _ _ _ _ _ _ _ _ _ _ _ _ _ _ _ _ _ _ _ ?_
    unfold L_law02_SplitNear_1T
    rw [wp1 (j := i) (by omega)]
    exact Br.no (by simp; omega) k
  | succ m ih =>
    intro j hj
    refine L_law02_SplitNear_1r _ _ _ _ _ _ _ _ _ _ _ _ _ _ _ _ _ _ _ _ _ _ ?_
    unfold L_law02_SplitNear_1T
    have xW : W[j]? = some W[j] := List.getElem?_eq_getElem (by omega)
    have xL : L[j]? = some (L.getD j 0) := by rw [List.getD_eq_getElem?_getD, List.getElem?_eq_getElem (by omega)]; rfl
    have a1 := h1 j _ xW
    have a2 := h2 j _ xW
    have nx := ih (j + 1) (by omega)
    rw [wp1 (j := j) (by omega)]
    have wr : IntKind.wrap .i64 (L.getD i 0 - 1) = L.getD i 0 - 1 := wrap_i64_id (by omega) (by omega)
    generalize W[j] = x at *
    have eqs : w = x → (0 : Int) ≤ (i : Int) ∧ (i : Int) < (n : Int) ∧ withAddr lp fun (b o : Nat) => ∃ (z : Int), Heap.cell h b (o + Int.toNat (i : Int)) = some (int IntKind.i64 z) ∧ (0 : Int) ≤ (j : Int) ∧ (j : Int) < (n : Int) ∧ withAddr lp fun (b o : Nat) => ∃ (z2 : Int),
        Heap.cell h b (o + Int.toNat (j : Int)) = some (int IntKind.i64 z2) ∧ Br (decide (IntKind.wrap IntKind.i64 (z - 1) > z2)) (Ret h K (Value.bool false)) (Br (decide ((i : Int) < (j : Int)))
          ((0 : Int) ≤ (i : Int) ∧ (i : Int) < (n : Int) ∧ withAddr lp fun (b o : Nat) => ∃ (z : Int), Heap.cell h b (o + Int.toNat (i : Int)) = some (int IntKind.i64 z) ∧ (0 : Int) ≤ (j : Int) ∧ (j : Int) < (n : Int) ∧ withAddr lp fun (b o : Nat) => ∃ (z2 : Int),
            Heap.cell h b (o + Int.toNat (j : Int)) = some (int IntKind.i64 z2) ∧ Br (decide (z < z2)) (Ret h K (Value.bool false)) (L_law02_SplitNear_1 t q n qc lp n lc s (i : Int) w q n qc (n : Int) (i : Int) q n qc (n : Int) ((j + 1 : Nat) : Int) h K))
          (L_law02_SplitNear_1 t q n qc lp n lc s (i : Int) w q n qc (n : Int) (i : Int) q n qc (n : Int) ((j + 1 : Nat) : Int) h K)) := by
      intro e
      have a := a2 e
      refine ix IL hL rfl xi (ix IL hL rfl xL (Br.no (decide_eq_false (by rw [wr]; omega)) (Br.dec (fun g => ?_) fun g => nx)))
      have a3 := a.2 (by omega)
      exact ix IL hL rfl xi (ix IL hL rfl xL (Br.no (decide_eq_false (by omega)) nx))
    refine Br.yes (by simp; omega) (ix IW hW rfl xW (Br.dec (fun g => ?_) fun g => Br.intro (fun g2 => eqs (by simpa using g2)) fun g2 => nx))
    have a := a1 (by omega)
    exact ix IL hL rfl xi (ix IL hL rfl xL (Br.no (decide_eq_false (by omega)) (Br.intro (fun g2 => eqs (by simpa using g2)) fun g2 => nx)))
theorem near_0 {q lp : Option Addr} {W L : List Int} {n qc lc : Nat} {t s : Int} (IW : Ints .i64 h q W) (IL : Ints .i64 h lp L) (hW : W.length = n) (hL : L.length = n) (hn : n ≤ 1000) (hg : ∀ x ∈ L, 0 ≤ x) (hI : ∀ x ∈ L, x ≤ 9223372036854775807)
    (ht : I64 t) (hs : I64 s) (hs1 : 1 ≤ s) (hIW : allI64 W) (hlo : ∀ i x, W[i]? = some x → I64 (t * x / s) ∧ I64 (-((-(t * x)) / s)) ∧ t * x / s ≤ L.getD i 0 ∧ L.getD i 0 ≤ -((-(t * x)) / s))
    (h1 : ∀ i k y x, W[i]? = some y → W[k]? = some x → x < y → L.getD k 0 ≤ L.getD i 0) (h2 : ∀ i k y x, W[i]? = some y → W[k]? = some x → y = x → L.getD i 0 - 1 ≤ L.getD k 0 ∧ (i < k → L.getD k 0 ≤ L.getD i 0)) (k : K (.bool true) h) :
    ∀ (m j : Nat), m + j = n → L_law02_SplitNear_0 t q n qc lp n lc s q n qc (n : Int) (j : Int) h K := by
  intro m
  induction m with
  | zero =>
    intro j hj
    refine L_law02_SplitNear_0r _ _ _ _ _ _ _ _ _ _ _ _ _ _ _ ?_
    unfold L_law02_SplitNear_0T
    exact Br.no (by simp; omega) (Ret.mk k)
  | succ m ih =>
    intro j hj
    refine L_law02_SplitNear_0r _ _ _ _ _ _ _ _ _ _ _ _ _ _ _ ?_
    unfold L_law02_SplitNear_0T
    have xW : W[j]? = some W[j] := List.getElem?_eq_getElem (by omega)
    have xL : L[j]? = some (L.getD j 0) := by rw [List.getD_eq_getElem?_getD, List.getElem?_eq_getElem (by omega)]; rfl
    have hw := hIW W[j] (List.getElem_mem _)
    obtain ⟨f1, f2, b1, b2⟩ := hlo j _ xW
    have nx := ih (j + 1) (by omega)
    have q1 := fun k x => h1 j k W[j] x xW
    have q2 := fun k x => h2 j k W[j] x xW
    generalize W[j] = w at *
    have m1 : md t w s false = (t * w / s, 0) := by unfold md; rw [if_neg (by omega)]; exact fit_ok f1
    have m2 : md t w s true = (-((-(t * w)) / s), 0) := by unfold md; rw [if_neg (by omega)]; exact fit_ok f2
    refine Br.yes (by simp; omega) (ix IW hW rfl xW (S_MulDiv ht hw hs false h _ ⟨_, _, rfl, S_MulDiv ht hw hs true h _ ⟨_, _, rfl, ?_⟩⟩))
    rw [m1, m2]
    refine Br.no rfl (Br.no rfl (ix IL hL rfl xL (Br.no (decide_eq_false (by omega)) (ix IL hL rfl xL (Br.no (decide_eq_false (by omega)) ?_)))))
    exact near_1 IW IL hW hL hn hg (by omega) xW (fun k x e => q1 k x e) (fun k x e => q2 k x e) hI nx n 0 (by omega)
end
theorem law02_SplitNear_ok {t : Int} (ht : I64 t) {l : List Int} {p : Option Addr} {ln c : Nat} {h : Heap} (i : Ints .i64 h p l) (hn : l.length = ln) (hl : ln * 8 ≤ 140737488351232)
    (hI : allI64 l) : CallA Try.prog fn_law02_SplitNear [int .i64 t, slice p ln c] h fun v h' => v = .bool true ∧ h.le h' := by
  refine F_law02_SplitNear _ _ _ _ _ _ ?_
  unfold F_law02_SplitNearT
  have fin : ∀ h', h.le h' → Ret h' (fun v h' => v = .bool true ∧ h.le h') (.bool true) := fun h' l => ⟨h', h'.le_refl, rfl, l⟩
  refine S_law02_awake fun h1 l1 => ⟨_, rfl, Br.no rfl (Br.dec (fun _ => fin _ l1) fun g => ?_)⟩
  refine S_Shares (i.le l1) hn (by omega) hI ht fun p' c' h2 l2 J => ⟨_, _, _, _, rfl, ?_⟩
  have l02 := Heap.le_trans l1 l2
  have ss := S_Sum (l := l) (by omega) hI (c := c) h2 (i.le l02)
  rw [hn] at ss
  refine ss _ ⟨_, _, rfl, ?_⟩
  have bad : ∀ (P : Prop), ((sharesR t l).2 != 0) = true → Br ((sharesR t l).2 != 0) (Ret h2 (fun v h' => v = .bool true ∧ h.le h') (.bool ((sharesR t l).2 != 0))) P := fun P e => by
    rw [e]; exact fin _ l02
  by_cases g1 : 64 < l.length
  · exact bad _ (by unfold sharesR; rw [if_pos g1]; rfl)
  by_cases g2 : t < 0
  · exact bad _ (by unfold sharesR; rw [if_neg g1, if_pos g2]; rfl)
  by_cases g3 : anyNeg l = true
  · exact bad _ (by unfold sharesR; rw [if_neg g1, if_neg g2, if_pos g3]; rfl)
  by_cases g4 : anyPos l = false
  · exact bad _ (by unfold sharesR; rw [if_neg g1, if_neg g2, if_neg g3, if_pos g4]; rfl)
  by_cases g5 : (fit (sumL l)).2 ≠ 0
  · exact bad _ (by unfold sharesR; rw [if_neg g1, if_neg g2, if_neg g3, if_neg g4, if_pos g5]; simpa using g5)
  have e : sharesR t l = (sharesL t l, 0) := by unfold sharesR; rw [if_neg g1, if_neg g2, if_neg g3, if_neg g4, if_neg g5]
  rw [e] at J ⊢
  have g3 : anyNeg l = false := by simpa using g3
  have hp := pos_of g3 (by simpa using g4)
  have hge := sharesL_ge (t := t) (by omega) hp.1 (geL_of g3)
  have hsum := sharesL_sum (t := t) hp.1 hp.2
  have hle := (sum_ge hge).2
  rw [hsum] at hle
  have hfit : I64 (sumL l) := Classical.byContradiction fun g => by rw [fit_over g] at g5; simp at g5
  have gt : ∀ {i : Nat} {x : Int}, l[i]? = some x → ∃ hi : i < l.length, l[i] = x := fun e => by
    obtain ⟨h1, h2⟩ := List.getElem?_eq_some_iff.1 e; exact ⟨h1, h2⟩
  rw [fit_ok hfit]
  dsimp only at J ⊢
  rw [sharesL_len, hn]
  unfold I64 at ht
  refine Br.no rfl (Br.no rfl (Br.no (by simp) ?_))
  refine near_0 (K := fun v h' => v = .bool true ∧ h.le h') (i.le l02) J hn (by rw [sharesL_len, hn]) (by omega) (fun x hx => hge x hx) (fun x hx => by have := hle x hx; omega) ht hfit (by omega) hI (fun j x ex => ?_) (fun j k y x ey ex hxy => ?_) (fun j k y x ey ex hxy => ?_) ⟨rfl, l02⟩ ln 0 (by omega)
  · obtain ⟨hj, rfl⟩ := gt ex
    have nr := share_near (t := t) hp.1 hp.2 hj
    have hw := (sum_ge (geL_of g3)).2 _ (List.getElem_mem hj)
    have hw0 := geL_of g3 _ (List.getElem_mem hj)
    have b0 : 0 ≤ t * l[j] / sumL l := Int.ediv_nonneg (Int.mul_nonneg (by omega) hw0) (by omega)
    have b1 : -((-(t * l[j])) / sumL l) ≤ t := by
      have h3 : t * l[j] ≤ t * sumL l := Int.mul_le_mul_of_nonneg_left hw (by omega)
      have h4 : (-t) ≤ (-(t * l[j])) / sumL l := by
        rw [Int.le_ediv_iff_mul_le hp.1, Int.neg_mul]; omega
      omega
    exact ⟨by unfold I64; omega, by unfold I64; omega, nr.1, nr.2⟩
  · obtain ⟨hj, rfl⟩ := gt ey
    obtain ⟨hk, rfl⟩ := gt ex
    exact share_le (by omega) hp.1 (geL_of g3) hp.2 hj hk hxy
  · obtain ⟨hj, rfl⟩ := gt ey
    obtain ⟨hk, rfl⟩ := gt ex
    exact share_eq hj hk hxy
end Go.Proofs.Ytghdadniddoboaa
