/- Shares, plainly: who gets one more, and how near a share is. -/
import Derived.Test.YtghdadniddoboaaSpPure
namespace Go.Proofs.Ytghdadniddoboaa
open Go Go.Sy Go.Value
set_option linter.unusedVariables false
set_option linter.unusedSimpArgs false

theorem getD_set (l : List Int) (i k : Nat) (v : Int) (hi : i < l.length) : (l.set i v).getD k 0 = if i = k then v else l.getD k 0 := by
  rw [List.getD_eq_getElem?_getD, List.getD_eq_getElem?_getD, List.getElem?_set]
  by_cases e : i = k
  · subst e; simp [hi]
  · simp [e]
theorem bump_get : ∀ (who l : List Int) (i : Nat), (∀ x ∈ who, 0 ≤ x ∧ x < (l.length : Int)) → who.Nodup → (bump l who).getD i 0 = l.getD i 0 + if (i : Int) ∈ who then 1 else 0
  | [], l, i, _, _ => by simp [bump]
  | w :: who, l, i, h, nd => by
    have h1 := h w (List.mem_cons_self ..)
    rw [List.nodup_cons] at nd
    have ih := bump_get who (bump1 l w) i (fun x hx => by rw [bump1_len]; exact h x (List.mem_cons_of_mem _ hx)) nd.2
    rw [bump, List.foldl_cons]
    rw [bump] at ih
    rw [ih]
    unfold bump1
    rw [getD_set _ _ _ _ (by omega)]
    by_cases e : w.toNat = i
    · have e2 : w = (i : Int) := by omega
      subst e2
      rw [if_neg nd.1, if_pos (by omega), if_pos (List.mem_cons_self ..)]
      rw [Int.toNat_natCast]; omega
    · have e2 : (i : Int) ≠ w := by omega
      rw [if_neg e]
      by_cases hm : (i : Int) ∈ who
      · rw [if_pos hm, if_pos (List.mem_cons_of_mem _ hm)]
      · rw [if_neg hm, if_neg (by rw [List.mem_cons]; exact fun x => x.elim e2 hm)]
theorem upTo_nodup (n : Nat) : (upTo n).Nodup := by
  induction n with
  | zero => exact List.Pairwise.nil
  | succ n ih =>
    rw [upTo_succ, List.nodup_append]
    refine ⟨ih, by simp, fun a ha b hb => ?_⟩
    rw [upTo_mem] at ha
    simp at hb
    omega
theorem ordL_nodup (left : List Int) (n : Nat) : (ordL left n).Nodup := (ordL_perm left n).nodup_iff.2 (upTo_nodup n)
theorem ordL_mem {left : List Int} {n : Nat} {x : Int} : x ∈ ordL left n ↔ 0 ≤ x ∧ x < (n : Int) := by rw [(ordL_perm left n).mem_iff, upTo_mem]
/-- those that get one more -/
def more (t : Int) (ws : List Int) : List Int := (ordL (restL t (sumL ws) ws) ws.length).take (t - sumL (baseL t (sumL ws) ws)).toNat
theorem more_mem {t : Int} {ws : List Int} {x : Int} (h : x ∈ more t ws) : 0 ≤ x ∧ x < (ws.length : Int) := ordL_mem.1 (List.mem_of_mem_take h)
theorem more_down {t : Int} {ws : List Int} {i k : Int} (hi : 0 ≤ i ∧ i < (ws.length : Int)) (hk : k ∈ more t ws) (hl : ltO (restL t (sumL ws) ws) i k = true) : i ∈ more t ws := by
  unfold more at *
  have hs := ordL_sorted (restL t (sumL ws) ws) ws.length
  have hm : i ∈ ordL (restL t (sumL ws) ws) ws.length := ordL_mem.2 hi
  generalize ordL (restL t (sumL ws) ws) ws.length = o at *
  generalize (t - sumL (baseL t (sumL ws) ws)).toNat = m at *
  rw [← List.take_append_drop m o] at hm hs
  rcases List.mem_append.1 hm with h | h
  · exact h
  · rw [List.pairwise_append] at hs
    rw [hs.2.2 k hk i h] at hl
    cases hl
theorem sumL_perm {l m : List Int} (h : l.Perm m) : sumL l = sumL m := by
  induction h with
  | nil => rfl
  | cons x _ ih => simp only [sumL, ih]
  | swap x y l => simp only [sumL]; omega
  | trans _ _ h1 h2 => exact h1.trans h2
theorem upTo_map : ∀ (l : List Int), (upTo l.length).map (fun x => l.getD x.toNat 0) = l := by
  intro l
  refine List.ext_getElem (by rw [List.length_map, upTo_len]) fun i h1 h2 => ?_
  rw [List.getElem_map]
  have : (upTo l.length)[i]'(by rw [List.length_map] at h1; exact h1) = (i : Int) := by simp [upTo]
  rw [this, Int.toNat_natCast, List.getD_eq_getElem?_getD, List.getElem?_eq_getElem h2]; rfl
theorem sum_zero : ∀ {l : List Int}, (∀ x ∈ l, x = 0) → sumL l = 0
  | [], _ => rfl
  | x :: l, h => by
    simp only [sumL]
    rw [h x (List.mem_cons_self ..), sum_zero fun y hy => h y (List.mem_cons_of_mem _ hy)]; rfl
/-- who gets one more has something left over -/
theorem more_pos {t : Int} {ws : List Int} (hs : 0 < sumL ws) (hne : ws ≠ []) {k : Int} (hk : k ∈ more t ws) : 0 < (restL t (sumL ws) ws).getD k.toNat 0 := by
  have hrange := rest_range (t := t) (ws := ws) hs
  have hsum := parts_sum t (sumL ws) ws
  have hmis := missing_range (t := t) hs hne
  have hlen := restL_len t (sumL ws) ws
  have hk2 := more_mem hk
  unfold more at hk
  have hsort := ordL_sorted (restL t (sumL ws) ws) ws.length
  have hperm := sumL_perm ((ordL_perm (restL t (sumL ws) ws) ws.length).map fun x => (restL t (sumL ws) ws).getD x.toNat 0)
  have hup := upTo_map (restL t (sumL ws) ws)
  rw [hlen] at hup
  rw [hup] at hperm
  have hmem : ∀ x ∈ ordL (restL t (sumL ws) ws) ws.length, 0 ≤ x ∧ x < (ws.length : Int) := fun x hx => ordL_mem.1 hx
  generalize ordL (restL t (sumL ws) ws) ws.length = o at *
  generalize hR : restL t (sumL ws) ws = R at *
  generalize hB : sumL (baseL t (sumL ws) ws) = b at *
  have hS : (t - b) * sumL ws = sumL R := by rw [Int.sub_mul]; omega
  generalize sumL ws = s at *
  have inR : ∀ x : Int, 0 ≤ x ∧ x < (ws.length : Int) → 0 ≤ R.getD x.toNat 0 ∧ R.getD x.toNat 0 < s := fun x hx => by
    refine hrange _ ?_
    rw [List.getD_eq_getElem?_getD, List.getElem?_eq_getElem (by omega)]
    exact List.getElem_mem _
  refine Classical.byContradiction fun hc => ?_
  have hz : R.getD k.toNat 0 = 0 := by have := (inR k hk2).1; omega
  obtain ⟨x, y, e⟩ := List.append_of_mem hk
  have hx : x.length + 1 ≤ (t - b).toNat := by
    have := congrArg List.length e
    rw [List.length_take, List.length_append, List.length_cons] at this
    omega
  have eo : o = x ++ k :: (y ++ o.drop (t - b).toNat) := by
    have := List.take_append_drop (t - b).toNat o
    rw [e] at this
    rw [← List.cons_append, ← List.append_assoc]; exact this.symm
  have hmem2 : ∀ z ∈ x, 0 ≤ z ∧ z < (ws.length : Int) := fun z hz => hmem z (by rw [eo]; exact List.mem_append_left _ hz)
  rw [eo] at hsort hperm
  have hmem3 : ∀ z ∈ y ++ o.drop (t - b).toNat, 0 ≤ z ∧ z < (ws.length : Int) := fun z hz => hmem z (by rw [eo]; exact List.mem_append_right _ (List.mem_cons_of_mem _ hz))
  rw [List.pairwise_append, List.pairwise_cons] at hsort
  have z2 : sumL ((y ++ o.drop (t - b).toNat).map fun x => R.getD x.toNat 0) = 0 := sum_zero fun v hv => by
    rw [List.mem_map] at hv
    obtain ⟨z, hz1, rfl⟩ := hv
    have := hsort.2.1.1 z hz1
    rw [ltO_no] at this
    have g := inR z (hmem3 z hz1)
    omega
  rw [List.map_append, List.map_cons, sumL_append, sumL, z2, hz] at hperm
  have z3 := sum_lt (s := s) (l := x.map fun x => R.getD x.toNat 0) fun v hv => by
    rw [List.mem_map] at hv
    obtain ⟨z, hz1, rfl⟩ := hv
    exact inR z (hmem2 z hz1)
  rw [List.length_map] at z3
  have h5 : ((x.length : Int) + 1) * s ≤ (t - b) * s := Int.mul_le_mul_of_nonneg_right (by omega) (by omega)
  rw [Int.add_mul] at h5
  omega
/-- a share -/
theorem share_get {t : Int} {ws : List Int} {i : Nat} (hi : i < ws.length) : (sharesL t ws).getD i 0 = t * ws[i] / sumL ws + if (i : Int) ∈ more t ws then 1 else 0 := by
  unfold sharesL
  rw [bump_get]
  · have : (baseL t (sumL ws) ws).getD i 0 = t * ws[i] / sumL ws := by
      rw [List.getD_eq_getElem?_getD, List.getElem?_eq_getElem (by rw [baseL_len]; exact hi)]
      simp [baseL]
    rw [this]; rfl
  · intro x hx; rw [baseL_len]; exact ordL_mem.1 (List.mem_of_mem_take hx)
  · exact (ordL_nodup _ _).sublist (List.take_sublist _ _)
theorem rest_get {t : Int} {ws : List Int} {i : Nat} (hi : i < ws.length) : (restL t (sumL ws) ws).getD i 0 = t * ws[i] % sumL ws := by
  rw [List.getD_eq_getElem?_getD, List.getElem?_eq_getElem (by rw [restL_len]; exact hi)]
  simp [restL]
theorem share_zero {t : Int} {ws : List Int} (hs : 0 < sumL ws) (hne : ws ≠ []) {i : Nat} (hi : i < ws.length) (h : ws[i] = 0) : (sharesL t ws).getD i 0 = 0 := by
  rw [share_get hi, h]
  have : (i : Int) ∉ more t ws := fun hm => by
    have := more_pos hs hne hm
    rw [Int.toNat_natCast, rest_get hi, h] at this
    simp at this
  rw [if_neg this]; simp
theorem share_near {t : Int} {ws : List Int} (hs : 0 < sumL ws) (hne : ws ≠ []) {i : Nat} (hi : i < ws.length) :
    t * ws[i] / sumL ws ≤ (sharesL t ws).getD i 0 ∧ (sharesL t ws).getD i 0 ≤ -((-(t * ws[i])) / sumL ws) := by
  rw [share_get hi]
  by_cases hm : (i : Int) ∈ more t ws
  · rw [if_pos hm]
    have := more_pos hs hne hm
    rw [Int.toNat_natCast, rest_get hi] at this
    generalize t * ws[i] = x at *
    generalize sumL ws = s at *
    have e := Int.mul_ediv_add_emod x s
    have l : -x < s * (-(x / s)) := by rw [Int.mul_neg]; omega
    have l2 := Int.ediv_lt_of_lt_mul hs (show -x < (-(x / s)) * s by rw [Int.mul_comm]; exact l)
    omega
  · rw [if_neg hm]
    generalize t * ws[i] = x at *
    generalize sumL ws = s at *
    have e := Int.mul_ediv_add_emod x s
    have h0 := Int.emod_nonneg x (show s ≠ 0 by omega)
    have l : -x ≤ (-(x / s)) * s := by rw [Int.mul_comm, Int.mul_neg]; omega
    have l2 := Int.ediv_le_of_le_mul hs l
    omega
theorem share_le {t : Int} (ht : 0 ≤ t) {ws : List Int} (hs : 0 < sumL ws) (hw : geL ws) (hne : ws ≠ []) {i k : Nat} (hi : i < ws.length) (hk : k < ws.length) (h : ws[k] < ws[i]) : (sharesL t ws).getD k 0 ≤ (sharesL t ws).getD i 0 := by
  rw [share_get hi, share_get hk]
  have h1 : t * ws[k] ≤ t * ws[i] := Int.mul_le_mul_of_nonneg_left (by omega) ht
  have h2 := Int.ediv_le_ediv hs h1
  by_cases hm : (k : Int) ∈ more t ws
  · by_cases hm2 : (i : Int) ∈ more t ws
    · rw [if_pos hm, if_pos hm2]; omega
    · rw [if_pos hm, if_neg hm2]
      rcases Int.lt_or_le (t * ws[k] / sumL ws) (t * ws[i] / sumL ws) with h3 | h3
      · omega
      · exfalso
        have e1 := Int.mul_ediv_add_emod (t * ws[k]) (sumL ws)
        have e2 := Int.mul_ediv_add_emod (t * ws[i]) (sumL ws)
        have e3 : t * ws[k] / sumL ws = t * ws[i] / sumL ws := by omega
        rw [e3] at e1
        have hp := more_pos hs hne hm
        rw [Int.toNat_natCast, rest_get hk] at hp
        have ht0 : 0 < t := by
          rcases Int.lt_or_le 0 t with g | g
          · exact g
          · have : t = 0 := by omega
            rw [this] at hp; simp at hp
        have h4 : t * ws[k] < t * ws[i] := Int.mul_lt_mul_of_pos_left h ht0
        refine hm2 (more_down ⟨by omega, by omega⟩ hm ?_)
        rw [ltO_iff, Int.toNat_natCast, Int.toNat_natCast, rest_get hi, rest_get hk]
        left; omega
  · rw [if_neg hm]; split <;> omega
theorem share_eq {t : Int} {ws : List Int} {i k : Nat} (hi : i < ws.length) (hk : k < ws.length) (h : ws[i] = ws[k]) : (sharesL t ws).getD i 0 - 1 ≤ (sharesL t ws).getD k 0 ∧ (i < k → (sharesL t ws).getD k 0 ≤ (sharesL t ws).getD i 0) := by
  rw [share_get hi, share_get hk, h]
  refine ⟨by split <;> split <;> omega, fun hik => ?_⟩
  by_cases hm : (k : Int) ∈ more t ws
  · have : (i : Int) ∈ more t ws := by
      refine more_down ⟨by omega, by omega⟩ hm ?_
      rw [ltO_iff, Int.toNat_natCast, Int.toNat_natCast, rest_get hi, rest_get hk, h]
      right; omega
    rw [if_pos hm, if_pos this]; omega
  · rw [if_neg hm]; split <;> omega
end Go.Proofs.Ytghdadniddoboaa
