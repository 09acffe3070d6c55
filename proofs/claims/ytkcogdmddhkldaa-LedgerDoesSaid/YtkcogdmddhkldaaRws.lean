/- Rows of whole numbers in memory, each in a block of its own, behind a slice. -/
import Derived.Test.YtkcogdmddhkldaaMat
import Derived.Test.YtkcogdmddhkldaaGen
namespace Go.Proofs.Ytkcogdmddhkldaa
open Go Go.Sy Go.Value
set_option linter.unusedVariables false
set_option linter.unusedSimpArgs false

structure Rws where
  a : Option Addr
  C : Nat
  sp : List Value
  R : Nat → Nat
  CC : Nat → Nat
  SP : Nat → List Value
def slV (R CC : Nat → Nat) (w n : Nat) : List Value := (List.range n).map fun i => .slice (some ⟨R i, 0, none⟩) w (CC i)
theorem slV_len (R CC : Nat → Nat) (w n : Nat) : (slV R CC w n).length = n := by unfold slV; rw [List.length_map, List.length_range]
theorem slV_get (R CC : Nat → Nat) (w : Nat) {n i : Nat} (h : i < n) : (slV R CC w n)[i]? = some (.slice (some ⟨R i, 0, none⟩) w (CC i)) := by unfold slV; rw [List.getElem?_map, List.getElem?_range h]; rfl
theorem slV_succ {R CC R' CC' : Nat → Nat} {w n : Nat} (h : ∀ i, i < n → R' i = R i ∧ CC' i = CC i) : slV R' CC' w (n + 1) = slV R CC w n ++ [.slice (some ⟨R' n, 0, none⟩) w (CC' n)] := by
  unfold slV
  rw [List.range_succ, List.map_append]
  congr 1
  refine List.map_congr_left fun i hi => ?_
  obtain ⟨h1, h2⟩ := h i (List.mem_range.1 hi)
  rw [h1, h2]
structure RwsAt (h : Heap) (f : Rws) (M : Mx) (w : Nat) : Prop where
  pr : M.length = 0 ∨ ∃ B, f.a = some ⟨B, 0, none⟩ ∧ At h B (slV f.R f.CC w M.length ++ f.sp)
  nb : ∀ B, f.a = some ⟨B, 0, none⟩ → ∀ i, i < M.length → f.R i ≠ B
  row : ∀ i, i < M.length → At h (f.R i) (intsV .i64 (M.getD i []) ++ f.SP i)
  inj : ∀ i j, i < M.length → j < M.length → f.R i = f.R j → i = j
  sh : shM M M.length w
/-- where they lie -/
def Rws.D (f : Rws) (n x : Nat) : Bool := (decide (0 < n) && (match f.a with | some ⟨B, 0, Option.none⟩ => B == x | _ => false)) || (List.range n).any fun i => f.R i == x
theorem Rws.D_t {f : Rws} {n x : Nat} (h : f.D n x = true) : (0 < n ∧ f.a = some ⟨x, 0, none⟩) ∨ ∃ i, i < n ∧ f.R i = x := by
  unfold Rws.D at h
  rw [Bool.or_eq_true, Bool.and_eq_true, List.any_eq_true] at h
  rcases h with ⟨h1, h2⟩ | ⟨i, hi, h⟩
  · split at h2
    · rename_i B e
      have : B = x := by simpa using h2
      exact .inl ⟨by simpa using h1, by rw [e, this]⟩
    · cases h2
  · exact .inr ⟨i, List.mem_range.1 hi, by simpa using h⟩
theorem Rws.D_row (f : Rws) {n i : Nat} (hi : i < n) : f.D n (f.R i) = true := by
  unfold Rws.D
  rw [Bool.or_eq_true, List.any_eq_true]
  exact .inr ⟨i, List.mem_range.2 hi, by simp⟩
theorem Rws.D_a {f : Rws} {n B : Nat} (h0 : 0 < n) (e : f.a = some ⟨B, 0, none⟩) : f.D n B = true := by
  unfold Rws.D
  rw [e]; simp [h0]
section
variable {h h0 : Heap} {f : Rws} {M : Mx} {w : Nat}
theorem RwsAt.mv {h' : Heap} (A : RwsAt h f M w) (k : ∀ b xs, f.D M.length b = true → At h b xs → At h' b xs) : RwsAt h' f M w := by
  refine { A with pr := ?_, row := fun i hi => k _ _ (f.D_row hi) (A.row i hi) }
  rcases A.pr with e | ⟨B, e, a⟩
  · exact .inl e
  · by_cases h0 : 0 < M.length
    · exact .inr ⟨B, e, k _ _ (Rws.D_a h0 e) a⟩
    · exact .inl (by omega)
theorem RwsAt.le {h' : Heap} (A : RwsAt h f M w) (l : h.le h') : RwsAt h' f M w := A.mv fun b xs _ a => a.le l
theorem RwsAt.at (A : RwsAt h f M w) {x : Nat} (e : f.D M.length x = true) : ∃ xs, At h x xs := by
  rcases Rws.D_t e with ⟨h0, e2⟩ | ⟨i, hi, rfl⟩
  · rcases A.pr with e3 | ⟨B, e3, a⟩
    · omega
    · rw [e2] at e3; cases e3; exact ⟨_, a⟩
  · exact ⟨_, A.row i hi⟩
theorem RwsAt.fresh (A : RwsAt h f M w) {x : Nat} (e : h x = none) : f.D M.length x = false := by
  cases hd : f.D M.length x with
  | false => rfl
  | true => obtain ⟨xs, a⟩ := A.at hd; exact (a.ne e rfl).elim
theorem RwsAt.cl (A : RwsAt h f M w) {i : Nat} (hi : i < M.length) : ∃ B, f.a = some ⟨B, 0, none⟩ ∧ h.cell B (0 + i) = some (.slice (some ⟨f.R i, 0, none⟩) w (f.CC i)) := by
  obtain ⟨B, e, a⟩ := A.pr.resolve_left (by omega)
  exact ⟨B, e, a.cell (by rw [Nat.zero_add, List.getElem?_append_left (by rw [slV_len]; exact hi), slV_get _ _ _ hi])⟩
theorem RwsAt.amt (A : RwsAt h f M w) {i c : Nat} (hi : i < M.length) (hc : c < w) : h.cell (f.R i) (0 + c) = some (.int .i64 (rdM M i c)) := by
  refine (A.row i hi).cell ?_
  have hl := A.sh.row hi
  rw [Nat.zero_add, List.getElem?_append_left (by rw [intsV_length]; omega), intsV_map, List.getElem?_map, List.getElem?_eq_getElem (by omega)]
  unfold rdM
  simp only [Option.map_some]
  congr 2
  rw [List.getD_eq_getElem?_getD (l := M.getD i []), List.getElem?_eq_getElem (by omega)]; rfl
theorem RwsAt.st (A : RwsAt h f M w) {i c : Nat} (hi : i < M.length) (hc : c < w) : h.canSt (f.R i) (0 + c) 1 := (A.row i hi).canSt (by rw [List.length_append, intsV_length, A.sh.row hi]; omega)
theorem setL_ints' {l : List Int} {sp : List Value} {c : Nat} {v : Int} (h : c < l.length) : setL (intsV .i64 l ++ sp) c [.int .i64 v] = intsV .i64 (l.set c v) ++ sp := by
  rw [setL, setL, setT_eq, List.set_append_left _ _ (by rw [intsV_length]; omega), intsV_map, intsV_map, List.map_set]
theorem RwsAt.wr (A : RwsAt h f M w) {i c : Nat} {v : Int} (hi : i < M.length) (hc : c < w) : RwsAt (h.setN (f.R i) (0 + c) [.int .i64 v]) f (wrM M i c v) w := by
  have hl : (wrM M i c v).length = M.length := (A.sh.wr hi).1
  have hrow := A.sh.row hi
  refine ⟨?_, ?_, ?_, ?_, ?_⟩
  · obtain ⟨B, e, a⟩ := A.pr.resolve_left (by omega)
    rw [hl]
    exact .inr ⟨B, e, a.set_ne (fun x => A.nb B e i hi x.symm)⟩
  · rw [hl]; exact A.nb
  · rw [hl]
    intro j hj
    by_cases e : j = i
    · subst e
      have := (A.row j hj).set (o := 0 + c) (ws := [.int .i64 v])
      rw [Nat.zero_add, setL_ints' (by omega)] at this
      have eg : (wrM M j c v).getD j [] = (M.getD j []).set c v := by
        unfold wrM
        rw [List.getD_eq_getElem?_getD, List.getElem?_set_self hj]; rfl
      rw [eg, Nat.zero_add]
      exact this
    · have eg : (wrM M i c v).getD j [] = M.getD j [] := by
        unfold wrM
        rw [List.getD_eq_getElem?_getD, List.getElem?_set_ne (fun x => e x.symm), ← List.getD_eq_getElem?_getD]
      rw [eg]
      exact (A.row j hj).set_ne (fun x => e (A.inj j i hj hi x))
  · rw [hl]; exact A.inj
  · rw [hl]; exact A.sh.wr hi
/-- a cell, read -/
theorem RwsAt.get (A : RwsAt h f M w) {i c : Nat} (hi : i < M.length) (hc : c < w) {Q : Int → Prop} (kk : Q (rdM M i c)) :
    withAddr f.a fun b o => ∃ a n m, h.cell b (o + (i : Int).toNat) = some (.slice a n m) ∧ 0 ≤ (c : Int) ∧ (c : Int) < (n : Int) ∧ withAddr a fun b o => ∃ n, h.cell b (o + (c : Int).toNat) = some (.int .i64 n) ∧ Q n := by
  obtain ⟨B, e, g⟩ := A.cl hi
  exact withAddr_intro e ⟨_, _, _, g, by omega, by omega, withAddr_intro rfl ⟨_, A.amt hi hc, kk⟩⟩
end
/-- rows that are being laid, one by one -/
structure RwB (h0 h : Heap) (a : Option Addr) (C : Nat) (R CC : Nat → Nat) (SP : Nat → List Value) (M : Mx) (w : Nat) : Prop where
  base : h0.le h
  own : OwnL h0 h [.slice none 0 0] a C (slV R CC w M.length)
  row : ∀ i, i < M.length → At h (R i) (intsV .i64 (M.getD i []) ++ SP i)
  nr : ∀ i, i < M.length → h0 (R i) = none
  inj : ∀ i j, i < M.length → j < M.length → R i = R j → i = j
  na : ∀ i, i < M.length → a ≠ some ⟨R i, 0, none⟩
  sh : ∀ r ∈ M, r.length = w
section
variable {h0 h : Heap} {a : Option Addr} {C w : Nat} {R CC : Nat → Nat} {SP : Nat → List Value} {M : Mx}
theorem RwB.nil (h0 h : Heap) (l : h0.le h) (w : Nat) : RwB h0 h none 0 (fun _ => 0) (fun _ => 0) (fun _ => []) [] w := ⟨l, OwnL.nil _ _ _, fun i hi => absurd hi (by simp), fun i hi => absurd hi (by simp), fun i _ hi => absurd hi (by simp), fun i hi => absurd hi (by simp), fun r hr => by cases hr⟩
theorem RwB.le {h' : Heap} (I : RwB h0 h a C R CC SP M w) (l : h.le h') : RwB h0 h' a C R CC SP M w := { I with base := Heap.le_trans I.base l, own := I.own.le l, row := fun i hi => (I.row i hi).le l }
theorem RwB.set (I : RwB h0 h a C R CC SP M w) {x o : Nat} {ws : List Value} (nx : h0 x = none) (n1 : a ≠ some ⟨x, 0, none⟩) (n2 : ∀ i, i < M.length → R i ≠ x) : RwB h0 (h.setN x o ws) a C R CC SP M w :=
  { I with base := le_setN I.base nx, own := I.own.set_ne n1, row := fun i hi => (I.row i hi).set_ne (n2 i hi) }
/-- one row more: it lies in r, which was new when the others lay there -/
theorem RwB.push {t : TypeId} (I : RwB h0 h a C R CC SP M w) {r c : Nat} {row : List Int} {sp : List Value} (nr : h0 r = none) (ar : At h r (intsV .i64 row ++ sp)) (na : a ≠ some ⟨r, 0, none⟩) (nR : ∀ i, i < M.length → R i ≠ r) (hw : row.length = w) (hs : M.length ≤ 1000000) {T : TypeId} {J : Nat → Heap → Option Addr → Nat → Heap → Prop} {n : Nat} (hn : M.length = n)
    (k : ∀ s h1 a' C' h', h s = none → h.le h1 → RwB h0 h' a' C' (fun i => if i = M.length then r else R i) (fun i => if i = M.length then c else CC i) (fun i => if i = M.length then sp else SP i) (M ++ [row]) w →
      (∀ b y, h1 b = some y → a ≠ some ⟨b, 0, none⟩ → h' b = some y) → (a' = a ∨ ∃ s, a' = some ⟨s, 0, none⟩ ∧ h1 s = none) → J s h1 a' C' h') :
    newB h [.slice (some ⟨r, 0, none⟩) w c] T fun s h1 => AppA [.slice none 0 0] t h1 a n C 1 (some ⟨s, 0, none⟩) (J s h1) := by
  subst hn
  refine push1 I.own (by decide) I.base (by omega) rfl rfl (by rw [slV_len]; simp) fun s h1 a' C' h' hs1 l1 l' w' keep how => k s h1 a' C' h' hs1 l1 ⟨l', ?_, fun i hi => ?_, fun i hi => ?_, fun i j hi hj e => ?_, fun i hi => ?_, fun x hx => ?_⟩ keep how
  · rw [List.length_append, List.length_singleton, slV_succ (R := R) (CC := CC) fun i hi => ⟨if_neg (by omega), if_neg (by omega)⟩, if_pos rfl, if_pos rfl]
    exact w'
  · rw [List.length_append, List.length_singleton] at hi
    by_cases e : i = M.length
    · subst e
      rw [if_pos rfl, if_pos rfl, List.getD_eq_getElem?_getD, List.getElem?_append_right (Nat.le_refl _), Nat.sub_self]
      exact keepAt keep (ar.le l1) na
    · rw [if_neg e, if_neg e, List.getD_eq_getElem?_getD, List.getElem?_append_left (by omega), ← List.getD_eq_getElem?_getD]
      exact keepAt keep ((I.row i (by omega)).le l1) (I.na i (by omega))
  · rw [List.length_append, List.length_singleton] at hi
    by_cases e : i = M.length
    · rw [if_pos e]; exact nr
    · rw [if_neg e]; exact I.nr i (by omega)
  · rw [List.length_append, List.length_singleton] at hi hj
    by_cases e1 : i = M.length
    · by_cases e2 : j = M.length
      · omega
      · rw [if_pos e1, if_neg e2] at e; exact (nR j (by omega) e.symm).elim
    · by_cases e2 : j = M.length
      · rw [if_neg e1, if_pos e2] at e; exact (nR i (by omega) e).elim
      · rw [if_neg e1, if_neg e2] at e; exact I.inj i j (by omega) (by omega) e
  · rw [List.length_append, List.length_singleton] at hi
    by_cases e : i = M.length
    · rw [if_pos e]; exact push_ne how (ar.le l1) na
    · rw [if_neg e]; exact push_ne how ((I.row i (by omega)).le l1) (I.na i (by omega))
  · rcases List.mem_append.1 hx with hx | hx
    · exact I.sh x hx
    · rw [List.mem_singleton] at hx; rw [hx]; exact hw
theorem RwB.fin (I : RwB h0 h a C R CC SP M w) : ∃ qs, RwsAt h ⟨a, C, qs, R, CC, SP⟩ M w ∧ ∀ x, (⟨a, C, qs, R, CC, SP⟩ : Rws).D M.length x = true → h0 x = none := by
  rcases I.own with ⟨e1, e2, e3⟩ | ⟨B, sp, e1, e2, e3, e4⟩
  · have h0' : M.length = 0 := by
      have := congrArg List.length e1
      rw [slV_len, List.length_nil] at this; exact this
    exact ⟨[], ⟨.inl h0', fun B e i hi => absurd hi (by omega), I.row, I.inj, ⟨rfl, I.sh⟩⟩, fun x hx => by
      rcases Rws.D_t hx with ⟨q, _⟩ | ⟨i, q, _⟩ <;> omega⟩
  · refine ⟨sp, ⟨.inr ⟨B, e1, e3⟩, fun B' e i hi e5 => ?_, I.row, I.inj, ⟨rfl, I.sh⟩⟩, fun x hx => ?_⟩
    · have e : a = some ⟨B', 0, none⟩ := e
      exact I.na i hi (by rw [e, ← e5])
    · rcases Rws.D_t hx with ⟨_, q⟩ | ⟨i, q, rfl⟩
      · have q : a = some ⟨x, 0, none⟩ := q
        rw [e1] at q; cases q; exact e2
      · exact I.nr i q
theorem RwB.fresh (I : RwB h0 h a C R CC SP M w) {r : Nat} (hr : h r = none) : a ≠ some ⟨r, 0, none⟩ ∧ ∀ i, i < M.length → R i ≠ r := ⟨I.own.fresh hr, fun i hi => (I.row i hi).ne hr⟩
end
end Go.Proofs.Ytkcogdmddhkldaa
