import Derived.Test.YtghdadniddoboaaM12
import Derived.Test.YtghdadniddoboaaM10
/- Worths in memory: numbered blocks. -/
namespace Go.Proofs.Ytghdadniddoboaa
open Go Go.Sy Go.Value
set_option linter.unusedVariables false
set_option linter.unusedSimpArgs false

/-! rows of one width, one behind the other -/
theorem flat_len' {g : Nat → List Value} {w : Nat} (hg : ∀ i, (g i).length = w) (n : Nat) : ((List.range n).flatMap g).length = n * w := by rw [arr_len hg, List.length_range]
theorem setL_skip : ∀ (ws xs ys : List Value) (o : Nat), setL (xs ++ ys) (xs.length + o) ws = xs ++ setL ys o ws
  | [], xs, ys, o => rfl
  | v :: ws, xs, ys, o => by
    rw [setL, setL, setT_eq, setT_eq, List.set_append_right _ _ (by omega), Nat.add_sub_cancel_left, show xs.length + o + 1 = xs.length + (o + 1) by omega, setL_skip ws]
theorem setL_left : ∀ (ws xs ys : List Value) (o : Nat), o + ws.length ≤ xs.length → setL (xs ++ ys) o ws = setL xs o ws ++ ys
  | [], xs, ys, o, _ => rfl
  | v :: ws, xs, ys, o, h => by
    rw [List.length_cons] at h
    rw [setL, setL, setT_eq, setT_eq, List.set_append_left _ _ (by omega), setL_left ws _ _ _ (by rw [List.length_set]; omega)]
theorem setL_rows {g : Nat → List Value} {w : Nat} (hg : ∀ i, (g i).length = w) {ws : List Value} {o : Nat} (ho : o + ws.length ≤ w) : ∀ (n j : Nat) (sp : List Value), j < n → setL ((List.range n).flatMap g ++ sp) (j * w + o) ws = (List.range n).flatMap (updF g j (setL (g j) o ws)) ++ sp
  | 0, j, sp, h => by omega
  | n + 1, j, sp, h => by
    rw [List.range_succ, List.flatMap_append, List.flatMap_append, List.append_assoc, List.append_assoc]
    by_cases e : j = n
    · subst e
      have e1 : (List.range j).flatMap (updF g j (setL (g j) o ws)) = (List.range j).flatMap g := by
        unfold List.flatMap
        congr 1
        exact List.map_congr_left fun i hi => updF_ne _ _ (by have := List.mem_range.1 hi; omega)
      rw [e1]
      conv => lhs; rw [← flat_len' hg j]
      rw [setL_skip]
      simp only [List.flatMap_cons, List.flatMap_nil, List.append_nil, updF_same]
      rw [setL_left _ _ _ _ (by rw [hg]; exact ho)]
    · rw [setL_rows hg ho n j _ (by omega)]
      simp only [List.flatMap_cons, List.flatMap_nil, List.append_nil]
      rw [updF_ne _ _ (fun e2 => e e2.symm)]
/-! accounts -/
structure Ac where
  row : List Int
  wl : List Td
  sl : List Td
  nt : Td
  sh : Td
def acOf (T : List Cur) (row : List Int) : Ac := ⟨row, rowF (toldW T) 0 row, rowF (toldS T) 0 row, netW T row, shW T row⟩
structure WoF where
  b : Nat → Nat
  q : Nat → Nat
  sp : Nat → List Value
  lp : Nat
def zero7 : List Value := [slice none 0 0, slice none 0 0, slice none 0 0, int .i64 0, int .i64 0, int .i64 0, int .i64 0]
def acV (f : WoF) (w : Nat) (L : Nat → Ac) (i : Nat) : List Value := [slice (some ⟨f.b (3 + 3 * i), 0, none⟩) w (f.q (3 + 3 * i)), slice (some ⟨f.b (4 + 3 * i), 0, none⟩) w (f.q (4 + 3 * i)), slice (some ⟨f.b (5 + 3 * i), 0, none⟩) w (f.q (5 + 3 * i)), int .i64 (L i).nt.1, int .i64 (L i).nt.2, int .i64 (L i).sh.1, int .i64 (L i).sh.2]
def acR (f : WoF) (w : Nat) (L : Nat → Ac) (d i : Nat) : List Value := if i < d then acV f w L i else zero7
theorem acR_len (f : WoF) (w : Nat) (L : Nat → Ac) (d i : Nat) : (acR f w L d i).length = 7 := by unfold acR; split <;> rfl
def woC (f : WoF) (T : List Cur) (n d : Nat) (L : Nat → Ac) (x : Nat) : List Value :=
  if x = 0 then [slice (some ⟨f.b 2, 0, none⟩) T.length (f.q 2), .pointer (some ⟨f.lp, 0, none⟩), slice (some ⟨f.b 1, 0, none⟩) n (f.q 1)]
  else if x = 1 then (List.range n).flatMap (acR f T.length L d) ++ f.sp 1
  else if x = 2 then curV T ++ f.sp 2
  else if x % 3 = 0 then intsV .i64 (L (x / 3 - 1)).row ++ f.sp x
  else if x % 3 = 1 then (L (x / 3 - 1)).wl.flatMap tdV1 ++ f.sp x else (L (x / 3 - 1)).sl.flatMap tdV1 ++ f.sp x
section
variable (f : WoF) (T : List Cur) (n d : Nat) (L : Nat → Ac) (i : Nat)
theorem woC_0 : woC f T n d L 0 = [slice (some ⟨f.b 2, 0, none⟩) T.length (f.q 2), .pointer (some ⟨f.lp, 0, none⟩), slice (some ⟨f.b 1, 0, none⟩) n (f.q 1)] := rfl
theorem woC_1 : woC f T n d L 1 = (List.range n).flatMap (acR f T.length L d) ++ f.sp 1 := rfl
theorem woC_2 : woC f T n d L 2 = curV T ++ f.sp 2 := rfl
theorem woC_B : woC f T n d L (3 + 3 * i) = intsV .i64 (L i).row ++ f.sp (3 + 3 * i) := by
  unfold woC; rw [if_neg (by omega), if_neg (by omega), if_neg (by omega), if_pos (by omega), show (3 + 3 * i) / 3 - 1 = i by omega]
theorem woC_W : woC f T n d L (4 + 3 * i) = (L i).wl.flatMap tdV1 ++ f.sp (4 + 3 * i) := by
  unfold woC; rw [if_neg (by omega), if_neg (by omega), if_neg (by omega), if_neg (by omega), if_pos (by omega), show (4 + 3 * i) / 3 - 1 = i by omega]
theorem woC_H : woC f T n d L (5 + 3 * i) = (L i).sl.flatMap tdV1 ++ f.sp (5 + 3 * i) := by
  unfold woC; rw [if_neg (by omega), if_neg (by omega), if_neg (by omega), if_neg (by omega), if_neg (by omega), show (5 + 3 * i) / 3 - 1 = i by omega]
end
theorem kinds {x : Nat} : x = 0 ∨ x = 1 ∨ x = 2 ∨ ∃ i, x = 3 + 3 * i ∨ x = 4 + 3 * i ∨ x = 5 + 3 * i := by
  by_cases h : x < 3
  · omega
  · exact .inr (.inr (.inr ⟨x / 3 - 1, by omega⟩))
structure WoX (h : Heap) (f : WoF) (T : List Cur) (n d : Nat) (L : Nat → Ac) : Prop where
  fam : Fam h (3 + 3 * d) f.b (woC f T n d L)
  dn : d ≤ n
  ln : ∀ i, i < d → (L i).row.length = T.length ∧ (L i).wl.length = T.length ∧ (L i).sl.length = T.length
section
variable {h h' : Heap} {f : WoF} {T : List Cur} {n d : Nat} {L : Nat → Ac}
theorem WoX.le (X : WoX h f T n d L) (l : h.le h') : WoX h' f T n d L := { X with fam := X.fam.le l }
theorem WoX.w (X : WoX h f T n d L) : At h (f.b 0) [slice (some ⟨f.b 2, 0, none⟩) T.length (f.q 2), .pointer (some ⟨f.lp, 0, none⟩), slice (some ⟨f.b 1, 0, none⟩) n (f.q 1)] := X.fam.at' 0 (by omega)
theorem WoX.a (X : WoX h f T n d L) : At h (f.b 1) ((List.range n).flatMap (acR f T.length L d) ++ f.sp 1) := X.fam.at' 1 (by omega)
theorem WoX.t (X : WoX h f T n d L) : Curs h (some ⟨f.b 2, 0, none⟩) T := (X.fam.at' 2 (by omega) : At h (f.b 2) (curV T ++ f.sp 2)).toRd
theorem WoX.row (X : WoX h f T n d L) {i : Nat} (hi : i < d) : At h (f.b (3 + 3 * i)) (intsV .i64 (L i).row ++ f.sp (3 + 3 * i)) := by rw [← woC_B f T n d L]; exact X.fam.at' _ (by omega)
theorem WoX.wl (X : WoX h f T n d L) {i : Nat} (hi : i < d) : At h (f.b (4 + 3 * i)) ((L i).wl.flatMap tdV1 ++ f.sp (4 + 3 * i)) := by rw [← woC_W f T n d L]; exact X.fam.at' _ (by omega)
theorem WoX.sl (X : WoX h f T n d L) {i : Nat} (hi : i < d) : At h (f.b (5 + 3 * i)) ((L i).sl.flatMap tdV1 ++ f.sp (5 + 3 * i)) := by rw [← woC_H f T n d L]; exact X.fam.at' _ (by omega)
theorem WoX.ac (X : WoX h f T n d L) {i o : Nat} (hi : i < d) (ho : o < 7) : h.cell (f.b 1) (i * 7 + o) = (acV f T.length L i)[o]? := by
  have hn := X.dn
  have e := arr_get (enc := acR f T.length L d) (w := 7) (acR_len f T.length L d) (List.range n) i o i (List.getElem?_range (by omega)) ho
  have e2 : acR f T.length L d i = acV f T.length L i := if_pos hi
  rw [e2] at e
  have hv : o < (acV f T.length L i).length := ho
  rw [List.getElem?_eq_getElem hv] at e ⊢
  refine X.a.cell ?_
  rw [List.getElem?_append_left (by rw [flat_len' (acR_len f T.length L d)]; omega)]
  exact e
end
/-! three blocks anew -/
def b3 {α : Type} (f : Nat → α) (m : Nat) (x y z : α) : Nat → α := updF (updF (updF f (3 + 3 * m) x) (4 + 3 * m) y) (5 + 3 * m) z
section
variable {α : Type} (f : Nat → α) (m : Nat) (x y z : α)
theorem b3_B : b3 f m x y z (3 + 3 * m) = x := by unfold b3; rw [updF_ne _ _ (by omega), updF_ne _ _ (by omega), updF_same]
theorem b3_W : b3 f m x y z (4 + 3 * m) = y := by unfold b3; rw [updF_ne _ _ (by omega), updF_same]
theorem b3_H : b3 f m x y z (5 + 3 * m) = z := by unfold b3; rw [updF_same]
theorem b3_ne {k : Nat} (h1 : k ≠ 3 + 3 * m) (h2 : k ≠ 4 + 3 * m) (h3 : k ≠ 5 + 3 * m) : b3 f m x y z k = f k := by unfold b3; rw [updF_ne _ _ h3, updF_ne _ _ h2, updF_ne _ _ h1]
end
theorem fam_b3 {h h1 : Heap} {N m : Nat} {b : Nat → Nat} {c : Nat → List Value} (F : Fam h N b c) {r0 r1 r2 : Nat} {x0 x1 x2 : List Value} (l : h.le h1) (z0 : h r0 = none) (z1 : h r1 = none) (z2 : h r2 = none) (n01 : r0 ≠ r1) (n02 : r0 ≠ r2) (n12 : r1 ≠ r2)
    (A0 : At h1 r0 x0) (A1 : At h1 r1 x1) (A2 : At h1 r2 x2) : Fam h1 N (b3 b m r0 r1 r2) (b3 c m x0 x1 x2) := by
  have f0 := F.fresh z0
  have f1 := F.fresh z1
  have f2 := F.fresh z2
  have g1 : famD N (updF b (3 + 3 * m) r0) r1 = false := by
    cases e : famD N (updF b (3 + 3 * m) r0) r1 with
    | false => rfl
    | true =>
      rcases famD_swap e with e | e
      · exact (n01 e.symm).elim
      · rw [f1] at e; cases e
  have g2 : famD N (updF (updF b (3 + 3 * m) r0) (4 + 3 * m) r1) r2 = false := by
    cases e : famD N (updF (updF b (3 + 3 * m) r0) (4 + 3 * m) r1) r2 with
    | false => rfl
    | true =>
      rcases famD_swap e with e | e
      · exact (n12 e.symm).elim
      · rcases famD_swap e with e | e
        · exact (n02 e.symm).elim
        · rw [f2] at e; cases e
  exact (((F.le l).swap f0 A0).swap g1 A1).swap g2 A2
theorem fam_m3 {h h1 : Heap} {m : Nat} {b : Nat → Nat} {c : Nat → List Value} (F : Fam h (3 + 3 * m) b c) {r0 r1 r2 : Nat} {x0 x1 x2 : List Value} (l : h.le h1) (z0 : h r0 = none) (z1 : h r1 = none) (z2 : h r2 = none) (n01 : r0 ≠ r1) (n02 : r0 ≠ r2) (n12 : r1 ≠ r2)
    (A0 : At h1 r0 x0) (A1 : At h1 r1 x1) (A2 : At h1 r2 x2) : Fam h1 (3 + 3 * (m + 1)) (b3 b m r0 r1 r2) (b3 c m x0 x1 x2) := by
  have f0 := F.fresh z0
  have f1 := F.fresh z1
  have f2 := F.fresh z2
  have g1 : famD (3 + 3 * m + 1) (updF b (3 + 3 * m) r0) r1 = false := by
    cases e : famD (3 + 3 * m + 1) (updF b (3 + 3 * m) r0) r1 with
    | false => rfl
    | true =>
      rcases famD_more e with e | e
      · exact (n01 e.symm).elim
      · rw [f1] at e; cases e
  have g2 : famD (3 + 3 * m + 1 + 1) (updF (updF b (3 + 3 * m) r0) (3 + 3 * m + 1) r1) r2 = false := by
    cases e : famD (3 + 3 * m + 1 + 1) (updF (updF b (3 + 3 * m) r0) (3 + 3 * m + 1) r1) r2 with
    | false => rfl
    | true =>
      rcases famD_more e with e | e
      · exact (n12 e.symm).elim
      · rcases famD_more e with e | e
        · exact (n02 e.symm).elim
        · rw [f2] at e; cases e
  have := (((F.le l).more f0 A0).more g1 A1).more g2 A2
  rw [show 3 + 3 * m + 1 + 1 + 1 = 3 + 3 * (m + 1) by omega, show 3 + 3 * m + 1 + 1 = 5 + 3 * m by omega, show 3 + 3 * m + 1 = 4 + 3 * m by omega] at this
  exact this
def WoF.b3 (f : WoF) (m r0 r1 r2 c0 c1 c2 : Nat) (s0 s1 s2 : List Value) : WoF := ⟨Proofs.Ytghdadniddoboaa.b3 f.b m r0 r1 r2, Proofs.Ytghdadniddoboaa.b3 f.q m c0 c1 c2, Proofs.Ytghdadniddoboaa.b3 f.sp m s0 s1 s2, f.lp⟩
/-- what a member's account is, anew -/
theorem woC_b3 {f : WoF} {T : List Cur} {n d d' m : Nat} {L : Nat → Ac} {a : Ac} {r0 r1 r2 c0 c1 c2 : Nat} {s0 s1 s2 : List Value} (hm : m < n) (hd : ∀ i, i < d' ↔ i = m ∨ i < d) {i : Nat} (hi : i < 3 + 3 * d') :
    updF (b3 (woC f T n d L) m (intsV .i64 a.row ++ s0) (a.wl.flatMap tdV1 ++ s1) (a.sl.flatMap tdV1 ++ s2)) 1 (setL (b3 (woC f T n d L) m (intsV .i64 a.row ++ s0) (a.wl.flatMap tdV1 ++ s1) (a.sl.flatMap tdV1 ++ s2) 1) (m * 7)
      [slice (some ⟨r0, 0, none⟩) T.length c0, slice (some ⟨r1, 0, none⟩) T.length c1, slice (some ⟨r2, 0, none⟩) T.length c2, int .i64 a.nt.1, int .i64 a.nt.2, int .i64 a.sh.1, int .i64 a.sh.2]) i
    = woC (f.b3 m r0 r1 r2 c0 c1 c2 s0 s1 s2) T n d' (updF L m a) i := by
  rw [b3_ne _ _ _ _ _ (k := 1) (by omega) (by omega) (by omega), woC_1]
  rcases kinds (x := i) with rfl | rfl | rfl | ⟨j, hj⟩
  · rw [updF_ne _ _ (by decide), b3_ne _ _ _ _ _ (by omega) (by omega) (by omega), woC_0, woC_0]
    unfold WoF.b3
    dsimp only
    rw [b3_ne _ _ _ _ _ (k := 2) (by omega) (by omega) (by omega), b3_ne _ _ _ _ _ (k := 2) (by omega) (by omega) (by omega), b3_ne _ _ _ _ _ (k := 1) (by omega) (by omega) (by omega), b3_ne _ _ _ _ _ (k := 1) (by omega) (by omega) (by omega)]
  · rw [updF_same, woC_1]
    have e1 := setL_rows (acR_len f T.length L d) (ws := [slice (some ⟨r0, 0, none⟩) T.length c0, slice (some ⟨r1, 0, none⟩) T.length c1, slice (some ⟨r2, 0, none⟩) T.length c2, int .i64 a.nt.1, int .i64 a.nt.2, int .i64 a.sh.1, int .i64 a.sh.2]) (o := 0) (by simp) n m (f.sp 1) hm
    rw [Nat.add_zero] at e1
    rw [e1]
    unfold WoF.b3
    dsimp only
    rw [b3_ne _ _ _ _ _ (k := 1) (by omega) (by omega) (by omega)]
    congr 1
    unfold List.flatMap
    congr 1
    refine List.map_congr_left fun k hk => ?_
    by_cases e : k = m
    · subst e
      rw [updF_same]
      unfold acR
      rw [if_pos (c := k < d') ((hd k).2 (.inl rfl))]
      have e3 : setL (if k < d then acV f T.length L k else zero7) 0 [slice (some ⟨r0, 0, none⟩) T.length c0, slice (some ⟨r1, 0, none⟩) T.length c1, slice (some ⟨r2, 0, none⟩) T.length c2, int .i64 a.nt.1, int .i64 a.nt.2, int .i64 a.sh.1, int .i64 a.sh.2] = [slice (some ⟨r0, 0, none⟩) T.length c0, slice (some ⟨r1, 0, none⟩) T.length c1, slice (some ⟨r2, 0, none⟩) T.length c2, int .i64 a.nt.1, int .i64 a.nt.2, int .i64 a.sh.1, int .i64 a.sh.2] := by split <;> rfl
      rw [e3]
      unfold acV
      dsimp only
      rw [b3_B, b3_B, b3_W, b3_W, b3_H, b3_H, updF_same]
    · rw [updF_ne _ _ e]
      unfold acR
      have hdk : k < d ↔ k < d' := ⟨fun x => (hd k).2 (.inr x), fun x => ((hd k).1 x).resolve_left e⟩
      by_cases hk : k < d
      · rw [if_pos hk, if_pos (hdk.1 hk)]
        unfold acV
        dsimp only
        rw [b3_ne _ _ _ _ _ (by omega) (by omega) (by omega), b3_ne _ _ _ _ _ (by omega) (by omega) (by omega), b3_ne _ _ _ _ _ (by omega) (by omega) (by omega), b3_ne _ _ _ _ _ (by omega) (by omega) (by omega), b3_ne _ _ _ _ _ (by omega) (by omega) (by omega), b3_ne _ _ _ _ _ (by omega) (by omega) (by omega), updF_ne _ _ e]
      · rw [if_neg hk, if_neg (fun x => hk (hdk.2 x))]
  · rw [updF_ne _ _ (by decide), b3_ne _ _ _ _ _ (by omega) (by omega) (by omega), woC_2, woC_2]
    unfold WoF.b3
    dsimp only
    rw [b3_ne _ _ _ _ _ (k := 2) (by omega) (by omega) (by omega)]
  · by_cases e : j = m
    · subst e
      rcases hj with rfl | rfl | rfl
      · rw [updF_ne _ _ (by omega), b3_B, woC_B, updF_same]
        unfold WoF.b3
        dsimp only
        rw [b3_B]
      · rw [updF_ne _ _ (by omega), b3_W, woC_W, updF_same]
        unfold WoF.b3
        dsimp only
        rw [b3_W]
      · rw [updF_ne _ _ (by omega), b3_H, woC_H, updF_same]
        unfold WoF.b3
        dsimp only
        rw [b3_H]
    · rcases hj with rfl | rfl | rfl
      · rw [updF_ne _ _ (by omega), b3_ne _ _ _ _ _ (by omega) (by omega) (by omega), woC_B, woC_B, updF_ne _ _ e]
        unfold WoF.b3
        dsimp only
        rw [b3_ne _ _ _ _ _ (by omega) (by omega) (by omega)]
      · rw [updF_ne _ _ (by omega), b3_ne _ _ _ _ _ (by omega) (by omega) (by omega), woC_W, woC_W, updF_ne _ _ e]
        unfold WoF.b3
        dsimp only
        rw [b3_ne _ _ _ _ _ (by omega) (by omega) (by omega)]
      · rw [updF_ne _ _ (by omega), b3_ne _ _ _ _ _ (by omega) (by omega) (by omega), woC_H, woC_H, updF_ne _ _ e]
        unfold WoF.b3
        dsimp only
        rw [b3_ne _ _ _ _ _ (by omega) (by omega) (by omega)]
end Go.Proofs.Ytghdadniddoboaa

/- Worths are made; a member's balances are taken anew. -/
namespace Go.Proofs.Ytghdadniddoboaa
open Go Go.Sy Go.Value
set_option linter.unusedVariables false
set_option linter.unusedSimpArgs false

theorem acOf_ln (T : List Cur) (S : Lg) (m : Int) : (acOf T (rowG S m T.length)).row.length = T.length ∧ (acOf T (rowG S m T.length)).wl.length = T.length ∧ (acOf T (rowG S m T.length)).sl.length = T.length := by
  unfold acOf
  dsimp only
  rw [rowF_len, rowF_len, rowG_len]
  exact ⟨rfl, rfl, rfl⟩
theorem WoX.step {h0 h h1 : Heap} {f : WoF} {T : List Cur} {n d d' m : Nat} {L : Nat → Ac} (X : WoX h f T n d L) (l0 : h0.le h) (fr : ∀ i, i < 3 + 3 * d → h0 (f.b i) = none) {a : Ac} (hm : m < n) (hd : (m < d ∧ d' = d) ∨ (m = d ∧ d' = d + 1)) (ha : a.row.length = T.length ∧ a.wl.length = T.length ∧ a.sl.length = T.length)
    {r0 r1 r2 : Nat} (c0 c1 c2 : Nat) {s0 s1 s2 : List Value} (l1 : h.le h1) (z0 : h r0 = none) (z1 : h r1 = none) (z2 : h r2 = none) (n01 : r0 ≠ r1) (n02 : r0 ≠ r2) (n12 : r1 ≠ r2) (A0 : At h1 r0 (intsV .i64 a.row ++ s0)) (A1 : At h1 r1 (a.wl.flatMap tdV1 ++ s1)) (A2 : At h1 r2 (a.sl.flatMap tdV1 ++ s2)) :
    h0.le (h1.setN (f.b 1) (m * 7) [slice (some ⟨r0, 0, none⟩) T.length c0, slice (some ⟨r1, 0, none⟩) T.length c1, slice (some ⟨r2, 0, none⟩) T.length c2, int .i64 a.nt.1, int .i64 a.nt.2, int .i64 a.sh.1, int .i64 a.sh.2]) ∧
    WoX (h1.setN (f.b 1) (m * 7) [slice (some ⟨r0, 0, none⟩) T.length c0, slice (some ⟨r1, 0, none⟩) T.length c1, slice (some ⟨r2, 0, none⟩) T.length c2, int .i64 a.nt.1, int .i64 a.nt.2, int .i64 a.sh.1, int .i64 a.sh.2]) (f.b3 m r0 r1 r2 c0 c1 c2 s0 s1 s2) T n d' (updF L m a) ∧
    (∀ i, i < 3 + 3 * d' → h0 ((f.b3 m r0 r1 r2 c0 c1 c2 s0 s1 s2).b i) = none) ∧ (f.b3 m r0 r1 r2 c0 c1 c2 s0 s1 s2).b 0 = f.b 0 := by
  have hdn := X.dn
  have hd' : ∀ i, i < d' ↔ i = m ∨ i < d := fun i => by omega
  have F : Fam h1 (3 + 3 * d') (Proofs.Ytghdadniddoboaa.b3 f.b m r0 r1 r2) (Proofs.Ytghdadniddoboaa.b3 (woC f T n d L) m (intsV .i64 a.row ++ s0) (a.wl.flatMap tdV1 ++ s1) (a.sl.flatMap tdV1 ++ s2)) := by
    rcases hd with ⟨h1, rfl⟩ | ⟨rfl, rfl⟩
    · exact fam_b3 X.fam l1 z0 z1 z2 n01 n02 n12 A0 A1 A2
    · exact fam_m3 X.fam l1 z0 z1 z2 n01 n02 n12 A0 A1 A2
  have e1 : Proofs.Ytghdadniddoboaa.b3 f.b m r0 r1 r2 1 = f.b 1 := b3_ne _ _ _ _ _ (by omega) (by omega) (by omega)
  have F2 := F.set (i := 1) (o := m * 7) (ws := [slice (some ⟨r0, 0, none⟩) T.length c0, slice (some ⟨r1, 0, none⟩) T.length c1, slice (some ⟨r2, 0, none⟩) T.length c2, int .i64 a.nt.1, int .i64 a.nt.2, int .i64 a.sh.1, int .i64 a.sh.2]) (by omega)
  rw [e1] at F2
  refine ⟨le_setN (Heap.le_trans l0 l1) (fr 1 (by omega)), ⟨F2.congr fun i hi => woC_b3 hm hd' hi, by omega, fun i hi => ?_⟩, fun i hi => ?_, b3_ne _ _ _ _ _ (by omega) (by omega) (by omega)⟩
  · by_cases e : i = m
    · subst e; rw [updF_same]; exact ha
    · rw [updF_ne _ _ e]; exact X.ln i (by have := (hd' i).1 hi; omega)
  · show h0 (Proofs.Ytghdadniddoboaa.b3 f.b m r0 r1 r2 i) = none
    by_cases e1 : i = 3 + 3 * m
    · subst e1; rw [b3_B]; exact none_of_le l0 z0
    by_cases e2 : i = 4 + 3 * m
    · subst e2; rw [b3_W]; exact none_of_le l0 z1
    by_cases e3 : i = 5 + 3 * m
    · subst e3; rw [b3_H]; exact none_of_le l0 z2
    rw [b3_ne _ _ _ _ _ e1 e2 e3]
    exact fr i (by omega)
def accG (T : List Cur) (S : Lg) (i : Nat) : Ac := acOf T (rowG S (i : Int) T.length)
theorem accG_upd (T : List Cur) (S : Lg) (m : Nat) : updF (accG T S) m (acOf T (rowG S (m : Int) T.length)) = accG T S := by
  funext i
  by_cases e : i = m
  · subst e; rw [updF_same]; rfl
  · rw [updF_ne _ _ e]
theorem repL_rows (f : WoF) (w : Nat) (L : Nat → Ac) : ∀ n, repL n zero7 = (List.range n).flatMap (acR f w L 0)
  | 0 => rfl
  | n + 1 => by
    rw [repL, repL_rows f w L n]
    have e : ∀ n, (List.range n).flatMap (acR f w L 0) = (List.replicate n zero7).flatten := fun n => by
      unfold List.flatMap
      congr 1
      refine List.ext_getElem (by simp) fun i h1 h2 => ?_
      simp [acR]
    rw [e, e]; rfl
section
variable {h : Heap} {K : Value → Heap → Prop} {T : List Cur} {tp : Option Addr} {tn tc lp B C : Nat} {sp : List Value} {S : Lg}
theorem new_lp {h0 : Heap} (hT : tabE T = 0) (LA : LedAt h0 lp B C sp S) (k3 : ∀ h' f, h0.le h' → WoX h' f T S.M.length S.M.length (accG T S) → f.lp = lp → (∀ i, i < 3 + 3 * S.M.length → h0 (f.b i) = none) → K (tuple #[.pointer (some ⟨f.b 0, 0, none⟩), .int .i64 0]) h') :
    ∀ (m j : Nat) (h : Heap) (f : WoF), m + j = S.M.length → h0.le h → WoX h f T S.M.length j (accG T S) → f.lp = lp → (∀ i, i < 3 + 3 * j → h0 (f.b i) = none) → L_worth_New_0 (f.b 0) (S.M.length : Int) (j : Int) h K := by
  have n16 := LA.sz.n16
  obtain ⟨t1, t8, _⟩ := tab_parts hT
  intro m
  induction m with
  | zero =>
    intro j h f hj l0 X ef fr
    refine L_worth_New_0r _ _ _ _ _ ?_
    unfold L_worth_New_0T
    obtain rfl : j = S.M.length := by omega
    exact Br.no (by simp) (Ret.mk (k3 h f l0 X ef fr))
  | succ m ih =>
    intro j h f hj l0 X ef fr
    refine L_worth_New_0r _ _ _ _ _ ?_
    unfold L_worth_New_0T
    refine Br.yes (by simp; omega) (S_MovedR X.t rfl t1 t8 (all_inb hT) X.w X.a (by rw [List.length_append, flat_len' (acR_len _ _ _ _)]; omega) (by rw [ef]; exact LA.le l0) (m := j) rfl (by omega) fun h1 r0 r1 r2 c0 c1 c2 s0 s1 s2 l1 z0 z1 z2 n01 n02 n12 A0 A1 A2 => ⟨rfl, ?_⟩)
    rw [w1 (by omega)]
    obtain ⟨g1, g2, g3, g4⟩ := X.step (a := acOf T (rowG S (j : Int) T.length)) l0 fr (m := j) (d' := j + 1) (by omega) (.inr ⟨rfl, rfl⟩) (acOf_ln T S j) c0 c1 c2 l1 z0 z1 z2 n01 n02 n12 A0 A1 A2
    rw [accG_upd] at g2
    rw [← g4]
    exact ih (j + 1) _ _ (by omega) g1 g2 ef g3
theorem S_wNew (CT : Curs h tp T) (hn : T.length = tn) (hs : tn ≤ 1000000) (LA : LedAt h lp B C sp S)
    (k1 : tabE T ≠ 0 → ∀ h', h.le h' → K (tuple #[.pointer none, .int .i64 (tabE T)]) h')
    (k2 : tabE T = 0 → S.cur ≠ tn → ∀ h', h.le h' → K (tuple #[.pointer none, .int .i64 1]) h')
    (k3 : tabE T = 0 → S.cur = tn → ∀ h' f, h.le h' → WoX h' f T S.M.length S.M.length (accG T S) → f.lp = lp → (∀ i, i < 3 + 3 * S.M.length → h (f.b i) = none) → K (tuple #[.pointer (some ⟨f.b 0, 0, none⟩), .int .i64 0]) h') :
    CallA Try.prog fn_worth_New [slice tp tn tc, .pointer (some ⟨lp, 0, none⟩)] h K := by
  have n16 := LA.sz.n16
  have n1 := LA.sz.n1
  refine F_worth_New _ _ _ _ _ _ ?_
  unfold F_worth_NewT
  refine S_Check CT hn fun h1 l1 => ⟨_, rfl, ?_⟩
  by_cases hT : tabE T ≠ 0
  · exact Br.yes (by simpa using hT) (Ret.mk (k1 hT h1 l1))
  have hT : tabE T = 0 := Classical.byContradiction hT
  rw [hT]
  refine Br.no rfl (Br.no rfl (S_lSize (LA.le l1) ⟨_, _, rfl, ?_⟩))
  by_cases hc : S.cur ≠ tn
  · exact Br.yes (by simpa using fun e => hc (by omega)) (Ret.mk (k2 hT hc h1 l1))
  have hc : S.cur = tn := Classical.byContradiction hc
  refine Br.no (by rw [hc]; simp) ⟨by omega, by omega, by omega, by omega, S_CloneC (CT.le l1) hn hs fun p' c' h2 l2 own => ⟨_, _, _, rfl, by omega, by omega, by omega, by omega, newB_at fun A h3 zA l3 AA => newB_at fun w h4 zw l4 Aw => ?_⟩⟩
  obtain ⟨t1, t8, _⟩ := tab_parts hT
  obtain ⟨tb, sq, rfl, zt, At'⟩ := own_blk own (fun e => by have := curV_length T; rw [e] at this; simp at this; omega)
  rw [Int.toNat_natCast] at AA Aw
  have l12 := Heap.le_trans l1 l2
  have l13 := Heap.le_trans l12 l3
  have l14 := Heap.le_trans l13 l4
  refine new_lp hT LA (k3 hT hc) S.M.length 0 h4 ⟨fun i => if i = 0 then w else if i = 1 then A else tb, fun i => if i = 1 then S.M.length else c', fun i => if i = 1 then [] else sq, lp⟩ rfl l14 ⟨⟨fun i hi => ?_, fun i j hi hj e => ?_⟩, by omega, fun i hi => absurd hi (by omega)⟩ rfl fun i hi => ?_
  · rcases (by omega : i = 0 ∨ i = 1 ∨ i = 2) with rfl | rfl | rfl
    · rw [woC_0]; subst hn; exact Aw
    · rw [woC_1, ← repL_rows]
      show At h4 A (repL S.M.length zero7 ++ [])
      rw [List.append_nil]
      exact AA.le l4
    · exact At'.le (Heap.le_trans l3 l4)
  · have e1 : w ≠ A := fun e => AA.ne zw e.symm
    have e2 : tb ≠ w := (At'.le l3).ne zw
    have e3 : tb ≠ A := At'.ne zA
    rcases (by omega : i = 0 ∨ i = 1 ∨ i = 2) with rfl | rfl | rfl <;> rcases (by omega : j = 0 ∨ j = 1 ∨ j = 2) with rfl | rfl | rfl <;> simp at e <;> first | rfl | (exact absurd e (by first | exact e1 | exact e2 | exact e3 | exact fun x => e1 x.symm | exact fun x => e2 x.symm | exact fun x => e3 x.symm))
  · rcases (by omega : i = 0 ∨ i = 1 ∨ i = 2) with rfl | rfl | rfl
    · exact none_of_le l13 zw
    · exact none_of_le l12 zA
    · exact none_of_le l1 zt
/-- a member's balances, taken anew -/
theorem S_wMoved {h0 : Heap} {f : WoF} {n : Nat} {L : Nat → Ac} (l0 : h0.le h) (fr : ∀ i, i < 3 + 3 * n → h0 (f.b i) = none) (hT : tabE T = 0) (X : WoX h f T n n L) (LA : LedAt h f.lp B C sp S) {m : Int}
    (k : ∀ h' f', h0.le h' → f'.b 0 = f.b 0 → f'.lp = f.lp → (∀ i, i < 3 + 3 * n → h0 (f'.b i) = none) → WoX h' f' T n n (if 0 ≤ m ∧ m < (n : Int) then updF L m.toNat (acOf T (rowG S m T.length)) else L) → K (tuple #[]) h') :
    CallA Try.prog fn_pworth_Worths_Moved [pointer (some ⟨f.b 0, 0, none⟩), int .i64 m] h K := by
  obtain ⟨t1, t8, _⟩ := tab_parts hT
  by_cases hm : 0 ≤ m ∧ m < (n : Int)
  · obtain ⟨i, rfl⟩ : ∃ i : Nat, m = i := ⟨m.toNat, by omega⟩
    rw [if_pos hm, Int.toNat_natCast] at k
    refine S_MovedR X.t rfl t1 t8 (all_inb hT) X.w X.a (by rw [List.length_append, flat_len' (acR_len _ _ _ _)]; omega) LA (m := i) rfl (by omega) fun h1 r0 r1 r2 c0 c1 c2 s0 s1 s2 l1 z0 z1 z2 n01 n02 n12 A0 A1 A2 => ?_
    obtain ⟨g1, g2, g3, g4⟩ := X.step (a := acOf T (rowG S (i : Int) T.length)) l0 fr (m := i) (d' := n) (by omega) (.inl ⟨by omega, rfl⟩) (acOf_ln T S i) c0 c1 c2 l1 z0 z1 z2 n01 n02 n12 A0 A1 A2
    exact k _ _ g1 g4 rfl g3 g2
  · rw [if_neg hm] at k
    refine F_pworth_Worths_Moved _ _ _ _ ?_
    unfold F_pworth_Worths_MovedT
    exact S_Whas X.w ⟨_, rfl, Br.yes (by rw [decide_eq_false hm]; rfl) (Ret.mk (k h f l0 rfl rfl fr X))⟩
/-- what a member's net worth is, and what it is short -/
theorem S_wNet {f : WoF} {n : Nat} {L : Nat → Ac} (X : WoX h f T n n L) {m : Int} (k : K (if 0 ≤ m ∧ m < (n : Int) then tuple #[int .i64 (L m.toNat).nt.1, int .i64 (L m.toNat).nt.2] else tuple #[int .i64 0, int .i64 1]) h) :
    CallA Try.prog fn_pworth_Worths_Net [pointer (some ⟨f.b 0, 0, none⟩), int .i64 m] h K := by
  refine F_pworth_Worths_Net _ _ _ _ ?_
  unfold F_pworth_Worths_NetT
  refine S_Whas X.w ⟨_, rfl, ?_⟩
  by_cases hm : 0 ≤ m ∧ m < (n : Int)
  · rw [if_pos hm] at k
    have e := fun o ho => X.ac (i := m.toNat) (o := o) (by omega) ho
    refine Br.no (by rw [decide_eq_true hm]; rfl) (withAddr_intro rfl ⟨_, _, _, X.w.cell rfl, hm.1, hm.2, withAddr_intro rfl ⟨_, by rw [Nat.zero_add]; exact e 3 (by decide), withAddr_intro rfl ⟨_, _, _, X.w.cell rfl, hm.1, hm.2, withAddr_intro rfl ⟨_, by rw [Nat.zero_add]; exact e 4 (by decide), Ret.mk k⟩⟩⟩⟩)
  · rw [if_neg hm] at k
    exact Br.yes (by rw [decide_eq_false hm]; rfl) (Ret.mk k)
theorem S_wShort {f : WoF} {n : Nat} {L : Nat → Ac} (X : WoX h f T n n L) {m : Int} (k : K (if 0 ≤ m ∧ m < (n : Int) then tuple #[int .i64 (L m.toNat).sh.1, int .i64 (L m.toNat).sh.2] else tuple #[int .i64 0, int .i64 1]) h) :
    CallA Try.prog fn_pworth_Worths_Short [pointer (some ⟨f.b 0, 0, none⟩), int .i64 m] h K := by
  refine F_pworth_Worths_Short _ _ _ _ ?_
  unfold F_pworth_Worths_ShortT
  refine S_Whas X.w ⟨_, rfl, ?_⟩
  by_cases hm : 0 ≤ m ∧ m < (n : Int)
  · rw [if_pos hm] at k
    have e := fun o ho => X.ac (i := m.toNat) (o := o) (by omega) ho
    refine Br.no (by rw [decide_eq_true hm]; rfl) (withAddr_intro rfl ⟨_, _, _, X.w.cell rfl, hm.1, hm.2, withAddr_intro rfl ⟨_, by rw [Nat.zero_add]; exact e 5 (by decide), withAddr_intro rfl ⟨_, _, _, X.w.cell rfl, hm.1, hm.2, withAddr_intro rfl ⟨_, by rw [Nat.zero_add]; exact e 6 (by decide), Ret.mk k⟩⟩⟩⟩)
  · rw [if_neg hm] at k
    exact Br.yes (by rw [decide_eq_false hm]; rfl) (Ret.mk k)
theorem S_wTable {f : WoF} {n : Nat} {L : Nat → Ac} (X : WoX h f T n n L) (hs : T.length ≤ 1000000) (k : ∀ p' c' h', h.le h' → OwnL h h' [string { data := #[] }, .int .i64 0, .int .i64 0] p' c' (curV T) → K (slice p' T.length c') h') :
    CallA Try.prog fn_pworth_Worths_Table [pointer (some ⟨f.b 0, 0, none⟩)] h K := by
  refine F_pworth_Worths_Table _ _ _ ?_
  unfold F_pworth_Worths_TableT
  exact withAddr_intro rfl ⟨_, _, _, X.w.cell rfl, S_CloneC X.t rfl hs fun p' c' h' l' own => ⟨_, _, _, rfl, Ret.mk (k p' c' h' l' own)⟩⟩
end
end Go.Proofs.Ytghdadniddoboaa

/- Changed tables, and where they lie. -/
namespace Go.Proofs.Ytghdadniddoboaa
open Go Go.Sy Go.Value
set_option linter.unusedVariables false
set_option linter.unusedSimpArgs false

def WResO (h0 h : Heap) (p : Option Addr) (n : Nat) (e : Int) : Option (List Cur) → Prop
  | none => p = none ∧ n = 0 ∧ e = 1
  | some l => (∃ b sp, p = some ⟨b, 0, none⟩ ∧ h0 b = none ∧ At h b (curV l ++ sp)) ∧ l.length = n ∧ e = 0
section
variable {K : Value → Heap → Prop} {h h0 : Heap} {p : Option Addr} {l : List Cur} {n c : Nat}
theorem S_withO {cur : Int} {j : Nat} {x : Cur} (C : Curs h p l) (hn : l.length = n) (hs : n ≤ 1000000) (hc : cur = (j : Int)) (hj : j < n)
    (k : ∀ p' n' c' e h', h.le h' → WResO h h' p' n' e (withL l j x) → K (tuple #[slice p' n' c', .int .i64 e]) h') :
    CallA Try.prog fn_table_with [slice p n c, .int .i64 cur, agg #[string x.code, .int .i64 x.rate, .int .i64 x.cut]] h K := by
  subst hc
  refine F_table_with _ _ _ _ _ _ _ _ _ ?_
  unfold F_table_withT
  intro r hr
  have A := At.new h r [string x.code, .int .i64 x.rate, .int .i64 x.cut] 61
  have l1 : h.le (h.ins r (.cells [string x.code, .int .i64 x.rate, .int .i64 x.cut].toArray 61 (0, 0))) := le_ins hr
  generalize h.ins r (.cells [string x.code, .int .i64 x.rate, .int .i64 x.cut].toArray 61 (0, 0)) = h1 at *
  unfold withL at k
  refine ⟨_, A.cell rfl, _, A.cell rfl, _, A.cell rfl, S_fits fun h2 l2 => ⟨_, rfl, ?_⟩⟩
  have l12 := Heap.le_trans l1 l2
  cases ef : fitsB (j : Int) x with
  | false =>
    rw [ef, if_neg (by decide)] at k
    exact Br.yes rfl (Ret.mk (k none 0 0 1 h2 l12 ⟨rfl, rfl, rfl⟩))
  | true =>
    rw [ef, if_pos rfl] at k
    refine Br.no rfl (S_CloneC (C.le l12) hn hs fun p' c' h3 l3 own => ⟨_, _, _, rfl, ?_⟩)
    have A3 := A.le (Heap.le_trans l2 l3)
    refine ⟨_, A3.cell rfl, _, A3.cell rfl, _, A3.cell rfl, by omega, by omega, ?_⟩
    rcases own with ⟨e1, _, _⟩ | ⟨b, sp, rfl, e0, B, hcap⟩
    · have := congrArg List.length e1
      rw [curV_length, List.length_nil] at this
      omega
    · rw [Int.toNat_natCast]
      refine withAddr_intro rfl ⟨B.canSt (by rw [List.length_append, curV_length]; omega), ?_⟩
      have B' := B.set (o := 0 + j * 3) (ws := [string x.code, .int .i64 x.rate, .int .i64 x.cut])
      have e4 : setL (curV l ++ sp) (0 + j * 3) [string x.code, .int .i64 x.rate, .int .i64 x.cut] = curV (l.set j x) ++ sp := by
        rw [Nat.zero_add]; exact curV_set x sp l j (by omega)
      rw [e4] at B'
      have e5 : h b = none := none_of_le l12 e0
      exact Ret.mk (k _ _ _ _ _ (le_setN (Heap.le_trans l12 l3) e5) ⟨⟨b, sp, rfl, e5, B'⟩, by simpa using hn, rfl⟩)
theorem S_WithRateO {cur r : Int} (C : Curs h p l) (hn : l.length = n) (hs : n ≤ 1000000)
    (k : ∀ p' n' c' e h', h.le h' → WResO h h' p' n' e (wRate l cur r) → K (tuple #[slice p' n' c', .int .i64 e]) h') : CallA Try.prog fn_table_WithRate [slice p n c, .int .i64 cur, .int .i64 r] h K := by
  refine F_table_WithRate _ _ _ _ _ _ _ ?_
  unfold F_table_WithRateT
  unfold wRate at k
  refine S_has ⟨_, rfl, ?_⟩
  by_cases hc : 0 ≤ cur ∧ cur < (n : Int)
  · rw [decide_eq_true hc]
    obtain ⟨j, rfl⟩ := Int.eq_ofNat_of_zero_le hc.1
    have hx : l[j]? = some l[j] := List.getElem?_eq_getElem (by omega)
    rw [if_pos hc.1, Int.toNat_natCast, hx] at k
    generalize l[j] = x at *
    refine Br.no rfl (cx0 C hn rfl hx (cx2 C hn rfl hx (S_withO (x := ⟨x.code, r, x.cut⟩) C hn hs rfl (by omega) fun p' n' c' e h' l' w => ⟨_, _, _, _, rfl, Ret.mk (k _ _ _ _ _ l' w)⟩)))
  · rw [decide_eq_false hc]
    refine Br.yes rfl (Ret.mk (k none 0 0 1 h h.le_refl ?_))
    split
    · rw [List.getElem?_eq_none (by omega)]; exact ⟨rfl, rfl, rfl⟩
    · exact ⟨rfl, rfl, rfl⟩
theorem S_WithCutO {cur r : Int} (C : Curs h p l) (hn : l.length = n) (hs : n ≤ 1000000)
    (k : ∀ p' n' c' e h', h.le h' → WResO h h' p' n' e (wCut l cur r) → K (tuple #[slice p' n' c', .int .i64 e]) h') : CallA Try.prog fn_table_WithCut [slice p n c, .int .i64 cur, .int .i64 r] h K := by
  refine F_table_WithCut _ _ _ _ _ _ _ ?_
  unfold F_table_WithCutT
  unfold wCut at k
  refine S_has ⟨_, rfl, ?_⟩
  by_cases hc : 0 ≤ cur ∧ cur < (n : Int)
  · rw [decide_eq_true hc]
    obtain ⟨j, rfl⟩ := Int.eq_ofNat_of_zero_le hc.1
    have hx : l[j]? = some l[j] := List.getElem?_eq_getElem (by omega)
    rw [if_pos hc.1, Int.toNat_natCast, hx] at k
    generalize l[j] = x at *
    refine Br.no rfl (cx0 C hn rfl hx (cx1 C hn rfl hx (S_withO (x := ⟨x.code, x.rate, r⟩) C hn hs rfl (by omega) fun p' n' c' e h' l' w => ⟨_, _, _, _, rfl, Ret.mk (k _ _ _ _ _ l' w)⟩)))
  · rw [decide_eq_false hc]
    refine Br.yes rfl (Ret.mk (k none 0 0 1 h h.le_refl ?_))
    split
    · rw [List.getElem?_eq_none (by omega)]; exact ⟨rfl, rfl, rfl⟩
    · exact ⟨rfl, rfl, rfl⟩
end
theorem withL_some {l l' : List Cur} {j : Nat} {x y : Cur} (h : tabE l = 0) (hy : l[j]? = some y) (hc : x.code = y.code) (e : withL l j x = some l') : l' = l.set j x ∧ tabE l' = 0 := by
  unfold withL at e
  split at e
  · rename_i hf
    cases e
    exact ⟨rfl, (tab_set h hy hc).2 hf⟩
  · cases e
theorem wRate_some {l l' : List Cur} {cur r : Int} (h : tabE l = 0) (e : wRate l cur r = some l') : ∃ (j : Nat) (x : Cur), cur = (j : Int) ∧ j < l.length ∧ l' = l.set j x ∧ tabE l' = 0 := by
  unfold wRate at e
  split at e
  · rename_i h0
    cases hy : l[cur.toNat]? with
    | none => rw [hy] at e; cases e
    | some y =>
      rw [hy] at e
      obtain ⟨e1, e2⟩ := withL_some (x := ⟨y.code, r, y.cut⟩) h hy rfl e
      exact ⟨cur.toNat, _, by omega, (List.getElem?_eq_some_iff.1 hy).1, e1, e2⟩
  · cases e
theorem wCut_some {l l' : List Cur} {cur r : Int} (h : tabE l = 0) (e : wCut l cur r = some l') : ∃ (j : Nat) (x : Cur), cur = (j : Int) ∧ j < l.length ∧ l' = l.set j x ∧ tabE l' = 0 := by
  unfold wCut at e
  split at e
  · rename_i h0
    cases hy : l[cur.toNat]? with
    | none => rw [hy] at e; cases e
    | some y =>
      rw [hy] at e
      obtain ⟨e1, e2⟩ := withL_some (x := ⟨y.code, y.rate, r⟩) h hy rfl e
      exact ⟨cur.toNat, _, by omega, (List.getElem?_eq_some_iff.1 hy).1, e1, e2⟩
  · cases e
end Go.Proofs.Ytghdadniddoboaa

/- Worths by another table. -/
namespace Go.Proofs.Ytghdadniddoboaa
open Go Go.Sy Go.Value
set_option linter.unusedVariables false
set_option linter.unusedSimpArgs false

theorem acR_upd {f : WoF} {w : Nat} {L : Nat → Ac} {d j : Nat} {a : Ac} (hn : (L j).nt = a.nt) (hs : (L j).sh = a.sh) (k : Nat) : acR f w (updF L j a) d k = acR f w L d k := by
  unfold acR
  split
  · unfold acV
    by_cases e : k = j
    · subst e; rw [updF_same, hn, hs]
    · rw [updF_ne _ _ e]
  · rfl
theorem woC_upd {f : WoF} {T : List Cur} {n d : Nat} {L : Nat → Ac} {j i : Nat} {a : Ac} (hN : i = 1 → (L j).nt = a.nt ∧ (L j).sh = a.sh) (hB : i = 3 + 3 * j → (L j).row = a.row) (hW : i = 4 + 3 * j → (L j).wl = a.wl) (hH : i = 5 + 3 * j → (L j).sl = a.sl) :
    woC f T n d (updF L j a) i = woC f T n d L i := by
  rcases kinds (x := i) with rfl | rfl | rfl | ⟨k, hk⟩
  · rfl
  · rw [woC_1, woC_1]
    congr 1
    unfold List.flatMap
    congr 1
    exact List.map_congr_left fun k _ => acR_upd (hN rfl).1 (hN rfl).2 k
  · rfl
  · rcases hk with rfl | rfl | rfl
    · rw [woC_B, woC_B]
      by_cases e : k = j
      · subst e; rw [updF_same, hB rfl]
      · rw [updF_ne _ _ e]
    · rw [woC_W, woC_W]
      by_cases e : k = j
      · subst e; rw [updF_same, hW rfl]
      · rw [updF_ne _ _ e]
    · rw [woC_H, woC_H]
      by_cases e : k = j
      · subst e; rw [updF_same, hH rfl]
      · rw [updF_ne _ _ e]
theorem setL_tds : ∀ (l : List Td) (j : Nat) (x : Td) (sp : List Value), j < l.length → setL (l.flatMap tdV1 ++ sp) (j * 2) (tdV1 x) = (l.set j x).flatMap tdV1 ++ sp
  | [], j, x, sp, h => by simp at h
  | y :: l, 0, x, sp, h => rfl
  | y :: l, j + 1, x, sp, h => by
    have := setL_tds l j x sp (by simpa using h)
    rw [show (j + 1) * 2 = j * 2 + 1 + 1 by omega]
    simp only [List.flatMap_cons, List.set_cons_succ, List.append_assoc]
    rw [← this]
    rfl
section
variable {h h0 : Heap} {f : WoF} {T : List Cur} {n d : Nat} {L : Nat → Ac} {j : Nat}
theorem WoX.wlW (X : WoX h f T n d L) (hj : j < d) {c : Nat} (hc : c < T.length) (x : Td) : WoX (h.setN (f.b (4 + 3 * j)) (c * 2) (tdV1 x)) f T n d (updF L j ⟨(L j).row, (L j).wl.set c x, (L j).sl, (L j).nt, (L j).sh⟩) := by
  refine ⟨(X.fam.set (i := 4 + 3 * j) (o := c * 2) (ws := tdV1 x) (by omega)).congr fun i hi => ?_, X.dn, fun i hi => ?_⟩
  · by_cases e : i = 4 + 3 * j
    · subst e
      rw [updF_same, woC_W, woC_W, updF_same, setL_tds _ _ _ _ (by rw [(X.ln j hj).2.1]; exact hc)]
    · rw [updF_ne _ _ e]
      symm
      exact woC_upd (fun _ => ⟨rfl, rfl⟩) (fun _ => rfl) (fun e2 => (e e2).elim) (fun _ => rfl)
  · by_cases e : i = j
    · subst e; rw [updF_same]; dsimp only; rw [List.length_set]; exact X.ln i hi
    · rw [updF_ne _ _ e]; exact X.ln i hi
theorem WoX.slW (X : WoX h f T n d L) (hj : j < d) {c : Nat} (hc : c < T.length) (x : Td) : WoX (h.setN (f.b (5 + 3 * j)) (c * 2) (tdV1 x)) f T n d (updF L j ⟨(L j).row, (L j).wl, (L j).sl.set c x, (L j).nt, (L j).sh⟩) := by
  refine ⟨(X.fam.set (i := 5 + 3 * j) (o := c * 2) (ws := tdV1 x) (by omega)).congr fun i hi => ?_, X.dn, fun i hi => ?_⟩
  · by_cases e : i = 5 + 3 * j
    · subst e
      rw [updF_same, woC_H, woC_H, updF_same, setL_tds _ _ _ _ (by rw [(X.ln j hj).2.2]; exact hc)]
    · rw [updF_ne _ _ e]
      symm
      exact woC_upd (fun _ => ⟨rfl, rfl⟩) (fun _ => rfl) (fun _ => rfl) (fun e2 => (e e2).elim)
  · by_cases e : i = j
    · subst e; rw [updF_same]; dsimp only; rw [List.length_set]; exact X.ln i hi
    · rw [updF_ne _ _ e]; exact X.ln i hi
theorem WoX.ntW (X : WoX h f T n d L) (hj : j < d) (x : Td) : WoX (h.setN (f.b 1) (j * 7 + 3) [.int .i64 x.1, .int .i64 x.2]) f T n d (updF L j ⟨(L j).row, (L j).wl, (L j).sl, x, (L j).sh⟩) := by
  have hdn := X.dn
  refine ⟨(X.fam.set (i := 1) (o := j * 7 + 3) (ws := [.int .i64 x.1, .int .i64 x.2]) (by omega)).congr fun i hi => ?_, X.dn, fun i hi => ?_⟩
  · by_cases e : i = 1
    · subst e
      rw [updF_same, woC_1, woC_1, setL_rows (acR_len f T.length L d) (by simp) n j _ (by omega)]
      congr 1
      unfold List.flatMap
      congr 1
      refine List.map_congr_left fun k hk => ?_
      by_cases e : k = j
      · subst e
        rw [updF_same]
        unfold acR
        rw [if_pos hj, if_pos hj]
        unfold acV
        rw [updF_same]
        rfl
      · rw [updF_ne _ _ e]
        unfold acR acV
        rw [updF_ne _ _ e]
    · rw [updF_ne _ _ e]
      symm
      exact woC_upd (fun e2 => (e e2).elim) (fun _ => rfl) (fun _ => rfl) (fun _ => rfl)
  · by_cases e : i = j
    · subst e; rw [updF_same]; exact X.ln i hi
    · rw [updF_ne _ _ e]; exact X.ln i hi
theorem WoX.shW (X : WoX h f T n d L) (hj : j < d) (x : Td) : WoX (h.setN (f.b 1) (j * 7 + 5) [.int .i64 x.1, .int .i64 x.2]) f T n d (updF L j ⟨(L j).row, (L j).wl, (L j).sl, (L j).nt, x⟩) := by
  have hdn := X.dn
  refine ⟨(X.fam.set (i := 1) (o := j * 7 + 5) (ws := [.int .i64 x.1, .int .i64 x.2]) (by omega)).congr fun i hi => ?_, X.dn, fun i hi => ?_⟩
  · by_cases e : i = 1
    · subst e
      rw [updF_same, woC_1, woC_1, setL_rows (acR_len f T.length L d) (by simp) n j _ (by omega)]
      congr 1
      unfold List.flatMap
      congr 1
      refine List.map_congr_left fun k hk => ?_
      by_cases e : k = j
      · subst e
        rw [updF_same]
        unfold acR
        rw [if_pos hj, if_pos hj]
        unfold acV
        rw [updF_same]
        rfl
      · rw [updF_ne _ _ e]
        unfold acR acV
        rw [updF_ne _ _ e]
    · rw [updF_ne _ _ e]
      symm
      exact woC_upd (fun e2 => (e e2).elim) (fun _ => rfl) (fun _ => rfl) (fun _ => rfl)
  · by_cases e : i = j
    · subst e; rw [updF_same]; exact X.ln i hi
    · rw [updF_ne _ _ e]; exact X.ln i hi
theorem updF_upd {α : Type} (g : Nat → α) (j : Nat) (x y : α) : updF (updF g j x) j y = updF g j y := by
  funext i
  by_cases e : i = j
  · subst e; rw [updF_same, updF_same]
  · rw [updF_ne _ _ e, updF_ne _ _ e, updF_ne _ _ e]
/-- another table block -/
theorem WoX.tab (X : WoX h f T n d L) {T' : List Cur} (hT : T'.length = T.length) {tb c : Nat} {sq : List Value} (a : At h tb (curV T' ++ sq)) (z : famD (3 + 3 * d) f.b tb = false) :
    WoX (h.setN (f.b 0) 0 [slice (some ⟨tb, 0, none⟩) T'.length c]) ⟨updF f.b 2 tb, updF f.q 2 c, updF f.sp 2 sq, f.lp⟩ T' n d L := by
  have F := (X.fam.swap (i := 2) z a).set (i := 0) (o := 0) (ws := [slice (some ⟨tb, 0, none⟩) T'.length c]) (by omega)
  rw [updF_ne _ _ (show (0 : Nat) ≠ 2 by decide), updF_ne _ _ (show (0 : Nat) ≠ 2 by decide)] at F
  refine ⟨F.congr fun i hi => ?_, X.dn, fun i hi => by rw [hT]; exact X.ln i hi⟩
  rcases kinds (x := i) with rfl | rfl | rfl | ⟨k, hk⟩
  · rw [updF_same, woC_0, woC_0]
    rfl
  · rw [updF_ne _ _ (by decide), updF_ne _ _ (by decide), woC_1, woC_1]
    have e : acR ⟨updF f.b 2 tb, updF f.q 2 c, updF f.sp 2 sq, f.lp⟩ T'.length L d = acR f T.length L d := by
      funext k
      unfold acR acV
      dsimp only
      rw [updF_ne _ _ (by omega), updF_ne _ _ (by omega), updF_ne _ _ (by omega), updF_ne _ _ (by omega), updF_ne _ _ (by omega), updF_ne _ _ (by omega), hT]
    rw [e]; rfl
  · rw [updF_ne _ _ (by decide), updF_same, woC_2]
    rfl
  · rcases hk with rfl | rfl | rfl
    · rw [updF_ne _ _ (by omega), updF_ne _ _ (by omega), woC_B, woC_B]
      dsimp only
      rw [updF_ne _ _ (by omega)]
    · rw [updF_ne _ _ (by omega), updF_ne _ _ (by omega), woC_W, woC_W]
      dsimp only
      rw [updF_ne _ _ (by omega)]
    · rw [updF_ne _ _ (by omega), updF_ne _ _ (by omega), woC_H, woC_H]
      dsimp only
      rw [updF_ne _ _ (by omega)]
end
end Go.Proofs.Ytghdadniddoboaa

/- Rates and haircuts are set. -/
namespace Go.Proofs.Ytghdadniddoboaa
open Go Go.Sy Go.Value
set_option linter.unusedVariables false
set_option linter.unusedSimpArgs false

theorem toldW_setL {T : List Cur} {c : Nat} {x : Cur} (row : List Int) (hc : c < row.length) : (rowF (toldW T) 0 row).set c (toldW (T.set c x) c (row.getD c 0)) = rowF (toldW (T.set c x)) 0 row := by
  have := rowF_set (f := toldW T) (g := toldW (T.set c x)) (k := c) row 0 (fun j b e => (toldW_set e b).symm) (by omega) (by omega)
  rw [Nat.sub_zero] at this
  exact this.symm
theorem toldS_setL {T : List Cur} {c : Nat} {x : Cur} (row : List Int) (hc : c < row.length) : (rowF (toldS T) 0 row).set c (toldS (T.set c x) c (row.getD c 0)) = rowF (toldS (T.set c x)) 0 row := by
  have := rowF_set (f := toldS T) (g := toldS (T.set c x)) (k := c) row 0 (fun j b e => (toldS_set e b).symm) (by omega) (by omega)
  rw [Nat.sub_zero] at this
  exact this.symm
theorem rowF_I {g : Nat → Int → Td} (hg : ∀ c b, I64 (g c b).1) (row : List Int) : ∀ x ∈ rowF g 0 row, I64 x.1 := fun x hx => by
  obtain ⟨i, hi, e⟩ := List.mem_iff_getElem.1 hx
  have := rowF_get g row 0 i (by rw [rowF_len] at hi; exact hi)
  rw [List.getElem?_eq_getElem hi, e] at this
  cases this
  exact hg _ _
def mixL (T T' : List Cur) (B : Nat → List Int) (j i : Nat) : Ac := if i < j then acOf T' (B i) else acOf T (B i)
theorem mixL_succ (T T' : List Cur) (B : Nat → List Int) (j : Nat) : updF (mixL T T' B j) j (acOf T' (B j)) = mixL T T' B (j + 1) := by
  funext i
  unfold mixL
  by_cases e : i = j
  · subst e; rw [updF_same, if_pos (by omega)]
  · rw [updF_ne _ _ e]
    by_cases e2 : i < j
    · rw [if_pos e2, if_pos (by omega)]
    · rw [if_neg e2, if_neg (by omega)]
section
variable {h0 : Heap} {K : Value → Heap → Prop} {T : List Cur} {n : Nat} {B : Nat → List Int} {c : Nat} {x : Cur}
theorem turn_loop {f : WoF} (t8 : T.length ≤ 8) (ok : (T.set c x).all inbB = true) (hc : c < T.length) (hl : ∀ i, i < n → (B i).length = T.length) (hI : ∀ i, i < n → ∀ y ∈ B i, I64 y) (fr : ∀ i, i < 3 + 3 * n → h0 (f.b i) = none) (hn : n ≤ 1000000)
    (k : ∀ h', h0.le h' → WoX h' f (T.set c x) n n (fun i => acOf (T.set c x) (B i)) → K (tuple #[]) h') :
    ∀ (m j : Nat) (h : Heap), m + j = n → h0.le h → WoX h f (T.set c x) n n (mixL T (T.set c x) B j) → L_pworth_Worths_turn_0 (some ⟨f.b 0, 0, none⟩) (c : Int) (n : Int) (j : Int) h K := by
  have hTl : (T.set c x).length = T.length := List.length_set
  intro m
  induction m with
  | zero =>
    intro j h hj l0 X
    refine L_pworth_Worths_turn_0r _ _ _ _ _ _ ?_
    unfold L_pworth_Worths_turn_0T
    obtain rfl : j = n := by omega
    have e : WoX h f (T.set c x) j j (fun i => acOf (T.set c x) (B i)) := ⟨X.fam.congr fun i hi => ?_, X.dn, fun i hi => ?_⟩
    · exact Br.no (by simp) (Ret.mk (k h l0 e))
    · rcases kinds (x := i) with rfl | rfl | rfl | ⟨q, hq⟩
      · rfl
      · rw [woC_1, woC_1]
        congr 1
        unfold List.flatMap
        congr 1
        refine List.map_congr_left fun q _ => ?_
        unfold acR
        split
        · rename_i hq
          unfold acV mixL
          rw [if_pos hq]
        · rfl
      · rfl
      · rcases hq with rfl | rfl | rfl
        · rw [woC_B, woC_B]; unfold mixL; rw [if_pos (by omega)]
        · rw [woC_W, woC_W]; unfold mixL; rw [if_pos (by omega)]
        · rw [woC_H, woC_H]; unfold mixL; rw [if_pos (by omega)]
    · have := X.ln i hi
      unfold mixL at this
      rw [if_pos hi] at this
      exact this
  | succ m ih =>
    intro j h hj l0 X
    refine L_pworth_Worths_turn_0r _ _ _ _ _ _ ?_
    unfold L_pworth_Worths_turn_0T
    have hjn : j < n := by omega
    have hlj := hl j hjn
    have hIj := hI j hjn
    have hmix := mixL_succ T (T.set c x) B j
    have hLj : mixL T (T.set c x) B j j = acOf T (B j) := if_neg (by omega)
    generalize mixL T (T.set c x) B j = L at *
    have hcr : c < (B j).length := by omega
    have hcT : c < (T.set c x).length := by omega
    have hbal : h.cell (f.b (3 + 3 * j)) (0 + (c : Int).toNat) = some (.int .i64 ((B j).getD c 0)) := (X.row hjn).cell (by
      rw [Int.toNat_natCast, Nat.zero_add, hLj, List.getElem?_append_left (by rw [intsV_length]; exact hcr), intsV_map, List.getElem?_map]
      show ((B j)[c]?).map _ = _
      rw [List.getElem?_eq_getElem hcr, List.getD_eq_getElem?_getD, List.getElem?_eq_getElem hcr]; rfl)
    have hbI : I64 ((B j).getD c 0) := by rw [List.getD_eq_getElem?_getD, List.getElem?_eq_getElem hcr]; exact hIj _ (List.getElem_mem _)
    have z : ∀ o, o < 7 → h.cell (f.b 1) (0 + (j : Int).toNat * 7 + o) = (acV f (T.set c x).length L j)[o]? := fun o ho => by rw [Int.toNat_natCast, Nat.zero_add]; exact X.ac hjn ho
    refine Br.yes (by simp; omega) (withAddr_intro rfl ⟨_, _, _, X.w.cell rfl, by omega, by omega, withAddr_intro rfl ⟨_, _, _, z 1 (by decide), _, _, _, z 2 (by decide), _, _, _, z 0 (by decide), by omega, by omega, withAddr_intro rfl ⟨_, hbal, S_Wone X.t rfl ok X.w (cur := c) rfl hbI fun h1 l1 => ⟨_, _, _, _, rfl, .inl l1, by omega, by omega, withAddr_intro rfl ?_⟩⟩⟩⟩)
    have X1 := X.le l1
    rw [Int.toNat_natCast, Int.toNat_natCast, Nat.zero_add, Nat.zero_add]
    have lnj := X.ln j hjn
    have c1 : h1.canSt (f.b (4 + 3 * j)) (c * 2) 2 := (X1.wl hjn).canSt (by rw [List.length_append, arr_len tdV1_len]; omega)
    have X2 := X1.wlW hjn hcT (toldW (T.set c x) c ((B j).getD c 0))
    refine ⟨c1, by omega, by omega, withAddr_intro rfl ?_⟩
    rw [Nat.zero_add]
    have l2 : h0.le (h1.setN (f.b (4 + 3 * j)) (c * 2) (tdV1 (toldW (T.set c x) c ((B j).getD c 0)))) := le_setN (Heap.le_trans l0 l1) (fr _ (by omega))
    have c2 : (h1.setN (f.b (4 + 3 * j)) (c * 2) (tdV1 (toldW (T.set c x) c ((B j).getD c 0)))).canSt (f.b (5 + 3 * j)) (c * 2) 2 := (X2.sl hjn).canSt (by rw [List.length_append, arr_len tdV1_len, (X2.ln j hjn).2.2]; omega)
    have X3 := X2.slW hjn hcT (toldS (T.set c x) c ((B j).getD c 0))
    have l3 := le_setN (o := c * 2) (ws := tdV1 (toldS (T.set c x) c ((B j).getD c 0))) l2 (fr (5 + 3 * j) (by omega))
    rw [updF_upd, updF_same, hLj] at X3
    have e3 : (⟨(acOf T (B j)).row, (acOf T (B j)).wl.set c (toldW (T.set c x) c ((B j).getD c 0)), (acOf T (B j)).sl.set c (toldS (T.set c x) c ((B j).getD c 0)), (acOf T (B j)).nt, (acOf T (B j)).sh⟩ : Ac) = ⟨B j, rowF (toldW (T.set c x)) 0 (B j), rowF (toldS (T.set c x)) 0 (B j), netW T (B j), shW T (B j)⟩ := by
      rw [← toldW_setL (T := T) (x := x) (B j) hcr, ← toldS_setL (T := T) (x := x) (B j) hcr]; rfl
    dsimp only at X3 e3
    rw [e3] at X3
    refine ⟨c2, ?_⟩
    have hH : (h1.setN (f.b (4 + 3 * j)) (c * 2) [int .i64 (toldW (T.set c x) c ((B j).getD c 0)).1, int .i64 (toldW (T.set c x) c ((B j).getD c 0)).2]).setN (f.b (5 + 3 * j)) (c * 2) [int .i64 (toldS (T.set c x) c ((B j).getD c 0)).1, int .i64 (toldS (T.set c x) c ((B j).getD c 0)).2] = (h1.setN (f.b (4 + 3 * j)) (c * 2) (tdV1 (toldW (T.set c x) c ((B j).getD c 0)))).setN (f.b (5 + 3 * j)) (c * 2) (tdV1 (toldS (T.set c x) c ((B j).getD c 0))) := rfl
    rw [hH]
    generalize (h1.setN (f.b (4 + 3 * j)) (c * 2) (tdV1 (toldW (T.set c x) c ((B j).getD c 0)))).setN (f.b (5 + 3 * j)) (c * 2) (tdV1 (toldS (T.set c x) c ((B j).getD c 0))) = H3 at *
    have z3 : ∀ o, o < 7 → H3.cell (f.b 1) (j * 7 + o) = _ := fun o ho => X3.ac hjn ho
    have W3 : At H3 (f.b (4 + 3 * j)) ((rowF (toldW (T.set c x)) 0 (B j)).flatMap tdV1 ++ f.sp (4 + 3 * j)) := by
      have := X3.wl hjn
      rw [updF_same] at this
      exact this
    have S3 : At H3 (f.b (5 + 3 * j)) ((rowF (toldS (T.set c x)) 0 (B j)).flatMap tdV1 ++ f.sp (5 + 3 * j)) := by
      have := X3.sl hjn
      rw [updF_same] at this
      exact this
    refine ⟨_, _, _, z3 1 (by decide), _, _, _, z3 2 (by decide), S_chain (l := rowF (toldW (T.set c x)) 0 (B j)) W3.toRd (by rw [rowF_len, hlj, hTl]) (by omega) (rowF_I (fun c b => worthR_I _ _ _) _) fun h4 l4 => ⟨_, _, rfl, .inl l4, S_chain (l := rowF (toldS (T.set c x)) 0 (B j)) (S3.le l4).toRd (by rw [rowF_len, hlj, hTl]) (by omega) (rowF_I (fun c b => toldS_I _ _ _) _) fun h5 l5 => ⟨_, _, rfl, ?_⟩⟩⟩
    have X4 := (X3.le (Heap.le_trans l4 l5)).ntW hjn (netW (T.set c x) (B j))
    rw [updF_upd, updF_same] at X4
    have X5 := X4.shW hjn (shW (T.set c x) (B j))
    rw [updF_upd, updF_same] at X5
    have hlen : ((List.range n).flatMap (acR f (T.set c x).length L n)).length = n * 7 := flat_len' (acR_len _ _ _ _) n
    have cs : ∀ g : Heap, ∀ L', WoX g f (T.set c x) n n L' → ∀ o, o + 2 ≤ 7 → g.canSt (f.b 1) (j * 7 + o) 2 := fun g L' X o ho => X.a.canSt (by rw [List.length_append, flat_len' (acR_len _ _ _ _)]; omega)
    refine ⟨cs _ _ (X3.le (Heap.le_trans l4 l5)) 3 (by decide), cs _ _ X4 5 (by decide), ?_⟩
    rw [w1 (by omega)]
    refine ih (j + 1) _ (by omega) (le_setN (le_setN (Heap.le_trans l3 (Heap.le_trans l4 l5)) (fr 1 (by omega))) (fr 1 (by omega))) ?_
    rw [← hmix]
    exact X5
theorem S_turn {h : Heap} {f : WoF} {tb cc : Nat} {sq : List Value} (l0 : h0.le h) (t8 : T.length ≤ 8) (ok : (T.set c x).all inbB = true) (hc : c < T.length) (hl : ∀ i, i < n → (B i).length = T.length) (hI : ∀ i, i < n → ∀ y ∈ B i, I64 y) (fr : ∀ i, i < 3 + 3 * n → h0 (f.b i) = none) (hn : n ≤ 1000000)
    (X : WoX h f T n n (fun i => acOf T (B i))) (a : At h tb (curV (T.set c x) ++ sq)) (z : famD (3 + 3 * n) f.b tb = false) (zt : h0 tb = none)
    (k : ∀ h' f', h0.le h' → f'.b 0 = f.b 0 → f'.lp = f.lp → (∀ i, i < 3 + 3 * n → h0 (f'.b i) = none) → WoX h' f' (T.set c x) n n (fun i => acOf (T.set c x) (B i)) → K (tuple #[]) h') :
    CallA Try.prog fn_pworth_Worths_turn [pointer (some ⟨f.b 0, 0, none⟩), slice (some ⟨tb, 0, none⟩) T.length cc, .int .i64 (c : Int)] h K := by
  have hTl : (T.set c x).length = T.length := List.length_set
  refine F_pworth_Worths_turn _ _ _ _ _ _ _ ?_
  unfold F_pworth_Worths_turnT
  have X1 := X.tab hTl (c := cc) a z
  rw [hTl] at X1
  have fr' : ∀ i, i < 3 + 3 * n → h0 ((⟨updF f.b 2 tb, updF f.q 2 cc, updF f.sp 2 sq, f.lp⟩ : WoF).b i) = none := fun i hi => by
    show h0 (updF f.b 2 tb i) = none
    by_cases e : i = 2
    · subst e; rw [updF_same]; exact zt
    · rw [updF_ne _ _ e]; exact fr i hi
  refine withAddr_intro rfl ⟨X.w.canSt (by simp), withAddr_intro rfl ⟨_, _, _, X1.w.cell rfl, ?_⟩⟩
  have e0 : (⟨updF f.b 2 tb, updF f.q 2 cc, updF f.sp 2 sq, f.lp⟩ : WoF).b 0 = f.b 0 := updF_ne f.b tb (show (0 : Nat) ≠ 2 by decide)
  have := turn_loop (f := ⟨updF f.b 2 tb, updF f.q 2 cc, updF f.sp 2 sq, f.lp⟩) t8 ok hc hl hI fr' hn (fun h' l' X' => k h' _ l' e0 rfl fr' X') n 0 _ rfl (le_setN l0 (fr 0 (by omega))) (by
    have e : mixL T (T.set c x) B 0 = fun i => acOf T (B i) := by funext i; exact if_neg (by omega)
    rw [e]; exact X1)
  exact this
end
/-- a table of another rate or haircut, or none -/
def turnT (T : List Cur) : Option (List Cur) → List Cur
  | none => T
  | some T' => T'
def turnE : Option (List Cur) → Int
  | none => 1
  | some _ => 0
section
variable {h0 h : Heap} {K : Value → Heap → Prop} {T : List Cur} {n : Nat} {B : Nat → List Int} {f : WoF}
theorem S_wRate (l0 : h0.le h) (hT : tabE T = 0) (hl : ∀ i, i < n → (B i).length = T.length) (hI : ∀ i, i < n → ∀ y ∈ B i, I64 y) (fr : ∀ i, i < 3 + 3 * n → h0 (f.b i) = none) (hn : n ≤ 1000000) (X : WoX h f T n n (fun i => acOf T (B i))) {cur r : Int}
    (k : ∀ h' f', h0.le h' → f'.b 0 = f.b 0 → f'.lp = f.lp → (∀ i, i < 3 + 3 * n → h0 (f'.b i) = none) → WoX h' f' (turnT T (wRate T cur r)) n n (fun i => acOf (turnT T (wRate T cur r)) (B i)) → K (.int .i64 (turnE (wRate T cur r))) h') :
    CallA Try.prog fn_pworth_Worths_Rate [pointer (some ⟨f.b 0, 0, none⟩), .int .i64 cur, .int .i64 r] h K := by
  obtain ⟨_, t8, _⟩ := tab_parts hT
  refine F_pworth_Worths_Rate _ _ _ _ _ ?_
  unfold F_pworth_Worths_RateT
  refine withAddr_intro rfl ⟨_, _, _, X.w.cell rfl, S_WithRateO X.t rfl (by omega) fun p' n' c' e h1 l1 w => ⟨_, _, _, _, rfl, ?_⟩⟩
  cases hw : wRate T cur r with
  | none =>
    rw [hw] at k w
    obtain ⟨rfl, rfl, rfl⟩ := w
    exact Br.no rfl (Ret.mk (k h1 f (Heap.le_trans l0 l1) rfl rfl fr (X.le l1)))
  | some T' =>
    rw [hw] at k w
    obtain ⟨⟨tb, sq, rfl, zt, a⟩, rfl, rfl⟩ := w
    obtain ⟨j, x, rfl, hj, rfl, hT'⟩ := wRate_some hT hw
    rw [List.length_set]
    exact Br.yes rfl (S_turn (Heap.le_trans l0 l1) t8 (all_inb hT') hj hl hI fr hn (X.le l1) a (X.fam.fresh zt) (none_of_le l0 zt) fun h' f' l' e1 e2 fr' X' => ⟨rfl, Ret.mk (k h' f' l' e1 e2 fr' X')⟩)
theorem S_wCut (l0 : h0.le h) (hT : tabE T = 0) (hl : ∀ i, i < n → (B i).length = T.length) (hI : ∀ i, i < n → ∀ y ∈ B i, I64 y) (fr : ∀ i, i < 3 + 3 * n → h0 (f.b i) = none) (hn : n ≤ 1000000) (X : WoX h f T n n (fun i => acOf T (B i))) {cur r : Int}
    (k : ∀ h' f', h0.le h' → f'.b 0 = f.b 0 → f'.lp = f.lp → (∀ i, i < 3 + 3 * n → h0 (f'.b i) = none) → WoX h' f' (turnT T (wCut T cur r)) n n (fun i => acOf (turnT T (wCut T cur r)) (B i)) → K (.int .i64 (turnE (wCut T cur r))) h') :
    CallA Try.prog fn_pworth_Worths_Cut [pointer (some ⟨f.b 0, 0, none⟩), .int .i64 cur, .int .i64 r] h K := by
  obtain ⟨_, t8, _⟩ := tab_parts hT
  refine F_pworth_Worths_Cut _ _ _ _ _ ?_
  unfold F_pworth_Worths_CutT
  refine withAddr_intro rfl ⟨_, _, _, X.w.cell rfl, S_WithCutO X.t rfl (by omega) fun p' n' c' e h1 l1 w => ⟨_, _, _, _, rfl, ?_⟩⟩
  cases hw : wCut T cur r with
  | none =>
    rw [hw] at k w
    obtain ⟨rfl, rfl, rfl⟩ := w
    exact Br.no rfl (Ret.mk (k h1 f (Heap.le_trans l0 l1) rfl rfl fr (X.le l1)))
  | some T' =>
    rw [hw] at k w
    obtain ⟨⟨tb, sq, rfl, zt, a⟩, rfl, rfl⟩ := w
    obtain ⟨j, x, rfl, hj, rfl, hT'⟩ := wCut_some hT hw
    rw [List.length_set]
    exact Br.yes rfl (S_turn (Heap.le_trans l0 l1) t8 (all_inb hT') hj hl hI fr hn (X.le l1) a (X.fam.fresh zt) (none_of_le l0 zt) fun h' f' l' e1 e2 fr' X' => ⟨rfl, Ret.mk (k h' f' l' e1 e2 fr' X')⟩)
end
end Go.Proofs.Ytghdadniddoboaa
