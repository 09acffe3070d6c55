import Derived.Test.YtjihfieahkbohaaM12
import Derived.Test.YtjihfieahkbohaaM06
import Derived.Test.YtjihfieahkbohaaM10
/- The reference's book of instructions: removed from, told. -/
namespace Go.Proofs.Ytjihfieahkbohaa
open Go Go.Sy Go.Value
set_option linter.unusedVariables false
set_option linter.unusedSimpArgs false

section
variable {h0 h : Heap} {K : Value → Heap → Prop} {q : Nat} {S : Bk}
theorem rrem_0 {m : Int} (ok : S.Ok) (k : ∀ h' p c', RB h' q (removeM S m).2 → Ints .i64 h' p (remO m S.L) → K (slice p (remO m S.L).length c') h') :
    ∀ (n j : Nat) (h : Heap) (lp : Option Addr) (c : Nat) (out : Option Addr) (oc : Nat), n + j = S.L.length → RBk h q { S with L := remPart m S.L j } lp c → OwnL nulH h [.int .i64 0] out oc (intsV .i64 (remO m (S.L.take j))) →
      out ≠ some ⟨q, 0, none⟩ → (∀ r, lp = some ⟨r, 0, none⟩ → out ≠ some ⟨r, 0, none⟩) →
    L_pref11_Book_Remove_0 (some ⟨q, 0, none⟩) m out (remO m (S.L.take j)).length oc (j : Int) h K := by
  have hn2 := ok.n
  intro n
  induction n with
  | zero =>
    intro j h lp c out oc hj B ow n1 n2
    refine L_pref11_Book_Remove_0r _ _ _ _ _ _ _ _ ?_
    unfold L_pref11_Book_Remove_0T
    have hj : j = S.L.length := by omega
    subst hj
    refine withAddr_intro rfl ⟨_, _, _, B.ap.cell rfl, Br.no (by dsimp only; rw [remPart_len]; simp) (Ret.mk ?_)⟩
    rw [remPart_end] at B
    rw [List.take_length] at ow ⊢
    refine k h out oc ⟨?_, lp, c, B⟩ ow.rd
    have := ok.part (m := m) S.L.length (Nat.le_refl _)
    rw [remPart_end] at this
    exact this
  | succ n ih =>
    intro j h lp c out oc hj B ow n1 n2
    refine L_pref11_Book_Remove_0r _ _ _ _ _ _ _ _ ?_
    unfold L_pref11_Book_Remove_0T
    have hjl : j < S.L.length := by omega
    have hx := remPart_get (m := m) hjl
    have hl := remO_succ (m := m) hjl
    have hs := remPart_succ (m := m) hjl
    have hst := (ok.could _ (List.getElem_mem hjl)).st
    have hro : (remO m (S.L.take j)).length ≤ 200 := by
      unfold remO
      rw [List.length_map]
      have := List.length_filter_le (hitE m) (S.L.take j)
      rw [List.length_take] at this
      omega
    have hpl : (remPart m S.L j).length = S.L.length := remPart_len m S.L j
    refine withAddr_intro rfl ⟨_, _, _, B.ap.cell rfl, Br.yes (by dsimp only; rw [hpl]; exact decide_eq_true (by omega)) (withAddr_intro rfl ⟨_, _, _, B.ap.cell rfl, ax rV_len B.arr rfl rfl hx (by decide) fun b o hb hc => ?_⟩)⟩
    refine ⟨_, hc 0 (by decide), _, hc 1 (by decide), _, hc 2 (by decide), _, hc 3 (by decide), _, hc 4 (by decide), _, hc 5 (by decide), _, hc 6 (by decide), _, hc 7 (by decide), _, hc 8 (by decide), _, hc 9 (by decide), _, hc 10 (by decide), newB_cp (vs := rV S.L[j]) rfl fun r h3 hr l3 A2 cs => ⟨cs, ?_⟩⟩
    have r1 : q ≠ r := B.ap.ne hr
    have r2 : lp ≠ some ⟨r, 0, none⟩ := B.ol.fresh hr
    have r3 : out ≠ some ⟨r, 0, none⟩ := ow.fresh hr
    have B := B.le l3
    have ow := ow.le l3
    have skip : hitE m S.L[j] = false → L_pref11_Book_Remove_0 (some ⟨q, 0, none⟩) m out (remO m (S.L.take j)).length oc (IntKind.wrap .i64 ((j : Int) + 1)) (h3.setN r 0 (rV S.L[j])) K := fun g => by
      rw [w1d (by omega)]
      have eg : goneE m S.L[j] = S.L[j] := by unfold goneE; rw [if_neg (by rw [g]; decide)]
      rw [eg] at hs
      have e2 : (remPart m S.L j).set j S.L[j] = remPart m S.L j := by
        refine List.ext_getElem? fun i => ?_
        rw [List.getElem?_set]
        split
        · rename_i gi
          subst gi
          rw [if_pos (by rw [remPart_len]; exact hjl), hx]
        · rfl
      rw [e2] at hs
      rw [if_neg (by rw [g]; decide)] at hl
      have := ih (j + 1) _ lp c out oc (by omega) (by rw [hs]; exact B) (by rw [hl]; exact ow) n1 n2
      rw [hl] at this
      exact this
    have take : ∀ H : Heap, H = h3.setN r 0 (rV S.L[j]) → hitE m S.L[j] = true → H.canSt r 7 1 ∧ LdR11 (H.setN r 7 [.int .i64 4]) r 0 fun x0 x1 x2 x3 x4 x5 x6 x7 x8 x9 x10 => CallA Try.prog fn_pref11_Book_set [pointer (some ⟨q, 0, none⟩), .int .i64 (j : Int), agg #[.int .i64 x0, .int .i64 x1, .int .i64 x2, .int .i64 x3, .int .i64 x4, .int .i64 x5, .int .i64 x6, .int .i64 x7, .bool x8, .bool x9, .int .i64 x10]] (H.setN r 7 [.int .i64 4]) fun v h => v = tuple #[] ∧ ∃ (n : Int), h.cell r 0 = some (.int .i64 n) ∧ newB h [.int .i64 n] 3 fun (r : Nat) (h : Heap) => AppA [.int .i64 0] 3 h out (remO m (S.L.take j)).length oc 1 (some { block := r, off := 0 }) fun (ap : Option Addr) (cp : Nat) (h : Heap) => L_pref11_Book_Remove_0 (some ⟨q, 0, none⟩) m ap ((remO m (S.L.take j)).length + 1) cp (IntKind.wrap .i64 ((j : Int) + 1)) h K := fun H eH g => by
      rw [← eH] at A2 B ow
      rw [w1d (by omega)]
      have eg : goneE m S.L[j] = { S.L[j] with st := 4 } := by unfold goneE; rw [if_pos g]
      rw [eg] at hs
      rw [if_pos g] at hl
      have A4 := A2.set (o := 7) (ws := [.int .i64 4])
      have B4 := B.oth (o := 7) (ws := [.int .i64 4]) r1 r2
      have ow4 := ow.set_ne (o := 7) (ws := [.int .i64 4]) r3
      refine ⟨A2.canSt (by rw [rV_len]; omega), _, A4.cell rfl, _, A4.cell rfl, _, A4.cell rfl, _, A4.cell rfl, _, A4.cell rfl, _, A4.cell rfl, _, A4.cell rfl, _, A4.cell rfl, _, A4.cell rfl, _, A4.cell rfl, _, A4.cell rfl, ?_⟩
      refine S_Rset (y := { S.L[j] with st := 4 }) B4 hx (by dsimp only; omega) fun h' lp' c' B6 fr => ⟨rfl, _, (fr _ _ A4 (Ne.symm r1)).1.cell rfl, ?_⟩
      dsimp only at B6
      rw [← hs] at B6
      have ow6 : OwnL nulH h' [.int .i64 0] out oc (intsV .i64 (remO m (S.L.take j))) := ow4.mv fun b xs e a => (fr b xs a fun g => n1 (by rw [e, g])).1
      have n26 : ∀ r', lp' = some ⟨r', 0, none⟩ → out ≠ some ⟨r', 0, none⟩ := fun r' e e2 => by
        rcases ow4 with ⟨_, e3, _⟩ | ⟨s, sp, e3, _, a, _⟩
        · rw [e3] at e2; cases e2
        · rw [e3] at e2
          have e2 : s = r' := by simpa using e2
          subst e2
          exact (fr s _ a fun g => n1 (by rw [e3, g])).2 e
      refine push1 ow6 (by decide) (nulH_le _) (by omega) rfl rfl (by rw [intsV_length]; simp) fun r4 h4 p' c2 h5 hr4 l4 _ ol5 keep how => ?_
      have B7 := B6.le l4
      have B5 : RBk h5 q { S with L := remPart m S.L (j + 1) } lp' c' := ⟨keepAt keep B7.ap n1, B7.ol.mv fun b xs e a => keepAt keep a (n26 b e), B7.np⟩
      have := ih (j + 1) h5 lp' c' p' c2 (by omega) B5 (by rw [hl, intsV_append]; exact ol5) (push_ne how B7.ap n1) fun r' e => by
        rcases B7.ol with ⟨_, e2, _⟩ | ⟨s, sp, e2, _, a, _⟩
        · rw [e2] at e; cases e
        · rw [e2] at e
          have e : s = r' := by simpa using e
          subst e
          exact push_ne how a (n26 s e2)
      rw [hl, List.length_append] at this
      exact this
    have hit : ∀ {b : Bool}, (x : S.L[j].st = 1 ∨ S.L[j].st = 2) → (S.L[j].d.a = m ∨ S.L[j].d.b = m) → hitE m S.L[j] = true := fun x y => decide_eq_true ⟨by omega, y⟩
    refine ⟨_, A2.cell rfl, Br.intro (fun g1 => ⟨_, A2.cell rfl, Br.intro (fun g2 => ?_) fun g2 => ⟨_, A2.cell rfl, Br.intro (fun g3 => ?_) fun g3 => ?_⟩⟩) fun g1 => ⟨_, A2.cell rfl, Br.intro (fun g0 => ⟨_, A2.cell rfl, Br.intro (fun g2 => ?_) fun g2 => ⟨_, A2.cell rfl, Br.intro (fun g3 => ?_) fun g3 => ?_⟩⟩) fun g0 => ?_⟩⟩
    · exact take _ rfl (hit (b := true) (.inl (by simpa using g1)) (.inl (by simpa using g2)))
    · exact take _ rfl (hit (b := true) (.inl (by simpa using g1)) (.inr (by simpa using g3)))
    · refine skip (decide_eq_false fun x => ?_)
      rcases x.2 with x | x
      · simp [x] at g2
      · simp [x] at g3
    · exact take _ rfl (hit (b := true) (.inr (by simpa using g0)) (.inl (by simpa using g2)))
    · exact take _ rfl (hit (b := true) (.inr (by simpa using g0)) (.inr (by simpa using g3)))
    · refine skip (decide_eq_false fun x => ?_)
      rcases x.2 with x | x
      · simp [x] at g2
      · simp [x] at g3
    · refine skip (decide_eq_false fun x => ?_)
      have g1 : S.L[j].st ≠ 1 := by simpa using g1
      have g0 : S.L[j].st ≠ 2 := by simpa using g0
      omega
theorem S_RRemove (P : RB h q S) {m : Int} (k : ∀ h' p c', RB h' q (removeM S m).2 → Ints .i64 h' p (remO m S.L) → K (slice p (remO m S.L).length c') h') :
    CallA Try.prog fn_pref11_Book_Remove [pointer (some ⟨q, 0, none⟩), .int .i64 m] h K := by
  obtain ⟨ok, lp, c, B⟩ := P
  refine F_pref11_Book_Remove _ _ _ _ ?_
  unfold F_pref11_Book_RemoveT
  intro r hr
  have ow := own_new (T := 3) (z := [.int .i64 0]) hr
  have l := le_ins hr (o := .cells [].toArray 3 (0, 0))
  have ow' : OwnL nulH (h.ins r (.cells [].toArray 3 (0, 0))) [.int .i64 0] (some ⟨r, 0, none⟩) 0 (intsV .i64 []) := by
    rcases ow with ⟨_, e, _⟩ | ⟨s, sp, e, _, a, kk⟩
    · cases e
    · exact .inr ⟨s, sp, e, rfl, a, kk⟩
  exact rrem_0 ok k S.L.length 0 _ lp c (some ⟨r, 0, none⟩) 0 rfl (by rw [remPart_0]; exact B.le l) ow' (fun e => (B.ap.ne hr) (by simpa using e.symm)) fun r' e => fun e2 => by
    have e2 : r = r' := by simpa using e2
    subst e2
    exact B.ol.fresh hr e
/-! all of a state -/
theorem rall_2 {s : Int} {lp : Option Addr} {c : Nat} (B : RBk h0 q S lp c) (hn : S.L.length ≤ 200) (k : ∀ h' p c', h0.le h' → Ints .i64 h' p ((ofS s S.L).map fun x => x.d.id) → K (slice p (ofS s S.L).length c') h') :
    ∀ (m j : Nat) (h : Heap) (out : Option Addr) (oc : Nat), m + j = S.L.length → h0.le h → OwnL h0 h [.int .i64 0] out oc (intsV .i64 ((ofS s (S.L.take j)).map fun x => x.d.id)) →
    L_pref11_Book_All_2 (some ⟨q, 0, none⟩) s out (ofS s (S.L.take j)).length oc (j : Int) h K := by
  intro m
  induction m with
  | zero =>
    intro j h out oc hj l0 ow
    refine L_pref11_Book_All_2r _ _ _ _ _ _ _ _ ?_
    unfold L_pref11_Book_All_2T
    rw [List.take_of_length_le (by omega)] at ow ⊢
    exact withAddr_intro rfl ⟨_, _, _, (B.le l0).ap.cell rfl, Br.no (by simp; omega) (Ret.mk (k h out oc l0 ow.rd))⟩
  | succ m ih =>
    intro j h out oc hj l0 ow
    refine L_pref11_Book_All_2r _ _ _ _ _ _ _ _ ?_
    unfold L_pref11_Book_All_2T
    have hjl : j < S.L.length := by omega
    have hl := ofS_succ (s := s) hjl
    have hF := ofS_len s (S.L.take j)
    rw [List.length_take] at hF
    have B := B.le l0
    refine withAddr_intro rfl ⟨_, _, _, B.ap.cell rfl, Br.yes (decide_eq_true (by omega)) (withAddr_intro rfl ⟨_, _, _, B.ap.cell rfl, ax rV_len B.arr rfl rfl (List.getElem?_eq_getElem hjl) (by decide) fun b o hb hc => ⟨_, hc 7 (by decide), Br.intro (fun g => ?_) fun g => ?_⟩⟩)⟩
    · rw [if_pos (by simpa using g)] at hl
      refine withAddr_intro rfl ⟨_, _, _, B.ap.cell rfl, ax rV_len B.arr rfl rfl (List.getElem?_eq_getElem hjl) (by decide) fun b o hb hc => ⟨_, hc 0 (by decide), ?_⟩⟩
      refine push1 ow (by decide) l0 (by omega) rfl rfl (by rw [intsV_length, List.length_map]; simp) fun r4 h4 p' c2 h5 hr4 l4 l5 ol5 keep how => ?_
      rw [w1d (by omega)]
      have := ih (j + 1) h5 p' c2 (by omega) l5 (by rw [hl, List.map_append, intsV_append]; exact ol5)
      rw [hl, List.length_append] at this
      exact this
    · rw [if_neg (by simpa using g)] at hl
      rw [w1d (by omega)]
      have := ih (j + 1) h out oc (by omega) l0 (by rw [hl]; exact ow)
      rw [hl] at this
      exact this
def gN (L : List En) (n : Nat) : List En := L.filter fun x => decide (x.ord = (n : Int) + 1 ∧ x.st = 2)
def gP (L : List En) (N : Nat) : List En := (List.range N).flatMap fun (n : Nat) => gN L n
theorem gP_succ (L : List En) (N : Nat) : gP L (N + 1) = gP L N ++ gN L N := by
  unfold gP
  rw [List.range_succ, List.flatMap_append]; simp
theorem gN_succ {L : List En} {n j : Nat} (hj : j < L.length) : gN (L.take (j + 1)) n = if L[j].ord = (n : Int) + 1 ∧ L[j].st = 2 then gN (L.take j) n ++ [L[j]] else gN (L.take j) n := by
  unfold gN
  rw [List.take_succ_eq_append_getElem hj, List.filter_append]
  split
  · rename_i g
    have e : ([L[j]] : List En).filter (fun x => decide (x.ord = (n : Int) + 1 ∧ x.st = 2)) = [L[j]] := List.filter_cons_of_pos (decide_eq_true g)
    rw [e]
  · rename_i g
    rw [List.filter_cons_of_neg (by simpa using g)]; simp
theorem rall_1 {lp : Option Addr} {c N : Nat} (B : RBk h0 q S lp c) (hn : S.L.length ≤ 200) (hg : (gP S.L N).length ≤ 1000) (hN : N ≤ 1000)
    (k : ∀ h' p c', h0.le h' → OwnL h0 h' [.int .i64 0] p c' (intsV .i64 ((gP S.L (N + 1)).map fun x => x.d.id)) → L_pref11_Book_All_0 (some ⟨q, 0, none⟩) p (gP S.L (N + 1)).length c' (IntKind.wrap .i64 ((N : Int) + 1 + 1)) h' K) :
    ∀ (m j : Nat) (h : Heap) (out : Option Addr) (oc : Nat), m + j = S.L.length → h0.le h → OwnL h0 h [.int .i64 0] out oc (intsV .i64 ((gP S.L N ++ gN (S.L.take j) N).map fun x => x.d.id)) →
    L_pref11_Book_All_1 (some ⟨q, 0, none⟩) out (gP S.L N ++ gN (S.L.take j) N).length oc ((N : Int) + 1) (j : Int) h K := by
  intro m
  induction m with
  | zero =>
    intro j h out oc hj l0 ow
    refine L_pref11_Book_All_1r _ _ _ _ _ _ _ _ ?_
    unfold L_pref11_Book_All_1T
    rw [List.take_of_length_le (by omega), ← gP_succ] at ow ⊢
    exact withAddr_intro rfl ⟨_, _, _, (B.le l0).ap.cell rfl, Br.no (by simp; omega) (k h out oc l0 ow)⟩
  | succ m ih =>
    intro j h out oc hj l0 ow
    refine L_pref11_Book_All_1r _ _ _ _ _ _ _ _ ?_
    unfold L_pref11_Book_All_1T
    have hjl : j < S.L.length := by omega
    have hl := gN_succ (n := N) hjl
    have hF : (gN (S.L.take j) N).length ≤ 200 := by
      unfold gN
      have := List.length_filter_le (fun (x : En) => decide (x.ord = (N : Int) + 1 ∧ x.st = 2)) (S.L.take j)
      rw [List.length_take] at this
      omega
    have B := B.le l0
    have skip : ¬ (S.L[j].ord = (N : Int) + 1 ∧ S.L[j].st = 2) → L_pref11_Book_All_1 (some ⟨q, 0, none⟩) out (gP S.L N ++ gN (S.L.take j) N).length oc ((N : Int) + 1) (IntKind.wrap .i64 ((j : Int) + 1)) h K := fun g => by
      rw [if_neg g] at hl
      rw [w1d (by omega)]
      have := ih (j + 1) h out oc (by omega) l0 (by rw [hl]; exact ow)
      rw [hl] at this
      exact this
    refine withAddr_intro rfl ⟨_, _, _, B.ap.cell rfl, Br.yes (decide_eq_true (by omega)) (withAddr_intro rfl ⟨_, _, _, B.ap.cell rfl, ax rV_len B.arr rfl rfl (List.getElem?_eq_getElem hjl) (by decide) fun b o hb hc => ⟨_, hc 10 (by decide), Br.intro (fun g => ?_) fun g => skip fun x => by simp [x.1] at g⟩⟩)⟩
    refine withAddr_intro rfl ⟨_, _, _, B.ap.cell rfl, ax rV_len B.arr rfl rfl (List.getElem?_eq_getElem hjl) (by decide) fun b o hb hc => ⟨_, hc 7 (by decide), Br.intro (fun g2 => ?_) fun g2 => skip fun x => by simp [x.2] at g2⟩⟩
    rw [if_pos ⟨by simpa using g, by simpa using g2⟩] at hl
    refine withAddr_intro rfl ⟨_, _, _, B.ap.cell rfl, ax rV_len B.arr rfl rfl (List.getElem?_eq_getElem hjl) (by decide) fun b o hb hc => ⟨_, hc 0 (by decide), ?_⟩⟩
    refine push1 ow (by decide) l0 (by rw [List.length_append]; omega) rfl rfl (by rw [intsV_length, List.length_map]; simp) fun r4 h4 p' c2 h5 hr4 l4 l5 ol5 keep how => ?_
    rw [w1d (by omega)]
    have e : gP S.L N ++ gN (S.L.take (j + 1)) N = (gP S.L N ++ gN (S.L.take j) N) ++ [S.L[j]] := by rw [hl, List.append_assoc]
    have := ih (j + 1) h5 p' c2 (by omega) l5 (by rw [e, List.map_append, intsV_append]; exact ol5)
    rw [e, List.length_append] at this
    exact this
theorem gP_len (ok : S.Ok) : ∀ N, N ≤ S.mat → (gP S.L N).length ≤ S.L.length
  | N, hN => by
    have h1 := (all_sorted ok (d := (ofS 2 S.L).mergeSort fun x y => decide (x.ord ≤ y.ord)) (List.mergeSort_perm _ _) ((List.pairwise_mergeSort (le := fun (x y : En) => decide (x.ord ≤ y.ord)) (fun a b c h1 h2 => by simp at *; omega) (fun a b => by simp; omega) (ofS 2 S.L)).imp fun h => of_decide_eq_true h))
    have h2 := congrArg List.length h1
    rw [List.length_map, (List.mergeSort_perm _ _).length_eq] at h2
    have h3 : (allM S 2).length = (gP S.L S.mat).length := by unfold allM gP gN; rw [if_pos rfl, List.length_map]
    have h4 := ofS_len 2 S.L
    have mono : ∀ a b : Nat, (gP S.L a).length ≤ (gP S.L (a + b)).length := fun a b => by
      induction b with
      | zero => exact Nat.le_refl _
      | succ b ih => rw [← Nat.add_assoc, gP_succ, List.length_append]; omega
    have := mono N (S.mat - N)
    rw [show N + (S.mat - N) = S.mat by omega] at this
    omega
theorem rall_0 {lp : Option Addr} {c : Nat} (ok : S.Ok) (B : RBk h0 q S lp c) (k : ∀ h' p c', h0.le h' → Ints .i64 h' p (allM S 2) → K (slice p (allM S 2).length c') h') :
    ∀ (m N : Nat) (h : Heap) (out : Option Addr) (oc : Nat), m + N = S.mat → h0.le h → OwnL h0 h [.int .i64 0] out oc (intsV .i64 ((gP S.L N).map fun x => x.d.id)) →
    L_pref11_Book_All_0 (some ⟨q, 0, none⟩) out (gP S.L N).length oc ((N : Int) + 1) h K := by
  have hm := ok.mat
  have hn := ok.n
  intro m
  induction m with
  | zero =>
    intro N h out oc hN l0 ow
    refine L_pref11_Book_All_0r _ _ _ _ _ _ _ ?_
    unfold L_pref11_Book_All_0T
    have hN : N = S.mat := by omega
    subst hN
    have e : allM S 2 = (gP S.L S.mat).map fun x => x.d.id := by unfold allM; rw [if_pos rfl]; rfl
    rw [e, List.length_map] at k
    exact withAddr_intro rfl ⟨_, (B.le l0).ap.cell rfl, Br.no (by simp; omega) (Ret.mk (k h out oc l0 ow.rd))⟩
  | succ m ih =>
    intro N h out oc hN l0 ow
    refine L_pref11_Book_All_0r _ _ _ _ _ _ _ ?_
    unfold L_pref11_Book_All_0T
    have hg := gP_len ok N (by omega)
    refine withAddr_intro rfl ⟨_, (B.le l0).ap.cell rfl, Br.yes (decide_eq_true (by omega)) ?_⟩
    have := rall_1 (K := K) B hn (N := N) (by omega) (by omega) (fun h' p c' l' ow' => by
      rw [show IntKind.wrap .i64 ((N : Int) + 1 + 1) = ((N + 1 : Nat) : Int) + 1 by rw [wrap_i64_id (by omega) (by omega)]; omega]
      exact ih (N + 1) h' p c' (by omega) l' ow') S.L.length 0 h out oc rfl l0 (by rw [List.take_zero, show gN [] N = [] from rfl, List.append_nil]; exact ow)
    rw [List.take_zero, show gN [] N = [] from rfl, List.append_nil] at this
    exact this
theorem S_RAll (P : RB h q S) {s : Int} (k : ∀ h' p c', h.le h' → Ints .i64 h' p (allM S s) → K (slice p (allM S s).length c') h') : CallA Try.prog fn_pref11_Book_All [pointer (some ⟨q, 0, none⟩), .int .i64 s] h K := by
  obtain ⟨ok, lp, c, B⟩ := P
  refine F_pref11_Book_All _ _ _ _ ?_
  unfold F_pref11_Book_AllT
  intro r hr
  have ow := own_new (T := 3) (z := [.int .i64 0]) hr
  have l := le_ins hr (o := .cells [].toArray 3 (0, 0))
  refine Br.intro (fun g => ?_) fun g => ?_
  · have g : s = 2 := by simpa using g
    subst g
    exact rall_0 ok B k S.mat 0 _ _ 0 rfl l ow
  · have g : s ≠ 2 := by simpa using g
    have e : allM S s = (ofS s S.L).map fun x => x.d.id := by unfold allM; rw [if_neg g]; rfl
    rw [e, List.length_map] at k
    exact rall_2 B ok.n k S.L.length 0 _ _ 0 rfl l ow
end
end Go.Proofs.Ytjihfieahkbohaa

/- A book of instructions as bytes. -/
namespace Go.Proofs.Ytjihfieahkbohaa
open Go Go.Sy Go.Value
set_option linter.unusedVariables false
set_option linter.unusedSimpArgs false

def numsE (x : En) : List Int := [x.d.id, x.d.a, x.d.b, x.d.sc, x.d.bc, x.d.sell, x.d.buy, x.st, x.ask, x.ord]
def wdE : List Nat := [4, 1, 1, 1, 1, 8, 8, 1, 1, 2]
def wdA : Value := agg #[.int .i64 4, .int .i64 1, .int .i64 1, .int .i64 1, .int .i64 1, .int .i64 8, .int .i64 8, .int .i64 1, .int .i64 1, .int .i64 2]
theorem eV_nums (x : En) : eV x = intsV .i64 (numsE x) := rfl
def layN (x : En) (j : Nat) : List Int := (List.range j).flatMap fun i => beF ((numsE x).getD i 0) (wdE.getD i 0)
theorem layN_succ (x : En) (j : Nat) : layN x (j + 1) = layN x j ++ beF ((numsE x).getD j 0) (wdE.getD j 0) := by
  unfold layN
  rw [List.range_succ, List.flatMap_append]; simp
theorem layN_10 (x : En) : layN x 10 = entB x := by
  simp only [layN_succ]
  simp only [layN, List.range_zero, List.flatMap_nil, List.nil_append, numsE, wdE, List.getD_cons_zero, List.getD_cons_succ, List.append_assoc]
  rfl
theorem layN_len (x : En) (j : Nat) : (layN x j).length ≤ j * 8 := by
  induction j with
  | zero => exact Nat.le_refl _
  | succ j ih =>
    rw [layN_succ, List.length_append, beF_length]
    have : wdE.getD j 0 ≤ 8 := by
      have : ∀ l : List Nat, (∀ w ∈ l, w ≤ 8) → ∀ j, l.getD j 0 ≤ 8 := fun l h j => by
        rw [List.getD_eq_getElem?_getD]
        cases e : l[j]? with
        | none => simp
        | some w => exact h w (List.mem_of_getElem? e)
      exact this wdE (by decide) j
    omega
theorem arr_wd {j : Nat} (h : j < 10) {Q : Int → Prop} (k : Q ((wdE.getD j 0 : Nat) : Int)) : arrI .i64 [.int .i64 4, .int .i64 1, .int .i64 1, .int .i64 1, .int .i64 1, .int .i64 8, .int .i64 8, .int .i64 1, .int .i64 1, .int .i64 2] (Int.toNat (j : Int)) Q := by
  rw [Int.toNat_natCast]
  have : j = 0 ∨ j = 1 ∨ j = 2 ∨ j = 3 ∨ j = 4 ∨ j = 5 ∨ j = 6 ∨ j = 7 ∨ j = 8 ∨ j = 9 := by omega
  rcases this with rfl | rfl | rfl | rfl | rfl | rfl | rfl | rfl | rfl | rfl <;> exact k
theorem nums_get {x : En} {j : Nat} (h : j < 10) : (eV x)[0 + (j : Int).toNat]? = some (.int .i64 ((numsE x).getD j 0)) := by
  rw [Int.toNat_natCast, Nat.zero_add]
  have : j = 0 ∨ j = 1 ∨ j = 2 ∨ j = 3 ∨ j = 4 ∨ j = 5 ∨ j = 6 ∨ j = 7 ∨ j = 8 ∨ j = 9 := by omega
  rcases this with rfl | rfl | rfl | rfl | rfl | rfl | rfl | rfl | rfl | rfl <;> rfl
theorem wd_le {j : Nat} (h : j < 10) : wdE.getD j 0 ≤ 8 := by
  have : j = 0 ∨ j = 1 ∨ j = 2 ∨ j = 3 ∨ j = 4 ∨ j = 5 ∨ j = 6 ∨ j = 7 ∨ j = 8 ∨ j = 9 := by omega
  rcases this with rfl | rfl | rfl | rfl | rfl | rfl | rfl | rfl | rfl | rfl <;> decide
theorem u8V_ints' (l : List Int) : u8V l = intsV .u8 l := by rw [u8V_map, intsV_map]
section
variable {h0 : Heap} {K : Value → Heap → Prop}
theorem lay_0 {x : Int} : ∀ (j : Nat) (h : Heap) (b : Option Addr) (bc : Nat) (bs : List Int), j ≤ 8 → bs.length + j < 1000000 → h0.le h → OwnL h0 h [.int .u8 0] b bc (intsV .u8 bs) →
    (∀ b' bc' h', h0.le h' → OwnL h0 h' [.int .u8 0] b' bc' (intsV .u8 (bs ++ beF x j)) → (∀ q xs, At h q xs → b ≠ some ⟨q, 0, none⟩ → At h' q xs ∧ b' ≠ some ⟨q, 0, none⟩) → K (slice b' (bs.length + j) bc') h') →
    L_deal_lay_0 b bs.length bc x ((j : Int) - 1) h K
  | 0, h, b, bc, bs, _, _, l0, own, k => by
    refine L_deal_lay_0r _ _ _ _ _ _ _ ?_
    unfold L_deal_lay_0T
    refine Br.no (by decide) (Ret.mk ?_)
    exact k b bc h l0 (by rw [show beF x 0 = [] from rfl, List.append_nil]; exact own) fun q xs a n => ⟨a, n⟩
  | j + 1, h, b, bc, bs, hj, hb, l0, own, k => by
    refine L_deal_lay_0r _ _ _ _ _ _ _ ?_
    unfold L_deal_lay_0T
    rw [show ((j + 1 : Nat) : Int) - 1 = (j : Int) by omega]
    refine Br.yes (decide_eq_true (by omega)) (Br.yes (by rw [wrap_i64_id (by omega) (by omega)]; exact decide_eq_true (by omega)) ?_)
    rw [shift_byte x j (by omega)]
    refine push1 own (by decide) l0 (by omega) rfl rfl (by rw [intsV_length]; simp) fun r h1 p' c' h' hr l1 l' w' keep how => ?_
    rw [show [Value.int .u8 (byteAt x j)] = intsV .u8 [byteAt x j] from rfl, ← intsV_append] at w'
    rw [wrap_i64_id (n := (j : Int) - 1) (by omega) (by omega)]
    have := lay_0 (x := x) j h' p' c' (bs ++ [byteAt x j]) (by omega) (by rw [List.length_append]; simp; omega) l' w' fun b' bc' h2 l2 w2 fr => by
      have kk := k b' bc' h2 l2 (by rw [List.append_assoc] at w2; exact w2) fun q xs a n => fr q xs (keepAt keep (a.le l1) n) (push_ne how (a.le l1) n)
      rw [List.length_append, show bs.length + [byteAt x j].length + j = bs.length + (j + 1) by simp; omega]
      exact kk
    rw [List.length_append] at this
    exact this
theorem S_lay {x : Int} {w n : Nat} {h : Heap} {b : Option Addr} {bc : Nat} {bs : List Int} (hw : w ≤ 8) (hn : bs.length = n) (hb : n + w < 1000000) (l0 : h0.le h) (own : OwnL h0 h [.int .u8 0] b bc (intsV .u8 bs))
    (k : ∀ b' bc' h', h0.le h' → OwnL h0 h' [.int .u8 0] b' bc' (intsV .u8 (bs ++ beF x w)) → (∀ q xs, At h q xs → b ≠ some ⟨q, 0, none⟩ → At h' q xs ∧ b' ≠ some ⟨q, 0, none⟩) → K (slice b' (n + w) bc') h') :
    CallA Try.prog fn_deal_lay [slice b n bc, .int .i64 x, .int .i64 (w : Int)] h K := by
  refine F_deal_lay _ _ _ _ _ _ _ ?_
  unfold F_deal_layT
  subst hn
  rw [wrap_i64_id (by omega) (by omega)]
  exact lay_0 w h b bc bs hw hb l0 own k
variable {h : Heap}
theorem S_numbers {x : En} (k : ∀ h', h.le h' → K (eA x) h') : CallA Try.prog fn_deal_entry_numbers [eA x] h K := by
  refine F_deal_entry_numbers _ _ _ _ _ _ _ _ _ _ _ _ ?_
  unfold F_deal_entry_numbersT
  refine newB_at fun r h1 hr l1 A1 => newB_at fun r2 h2 hr2 l2 A2 => ?_
  have A1 := A1.le l2
  have A3 := A2.set (o := 0) (ws := eV x)
  refine ⟨_, A1.cell rfl, _, A1.cell rfl, _, A1.cell rfl, _, A1.cell rfl, _, A1.cell rfl, _, A1.cell rfl, _, A1.cell rfl, _, A1.cell rfl, _, A1.cell rfl, _, A1.cell rfl, A2.canSt (Nat.le_refl _), ?_⟩
  refine ⟨_, A3.cell rfl, _, A3.cell rfl, _, A3.cell rfl, _, A3.cell rfl, _, A3.cell rfl, _, A3.cell rfl, _, A3.cell rfl, _, A3.cell rfl, _, A3.cell rfl, _, A3.cell rfl, Ret.mk ?_⟩
  exact k _ (le_setN (Heap.le_trans l1 l2) (none_of_le l1 hr2))
theorem S_widths (k : ∀ h', h.le h' → K wdA h') : CallA Try.prog fn_deal_widths [] h K := by
  refine F_deal_widths _ _ ?_
  unfold F_deal_widthsT
  refine newB_at fun r2 h2 hr2 l2 A2 => ?_
  have A3 := A2.set (o := 0) (ws := [.int .i64 4, .int .i64 1, .int .i64 1, .int .i64 1, .int .i64 1, .int .i64 8, .int .i64 8, .int .i64 1, .int .i64 1, .int .i64 2])
  refine ⟨A2.canSt (Nat.le_refl _), _, A3.cell rfl, _, A3.cell rfl, _, A3.cell rfl, _, A3.cell rfl, _, A3.cell rfl, _, A3.cell rfl, _, A3.cell rfl, _, A3.cell rfl, _, A3.cell rfl, _, A3.cell rfl, Ret.mk ?_⟩
  exact k _ (le_setN l2 hr2)
/-- an entry's numbers, laid one by one -/
theorem text_1 {x : En} {r n pc : Nat} {pp : Option Addr} {T : Int} {j0 : Int} {bs : List Int} {N : Nat} (hN : bs.length = N) (hb : N + 100 < 1000000)
    (k : ∀ h b bc, h0.le h → OwnL h0 h [.int .u8 0] b bc (intsV .u8 (bs ++ entB x)) → L_pdeal_Book_Text_0 b (N + 28) bc pp n pc T (IntKind.wrap .i64 (j0 + 1)) h K) :
    ∀ (m j : Nat) (h : Heap) (b : Option Addr) (bc : Nat), m + j = 10 → h0.le h → At h r (eV x) → b ≠ some ⟨r, 0, none⟩ → OwnL h0 h [.int .u8 0] b bc (intsV .u8 (bs ++ layN x j)) →
    L_pdeal_Book_Text_1 b (N + (layN x j).length) bc r pp n pc T j0 4 1 1 1 1 8 8 1 1 2 (j : Int) h K := by
  intro m
  induction m with
  | zero =>
    intro j h b bc hj l0 A nb own
    refine L_pdeal_Book_Text_1r _ _ _ _ _ _ _ _ _ _ _ _ _ _ _ _ _ _ _ _ _ _ ?_
    unfold L_pdeal_Book_Text_1T
    have hj : j = 10 := by omega
    subst hj
    rw [layN_10] at own ⊢
    rw [entB_length]
    exact Br.no (by decide) (k h b bc l0 own)
  | succ m ih =>
    intro j h b bc hj l0 A nb own
    refine L_pdeal_Book_Text_1r _ _ _ _ _ _ _ _ _ _ _ _ _ _ _ _ _ _ _ _ _ _ ?_
    unfold L_pdeal_Book_Text_1T
    have hl := layN_len x j
    refine Br.yes (decide_eq_true (by omega)) ⟨by omega, by omega, arr_wd (by omega) (Br.yes (decide_eq_true (by omega)) (Br.yes (decide_eq_true (by omega)) ⟨_, A.cell (nums_get (by omega)), ?_⟩))⟩
    refine S_lay (bs := bs ++ layN x j) (wd_le (by omega)) (by rw [List.length_append, hN]) (by have := wd_le (j := j) (by omega); omega) l0 own fun b' bc' h' l' own' fr => ⟨_, _, _, rfl, ?_⟩
    obtain ⟨A', nb'⟩ := fr r _ A nb
    rw [w1d (by omega)]
    rw [List.append_assoc, ← layN_succ] at own'
    have := ih (j + 1) h' b' bc' (by omega) l' A' nb' own'
    rw [layN_succ, List.length_append, beF_length, ← Nat.add_assoc] at this
    exact this
theorem text_0 {L : List En} {n pc : Nat} {pp : Option Addr} (A : Arr eV h0 pp L) (hn : L.length = n) (hn2 : n ≤ 200) {hd : List Int} (hh : hd.length = 2) (k : ∀ h', h0.le h' → K (string (strOf (hd ++ L.flatMap entB))) h') :
    ∀ (m j : Nat) (h : Heap) (b : Option Addr) (bc : Nat), m + j = n → h0.le h → OwnL h0 h [.int .u8 0] b bc (intsV .u8 (hd ++ (L.take j).flatMap entB)) →
    L_pdeal_Book_Text_0 b (2 + j * 28) bc pp n pc (n : Int) (j : Int) h K := by
  intro m
  induction m with
  | zero =>
    intro j h b bc hj l0 own
    refine L_pdeal_Book_Text_0r _ _ _ _ _ _ _ _ _ _ ?_
    unfold L_pdeal_Book_Text_0T
    have hj : j = n := by omega
    subst hj
    rw [List.take_of_length_le (by omega)] at own
    exact Br.no (by simp) ⟨_, by rw [List.length_append, flat28, hh, hn], by rw [u8V_ints']; exact own.rd, Ret.mk (k h l0)⟩
  | succ m ih =>
    intro j h b bc hj l0 own
    refine L_pdeal_Book_Text_0r _ _ _ _ _ _ _ _ _ _ ?_
    unfold L_pdeal_Book_Text_0T
    have hjl : j < L.length := by omega
    have ex : L[j]? = some L[j] := List.getElem?_eq_getElem hjl
    have et : (L.take (j + 1)).flatMap entB = (L.take j).flatMap entB ++ entB L[j] := by
      rw [List.take_succ_eq_append_getElem hjl, List.flatMap_append, List.flatMap_cons, List.flatMap_nil, List.append_nil]
    generalize L[j] = x at ex et
    refine Br.yes (decide_eq_true (by omega)) (ax eV_len (A.le l0) hn rfl ex (by decide) fun b1 o hb hc => ?_)
    refine ⟨_, hc 0 (by decide), _, hc 1 (by decide), _, hc 2 (by decide), _, hc 3 (by decide), _, hc 4 (by decide), _, hc 5 (by decide), _, hc 6 (by decide), _, hc 7 (by decide), _, hc 8 (by decide), _, hc 9 (by decide), newB_cp (vs := eV x) rfl fun r h1 hr l1 A1 cs => ⟨cs, ?_⟩⟩
    refine ⟨_, A1.cell rfl, _, A1.cell rfl, _, A1.cell rfl, _, A1.cell rfl, _, A1.cell rfl, _, A1.cell rfl, _, A1.cell rfl, _, A1.cell rfl, _, A1.cell rfl, _, A1.cell rfl, ?_⟩
    refine S_numbers (x := x) fun h3 l3 => ⟨_, _, _, _, _, _, _, _, _, _, rfl, newB_cp (vs := eV x) rfl fun r2 h4 hr2 l4 A4 cs4 => ⟨cs4, ?_⟩⟩
    refine S_widths fun h5 l5 => ⟨_, _, _, _, _, _, _, _, _, _, rfl, ?_⟩
    have l15 := Heap.le_trans l1 (Heap.le_trans l3 (Heap.le_trans l4 l5))
    have own5 := own.le l15
    have nb := OwnL.fresh (own.le (Heap.le_trans l1 l3)) hr2
    have hlen : (hd ++ (L.take j).flatMap entB).length = 2 + j * 28 := by rw [List.length_append, flat28, hh, List.length_take]; omega
    have := text_1 (K := K) (x := x) (r := r2) (n := n) (pc := pc) (pp := pp) (T := (n : Int)) (j0 := (j : Int)) (bs := hd ++ (L.take j).flatMap entB) hlen (by omega) (fun h b bc l own => by
      rw [w1d (by omega), show 2 + j * 28 + 28 = 2 + (j + 1) * 28 by omega]
      rw [List.append_assoc, ← et] at own
      exact ih (j + 1) h b bc (by omega) l own) 10 0 h5 b bc rfl (Heap.le_trans l0 l15) (A4.le l5) nb (by rw [show layN x 0 = [] from rfl, List.append_nil]; exact own5)
    exact this
theorem S_Text {p : Nat} {S : Bk} (P : PB h p S) (k : ∀ h', h.le h' → K (string (strOf (textD S))) h') : CallA Try.prog fn_pdeal_Book_Text [pointer (some ⟨p, 0, none⟩)] h K := by
  obtain ⟨ok, lp, c, mr, B⟩ := P
  have hn := ok.n
  refine F_pdeal_Book_Text _ _ _ ?_
  unfold F_pdeal_Book_TextT
  refine withAddr_intro rfl ⟨_, _, _, B.ap.cell rfl, S_lay (h0 := h) (bs := []) (w := 2) (by decide) rfl (by decide) (Heap.le_refl _) (.nil _ _ _) fun b1 c1 h1 l1 own1 _ => ⟨_, _, _, rfl, withAddr_intro rfl ⟨_, _, _, (B.ap.le l1).cell rfl, ?_⟩⟩⟩
  exact text_0 (h0 := h) B.arr rfl hn (hd := beF (S.L.length : Int) 2) (beF_length _ _) k S.L.length 0 h1 b1 c1 (by omega) l1 (by rw [List.take_zero, List.flatMap_nil, List.append_nil]; exact own1)
end
end Go.Proofs.Ytjihfieahkbohaa

/- The reference's book of instructions: as bytes. -/
namespace Go.Proofs.Ytjihfieahkbohaa
open Go Go.Sy Go.Value
set_option linter.unusedVariables false
set_option linter.unusedSimpArgs false

section
variable {h : Heap} {K : Value → Heap → Prop}
theorem S_Rlay {n : Int} {w : Nat} (hw : w ≤ 8) (k : ∀ h' s, h.le h' → bytesI s = beF n w → K (string s) h') : CallA Try.prog fn_ref11_lay [.int .i64 n, .int .i64 (w : Int)] h K := by
  refine F_ref11_lay _ _ _ _ ?_
  unfold F_ref11_layT
  generalize hu : IntKind.wrap .u64 n = u0
  have hu : u0 = n % 18446744073709551616 := by rw [← hu]; rfl
  have main : ∀ (m i : Nat) (h1 : Heap) (e : ByteArray), m + i = w → h.le h1 → bytesI e = beF n i → L_ref11_lay_0 (w : Int) (u0 / 2 ^ (8 * i)) e (i : Int) h1 K := by
    intro m
    induction m with
    | zero =>
      intro i h1 e hi l0 he
      refine L_ref11_lay_0r _ _ _ _ _ _ ?_
      unfold L_ref11_lay_0T
      have hi8 : i = w := by omega
      subst hi8
      exact Br.no (by simp) (Ret.mk (k h1 e l0 he))
    | succ m ih =>
      intro i h1 e hi l0 he
      refine L_ref11_lay_0r _ _ _ _ _ _ ?_
      unfold L_ref11_lay_0T
      have hes : e.size = i := by rw [← bytesI_length, he, beF_length]
      have hp : (0 : Int) < 2 ^ (8 * i) := Int.pow_pos (by decide)
      have hu0 : 0 ≤ u0 / 2 ^ (8 * i) := Int.ediv_nonneg (by omega) (Int.le_of_lt hp)
      have hu1 : u0 / 2 ^ (8 * i) ≤ u0 := Int.ediv_le_self _ (by omega)
      have e1 : IntKind.wrap .u8 ((u0 / 2 ^ (8 * i)).tmod 256) = byteAt n i := by
        rw [← byte_mod n i (by omega), ← hu, wrap_u8, Int.tmod_eq_emod_of_nonneg hu0]
        unfold byteAt
        omega
      have e2 : IntKind.wrap .u64 ((u0 / 2 ^ (8 * i)).tdiv 256) = u0 / 2 ^ (8 * (i + 1)) := by
        rw [Int.tdiv_eq_ediv_of_nonneg hu0, div_next]
        have h3 : u0 / 2 ^ (8 * (i + 1)) ≤ u0 := Int.ediv_le_self _ (by omega)
        have h4 : 0 ≤ u0 / 2 ^ (8 * (i + 1)) := Int.ediv_nonneg (by omega) (Int.le_of_lt (Int.pow_pos (by decide)))
        exact wrap_u64_id h4 (by omega)
      refine Br.yes (decide_eq_true (by omega)) (newB_at fun r h2 hr l1 Ar => ?_)
      rw [e1] at Ar
      rw [e2, w1d (by omega)]
      have hb := byteAt_r n i
      have hby : bytes [byteAt n i] := fun b hb2 => by rw [List.mem_singleton] at hb2; rw [hb2]; exact hb
      have hsz : (strOf [byteAt n i]).size = 1 := strOf_size hby
      exact ⟨[byteAt n i], rfl, At.toRd (ws := []) Ar, by omega, ih (i + 1) h2 _ (by omega) (Heap.le_trans l0 l1) (by rw [bytesI_append, bytesI_strOf hby, he]; rfl)⟩
  have := main w 0 h ⟨#[]⟩ (by omega) h.le_refl rfl
  rw [Nat.mul_zero, Int.pow_zero, Int.ediv_one] at this
  exact this
theorem by_ask {x : En} (h : 0 ≤ x.ask ∧ x.ask ≤ 3) : (if byA x = true then (if byB x = true then (3 : Int) else 1) else (if byB x = true then 2 else 0)) = x.ask := by
  obtain ⟨d, st, ask, ord⟩ := x
  dsimp only at h
  have : ask = 0 ∨ ask = 1 ∨ ask = 2 ∨ ask = 3 := by omega
  rcases this with rfl | rfl | rfl | rfl <;> rfl
theorem S_Rasked {x : En} (hx : 0 ≤ x.ask ∧ x.ask ≤ 3) (k : ∀ h', h.le h' → K (.int .i64 x.ask) h') : CallA Try.prog fn_ref11_asked [rA x] h K := by
  refine F_ref11_asked _ _ _ _ _ _ _ _ _ _ _ _ _ ?_
  unfold F_ref11_askedT
  refine newB_at fun r h1 hr l1 A => ?_
  have e := by_ask hx
  have k := k h1 l1
  rw [← e] at k
  refine ⟨_, A.cell rfl, Br.intro (fun g => ⟨_, A.cell rfl, Br.intro (fun g2 => ?_) fun g2 => ?_⟩) fun g => ⟨_, A.cell rfl, Br.intro (fun g2 => ?_) fun g2 => ?_⟩⟩
  · rw [if_pos g, if_pos g2] at k; exact Ret.mk k
  · rw [if_pos g, if_neg (by rw [g2]; decide)] at k; exact Ret.mk k
  · rw [if_neg (by rw [g]; decide), if_pos g2] at k; exact Ret.mk k
  · rw [if_neg (by rw [g]; decide), if_neg (by rw [g2]; decide)] at k; exact Ret.mk k
theorem S_RText {q : Nat} {S : Bk} (P : RB h q S) (k : ∀ h' s, h.le h' → bytesI s = textD S → K (string s) h') : CallA Try.prog fn_pref11_Book_Text [pointer (some ⟨q, 0, none⟩)] h K := by
  obtain ⟨ok, lp, c, B⟩ := P
  have hn := ok.n
  refine F_pref11_Book_Text _ _ _ ?_
  unfold F_pref11_Book_TextT
  have main : ∀ (m j : Nat) (h1 : Heap) (s : ByteArray), m + j = S.L.length → h.le h1 → bytesI s = beF (S.L.length : Int) 2 ++ (S.L.take j).flatMap entB → L_pref11_Book_Text_0 (some ⟨q, 0, none⟩) s (j : Int) h1 K := by
    intro m
    induction m with
    | zero =>
      intro j h1 s hj l0 e
      refine L_pref11_Book_Text_0r _ _ _ _ _ ?_
      unfold L_pref11_Book_Text_0T
      rw [List.take_of_length_le (by omega)] at e
      exact withAddr_intro rfl ⟨_, _, _, (B.le l0).ap.cell rfl, Br.no (by simp; omega) (Ret.mk (k h1 s l0 e))⟩
    | succ m ih =>
      intro j h1 s hj l0 e
      refine L_pref11_Book_Text_0r _ _ _ _ _ ?_
      unfold L_pref11_Book_Text_0T
      have hjl : j < S.L.length := by omega
      have hx : S.L[j]? = some S.L[j] := List.getElem?_eq_getElem hjl
      have hask := (ok.could _ (List.getElem_mem hjl)).ask
      have et : (S.L.take (j + 1)).flatMap entB = (S.L.take j).flatMap entB ++ entB S.L[j] := by
        rw [List.take_succ_eq_append_getElem hjl, List.flatMap_append, List.flatMap_cons, List.flatMap_nil, List.append_nil]
      generalize S.L[j] = x at *
      have hsz : s.size ≤ 6000 := by
        have := congrArg List.length e
        rw [bytesI_length, List.length_append, beF_length, flat28, List.length_take] at this
        omega
      have B := B.le l0
      have fz : ∀ {t : ByteArray} {n : Int} {w : Nat}, bytesI t = beF n w → t.size = w := fun e => by rw [← bytesI_length, e, beF_length]
      refine withAddr_intro rfl ⟨_, _, _, B.ap.cell rfl, Br.yes (decide_eq_true (by omega)) (withAddr_intro rfl ⟨_, _, _, B.ap.cell rfl, ax rV_len B.arr rfl rfl hx (by decide) fun b o hb hc => ?_⟩)⟩
      refine ⟨_, hc 0 (by decide), _, hc 1 (by decide), _, hc 2 (by decide), _, hc 3 (by decide), _, hc 4 (by decide), _, hc 5 (by decide), _, hc 6 (by decide), _, hc 7 (by decide), _, hc 8 (by decide), _, hc 9 (by decide), _, hc 10 (by decide), newB_cp (vs := rV x) rfl fun r h3 hr l3 A cs => ⟨cs, ?_⟩⟩
      refine ⟨_, A.cell rfl, _, A.cell rfl, _, A.cell rfl, _, A.cell rfl, _, A.cell rfl, S_Rlay (w := 4) (by decide) fun h4 s1 l4 e1 => ⟨_, rfl, .inl l4, ?_, S_Rlay (w := 1) (by decide) fun h5 s2 l5 e2 => ⟨_, rfl, .inl l5, ?_, S_Rlay (w := 1) (by decide) fun h6 s3 l6 e3 => ⟨_, rfl, .inl l6, ?_, S_Rlay (w := 1) (by decide) fun h7 s4 l7 e4 => ⟨_, rfl, .inl l7, ?_, S_Rlay (w := 1) (by decide) fun h8 s5 l8 e5 => ⟨_, rfl, ?_, ?_⟩⟩⟩⟩⟩⟩
      all_goals try (simp only [ByteArray.size_append, fz e1]; omega)
      all_goals try (simp only [ByteArray.size_append, fz e1, fz e2]; omega)
      all_goals try (simp only [ByteArray.size_append, fz e1, fz e2, fz e3]; omega)
      all_goals try (simp only [ByteArray.size_append, fz e1, fz e2, fz e3, fz e4]; omega)
      all_goals try (simp only [ByteArray.size_append, fz e1, fz e2, fz e3, fz e4, fz e5]; omega)
      have A := A.le (Heap.le_trans l4 (Heap.le_trans l5 (Heap.le_trans l6 (Heap.le_trans l7 l8))))
      refine ⟨_, A.cell rfl, _, A.cell rfl, _, A.cell rfl, _, A.cell rfl, _, A.cell rfl, _, A.cell rfl, _, A.cell rfl, _, A.cell rfl, _, A.cell rfl, _, A.cell rfl, _, A.cell rfl, _, A.cell rfl, _, A.cell rfl, _, A.cell rfl, _, A.cell rfl, ?_⟩
      refine S_Rlay (w := 8) (by decide) fun h9 s6 l9 e6 => ⟨_, rfl, .inl l9, ?_, S_Rlay (w := 8) (by decide) fun h10 s7 l10 e7 => ⟨_, rfl, .inl l10, ?_, S_Rlay (w := 1) (by decide) fun h11 s8 l11 e8 => ⟨_, rfl, .inl l11, ?_, S_Rasked (x := x) hask fun h12 l12 => ⟨_, rfl, .inl l12, S_Rlay (w := 1) (by decide) fun h13 s9 l13 e9 => ⟨_, rfl, .inl l13, ?_, S_Rlay (w := 2) (by decide) fun h14 s10 l14 e10 => ⟨_, rfl, ?_, ?_⟩⟩⟩⟩⟩⟩
      all_goals try (simp only [ByteArray.size_append, fz e1, fz e2, fz e3, fz e4, fz e5, fz e6]; omega)
      all_goals try (simp only [ByteArray.size_append, fz e1, fz e2, fz e3, fz e4, fz e5, fz e6, fz e7]; omega)
      all_goals try (simp only [ByteArray.size_append, fz e1, fz e2, fz e3, fz e4, fz e5, fz e6, fz e7, fz e8]; omega)
      all_goals try (simp only [ByteArray.size_append, fz e1, fz e2, fz e3, fz e4, fz e5, fz e6, fz e7, fz e8, fz e9]; omega)
      all_goals try (simp only [ByteArray.size_append, fz e1, fz e2, fz e3, fz e4, fz e5, fz e6, fz e7, fz e8, fz e9, fz e10]; omega)
      rw [w1d (by omega)]
      have lall := Heap.le_trans l3 (Heap.le_trans l4 (Heap.le_trans l5 (Heap.le_trans l6 (Heap.le_trans l7 (Heap.le_trans l8 (Heap.le_trans l9 (Heap.le_trans l10 (Heap.le_trans l11 (Heap.le_trans l12 (Heap.le_trans l13 l14))))))))))
      refine ih (j + 1) h14 _ (by omega) (Heap.le_trans l0 lall) ?_
      simp only [bytesI_append, e, e1, e2, e3, e4, e5, e6, e7, e8, e9, e10]
      rw [et]
      unfold entB
      simp only [List.append_assoc]
  refine withAddr_intro rfl ⟨_, _, _, B.ap.cell rfl, S_Rlay (w := 2) (by decide) fun h1 s l1 e => ⟨_, rfl, main S.L.length 0 h1 s (by omega) l1 (by rw [e, List.take_zero, List.flatMap_nil, List.append_nil])⟩⟩
end
end Go.Proofs.Ytjihfieahkbohaa

/- Whole numbers put in order: a list of them in memory. -/
namespace Go.Proofs.Ytjihfieahkbohaa
open Go Go.Sy Go.Value
set_option linter.unusedVariables false
set_option linter.unusedSimpArgs false

def ltOI (left : List Int) (x y : Int) : Bool := decide (x < y)
theorem swoOI (left : List Int) : Go.Sort.SWO (ltOI left) where
  irrefl x := by unfold ltOI; rw [decide_eq_false_iff_not]; omega
  trans x y z := by unfold ltOI; rw [decide_eq_true_eq, decide_eq_true_eq, decide_eq_true_eq]; omega
  ntrans x y z := by unfold ltOI; rw [decide_eq_false_iff_not, decide_eq_false_iff_not, decide_eq_false_iff_not]; omega
/-- a list of ones own at B, that is put in order: g0 is all else -/
structure DaI (left : List Int) (g0 : Heap) (B m n : Nat) (sp : List Value) (h : Heap) (d : Array Int) : Prop where
  le : g0.le h
  at_ : At h B (intsV .i64 d.toList ++ sp)
  sz : d.size = n
  rg : ∀ x ∈ d.toList, 0 ≤ x ∧ x < (m : Int)
section
variable {left : List Int} {g0 h : Heap} {B m n : Nat} {sp : List Value} {d : Array Int}
theorem bangI {i : Nat} (h : i < d.size) : d[i]! = d.toList[i]'(by simpa using h) := by
  rw [getElem!_pos d i h]; simp
theorem DaI.val (D : DaI left g0 B m n sp h d) {i : Nat} (hi : i < n) : 0 ≤ d[i]! ∧ d[i]! < (m : Int) := by
  have hi : i < d.size := by rw [D.sz]; exact hi
  rw [bangI hi]; exact D.rg _ (List.getElem_mem _)
theorem DaI.get (D : DaI left g0 B m n sp h d) {i : Nat} (hi : i < n) : h.cell B i = some (.int .i64 d[i]!) := by
  have hi : i < d.size := by rw [D.sz]; exact hi
  refine D.at_.cell ?_
  have hl : i < d.toList.length := by simpa using hi
  rw [List.getElem?_append_left (by rw [intsV_length]; exact hl), intsV_map, List.getElem?_map, List.getElem?_eq_getElem hl, bangI hi]; rfl
theorem DaI.mv (D : DaI left g0 B m n sp h d) {h' : Heap} (l : h.le h') : DaI left g0 B m n sp h' d := ⟨Heap.le_trans D.le l, D.at_.le l, D.sz, D.rg⟩
theorem setL_i1I {l : List Int} {sp : List Value} {c : Nat} {v : Int} (h : c < l.length) : setL (intsV .i64 l ++ sp) c [.int .i64 v] = intsV .i64 (l.set c v) ++ sp := by
  rw [setL, setL, setT_eq, List.set_append_left _ _ (by rw [intsV_length]; omega), intsV_map, intsV_map, List.map_set]
theorem DaI.st (D : DaI left g0 B m n sp h d) (e0 : g0 B = none) {i : Nat} {x : Int} (hi : i < n) (hx : 0 ≤ x ∧ x < (m : Int)) : DaI left g0 B m n sp (h.setN B i [.int .i64 x]) (d.setIfInBounds i x) := by
  refine ⟨le_setN D.le e0, ?_, by simpa using D.sz, fun y hy => ?_⟩
  · have := D.at_.set (o := i) (ws := [.int .i64 x])
    rw [setL_i1I (by simpa [D.sz] using hi)] at this
    simpa using this
  · simp only [Array.toList_setIfInBounds] at hy
    rcases List.mem_or_eq_of_mem_set hy with hy | hy
    · exact D.rg _ hy
    · subst hy; exact hx
theorem DaI.can (D : DaI left g0 B m n sp h d) {i : Nat} (hi : i < n) : h.canSt B i 1 := D.at_.canSt (by rw [List.length_append, intsV_length]; have := D.sz; simp; omega)
/-- two of it are compared -/
theorem lessAI (D : DaI left g0 B m n sp h d) (hm : left.length = m) (I : True) {X Y : Int} {i j : Nat} (hX : X = (i : Int)) (hY : Y = (j : Int)) (hi : i < n) (hj : j < n) {P Q : Heap → Prop}
    (k : ∀ h', DaI left g0 B m n sp h' d → Br (ltOI left d[i]! d[j]!) (P h') (Q h')) :
    (0 : Int) ≤ X ∧ X < (n : Int) ∧ withAddr (some ⟨B, 0, none⟩) fun b o => ∃ x, h.cell b (o + X.toNat) = some (.int .i64 x) ∧ (0 : Int) ≤ Y ∧ Y < (n : Int) ∧ withAddr (some ⟨B, 0, none⟩) fun b o => ∃ y, h.cell b (o + Y.toNat) = some (.int .i64 y) ∧
      CallA Try.prog fn_cmp_Less_int [.int .i64 x, .int .i64 y] h fun v h => ∃ (r : Bool), v = .bool r ∧ Br r (P h) (Q h) := by
  subst hX hY hm
  refine ⟨by omega, by omega, withAddr_intro rfl ⟨d[i]!, by rw [Int.toNat_natCast, Nat.zero_add]; exact D.get hi, by omega, by omega, withAddr_intro rfl ⟨d[j]!, by rw [Int.toNat_natCast, Nat.zero_add]; exact D.get hj, ?_⟩⟩⟩
  exact S_lessI ⟨_, rfl, k h D⟩
theorem lessNI (D : DaI left g0 B m n sp h d) (hm : left.length = m) (I : True) {X Y : Int} {i j : Nat} (hX : X = (i : Int)) (hY : Y = (j : Int)) (hi : i < n) (hj : j < n) {P Q : Heap → Prop}
    (k : ∀ h', DaI left g0 B m n sp h' d → Br (!ltOI left d[i]! d[j]!) (P h') (Q h')) :
    (0 : Int) ≤ X ∧ X < (n : Int) ∧ withAddr (some ⟨B, 0, none⟩) fun b o => ∃ x, h.cell b (o + X.toNat) = some (.int .i64 x) ∧ (0 : Int) ≤ Y ∧ Y < (n : Int) ∧ withAddr (some ⟨B, 0, none⟩) fun b o => ∃ y, h.cell b (o + Y.toNat) = some (.int .i64 y) ∧
      CallA Try.prog fn_cmp_Less_int [.int .i64 x, .int .i64 y] h fun v h => ∃ (r : Bool), v = .bool r ∧ Br (!r) (P h) (Q h) := by
  subst hX hY hm
  refine ⟨by omega, by omega, withAddr_intro rfl ⟨d[i]!, by rw [Int.toNat_natCast, Nat.zero_add]; exact D.get hi, by omega, by omega, withAddr_intro rfl ⟨d[j]!, by rw [Int.toNat_natCast, Nat.zero_add]; exact D.get hj, ?_⟩⟩⟩
  exact S_lessI ⟨_, rfl, k h D⟩
/-- two of it are swapped -/
theorem swapAI (D : DaI left g0 B m n sp h d) (e0 : g0 B = none) {X Y : Int} {i j : Nat} (hX : X = (i : Int)) (hY : Y = (j : Int)) (hi : i < n) (hj : j < n) {J : Heap → Prop}
    (k : ∀ h', DaI left g0 B m n sp h' (Go.Sort.swp d j i) → J h') :
    (0 : Int) ≤ X ∧ X < (n : Int) ∧ withAddr (some ⟨B, 0, none⟩) fun b o => ∃ x, h.cell b (o + X.toNat) = some (.int .i64 x) ∧ (0 : Int) ≤ Y ∧ Y < (n : Int) ∧ withAddr (some ⟨B, 0, none⟩) fun b o => ∃ y, h.cell b (o + Y.toNat) = some (.int .i64 y) ∧
      (0 : Int) ≤ Y ∧ Y < (n : Int) ∧ withAddr (some ⟨B, 0, none⟩) fun b o => h.canSt b (o + Y.toNat) 1 ∧ (0 : Int) ≤ X ∧ X < (n : Int) ∧ withAddr (some ⟨B, 0, none⟩) fun b1 o1 => (h.setN b (o + Y.toNat) [.int .i64 x]).canSt b1 (o1 + X.toNat) 1 ∧
        J ((h.setN b (o + Y.toNat) [.int .i64 x]).setN b1 (o1 + X.toNat) [.int .i64 y]) := by
  subst hX hY
  have D1 := D.st e0 hj (D.val hi)
  have D2 := D1.st e0 hi (D.val hj)
  have e : ∀ z : Nat, 0 + ((z : Nat) : Int).toNat = z := fun z => by rw [Int.toNat_natCast, Nat.zero_add]
  refine ⟨by omega, by omega, withAddr_intro rfl ⟨d[i]!, by rw [e]; exact D.get hi, by omega, by omega, withAddr_intro rfl ⟨d[j]!, by rw [e]; exact D.get hj, by omega, by omega, withAddr_intro rfl ⟨by rw [e]; exact D.can hj, by omega, by omega, withAddr_intro rfl ⟨by rw [e, e]; exact D1.can hi, ?_⟩⟩⟩⟩⟩
  rw [e, e]
  exact k _ D2
/-- .. and a box beside it stays -/
theorem lessRI (D : DaI left g0 B m n sp h d) (hm : left.length = m) (I : True) {r : Nat} {vs : List Value} (A : At h r vs) {X Y : Int} {i j : Nat} (hX : X = (i : Int)) (hY : Y = (j : Int)) (hi : i < n) (hj : j < n) {P Q : Heap → Prop}
    (k : ∀ h', DaI left g0 B m n sp h' d → At h' r vs → Br (ltOI left d[i]! d[j]!) (P h') (Q h')) :
    (0 : Int) ≤ X ∧ X < (n : Int) ∧ withAddr (some ⟨B, 0, none⟩) fun b o => ∃ x, h.cell b (o + X.toNat) = some (.int .i64 x) ∧ (0 : Int) ≤ Y ∧ Y < (n : Int) ∧ withAddr (some ⟨B, 0, none⟩) fun b o => ∃ y, h.cell b (o + Y.toNat) = some (.int .i64 y) ∧
      CallA Try.prog fn_cmp_Less_int [.int .i64 x, .int .i64 y] h fun v h => ∃ (r : Bool), v = .bool r ∧ Br r (P h) (Q h) := by
  subst hX hY hm
  refine ⟨by omega, by omega, withAddr_intro rfl ⟨d[i]!, by rw [Int.toNat_natCast, Nat.zero_add]; exact D.get hi, by omega, by omega, withAddr_intro rfl ⟨d[j]!, by rw [Int.toNat_natCast, Nat.zero_add]; exact D.get hj, ?_⟩⟩⟩
  exact S_lessI ⟨_, rfl, k h D A⟩
theorem swapRI (D : DaI left g0 B m n sp h d) (e0 : g0 B = none) {r : Nat} {vs : List Value} (A : At h r vs) (hbr : B ≠ r) {X Y : Int} {i j : Nat} (hX : X = (i : Int)) (hY : Y = (j : Int)) (hi : i < n) (hj : j < n) {J : Heap → Prop}
    (k : ∀ h', DaI left g0 B m n sp h' (Go.Sort.swp d j i) → At h' r vs → J h') :
    (0 : Int) ≤ X ∧ X < (n : Int) ∧ withAddr (some ⟨B, 0, none⟩) fun b o => ∃ x, h.cell b (o + X.toNat) = some (.int .i64 x) ∧ (0 : Int) ≤ Y ∧ Y < (n : Int) ∧ withAddr (some ⟨B, 0, none⟩) fun b o => ∃ y, h.cell b (o + Y.toNat) = some (.int .i64 y) ∧
      (0 : Int) ≤ Y ∧ Y < (n : Int) ∧ withAddr (some ⟨B, 0, none⟩) fun b o => h.canSt b (o + Y.toNat) 1 ∧ (0 : Int) ≤ X ∧ X < (n : Int) ∧ withAddr (some ⟨B, 0, none⟩) fun b1 o1 => (h.setN b (o + Y.toNat) [.int .i64 x]).canSt b1 (o1 + X.toNat) 1 ∧
        J ((h.setN b (o + Y.toNat) [.int .i64 x]).setN b1 (o1 + X.toNat) [.int .i64 y]) := by
  subst hX hY
  have D1 := D.st e0 hj (D.val hi)
  have D2 := D1.st e0 hi (D.val hj)
  have e : ∀ z : Nat, 0 + ((z : Nat) : Int).toNat = z := fun z => by rw [Int.toNat_natCast, Nat.zero_add]
  refine ⟨by omega, by omega, withAddr_intro rfl ⟨d[i]!, by rw [e]; exact D.get hi, by omega, by omega, withAddr_intro rfl ⟨d[j]!, by rw [e]; exact D.get hj, by omega, by omega, withAddr_intro rfl ⟨by rw [e]; exact D.can hj, by omega, by omega, withAddr_intro rfl ⟨by rw [e, e]; exact D1.can hi, ?_⟩⟩⟩⟩⟩
  rw [e, e]
  exact k _ D2 ((A.set_ne (Ne.symm hbr)).set_ne (Ne.symm hbr))
end
end Go.Proofs.Ytjihfieahkbohaa
