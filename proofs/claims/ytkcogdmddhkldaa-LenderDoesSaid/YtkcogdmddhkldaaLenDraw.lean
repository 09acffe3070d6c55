/- Draws, and what is given back. -/
import Derived.Test.YtkcogdmddhkldaaLenNew
namespace Go.Proofs.Ytkcogdmddhkldaa
open Go Go.Sy Go.Value
set_option linter.unusedVariables false
set_option linter.unusedSimpArgs false

def fillL : List Int → Int → List Int × Int
  | [], t => ([], t)
  | r :: rs, t => ((if t < r then t else r) :: (fillL rs (t - if t < r then t else r)).1, (fillL rs (t - if t < r then t else r)).2)
theorem fillL_len : ∀ (rs : List Int) (t : Int), (fillL rs t).1.length = rs.length
  | [], _ => rfl
  | r :: rs, t => by rw [fillL, List.length_cons, fillL_len rs, List.length_cons]
section
variable {h0 : Heap} {K : Value → Heap → Prop}
theorem fill_loop {q : Option Addr} {rooms : List Int} {n c : Nat} (I : Ints .i64 h0 q rooms) (hn : rooms.length = n) (hs : n ≤ 64) (hr : ∀ r ∈ rooms, I64 r ∧ 0 ≤ r) {res : List Int × Int}
    (k : ∀ p' c' h', h0.le h' → OwnL h0 h' [.int .i64 0] p' c' (intsV .i64 res.1) → K (tuple #[slice p' n c', .int .i64 res.2, .int .i64 0]) h') :
    ∀ (m j : Nat) (h : Heap) (t : Int) (out : Option Addr) (oc : Nat) (done : List Int), m + j = n → h0.le h → I64 t → 0 ≤ t → OwnL h0 h [.int .i64 0] out oc (intsV .i64 done) → done.length = j → done ++ (fillL (rooms.drop j) t).1 = res.1 → (fillL (rooms.drop j) t).2 = res.2 →
    L_split_Fill_0 t out j oc q n c (n : Int) (j : Int) h K := by
  intro m
  induction m with
  | zero =>
    intro j h t out oc done hj l0 ht h0t own hd e1 e2
    refine L_split_Fill_0r _ _ _ _ _ _ _ _ _ _ _ ?_
    unfold L_split_Fill_0T
    rw [List.drop_eq_nil_of_le (by omega)] at e1 e2
    have e1 : done ++ [] = res.1 := e1
    have e2 : t = res.2 := e2
    rw [List.append_nil] at e1
    have hjn : j = n := by omega
    subst hjn
    rw [e1] at own
    rw [e2]
    exact Br.no (by simp) (Ret.mk (k out oc h l0 own))
  | succ m ih =>
    intro j h t out oc done hj l0 ht h0t own hd e1 e2
    refine L_split_Fill_0r _ _ _ _ _ _ _ _ _ _ _ ?_
    unfold L_split_Fill_0T
    have hx : rooms[j]? = some rooms[j] := List.getElem?_eq_getElem (by omega)
    have hmem := hr rooms[j] (List.getElem_mem _)
    rw [List.drop_eq_getElem_cons (by omega : j < rooms.length), fillL] at e1 e2
    generalize rooms[j] = r at *
    unfold I64 at ht hmem
    have w1 : IntKind.wrap .i64 ((j : Int) + 1) = ((j + 1 : Nat) : Int) := by rw [wrap_i64_id (by omega) (by omega)]; omega
    have hm : 0 ≤ (if t < r then t else r) ∧ (if t < r then t else r) ≤ t := by split <;> omega
    refine Br.yes (by simp; omega) (ix (I.le l0) hn rfl hx fun s hs2 => ?_)
    generalize (if t < r then t else r) = v at *
    refine (own.le (le_ins hs2)).push (by decide) (le_ins2 l0 hs2) (by omega) (n := 1) (ws := intsV .i64 [v]) rfl (rdL_new _ _ _ _ _) (allCells_ints _ _) (by rw [intsV_length, hd]; simp) ?_
    intro p' c' h' l' w' _ _
    rw [w1, wrap_i64_id (n := t - v) (by omega) (by omega)]
    rw [← intsV_append] at w'
    exact ih (j + 1) h' (t - v) p' c' (done ++ [v]) (by omega) l' (by unfold I64; omega) (by omega) w' (by rw [List.length_append, hd]; rfl) (by rw [List.append_assoc]; exact e1) e2
theorem S_Fill {h : Heap} {q : Option Addr} {rooms : List Int} {n c : Nat} {t : Int} (I : Ints .i64 h q rooms) (hn : rooms.length = n) (hs : n ≤ 64) (hr : ∀ r ∈ rooms, I64 r ∧ 0 ≤ r) (ht : I64 t) (h0t : 0 ≤ t)
    (k : ∀ p' c' h', h.le h' → OwnL h h' [.int .i64 0] p' c' (intsV .i64 (fillL rooms t).1) → K (tuple #[slice p' n c', .int .i64 (fillL rooms t).2, .int .i64 0]) h') :
    CallA Try.prog fn_split_Fill [.int .i64 t, slice q n c] h K := by
  refine F_split_Fill _ _ _ _ _ _ ?_
  unfold F_split_FillT
  have hb : (rooms.any fun x => decide (x < 0)) = false := by
    rw [List.any_eq_false]
    intro r hr2
    have := (hr r hr2).2
    simp; omega
  refine Br.no (by simp; omega) (Br.no (by simp; omega) (S_anyBelow I hn (by omega) ⟨_, rfl, ?_⟩))
  rw [hb]
  exact Br.no rfl (fill_loop (res := fillL rooms t) I hn hs hr k n 0 h t none 0 [] (by omega) h.le_refl ht h0t (OwnL.nil _ _ _) rfl rfl rfl)
end
/-- what was filled in, drawn from the lines -/
def applyM (c : Nat) : Nat → List Int → Mx → List Prt × Mx
  | _, [], M => ([], M)
  | i, n :: l, M => if 0 < n then (⟨(i : Int), n⟩ :: (applyM c (i + 1) l (wrM M i c (rdM M i c - n))).1, (applyM c (i + 1) l (wrM M i c (rdM M i c - n))).2) else applyM c (i + 1) l M
def roomsM (F : List Bool) (c : Nat) (M : Mx) : Nat → Nat → List Int
  | 0, _ => []
  | m + 1, i => roomN F c i M :: roomsM F c M m (i + 1)
theorem roomsM_len (F : List Bool) (c : Nat) (M : Mx) : ∀ m i, (roomsM F c M m i).length = m
  | 0, _ => rfl
  | m + 1, i => by rw [roomsM, List.length_cons, roomsM_len F c M m]
theorem roomsM_congr {F : List Bool} {c : Nat} {M M' : Mx} : ∀ (m i : Nat), (∀ j, i ≤ j → rdM M j c = rdM M' j c) → roomsM F c M m i = roomsM F c M' m i
  | 0, _, _ => rfl
  | m + 1, i, h => by
    rw [roomsM, roomsM, roomsM_congr m (i + 1) fun j hj => h j (by omega)]
    unfold roomN
    rw [h i (Nat.le_refl _)]
theorem apply_draw {F : List Bool} {c n w : Nat} (hc : c < w) : ∀ (m i : Nat) (need : Int) (M : Mx), m + i = n → shM M n w →
    ((applyM c i (fillL (roomsM F c M m i) need).1 M).1, (fillL (roomsM F c M m i) need).2, (applyM c i (fillL (roomsM F c M m i) need).1 M).2) = drawM F c m i need M
  | 0, _, _, _, _, _ => rfl
  | m + 1, i, need, M, hm, s => by
    rw [roomsM, fillL, drawM, applyM]
    dsimp only
    generalize (if need < roomN F c i M then need else roomN F c i M) = a
    by_cases hp : 0 < a
    · rw [if_pos hp, if_pos hp]
      have e : roomsM F c M m (i + 1) = roomsM F c (wrM M i c (rdM M i c - a)) m (i + 1) := roomsM_congr m (i + 1) fun j hj => by rw [rd_wr s (by omega) hc, if_neg (by omega)]
      rw [e]
      have ih := apply_draw (F := F) hc m (i + 1) (need - a) (wrM M i c (rdM M i c - a)) (by omega) (s.wr (by omega))
      rw [← ih]
    · rw [if_neg hp, if_neg hp]
      exact apply_draw hc m (i + 1) (need - a) M (by omega) s
/-- a list that lies elsewhere -/
def Dis (f : Frm) (n : Nat) (q : Option Addr) : Prop := ∀ B, q = some ⟨B, 0, none⟩ → f.p ≠ B ∧ (0 < n → f.a ≠ some ⟨B, 0, none⟩) ∧ ∀ i, i < n → f.R i ≠ B
theorem Dis.none (f : Frm) (n : Nat) : Dis f n Option.none := fun B e => by cases e
theorem LenAt.keep {h h' : Heap} {f : Frm} {S : Ln} {q : Option Addr} (A : LenAt h f S) (d : Dis f S.L.length q) (k : ∀ b xs, At h b xs → q ≠ some ⟨b, 0, none⟩ → At h' b xs) : LenAt h' f S := by
  refine ⟨k _ _ A.ap fun e => (d _ e).1 rfl, ?_, A.nb, fun i hi => k _ _ (A.row i hi) fun e => (d _ e).2.2 i hi rfl, A.inj, A.nep, A.ok⟩
  by_cases hn : S.L.length = 0
  · exact .inl hn
  · obtain ⟨B, e, a⟩ := A.prov (i := 0) (by omega)
    exact .inr ⟨B, e, k _ _ a fun e2 => (d _ e2).2.1 (by omega) e⟩
theorem LenAt.fresh {h : Heap} {f : Frm} {S : Ln} (A : LenAt h f S) {r : Nat} (hr : h r = none) : Dis f S.L.length (some ⟨r, 0, none⟩) := fun B e => by
  cases e
  refine ⟨A.ap.ne hr, fun hn e => ?_, fun i hi => (A.row i hi).ne hr⟩
  obtain ⟨B, e2, a⟩ := A.prov hn
  rw [e2] at e; cases e
  exact a.ne hr rfl
section
variable {h0 : Heap} {K : Value → Heap → Prop} {f : Frm} {S : Ln}
theorem draw_1 (fr : Fresh h0 f S.L.length) {c n : Nat} (hc : c < S.cur) (hn : S.L.length = n) {q : Option Addr} {l : List Int} {qc : Nat} {still : Int} (I : Ints .i64 h0 q l) (hl : l.length = n) {res : List Prt × Mx}
    (k : ∀ p' c' h', h0.le h' → OwnL h0 h' [.int .i64 0, .int .i64 0] p' c' (ptV res.1) → LenAt h' f ⟨res.2, S.F, S.cur⟩ → Dis f n p' → K (tuple #[slice p' res.1.length c', .int .i64 still, .int .i64 0]) h') :
    ∀ (m j : Nat) (h : Heap) (M : Mx) (parts : Option Addr) (pc : Nat) (done : List Prt), m + j = n → h0.le h → LenAt h f ⟨M, S.F, S.cur⟩ → M.length = n → OwnL h0 h [.int .i64 0, .int .i64 0] parts pc (ptV done) → done.length ≤ j →
    Dis f n parts → (∀ i, j ≤ i → i < n → 0 ≤ l.getD i 0 ∧ l.getD i 0 ≤ rdM M i c) →
    (done ++ (applyM c j (l.drop j) M).1, (applyM c j (l.drop j) M).2) = res →
    L_plender_Lenders_Draw_1 (some ⟨f.p, 0, none⟩) (c : Int) still parts done.length pc q n qc (n : Int) (j : Int) h K := by
  intro m
  induction m with
  | zero =>
    intro j h M parts pc done hj l0 A hMl own hd dis hlr e
    refine L_plender_Lenders_Draw_1r _ _ _ _ _ _ _ _ _ _ _ _ _ ?_
    unfold L_plender_Lenders_Draw_1T
    rw [List.drop_eq_nil_of_le (by omega)] at e
    have e : (done ++ [], M) = res := e
    rw [List.append_nil] at e
    subst e
    exact Br.no (by simp; omega) (Ret.mk (k parts pc h l0 own A dis))
  | succ m ih =>
    intro j h M parts pc done hj l0 A hMl own hd dis hlr e
    refine L_plender_Lenders_Draw_1r _ _ _ _ _ _ _ _ _ _ _ _ _ ?_
    unfold L_plender_Lenders_Draw_1T
    have hx : l[j]? = some l[j] := List.getElem?_eq_getElem (by omega)
    have hg : l.getD j 0 = l[j] := by rw [List.getD_eq_getElem?_getD, hx]; rfl
    have hj2 := hlr j (Nat.le_refl _) (by omega)
    rw [hg] at hj2
    rw [List.drop_eq_getElem_cons (by omega : j < l.length), applyM] at e
    generalize l[j] = v at *
    have n8 := A.ok.n8
    have n8 : M.length ≤ 8 := n8
    have w1 : IntKind.wrap .i64 ((j : Int) + 1) = ((j + 1 : Nat) : Int) := by rw [wrap_i64_id (by omega) (by omega)]; omega
    have hji : j < M.length := by omega
    refine Br.yes (by simp; omega) (ix (I.le l0) hl rfl hx (Br.dec (fun g => ?_) fun g => ?_))
    · rw [if_pos (by omega)] at e
      obtain ⟨B, eB, _⟩ := A.prov (i := j) hji
      have hI := A.ok.i64 j c
      have hI : I64 (rdM M j c) := hI
      unfold I64 at hI
      have e1 : IntKind.wrap .i64 (rdM M j c - v) = rdM M j c - v := wrap_i64_id (by omega) (by omega)
      have A1 : LenAt (h.setN (f.R j) (0 + c) [.int .i64 (rdM M j c - v)]) f ⟨wrM M j c (rdM M j c - v), S.F, S.cur⟩ := A.wrR (S := ⟨M, S.F, S.cur⟩) hji hc (by unfold I64; omega) (by omega)
      have hn' : M.length = S.L.length := by omega
      have o1 : OwnL h0 (h.setN (f.R j) (0 + c) [.int .i64 (rdM M j c - v)]) [.int .i64 0, .int .i64 0] parts pc (ptV done) := own.set_ne (fun e => (dis _ e).2.2 j (by omega) rfl)
      have l1 : h0.le (h.setN (f.R j) (0 + c) [.int .i64 (rdM M j c - v)]) := le_setN l0 (fr.r j (by omega))
      refine withAddr_intro rfl ⟨_, _, _, A.provs, by omega, by (show (j : Int) < (M.length : Int); omega), withAddr_intro eB ⟨_, _, _, A.line (S := ⟨M, S.F, S.cur⟩) hji eB, by omega, by (show (c : Int) < (S.cur : Int); omega), withAddr_intro rfl ⟨_, A.amt (S := ⟨M, S.F, S.cur⟩) hji hc, by omega, by (show (c : Int) < (S.cur : Int); omega), withAddr_intro rfl ⟨A.stR (S := ⟨M, S.F, S.cur⟩) hji hc, ?_⟩⟩⟩⟩
      dsimp only
      simp only [Int.toNat_natCast]
      rw [e1]
      generalize h.setN (f.R j) (0 + c) [.int .i64 (rdM M j c - v)] = h1 at *
      intro r hr
      have l2 : h1.le (h1.ins r (.cells [.int .i64 (j : Int), .int .i64 v].toArray 78 (0, 0))) := le_ins hr
      have rd : rdL (h1.ins r (.cells [.int .i64 (j : Int), .int .i64 v].toArray 78 (0, 0))) (some ⟨r, 0, none⟩) (ptV [⟨(j : Int), v⟩]) := rdL_new _ _ _ _ _
      generalize h1.ins r (.cells [.int .i64 (j : Int), .int .i64 v].toArray 78 (0, 0)) = h2 at *
      have A2 := A1.le l2
      have hl2 : (wrM M j c (rdM M j c - v)).length = n := by unfold wrM; rw [List.length_set, hMl]
      refine (o1.le l2).push (by decide) (Heap.le_trans l1 l2) (by omega) (n := 1) (ws := ptV [⟨(j : Int), v⟩]) rfl rd (allCells_pt _) (by rw [ptV_length]; rfl) ?_
      intro p' c' h3 l3 w3 keep how
      rw [← ptV_append] at w3
      have dis2 : Dis f (wrM M j c (rdM M j c - v)).length parts := by rw [hl2]; exact dis
      have A3 : LenAt h3 f ⟨wrM M j c (rdM M j c - v), S.F, S.cur⟩ := LenAt.keep A2 dis2 keep
      have dis3 : Dis f n p' := by
        rcases how with rfl | ⟨s, rfl, hs⟩
        · exact dis
        · have := LenAt.fresh A2 hs
          rw [show (⟨wrM M j c (rdM M j c - v), S.F, S.cur⟩ : Ln).L.length = n from hl2] at this
          exact this
      rw [w1]
      have hM := A.ok.sh
      have hM : shM M M.length S.cur := hM
      have := ih (j + 1) h3 (wrM M j c (rdM M j c - v)) p' c' (done ++ [⟨(j : Int), v⟩]) (by omega) l3 A3 hl2 w3 (by rw [List.length_append]; simp; omega) dis3 (fun i h1 h2 => by
        rw [rd_wr hM hji hc, if_neg (by omega)]; exact hlr i (by omega) h2) (by rw [List.append_assoc]; exact e)
      rw [List.length_append] at this
      exact this
    · rw [if_neg (by omega)] at e
      rw [w1]
      exact ih (j + 1) h M parts pc done (by omega) l0 A hMl own (by omega) dis (fun i h1 h2 => hlr i (by omega) h2) e
theorem draw_0 {c n : Nat} {need : Int} (hc : c < S.cur) (hn : S.L.length = n) {g : Heap} (A : LenAt g f S)
    (k : ∀ h' q qc, g.le h' → OwnL g h' [.int .i64 0] q qc (intsV .i64 (roomsM S.F c S.L n 0)) → L_plender_Lenders_Draw_0 (some ⟨f.p, 0, none⟩) (c : Int) need q n qc (n : Int) (n : Int) h' K) :
    ∀ (m j : Nat) (h : Heap) (q : Option Addr) (qc : Nat) (done : List Int), m + j = n → g.le h → OwnL g h [.int .i64 0] q qc (intsV .i64 done) → done.length = j → done ++ roomsM S.F c S.L m j = roomsM S.F c S.L n 0 →
    L_plender_Lenders_Draw_0 (some ⟨f.p, 0, none⟩) (c : Int) need q j qc (n : Int) (j : Int) h K := by
  have n8 := A.ok.n8
  intro m
  induction m with
  | zero =>
    intro j h q qc done hj l0 own hd e
    have hjn : j = n := by omega
    subst hjn
    rw [roomsM, List.append_nil] at e
    rw [e] at own
    exact k h q qc l0 own
  | succ m ih =>
    intro j h q qc done hj l0 own hd e
    refine L_plender_Lenders_Draw_0r _ _ _ _ _ _ _ _ _ _ ?_
    unfold L_plender_Lenders_Draw_0T
    have w1 : IntKind.wrap .i64 ((j : Int) + 1) = ((j + 1 : Nat) : Int) := by rw [wrap_i64_id (by omega) (by omega)]; omega
    have hlf : leftN S (j : Int) (c : Int) = roomN S.F c j S.L := by
      unfold leftN
      rw [if_neg (by unfold knownB; rw [decide_eq_true (by omega)]; decide), if_neg (by unfold hasC; rw [decide_eq_true (by omega)]; decide)]
      simp only [Int.toNat_natCast]
    refine Br.yes (by simp; omega) (S_nLeft (A.le l0) ⟨_, rfl, fun r hr => ?_⟩)
    rw [hlf]
    refine (own.le (le_ins hr)).push (by decide) (le_ins2 l0 hr) (by omega) (n := 1) (ws := intsV .i64 [roomN S.F c j S.L]) rfl (rdL_new _ _ _ _ _) (allCells_ints _ _) (by rw [intsV_length, hd]; simp) ?_
    intro p' c' h' l' w' _ _
    rw [w1]
    rw [← intsV_append] at w'
    rw [roomsM] at e
    exact ih (j + 1) h' p' c' (done ++ [roomN S.F c j S.L]) (by omega) l' w' (by rw [List.length_append, hd]; rfl) (by rw [List.append_assoc]; exact e)
theorem fillL_le : ∀ (rs : List Int) (t : Int), 0 ≤ t → (∀ r ∈ rs, 0 ≤ r) → ∀ i, i < rs.length → 0 ≤ (fillL rs t).1.getD i 0 ∧ (fillL rs t).1.getD i 0 ≤ rs.getD i 0
  | [], _, _, _, i, h => by simp at h
  | r :: rs, t, ht, hr, 0, _ => by
    have := hr r (List.mem_cons_self ..)
    rw [fillL]
    simp only [List.getD_cons_zero]
    split <;> omega
  | r :: rs, t, ht, hr, i + 1, h => by
    rw [fillL]
    simp only [List.getD_cons_succ]
    have h0 := hr r (List.mem_cons_self ..)
    exact fillL_le rs _ (by split <;> omega) (fun x hx => hr x (List.mem_cons_of_mem _ hx)) i (by simpa using h)
theorem roomsM_get (F : List Bool) (c : Nat) (M : Mx) : ∀ (m i j : Nat), j < m → (roomsM F c M m i).getD j 0 = roomN F c (i + j) M
  | 0, _, _, h => by omega
  | m + 1, i, 0, _ => rfl
  | m + 1, i, j + 1, h => by
    rw [roomsM, List.getD_cons_succ, roomsM_get F c M m (i + 1) j (by omega)]
    congr 1; omega
theorem S_nDraw {h : Heap} (l0 : h0.le h) (fr : Fresh h0 f S.L.length) (A : LenAt h f S) {c need : Int} (hI : I64 need)
    (k : ∀ h' p' c', h0.le h' → LenAt h' f (drawN S c need).2.2.2 → OwnL h0 h' [.int .i64 0, .int .i64 0] p' c' (ptV (drawN S c need).1) → Dis f S.L.length p' → K (tuple #[slice p' (drawN S c need).1.length c', .int .i64 (drawN S c need).2.1, .int .i64 (drawN S c need).2.2.1]) h') :
    CallA Try.prog fn_plender_Lenders_Draw [pointer (some ⟨f.p, 0, none⟩), .int .i64 c, .int .i64 need] h K := by
  refine F_plender_Lenders_Draw _ _ _ _ _ ?_
  unfold F_plender_Lenders_DrawT
  unfold drawN at k
  refine S_nhas A ⟨_, rfl, ?_⟩
  by_cases h1 : hasC S c = false
  · rw [if_pos h1] at k
    rw [h1]
    exact Br.yes rfl (Ret.mk (k h none 0 l0 A (OwnL.nil _ _ _) (Dis.none _ _)))
  rw [if_neg h1] at k
  have h1 : hasC S c = true := by simpa using h1
  rw [h1]
  refine Br.no rfl (Br.dec (fun g => ?_) fun g => ?_)
  · rw [if_pos g] at k
    exact Ret.mk (k h none 0 l0 A (OwnL.nil _ _ _) (Dis.none _ _))
  rw [if_neg g] at k
  obtain ⟨j, rfl, hj⟩ := hasC_t h1
  simp only [Int.toNat_natCast] at k
  have n8 := A.ok.n8
  refine withAddr_intro rfl ⟨_, _, _, A.provs, ?_⟩
  refine draw_0 hj rfl A (fun h2 q qc l2 own2 => ?_) S.L.length 0 h none 0 [] (by omega) h.le_refl (OwnL.nil _ _ _) rfl rfl
  refine L_plender_Lenders_Draw_0r _ _ _ _ _ _ _ _ _ _ ?_
  unfold L_plender_Lenders_Draw_0T
  have rooms0 : ∀ r ∈ roomsM S.F j S.L S.L.length 0, I64 r ∧ 0 ≤ r := fun r hr => by
    obtain ⟨i, hi⟩ := List.getElem?_of_mem hr
    have hil : i < S.L.length := by have := (List.getElem?_eq_some_iff.1 hi).1; rw [roomsM_len] at this; exact this
    have e := roomsM_get S.F j S.L S.L.length 0 i hil
    rw [List.getD_eq_getElem?_getD, hi] at e
    have e : r = roomN S.F j (0 + i) S.L := e
    have h2 := roomN_le (F := S.F) (A.ok.pos (0 + i) j)
    have h3 := A.ok.i64 (0 + i) j
    rw [e]
    unfold I64 at h3 ⊢
    omega
  refine Br.no (by simp) (S_Fill (rooms := roomsM S.F j S.L S.L.length 0) own2.rd (roomsM_len _ _ _ _ _) (by omega) rooms0 hI (by omega) fun q3 c3 h3 l3 own3 => ⟨_, _, _, _, _, rfl, Br.no rfl ?_⟩)
  have l23 := Heap.le_trans l2 l3
  have A3 := A.le l23
  have l03 := Heap.le_trans l0 l23
  -- the amounts stay, whatever is drawn
  have own4 : ∃ g : Heap, h0.le g ∧ g.le h3 ∧ Fresh g f S.L.length ∧ Ints .i64 g q3 (fillL (roomsM S.F j S.L S.L.length 0) need).1 := by
    rcases own3 with ⟨e1, e2, e3⟩ | ⟨r, sp, rfl, er, Ar, _⟩
    · exact ⟨h0, h0.le_refl, l03, fr, .inl e1⟩
    · obtain ⟨T, ea⟩ := Ar
      have l2' := Heap.le_trans l0 l2
      refine ⟨h0.ins r (.cells (intsV .i64 (fillL (roomsM S.F j S.L S.L.length 0) need).1 ++ sp).toArray T (0, 0)), le_ins (none_of_le l2' er), fun x o hx => ?_, ?_, (At.new _ _ _ _).toRd⟩
      · unfold Heap.ins at hx
        split at hx
        · rename_i e; rw [e]; rw [← hx]; exact ea
        · exact l03 x o hx
      · have A2 := A.le l2
        have ne := LenAt.fresh A2 er r rfl
        refine ⟨?_, fun B e => ?_, fun i hi => ?_⟩
        · unfold Heap.ins; rw [if_neg ne.1]; exact fr.p
        · intro hn0
          unfold Heap.ins
          rw [if_neg (fun e2 => ne.2.1 hn0 (by rw [e, e2]))]; exact fr.a B e hn0
        · unfold Heap.ins; rw [if_neg (ne.2.2 i hi)]; exact fr.r i hi
  obtain ⟨g, hg, hgl, frg, Ig⟩ := own4
  have ad := apply_draw (F := S.F) hj S.L.length 0 need S.L (by omega) A.ok.sh
  have lf : (fillL (roomsM S.F j S.L S.L.length 0) need).1.length = S.L.length := by rw [fillL_len, roomsM_len]
  have e1 : applyM j 0 (fillL (roomsM S.F j S.L S.L.length 0) need).1 S.L = ((drawM S.F j S.L.length 0 need S.L).1, (drawM S.F j S.L.length 0 need S.L).2.2) := by rw [← ad]
  have e2 : (fillL (roomsM S.F j S.L S.L.length 0) need).2 = (drawM S.F j S.L.length 0 need S.L).2.1 := by rw [← ad]
  rw [e2]
  refine draw_1 (h0 := g) frg hj rfl Ig lf (res := ((drawM S.F j S.L.length 0 need S.L).1, (drawM S.F j S.L.length 0 need S.L).2.2)) (fun p' c' h' l' own' A' dis' => k h' p' c' (Heap.le_trans hg l') A' ?_ dis') S.L.length 0 h3 S.L none 0 [] (by omega) hgl A3 rfl (OwnL.nil _ _ _) (by simp) (Dis.none _ _) (fun i _ h2 => ?_) (by rw [List.drop_zero, e1]; rfl)
  · rcases own' with o | ⟨r, sp, e, er, ar, ec⟩
    · exact .inl o
    · exact .inr ⟨r, sp, e, none_of_le hg er, ar, ec⟩
  · have h4 := fillL_le (roomsM S.F j S.L S.L.length 0) need (by omega) (fun r hr => (rooms0 r hr).2) i (by rw [roomsM_len]; exact h2)
    rw [roomsM_get _ _ _ _ _ _ h2, Nat.zero_add] at h4
    have h5 := roomN_le (F := S.F) (A.ok.pos i j)
    omega
end
/-- where providers lie -/
def Frm.D (f : Frm) (n x : Nat) : Bool := x == f.p || (decide (0 < n) && (match f.a with | some ⟨B, 0, Option.none⟩ => B == x | _ => false)) || (List.range n).any fun i => f.R i == x
theorem Frm.fresh_wo (h : Heap) (f : Frm) (n : Nat) : Fresh (h.wo (f.D n)) f n := by
  refine ⟨wo_none (by simp [Frm.D]), fun B e hn => wo_none ?_, fun i hi => wo_none ?_⟩
  · unfold Frm.D; rw [e]; simp [hn]
  · have : ((List.range n).any fun j => f.R j == f.R i) = true := List.any_eq_true.2 ⟨i, List.mem_range.2 hi, by simp⟩
    unfold Frm.D; rw [this, Bool.or_true]
theorem Frm.not_D {f : Frm} {n x : Nat} (h : Dis f n (some ⟨x, 0, none⟩)) : f.D n x = false := by
  obtain ⟨h1, h2, h3⟩ := h x rfl
  unfold Frm.D
  rw [Bool.or_eq_false_iff, Bool.or_eq_false_iff, List.any_eq_false]
  refine ⟨⟨by simpa using fun e => h1 e.symm, ?_⟩, fun i hi => by simpa using h3 i (List.mem_range.1 hi)⟩
  rw [Bool.and_eq_false_iff]
  by_cases hn : 0 < n
  · right
    split
    · rename_i B e
      have := h2 hn
      rw [e] at this
      simpa using fun e2 => this (by rw [e2])
    · rfl
  · left; simpa using hn
theorem Frm.D_t {f : Frm} {n x : Nat} (h : f.D n x = true) : x = f.p ∨ (0 < n ∧ f.a = some ⟨x, 0, none⟩) ∨ ∃ i, i < n ∧ f.R i = x := by
  unfold Frm.D at h
  rw [Bool.or_eq_true, Bool.or_eq_true, Bool.and_eq_true, List.any_eq_true] at h
  rcases h with (h | ⟨h1, h2⟩) | ⟨i, hi, h⟩
  · exact .inl (by simpa using h)
  · split at h2
    · rename_i B e
      have : B = x := by simpa using h2
      exact .inr (.inl ⟨by simpa using h1, by rw [e, this]⟩)
    · cases h2
  · exact .inr (.inr ⟨i, List.mem_range.1 hi, by simpa using h⟩)
theorem Fresh.le_wo {g h : Heap} {f : Frm} {n : Nat} (fr : Fresh g f n) (l : g.le h) : g.le (h.wo (f.D n)) := by
  refine Go.Sy.le_wo l fun x hx => ?_
  rcases Frm.D_t hx with rfl | ⟨hn, e⟩ | ⟨i, hi, rfl⟩
  · exact fr.p
  · exact fr.a x e hn
  · exact fr.r i hi
theorem LenAt.at_D {h : Heap} {f : Frm} {S : Ln} (A : LenAt h f S) {r : Nat} (hr : h r = none) : f.D S.L.length r = false := Frm.not_D (A.fresh hr)
end Go.Proofs.Ytkcogdmddhkldaa
