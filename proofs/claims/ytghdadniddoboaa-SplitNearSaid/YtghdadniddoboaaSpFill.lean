/- Rooms filled; a list of ones; shares evenly. -/
import Derived.Test.YtghdadniddoboaaSpSpec
namespace Go.Proofs.Ytghdadniddoboaa
open Go Go.Sy Go.Value
set_option linter.unusedVariables false
set_option linter.unusedSimpArgs false

def fillS : List Int → Int → List Int × Int
  | [], t => ([], t)
  | r :: rs, t => ((if t < r then t else r) :: (fillS rs (t - if t < r then t else r)).1, (fillS rs (t - if t < r then t else r)).2)
theorem fillS_len : ∀ (rs : List Int) (t : Int), (fillS rs t).1.length = rs.length
  | [], _ => rfl
  | r :: rs, t => by rw [fillS, List.length_cons, fillS_len rs, List.length_cons]
def fillR (rs : List Int) (t : Int) : List Int × Int × Int :=
  if 64 < rs.length then ([], 0, 4) else if t < 0 then ([], 0, 1) else if anyNeg rs = true then ([], 0, 1) else ((fillS rs t).1, (fillS rs t).2, 0)
section
variable {h0 : Heap} {K : Value → Heap → Prop}
theorem fill_loopS {q : Option Addr} {rooms : List Int} {n c : Nat} (I : Ints .i64 h0 q rooms) (hn : rooms.length = n) (hs : n ≤ 64) (hr : ∀ r ∈ rooms, I64 r ∧ 0 ≤ r) {res : List Int × Int}
    (k : ∀ p' c' h', h0.le h' → OwnL h0 h' [.int .i64 0] p' c' (intsV .i64 res.1) → K (tuple #[slice p' n c', .int .i64 res.2, .int .i64 0]) h') :
    ∀ (m j : Nat) (h : Heap) (t : Int) (out : Option Addr) (oc : Nat) (done : List Int), m + j = n → h0.le h → I64 t → 0 ≤ t → OwnL h0 h [.int .i64 0] out oc (intsV .i64 done) → done.length = j → done ++ (fillS (rooms.drop j) t).1 = res.1 → (fillS (rooms.drop j) t).2 = res.2 →
    L_split_Fill_0 t out j oc q n c (n : Int) (j : Int) h K := by
  intro m
  induction m with
  | zero =>
    intro j h t out oc done hj l0 ht h0t own hd e1 e2
    refine L_split_Fill_0r _ _ _ _ _ _ _ _ _ _ _ ?_
    unfold L_split_Fill_0T
    rw [List.drop_eq_nil_of_le (by omega)] at e1 e2
    have e1 : done ++ [] = res.1 := e1
    have e2 : t = res.2 := e2
    rw [List.append_nil] at e1
    have hjn : j = n := by omega
    subst hjn
    rw [e1] at own
    rw [e2]
    exact Br.no (by simp) (Ret.mk (k out oc h l0 own))
  | succ m ih =>
    intro j h t out oc done hj l0 ht h0t own hd e1 e2
    refine L_split_Fill_0r _ _ _ _ _ _ _ _ _ _ _ ?_
    unfold L_split_Fill_0T
    have hx : rooms[j]? = some rooms[j] := List.getElem?_eq_getElem (by omega)
    have hmem := hr rooms[j] (List.getElem_mem _)
    rw [List.drop_eq_getElem_cons (by omega : j < rooms.length), fillS] at e1 e2
    generalize rooms[j] = r at *
    unfold I64 at ht hmem
    have w1 : IntKind.wrap .i64 ((j : Int) + 1) = ((j + 1 : Nat) : Int) := by rw [wrap_i64_id (by omega) (by omega)]; omega
    have hm : 0 ≤ (if t < r then t else r) ∧ (if t < r then t else r) ≤ t := by split <;> omega
    refine Br.yes (by simp; omega) (ix (I.le l0) hn rfl hx fun s hs2 => ?_)
    generalize (if t < r then t else r) = v at *
    refine (own.le (le_ins hs2)).push (by decide) (le_ins2 l0 hs2) (by omega) (n := 1) (ws := intsV .i64 [v]) rfl (rdL_new _ _ _ _ _) (allCells_ints _ _) (by rw [intsV_length, hd]; simp) ?_
    intro p' c' h' l' w' _ _
    rw [w1, wrap_i64_id (n := t - v) (by omega) (by omega)]
    rw [← intsV_append] at w'
    exact ih (j + 1) h' (t - v) p' c' (done ++ [v]) (by omega) l' (by unfold I64; omega) (by omega) w' (by rw [List.length_append, hd]; rfl) (by rw [List.append_assoc]; exact e1) e2
theorem S_FillS {h : Heap} {q : Option Addr} {rooms : List Int} {n c : Nat} {t : Int} (I : Ints .i64 h q rooms) (hn : rooms.length = n) (hs : n ≤ 1000000) (hr : allI64 rooms) (ht : I64 t)
    (k : ∀ p' c' h', h.le h' → Ints .i64 h' p' (fillR rooms t).1 → K (tuple #[slice p' (fillR rooms t).1.length c', .int .i64 (fillR rooms t).2.1, .int .i64 (fillR rooms t).2.2]) h') :
    CallA Try.prog fn_split_Fill [.int .i64 t, slice q n c] h K := by
  refine F_split_Fill _ _ _ _ _ _ ?_
  unfold F_split_FillT
  unfold fillR at k
  refine Br.dec (fun g1 => ?_) fun g1 => ?_
  · rw [if_pos (by omega)] at k; exact Ret.mk (k none 0 h h.le_refl (.inl rfl))
  rw [if_neg (by omega)] at k
  refine Br.dec (fun g2 => ?_) fun g2 => ?_
  · rw [if_pos (by omega)] at k; exact Ret.mk (k none 0 h h.le_refl (.inl rfl))
  rw [if_neg (by omega)] at k
  refine S_anyNegS I hn hs ⟨_, rfl, Br.intro (fun g3 => ?_) fun g3 => ?_⟩
  · rw [if_pos g3] at k; exact Ret.mk (k none 0 h h.le_refl (.inl rfl))
  rw [if_neg (by rw [g3]; decide)] at k
  refine fill_loopS (res := fillS rooms t) I hn (by omega) (fun r hr2 => ⟨hr r hr2, geL_of g3 r hr2⟩) (fun p' c' h' l' w' => ?_) n 0 h t none 0 [] (by omega) h.le_refl ht (by omega) (OwnL.nil _ _ _) rfl rfl rfl
  have := k p' c' h' l' w'.rd
  rw [fillS_len, hn] at this
  exact this
/-! a list of ones -/
def ones (n : Nat) : List Int := List.replicate n 1
def hiP (x y : Int) : Int := (IntKind.wrap IntKind.u64 (IntKind.wrap IntKind.u64 (IntKind.wrap IntKind.u64 (Int.fdiv x 4294967296 * Int.fdiv y 4294967296) + Int.fdiv (IntKind.wrap IntKind.u64 (IntKind.wrap IntKind.u64 (Int.fdiv x 4294967296 * IntKind.wrap IntKind.u64 (↑(BitVec.toNat (BitVec.ofInt 64 y &&& BitVec.ofInt 64 4294967295)) : Int)) + Int.fdiv (IntKind.wrap IntKind.u64 (IntKind.wrap IntKind.u64 (↑(BitVec.toNat (BitVec.ofInt 64 x &&& BitVec.ofInt 64 4294967295)) : Int) * IntKind.wrap IntKind.u64 (↑(BitVec.toNat (BitVec.ofInt 64 y &&& BitVec.ofInt 64 4294967295)) : Int))) 4294967296)) 4294967296) + Int.fdiv (IntKind.wrap IntKind.u64 (IntKind.wrap IntKind.u64 (↑(BitVec.toNat (BitVec.ofInt 64 (IntKind.wrap IntKind.u64 (IntKind.wrap IntKind.u64 (Int.fdiv x 4294967296 * IntKind.wrap IntKind.u64 (↑(BitVec.toNat (BitVec.ofInt 64 y &&& BitVec.ofInt 64 4294967295)) : Int)) + Int.fdiv (IntKind.wrap IntKind.u64 (IntKind.wrap IntKind.u64 (↑(BitVec.toNat (BitVec.ofInt 64 x &&& BitVec.ofInt 64 4294967295)) : Int) * IntKind.wrap IntKind.u64 (↑(BitVec.toNat (BitVec.ofInt 64 y &&& BitVec.ofInt 64 4294967295)) : Int))) 4294967296)) &&& BitVec.ofInt 64 4294967295)) : Int) + IntKind.wrap IntKind.u64 (IntKind.wrap IntKind.u64 (↑(BitVec.toNat (BitVec.ofInt 64 x &&& BitVec.ofInt 64 4294967295)) : Int) * Int.fdiv y 4294967296))) 4294967296))
theorem hi_one : ∀ y : Fin 65, hiP 1 (y.val : Int) = 0 := by decide +kernel
theorem S_mulOne {h : Heap} {p : Nat} (hp : p ≤ 64) (k : K (tuple #[.int .u64 0, .int .u64 (p : Int)]) h) : CallA Try.prog fn_math_bits_Mul [.int .u64 1, .int .u64 (p : Int)] h K := by
  refine F_math_bits_Mul _ _ _ _ ?_
  unfold F_math_bits_MulT
  refine F_math_bits_Mul64 _ _ _ _ ?_
  unfold F_math_bits_Mul64T
  have e := hi_one ⟨p, by omega⟩
  dsimp only at e
  refine Ret.mk ⟨hiP 1 (p : Int), IntKind.wrap .u64 (1 * (p : Int)), rfl, Ret.mk ?_⟩
  rw [e, Int.one_mul, wrap_u64_id (by omega) (by omega)]
  exact k
theorem ones_take (n m : Nat) (h : m ≤ n) : (ones n).take m = ones m := by unfold ones; rw [List.take_replicate, Nat.min_eq_left h]
theorem rep_loop {r c : Nat} (hr : h0 r = none) (hc : c ≤ 64) (k : ∀ h', h0.le h' → At h' r (intsV .i64 (ones c)) → K (slice (some ⟨r, 0, none⟩) c c) h') :
    ∀ (q n : Nat) (h : Heap) (sp : List Value), c - n ≤ q → 1 ≤ n → n + sp.length = c → h0.le h → At h r (intsV .i64 (ones n) ++ sp) → L_slices_Repeat_int64_int64_0 (some ⟨r, 0, none⟩) c c (n : Int) h K := by
  intro q
  induction q with
  | zero =>
    intro n h sp hq h1 hn l0 A
    refine L_slices_Repeat_int64_int64_0r _ _ _ _ _ _ ?_
    unfold L_slices_Repeat_int64_int64_0T
    have e : sp = [] := List.length_eq_zero_iff.1 (by omega)
    subst e
    rw [List.append_nil, show n = c from by simp at hn; omega] at A
    exact Br.no (by simp; omega) (Ret.mk (k h l0 A))
  | succ q ih =>
    intro n h sp hq h1 hn l0 A
    refine L_slices_Repeat_int64_int64_0r _ _ _ _ _ _ ?_
    unfold L_slices_Repeat_int64_int64_0T
    refine Br.dec (fun g => ⟨by omega, by omega, by omega, by omega, ?_⟩) fun g => ?_
    · rw [Int.toNat_natCast]
      have hk : min n (c - n) ≤ n ∧ 1 ≤ min n (c - n) ∧ min n (c - n) ≤ sp.length := by omega
      generalize min n (c - n) = kk at *
      have R : rdL h (some ⟨r, 0, none⟩) (intsV .i64 (ones kk)) := by
        have r := A.toRd
        have e : intsV .i64 (ones n) = intsV .i64 (ones kk) ++ intsV .i64 ((ones n).drop kk) := by rw [← intsV_append, ← ones_take n kk hk.1, List.take_append_drop]
        rw [e] at r
        exact rdL_take r
      have hl : ∀ m, (intsV .i64 (ones m)).length = m := fun m => by rw [intsV_length]; simp [ones]
      have A2 := A.set (o := n) (ws := intsV .i64 (ones kk))
      have se := setL_end (intsV .i64 (ones kk)) (intsV .i64 (ones n)) sp (by rw [hl]; exact hk.2.2)
      rw [hl, hl] at se
      rw [se, ← intsV_append] at A2
      have e3 : ones n ++ ones kk = ones (n + kk) := by unfold ones; rw [List.replicate_append_replicate]
      rw [e3] at A2
      refine ⟨intsV .i64 (ones kk), by rw [hl]; omega, R, allCells_ints _ _, .inr ⟨r, n, ?_, ?_, ?_⟩⟩
      · unfold slAddr
        rw [if_neg (by omega)]
        simp [Addr.add]; omega
      · exact A.canSt (by rw [List.length_append, hl, hl]; omega)
      · rw [wid (x := (n : Int) + (kk : Int)) (by omega) (by omega)]
        exact ih (n + kk) _ _ (by omega) (by omega) (by rw [List.length_drop]; omega) (le_setN l0 hr) A2
    · have e : sp = [] := List.length_eq_zero_iff.1 (by omega)
      subst e
      rw [List.append_nil, show n = c from by simp at hn; omega] at A
      exact Ret.mk (k h l0 A)
theorem S_ones {h : Heap} {b p : Nat} (hp1 : 1 ≤ p) (hp : p ≤ 64) (A : At h b [.int .i64 1]) (k : ∀ r h', h.le h' → h r = none → At h' r (intsV .i64 (ones p)) → K (slice (some ⟨r, 0, none⟩) p p) h') :
    CallA Try.prog fn_slices_Repeat_int64_int64 [slice (some ⟨b, 0, none⟩) 1 1, .int .i64 (p : Int)] h K := by
  refine F_slices_Repeat_int64_int64 _ _ _ _ _ _ ?_
  unfold F_slices_Repeat_int64_int64T
  have w1 : IntKind.wrap .u64 (((1 : Nat) : Int)) = 1 := by decide
  have w2 : IntKind.wrap .u64 (p : Int) = (p : Int) := wrap_u64_id (by omega) (by omega)
  rw [w1, w2]
  refine Br.no (by simp) (S_mulOne hp ⟨_, _, rfl, Br.no (by decide) (Br.no (by simp; omega) ?_)⟩)
  rw [wid (x := (p : Int)) (by omega) (by omega), Int.toNat_natCast]
  refine ⟨by omega, by omega, by omega, by omega, newB_at fun r h1 hr l1 A1 => ?_⟩
  have hne : b ≠ r := A.ne hr
  rw [Nat.min_eq_left hp1]
  have hz : repL p [Value.int .i64 0] = .int .i64 0 :: repL (p - 1) [Value.int .i64 0] := by
    obtain ⟨q, rfl⟩ : ∃ q, p = q + 1 := ⟨p - 1, by omega⟩
    rfl
  have A2 : At (h1.setN r 0 [.int .i64 1]) r (intsV .i64 (ones 1) ++ repL (p - 1) [.int .i64 0]) := by
    rw [hz] at A1
    exact A1.set (o := 0)
  refine ⟨[.int .i64 1], rfl, (A.le l1).toRd (ws := []), rfl, .inr ⟨r, 0, rfl, A1.canSt (by rw [hz]; simp), ?_⟩⟩
  exact rep_loop (h0 := h) hr hp (fun h' l' A' => k r h' l' hr A') p 1 _ _ (by omega) (Nat.le_refl _) (by rw [repL_length]; simp; omega) (le_setN l1 hr) A2
def evenR (t p : Int) : List Int × Int := if p > 64 then ([], 4) else if t < 0 then ([], 1) else if p < 1 then ([], 1) else sharesR t (ones p.toNat)
theorem S_Even {h : Heap} {t p : Int} (ht : I64 t)
    (k : ∀ p' c' h', h.le h' → Ints .i64 h' p' (evenR t p).1 → K (tuple #[slice p' (evenR t p).1.length c', .int .i64 (evenR t p).2]) h') :
    CallA Try.prog fn_split_Even [.int .i64 t, .int .i64 p] h K := by
  refine F_split_Even _ _ _ _ ?_
  unfold F_split_EvenT
  unfold evenR at k
  refine Br.dec (fun g1 => ?_) fun g1 => ?_
  · rw [if_pos g1] at k; exact Ret.mk (k none 0 h h.le_refl (.inl rfl))
  rw [if_neg g1] at k
  refine Br.dec (fun g2 => ?_) fun g2 => ?_
  · rw [if_pos g2] at k; exact Ret.mk (k none 0 h h.le_refl (.inl rfl))
  rw [if_neg g2] at k
  refine Br.dec (fun g3 => ?_) fun g3 => ?_
  · rw [if_pos g3] at k; exact Ret.mk (k none 0 h h.le_refl (.inl rfl))
  rw [if_neg g3] at k
  obtain ⟨m, rfl⟩ : ∃ m : Nat, p = (m : Int) := ⟨p.toNat, by omega⟩
  rw [Int.toNat_natCast] at k
  refine newB_at fun r h1 hr l1 A1 => S_ones (by omega) (by omega) A1 fun r2 h2 l2 hr2 A2 => ⟨_, _, _, rfl, ?_⟩
  have I2 : Ints .i64 h2 (some ⟨r2, 0, none⟩) (ones m) := At.toRd (ws := []) (by rw [List.append_nil]; exact A2)
  exact S_Shares I2 (by simp [ones]) (by omega) (fun x hx => by rw [List.eq_of_mem_replicate hx]; unfold I64; omega) ht fun p' c' h' l' I' => ⟨_, _, _, _, rfl, Ret.mk (k p' c' h' (Heap.le_trans l1 (Heap.le_trans l2 l')) I')⟩
end
end Go.Proofs.Ytghdadniddoboaa
