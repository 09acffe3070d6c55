/- Deadlines between two ticks: the copy, what goes out of it, and the reference's list. -/
import Derived.Test.YthojacmegofhcaaDaySpec
import Derived.Test.YthojacmegofhcaaEqDayLaw
namespace Go.Proofs.Ythojacmegofhcaa
open Go Go.Sy Go.Value
set_option linter.unusedVariables false
set_option linter.unusedSimpArgs false

theorem own_new {h : Heap} {r : Nat} {T : TypeId} {z : List Value} (hr : h r = none) : OwnL h (h.ins r (.cells [].toArray T (0, 0))) z (some ⟨r, 0, none⟩) 0 [] :=
  .inr ⟨r, [], rfl, hr, At.new h r [] T, by simp⟩
section
variable {K : Value → Heap → Prop} {h : Heap}
theorem S_Clone {p : Option Addr} {l : List Int} {n c : Nat} (I : Ints .i64 h p l) (hn : l.length = n) (hs : n ≤ 1000000) (k : ∀ p' c' h', h.le h' → OwnL h h' [int .i64 0] p' c' (intsV .i64 l) → K (slice p' n c') h') :
    CallA Try.prog fn_slices_Clone_int_int [slice p n c] h K := by
  refine F_slices_Clone_int_int _ _ _ _ _ ?_
  unfold F_slices_Clone_int_intT
  cases p with
  | none =>
    have : l = [] := by
      rcases I with e | ⟨b, o, e, _⟩
      · exact List.length_eq_zero_iff.1 (by rw [← intsV_length .i64, e]; rfl)
      · cases e
    subst this
    subst hn
    exact Br.yes rfl (Ret.mk (k none 0 h h.le_refl (OwnL.nil _ _ _)))
  | some a =>
    refine Br.no rfl ?_
    intro r hr
    refine (own_new (T := 3) (z := [int .i64 0]) hr).push (by decide) (le_ins hr) (by omega) (by rw [intsV_length, hn]; simp) (I.le (le_ins hr)) (allCells_ints _ _) (by simp) ?_
    intro p' c' h' l' w' _ _
    rw [Nat.zero_add]
    exact Ret.mk (k p' c' h' l' (by rw [List.nil_append] at w'; exact w'))
theorem go_none {f t : Int} : ∀ l, goI f t l = none → l.filter (inB f t) = l
  | [], _ => rfl
  | x :: r, e => by
    unfold goI at e
    split at e
    · rename_i hx
      rw [List.filter_cons_of_pos hx, go_none r (by simpa using e)]
    · cases e
theorem go_some {f t : Int} : ∀ l i, goI f t l = some i → i < l.length ∧ (l.take (i + 1)).filter (inB f t) = l.take i
  | [], i, e => by cases e
  | x :: r, i, e => by
    unfold goI at e
    split at e
    · rename_i hx
      obtain ⟨j, hj, rfl⟩ := Option.map_eq_some_iff.1 e
      obtain ⟨a, b⟩ := go_some r j hj
      refine ⟨by simp; omega, ?_⟩
      rw [List.take_succ_cons, List.filter_cons_of_pos hx, b, List.take_succ_cons]
    · rename_i hx
      cases e
      refine ⟨by simp, ?_⟩
      simp [hx]
theorem del_loop {h0 : Heap} {r r1 r2 n c : Nat} {f to : Int} {l : List Int} {sp : List Value} (hr0 : h0 r = none) (e1 : r1 ≠ r) (e2 : r2 ≠ r) (hn : l.length = n) (hc : n ≤ c) (hs : n ≤ 1000000)
    (k : ∀ h' ws, h0.le h' → Ints .i64 h' (some ⟨r, 0, none⟩) ws → ws = l.filter (inB f to) → K (slice (some ⟨r, 0, none⟩) ws.length c) h') :
    ∀ (m j i : Nat) (ws : List Int) (h : Heap), m + j = n → i < j → At h r (intsV .i64 ws ++ sp) → ws.length = n → ws.take i = (l.take j).filter (inB f to) → ws.drop j = l.drop j → h0.le h →
      At h r1 [.int .i64 f] → At h r2 [.int .i64 to] → L_slices_DeleteFunc_int_int_0 (some ⟨r, 0, none⟩) n c r1 r2 i j h K := by
  intro m
  induction m with
  | zero =>
    intro j i ws h hj hi A hw et ed lh A1 A2
    refine L_slices_DeleteFunc_int_int_0r _ _ _ _ _ _ _ _ _ ?_
    unfold L_slices_DeleteFunc_int_int_0T
    refine Br.no (by simp; omega) ⟨by omega, by omega, ?_⟩
    rw [Int.toNat_natCast]
    have sa : slAddr (some ⟨r, 0, none⟩) i c 1 = some ⟨r, 0 + i * 1, none⟩ := by
      unfold slAddr
      rw [if_neg (by omega), Option.map_some, Addr.add_none]
    rw [sa]
    refine .inr ⟨_, _, rfl, rfl, A.canSt (by rw [List.length_append, intsV_length]; simp; omega), by omega, by omega, ?_⟩
    have A' := A.set (o := 0 + i * 1) (ws := repL (n - i) [int .i64 0])
    have hlen : (ws.take i).length = i := by rw [List.length_take]; omega
    have := k (h.setN r (0 + i * 1) (repL (n - i) [int .i64 0])) (ws.take i) (le_setN lh hr0) (.inr ⟨r, 0, rfl, fun j' hj' => ?_⟩) (by rw [et, List.take_of_length_le (by omega)])
    · rw [hlen] at this
      exact Ret.mk this
    · rw [intsV_length, hlen] at hj'
      rw [List.getElem?_eq_getElem (by rw [intsV_length, hlen]; exact hj')]
      refine A'.cell ?_
      rw [Nat.zero_add, Nat.zero_add, setL_get _ _ _ _ (by rw [repL_length, List.length_append, intsV_length]; simp; omega), if_neg (by omega), List.getElem?_append_left (by rw [intsV_length]; omega)]
      rw [intsV_map, List.getElem?_map, List.getElem?_eq_getElem (by omega)]
      simp [intsV_map]
  | succ m ih =>
    intro j i ws h hj hi A hw et ed lh A1 A2
    refine L_slices_DeleteFunc_int_int_0r _ _ _ _ _ _ _ _ _ ?_
    unfold L_slices_DeleteFunc_int_int_0T
    have hjl : j < l.length := by omega
    have hx : ws[j]? = some l[j] := by
      have := congrArg (fun x => x[0]?) ed
      simp only [List.getElem?_drop, Nat.add_zero] at this
      rw [this, List.getElem?_eq_getElem hjl]
    have I : Ints .i64 h (some ⟨r, 0, none⟩) ws := A.toRd
    have ef : (l.take (j + 1)).filter (inB f to) = (l.take j).filter (inB f to) ++ [l[j]].filter (inB f to) := by
      rw [List.take_succ_eq_append_getElem hjl, List.filter_append]
    have ed' : ws.drop (j + 1) = l.drop (j + 1) := by
      have := congrArg (List.drop 1) ed
      rw [List.drop_drop, List.drop_drop] at this
      exact this
    refine Br.yes (by simp; omega) (ix I hw rfl hx (S_out A1 A2 ⟨_, rfl, ?_⟩))
    cases e : inB f to l[j] with
    | false =>
      refine Br.no rfl ?_
      rw [wrap_i64_id (by omega) (by omega)]
      refine ih (j + 1) i ws h (by omega) (by omega) A hw ?_ ed' lh A1 A2
      rw [ef, et]; simp [e]
    | true =>
      refine Br.yes rfl ⟨by omega, by omega, withAddr_intro rfl ⟨A.canSt (by rw [List.length_append, intsV_length]; simp; omega), ?_⟩⟩
      rw [wrap_i64_id (by omega) (by omega), wrap_i64_id (by omega) (by omega), Int.toNat_natCast]
      have A' := A.set (o := 0 + i) (ws := [int .i64 l[j]])
      have es : setL (intsV .i64 ws ++ sp) (0 + i) [int .i64 l[j]] = intsV .i64 (ws.set i l[j]) ++ sp := by
        rw [setL, setL, setT_eq, Nat.zero_add, List.set_append_left _ _ (by rw [intsV_length]; omega), intsV_map, intsV_map, List.map_set]
      rw [es] at A'
      refine ih (j + 1) (i + 1) (ws.set i l[j]) _ (by omega) (by omega) A' (by simpa using hw) ?_ ?_ (le_setN lh hr0) (A1.set_ne e1) (A2.set_ne e2)
      · rw [ef, ← et]
        rw [List.take_succ_eq_append_getElem (by rw [List.length_set]; omega), List.take_set_of_le (by omega)]
        simp [e]
      · rw [List.drop_set_of_lt (by omega)]; exact ed'
theorem S_Delete {h0 : Heap} {p : Option Addr} {r1 r2 n c : Nat} {f to : Int} {l : List Int} (own : OwnL h0 h [int .i64 0] p c (intsV .i64 l)) (lh : h0.le h) (hn : l.length = n) (hs : n ≤ 1000000)
    (A1 : At h0 r1 [.int .i64 f]) (A2 : At h0 r2 [.int .i64 to])
    (k : ∀ p' c' h', h0.le h' → Ints .i64 h' p' (l.filter (inB f to)) → K (slice p' (l.filter (inB f to)).length c') h') :
    CallA Try.prog fn_slices_DeleteFunc_int_int [slice p n c, func (Fn.func fn_day_Crossed_1) #[] #[pointer (some ⟨r1, 0, none⟩), pointer (some ⟨r2, 0, none⟩)]] h K := by
  refine F_slices_DeleteFunc_int_int _ _ _ _ _ _ _ ?_
  unfold F_slices_DeleteFunc_int_intT
  have I : Ints .i64 h p l := own.rd
  refine S_IndexOut I hn (A1.le lh) (A2.le lh) (by omega) ⟨_, rfl, ?_⟩
  cases e : goI f to l with
  | none =>
    refine Br.yes rfl ?_
    have := k p c h lh
    rw [go_none l e, hn] at this
    exact Ret.mk (this I)
  | some i =>
    obtain ⟨hi, hf⟩ := go_some l i e
    refine Br.no (by simp) ?_
    rcases own with ⟨e1, _, _⟩ | ⟨r, sp, rfl, e0, A, hc⟩
    · have := congrArg List.length e1
      rw [intsV_length, List.length_nil] at this
      omega
    · dsimp only
      rw [wrap_i64_id (by omega) (by omega)]
      have hc' : n ≤ c := by
        rw [List.length_append, intsV_length] at hc
        simp at hc; omega
      refine del_loop (l := l) e0 (A1.ne e0) (A2.ne e0) hn hc' hs (fun h' ws l' i' e' => ?_) (n - (i + 1)) (i + 1) i l h (by omega) (by omega) A hn hf.symm rfl lh (A1.le lh) (A2.le lh)
      subst e'
      exact k _ _ _ l' i'
theorem S_day_Crossed {c0 c1 f to : Int} {p : Option Addr} {l : List Int} {n c : Nat} (I : Ints .i64 h p l) (hn : l.length = n) (hs : n ≤ 1000000)
    (k : ∀ p' c' h', h.le h' → Ints .i64 h' p' (l.filter (inB f to)) → K (slice p' (l.filter (inB f to)).length c') h') :
    CallA Try.prog fn_day_Crossed [agg #[int .i64 c0, int .i64 c1, slice p n c], int .i64 f, int .i64 to] h K := by
  refine F_day_Crossed _ _ _ _ _ _ _ _ _ ?_
  unfold F_day_CrossedT
  intro r hr
  have A := At.new h r [int .i64 c0, int .i64 c1, slice p n c] 24
  have l1 : h.le (h.ins r (.cells [int .i64 c0, int .i64 c1, slice p n c].toArray 24 (0, 0))) := le_ins hr
  generalize h.ins r (.cells [int .i64 c0, int .i64 c1, slice p n c].toArray 24 (0, 0)) = h1 at *
  intro r1 hr1
  have A1 := At.new h1 r1 [int .i64 f] 3
  have l2 : h1.le (h1.ins r1 (.cells [int .i64 f].toArray 3 (0, 0))) := le_ins hr1
  generalize h1.ins r1 (.cells [int .i64 f].toArray 3 (0, 0)) = h2 at *
  intro r2 hr2
  have A2 := At.new h2 r2 [int .i64 to] 3
  have l3 : h2.le (h2.ins r2 (.cells [int .i64 to].toArray 3 (0, 0))) := le_ins hr2
  generalize h2.ins r2 (.cells [int .i64 to].toArray 3 (0, 0)) = h3 at *
  have l13 : h.le h3 := Heap.le_trans l1 (Heap.le_trans l2 l3)
  refine ⟨_, _, _, ((A.le l2).le l3).cell rfl, S_Clone (I.le l13) hn hs fun p' c' h4 l4 own => ⟨_, _, _, rfl, ?_⟩⟩
  refine S_Delete own l4 hn hs (A1.le l3) A2 fun p2 c2 h5 l5 i5 => ⟨_, _, _, rfl, ?_⟩
  exact Ret.mk (k _ _ _ (Heap.le_trans l13 l5) i5)
theorem rcross_loop {h0 : Heap} {c0 c1 f to : Int} {p : Option Addr} {l : List Int} {n c d : Nat} (A : At h0 d [.int .i64 c0, .int .i64 c1, .slice p n c]) (I : Ints .i64 h0 p l) (hn : l.length = n) (hs : n ≤ 1000000)
    (k : ∀ p' c' h', h0.le h' → Ints .i64 h' p' (l.filter (inB f to)) → K (slice p' (l.filter (inB f to)).length c') h') :
    ∀ (m j : Nat) (out : Option Addr) (oc : Nat) (ws : List Int) (h : Heap), m + j = n → h0.le h → OwnL h0 h [int .i64 0] out oc (intsV .i64 ws) → ws = (l.take j).filter (inB f to) →
      L_ref18_Crossed_0 f to d out ws.length oc j h K := by
  intro m
  induction m with
  | zero =>
    intro j out oc ws h hj lh own e
    refine L_ref18_Crossed_0r _ _ _ _ _ _ _ _ _ ?_
    unfold L_ref18_Crossed_0T
    refine ⟨_, _, _, (A.le lh).cell rfl, Br.no (by simp; omega) ?_⟩
    have := k out oc h lh
    rw [List.take_of_length_le (by omega)] at e
    subst e
    exact Ret.mk (this own.rd)
  | succ m ih =>
    intro j out oc ws h hj lh own e
    refine L_ref18_Crossed_0r _ _ _ _ _ _ _ _ _ ?_
    unfold L_ref18_Crossed_0T
    have hjl : j < l.length := by omega
    have hx : l[j]? = some l[j] := List.getElem?_eq_getElem hjl
    have ef : (l.take (j + 1)).filter (inB f to) = ws ++ [l[j]].filter (inB f to) := by
      rw [List.take_succ_eq_append_getElem hjl, List.filter_append, e]
    have A' := A.le lh
    have I' := I.le lh
    have hwl : ws.length ≤ j := by rw [e]; exact Nat.le_trans (List.length_filter_le _ _) (by rw [List.length_take]; omega)
    have skip : inB f to l[j] = false → L_ref18_Crossed_0 f to d out ws.length oc (IntKind.wrap .i64 ((j : Int) + 1)) h K := fun e2 => by
      rw [wrap_i64_id (by omega) (by omega)]
      exact ih (j + 1) out oc ws h (by omega) lh own (by rw [ef]; simp [e2])
    refine ⟨_, _, _, A'.cell rfl, Br.yes (by simp; omega) ⟨_, _, _, A'.cell rfl, ix I' hn rfl hx (Br.dec (fun g => ?_) (fun g => skip (by unfold inB; exact decide_eq_false (by omega))))⟩⟩
    refine ⟨_, _, _, A'.cell rfl, ix I' hn rfl hx (Br.dec (fun g2 => ?_) (fun g2 => skip (by unfold inB; exact decide_eq_false (by omega))))⟩
    refine ⟨_, _, _, A'.cell rfl, ix I' hn rfl hx ?_⟩
    intro r hr
    refine (own.le (le_ins hr)).push (by decide) (le_ins2 lh hr) (by omega) (n := 1) (ws := intsV .i64 [l[j]]) rfl (rdL_new _ _ _ _ _) (allCells_ints _ _) (by rw [intsV_length]; simp) ?_
    intro p' c' h' l' w' _ _
    rw [wrap_i64_id (by omega) (by omega)]
    rw [← intsV_append] at w'
    have := ih (j + 1) p' c' (ws ++ [l[j]]) h' (by omega) l' w' (by
      have e2 : inB f to l[j] = true := by unfold inB; exact decide_eq_true (by omega)
      rw [ef]; simp [e2])
    rw [List.length_append] at this
    exact this
theorem S_ref18_Crossed {c0 c1 f to : Int} {p : Option Addr} {l : List Int} {n c : Nat} (I : Ints .i64 h p l) (hn : l.length = n) (hs : n ≤ 1000000)
    (k : ∀ p' c' h', h.le h' → Ints .i64 h' p' (l.filter (inB f to)) → K (slice p' (l.filter (inB f to)).length c') h') :
    CallA Try.prog fn_ref18_Crossed [agg #[int .i64 c0, int .i64 c1, slice p n c], int .i64 f, int .i64 to] h K := by
  refine F_ref18_Crossed _ _ _ _ _ _ _ _ _ ?_
  unfold F_ref18_CrossedT
  intro r hr
  have A := At.new h r [int .i64 c0, int .i64 c1, slice p n c] 29
  have l1 : h.le (h.ins r (.cells [int .i64 c0, int .i64 c1, slice p n c].toArray 29 (0, 0))) := le_ins hr
  generalize h.ins r (.cells [int .i64 c0, int .i64 c1, slice p n c].toArray 29 (0, 0)) = h1 at *
  intro r1 hr1
  exact rcross_loop A (I.le l1) hn hs (fun p' c' h' l' i' => k p' c' h' (Heap.le_trans l1 l') i') n 0 _ 0 [] _ (by omega) (le_ins hr1) (own_new hr1) rfl
theorem S_law18_awake (k : ∀ h', h.le h' → K (.bool true) h') : CallA Try.prog fn_law18_awake [] h K := by
  refine F_law18_awake _ _ ?_
  unfold F_law18_awakeT
  intro r hr
  have I0 : Ints .i64 (h.ins r (.cells [int .i64 12, int .i64 15].toArray 3 (0, 0))) (some ⟨r, 0, none⟩) [12, 15] := rdL_new _ _ _ _ _
  have l1 : h.le (h.ins r (.cells [int .i64 12, int .i64 15].toArray 3 (0, 0))) := le_ins hr
  generalize h.ins r (.cells [int .i64 12, int .i64 15].toArray 3 (0, 0)) = h1 at *
  intro d hd
  have A0 := At.new h1 d [int .i64 0, int .i64 0, slice none 0 0] 24
  have l2 : h1.le (h1.ins d (.cells [int .i64 0, int .i64 0, slice none 0 0].toArray 24 (0, 0))) := le_ins hd
  generalize h1.ins d (.cells [int .i64 0, int .i64 0, slice none 0 0].toArray 24 (0, 0)) = h2 at *
  refine ⟨A0.canSt (by decide), ?_⟩
  have A := A0.set (o := 0) (ws := [int .i64 10, int .i64 20, slice (some ⟨r, 0, none⟩) 2 2])
  have l3 : h1.le (h2.setN d 0 [int .i64 10, int .i64 20, slice (some ⟨r, 0, none⟩) 2 2]) := le_setN l2 hd
  generalize h2.setN d 0 [int .i64 10, int .i64 20, slice (some ⟨r, 0, none⟩) 2 2] = h3 at *
  have l13 := Heap.le_trans l1 l3
  have I := I0.le l3
  clear I0 A0 l2 l3
  refine ⟨_, A.cell rfl, _, A.cell rfl, _, _, _, A.cell rfl, S_day_Check I rfl fun h4 l4 => ⟨_, rfl, Br.yes (by decide) ?_⟩⟩
  refine S_day_Check (l := []) (.inl rfl) rfl fun h5 l5 => ⟨_, rfl, Br.yes (by decide) ?_⟩
  have l35 := Heap.le_trans l4 l5
  have A := A.le l35
  have I := I.le l35
  refine ⟨_, A.cell rfl, _, A.cell rfl, _, _, _, A.cell rfl, S_day_Phase fun h6 l6 => ⟨_, rfl, Br.yes (by decide) ?_⟩⟩
  have A := A.le l6
  refine ⟨_, A.cell rfl, _, A.cell rfl, _, _, _, A.cell rfl, S_day_Phase fun h7 l7 => ⟨_, rfl, Br.yes (by decide) ?_⟩⟩
  have A := A.le l7
  refine ⟨_, A.cell rfl, _, A.cell rfl, _, _, _, A.cell rfl, S_day_Phase fun h8 l8 => ⟨_, rfl, Br.yes (by decide) ?_⟩⟩
  have A := A.le l8
  refine S_day_May ⟨_, rfl, Br.yes (by decide) (S_day_May ⟨_, rfl, Br.yes (by decide) (S_day_May ⟨_, rfl, Br.yes (by decide) (S_day_May ⟨_, rfl, Br.yes (by decide) ?_⟩)⟩)⟩)⟩
  have l58 := Heap.le_trans l6 (Heap.le_trans l7 l8)
  have I := I.le l58
  refine ⟨_, A.cell rfl, _, A.cell rfl, _, _, _, A.cell rfl, S_day_Crossed I rfl (by decide) fun p' c' h9 l9 i9 => ⟨_, _, _, rfl, ?_⟩⟩
  intro r2 hr2
  have I2 : Ints .i64 (h9.ins r2 (.cells [int .i64 12].toArray 3 (0, 0))) (some ⟨r2, 0, none⟩) [12] := rdL_new _ _ _ _ _
  refine S_Same (i9.le (le_ins hr2)) I2 rfl rfl (by decide) ⟨_, rfl, ?_⟩
  exact ⟨_, Heap.le_refl _, k _ (Heap.le_trans l13 (Heap.le_trans l35 (Heap.le_trans l58 (Heap.le_trans l9 (le_ins hr2)))))⟩
end
/-- a day, as it is handed over -/
def daySh : Sh := .two (.int .i64) (.two (.int .i64) (.two (.sl (.int .i64)) .nil))
theorem law18_DayTells_ok {h : Heap} {cs : List Value} (H : daySh.Has h cs) {f to phase kind : Int} (hf : I64 f) (ht : I64 to) (hp : I64 phase) (hk : I64 kind) :
    CallA Try.prog fn_law18_DayTells [agg cs.toArray, int .i64 f, int .i64 to, int .i64 phase, int .i64 kind] h fun v h' => v = .bool true ∧ h.le h' := by
  obtain ⟨_, _, rfl, _, ⟨c0, rfl, _⟩, _, _, rfl, _, ⟨c1, rfl, _⟩, _, _, rfl, _, hsl, rfl⟩ := H
  have hsl2 := hsl
  obtain ⟨p, n, c, rfl, _⟩ := hsl2
  obtain ⟨_, _, l, hn, I, _⟩ := hsl.ints
  clear hsl
  refine F_law18_DayTells _ _ _ _ _ _ _ _ _ _ _ ?_
  unfold F_law18_DayTellsT
  intro d hd
  have A := At.new h d [int .i64 c0, int .i64 c1, slice p n c] 24
  have l1 : h.le (h.ins d (.cells [int .i64 c0, int .i64 c1, slice p n c].toArray 24 (0, 0))) := le_ins hd
  generalize h.ins d (.cells [int .i64 c0, int .i64 c1, slice p n c].toArray 24 (0, 0)) = h1 at *
  have I := I.le l1
  refine S_law18_awake fun h2 l2 => ⟨_, rfl, Br.no rfl ?_⟩
  have A := A.le l2
  have I := I.le l2
  have l12 := Heap.le_trans l1 l2
  have good : ∀ h', h.le h' → Ret h' (fun v h' => v = .bool true ∧ h.le h') (.bool true) := fun h' l => ⟨h', h'.le_refl, rfl, l⟩
  refine ⟨_, _, _, A.cell rfl, Br.dec (fun _ => good _ l12) fun g => ?_⟩
  refine ⟨_, A.cell rfl, _, A.cell rfl, _, _, _, A.cell rfl, _, A.cell rfl, _, A.cell rfl, _, _, _, A.cell rfl, S_day_Check I hn fun h3 l3 => ⟨_, rfl, l3, ?_⟩⟩
  refine S_ref18_Check (I.le l3) hn fun h4 l4 => ⟨_, rfl, l4, Br.no (by simp) ?_⟩
  refine S_day_May ⟨_, rfl, Heap.le_refl _, S_ref18_May fun h5 l5 => ⟨_, rfl, l5, Br.no (by simp) ?_⟩⟩
  have l25 := Heap.le_trans l3 (Heap.le_trans l4 l5)
  have A := A.le l25
  have I := I.le l25
  refine ⟨_, A.cell rfl, _, A.cell rfl, _, _, _, A.cell rfl, _, A.cell rfl, _, A.cell rfl, _, _, _, A.cell rfl, S_day_Crossed I hn (by omega) fun p6 c6 h6 l6 i6 => ⟨_, _, _, rfl, l6, ?_⟩⟩
  refine S_ref18_Crossed (I.le l6) hn (by omega) fun p7 c7 h7 l7 i7 => ⟨_, _, _, rfl, ?_⟩
  refine S_Same (i6.le l7) i7 rfl rfl (by have := List.length_filter_le (inB f to) l; omega) ⟨_, rfl, Br.no (by simp) ?_⟩
  have l57 := Heap.le_trans l6 l7
  have A := A.le l57
  have I := I.le l57
  have l17 := Heap.le_trans l12 (Heap.le_trans l25 l57)
  refine ⟨_, A.cell rfl, _, A.cell rfl, _, _, _, A.cell rfl, S_ref18_Check I hn fun h8 l8 => ⟨_, rfl, l8, ?_⟩⟩
  have A := A.le l8
  have l18 := Heap.le_trans l17 l8
  refine Br.intro (fun _ => good _ l18) fun e => ?_
  have hc : c0 < c1 := by
    have e : dayE c0 c1 l = 0 := by simpa using e
    unfold dayE at e
    split at e
    · rename_i ok
      unfold dayOK at ok
      simp only [Bool.and_eq_true, decide_eq_true_eq] at ok
      omega
    · cases e
  refine ⟨_, A.cell rfl, _, A.cell rfl, _, _, _, A.cell rfl, _, A.cell rfl, _, A.cell rfl, _, _, _, A.cell rfl, S_day_Phase fun h9 l9 => ⟨_, rfl, l9, ?_⟩⟩
  refine S_ref18_Phase hc fun h10 l10 => ⟨_, rfl, ?_⟩
  have : (phT c0 c1 f == phT c0 c1 f) = true := by simp
  rw [this]
  exact good _ (Heap.le_trans l18 (Heap.le_trans l9 l10))
end Go.Proofs.Ythojacmegofhcaa
