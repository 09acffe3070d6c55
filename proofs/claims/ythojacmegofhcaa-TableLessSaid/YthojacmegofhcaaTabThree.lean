/- Tables with another rate or haircut; what amounts are worth; whether a table is large; the law's first question. -/
import Derived.Test.YthojacmegofhcaaTabTwo
import Derived.Test.YthojacmegofhcaaEqTabLaw
namespace Go.Proofs.Ythojacmegofhcaa
open Go Go.Sy Go.Value
set_option linter.unusedVariables false
set_option linter.unusedSimpArgs false

/-! plain laws -/
def withL (l : List Cur) (j : Nat) (x : Cur) : Option (List Cur) := if fitsB j x then some (l.set j x) else none
def wRate (l : List Cur) (cur r : Int) : Option (List Cur) := if 0 ≤ cur then (match l[cur.toNat]? with | some y => withL l cur.toNat ⟨y.code, r, y.cut⟩ | none => none) else none
def wCut (l : List Cur) (cur r : Int) : Option (List Cur) := if 0 ≤ cur then (match l[cur.toNat]? with | some y => withL l cur.toNat ⟨y.code, y.rate, r⟩ | none => none) else none
def rWith (l : List Cur) (cur r t : Int) : Option (List Cur) := if 0 ≤ cur then (match l[cur.toNat]? with | some y => (if tabE (l.set cur.toNat ⟨y.code, r, t⟩) = 0 then some (l.set cur.toNat ⟨y.code, r, t⟩) else none) | none => none) else none
theorem dup_map {pre pre' : List Cur} {x x' : Cur} (h : pre.map (·.code) = pre'.map (·.code)) (hx : x.code = x'.code) : dup pre x = dup pre' x' := by
  have e : ∀ (pre : List Cur) (x : Cur), dup pre x = (pre.map (·.code)).any fun c => sameC c x.code := fun pre x => by
    unfold dup; rw [List.any_map]; rfl
  rw [e, e, h, hx]
theorem uniq_map : ∀ (l l' pre pre' : List Cur), l.map (·.code) = l'.map (·.code) → pre.map (·.code) = pre'.map (·.code) → uniqB pre l = uniqB pre' l'
  | [], [], _, _, _, _ => rfl
  | [], _ :: _, _, _, h, _ => by simp at h
  | _ :: _, [], _, _, h, _ => by simp at h
  | x :: l, x' :: l', pre, pre', h, hp => by
    simp only [List.map_cons, List.cons.injEq] at h
    rw [uniqB, uniqB, dup_map hp h.1, uniq_map l l' (pre ++ [x]) (pre' ++ [x']) h.2 (by simp [hp, h.1])]
theorem fitsF_set : ∀ (l : List Cur) (i j : Nat) (x : Cur), fitsF i l = true → j < l.length → fitsF i (l.set j x) = fitsB ((i + j : Nat) : Int) x
  | [], _, _, _, _, h => by simp at h
  | y :: l, i, 0, x, hf, _ => by
    rw [fitsF_cons, Bool.and_eq_true] at hf
    rw [List.set_cons_zero, fitsF_cons, hf.2, Bool.and_true]
    rfl
  | y :: l, i, j + 1, x, hf, h => by
    rw [fitsF_cons, Bool.and_eq_true] at hf
    rw [List.set_cons_succ, fitsF_cons, hf.1, Bool.true_and, fitsF_set l (i + 1) j x hf.2 (by simpa using h)]
    congr 2
    omega
theorem tab_parts {l : List Cur} (h : tabE l = 0) : 1 ≤ l.length ∧ l.length ≤ 8 ∧ l.all (fun x => capB x.code) = true ∧ uniqB [] l = true ∧ fitsF 0 l = true := by
  unfold tabE at h
  split at h
  · cases h
  · split at h
    · split at h
      · split at h
        · refine ⟨by omega, by omega, by assumption, by assumption, by assumption⟩
        · cases h
      · cases h
    · cases h
theorem tab_set {l : List Cur} {j : Nat} {x y : Cur} (h : tabE l = 0) (hy : l[j]? = some y) (hc : x.code = y.code) : (tabE (l.set j x) = 0) ↔ (fitsB j x = true) := by
  obtain ⟨h1, h2, h3, h4, h5⟩ := tab_parts h
  have hj : j < l.length := (List.getElem?_eq_some_iff.1 hy).1
  have hm : (l.set j x).map (·.code) = l.map (·.code) := by
    rw [List.map_set, hc]
    refine List.ext_getElem? fun i => ?_
    by_cases e : i = j
    · subst e
      rw [List.getElem?_set_self (by simpa using hj), List.getElem?_map, hy]; rfl
    · rw [List.getElem?_set_ne (fun e2 => e e2.symm)]
  have a3 : (l.set j x).all (fun x => capB x.code) = true := by
    have e : ∀ l : List Cur, l.all (fun x => capB x.code) = (l.map (·.code)).all capB := fun l => by rw [List.all_map]; rfl
    rw [e, hm, ← e]; exact h3
  have a4 : uniqB [] (l.set j x) = true := by rw [uniq_map _ l [] [] hm rfl]; exact h4
  have a5 := fitsF_set l 0 j x h5 hj
  rw [Nat.zero_add] at a5
  unfold tabE
  rw [List.length_set, if_neg (by omega), if_pos a3, if_pos a4, a5]
  split
  · simp [*]
  · simp [*]
theorem rWith_rate {l : List Cur} (h : tabE l = 0) {cur r t : Int} (ht : ∀ y, 0 ≤ cur → l[cur.toNat]? = some y → t = y.cut) : rWith l cur r t = wRate l cur r := by
  unfold rWith wRate
  by_cases h0 : 0 ≤ cur
  · rw [if_pos h0, if_pos h0]
    cases hy : l[cur.toNat]? with
    | none => rfl
    | some y =>
      dsimp only
      rw [ht y h0 hy]
      unfold withL
      have := tab_set (x := ⟨y.code, r, y.cut⟩) h hy rfl
      by_cases hf : fitsB (cur.toNat : Int) ⟨y.code, r, y.cut⟩ = true
      · rw [if_pos (this.2 hf), if_pos hf]
      · rw [if_neg (fun e => hf (this.1 e)), if_neg hf]
  · rw [if_neg h0, if_neg h0]
theorem rWith_cut {l : List Cur} (h : tabE l = 0) {cur r t : Int} (ht : ∀ y, 0 ≤ cur → l[cur.toNat]? = some y → r = y.rate) : rWith l cur r t = wCut l cur t := by
  unfold rWith wCut
  by_cases h0 : 0 ≤ cur
  · rw [if_pos h0, if_pos h0]
    cases hy : l[cur.toNat]? with
    | none => rfl
    | some y =>
      dsimp only
      rw [ht y h0 hy]
      unfold withL
      have := tab_set (x := ⟨y.code, y.rate, t⟩) h hy rfl
      by_cases hf : fitsB (cur.toNat : Int) ⟨y.code, y.rate, t⟩ = true
      · rw [if_pos (this.2 hf), if_pos hf]
      · rw [if_neg (fun e => hf (this.1 e)), if_neg hf]
  · rw [if_neg h0, if_neg h0]
/-- what a changed table, or none, lies as -/
def WRes (h : Heap) (p : Option Addr) (n : Nat) (e : Int) : Option (List Cur) → Prop
  | none => p = none ∧ n = 0 ∧ e = 1
  | some l => Curs h p l ∧ l.length = n ∧ e = 0
theorem WRes.le {h h' : Heap} {p : Option Addr} {n : Nat} {e : Int} {o : Option (List Cur)} (w : WRes h p n e o) (l : h.le h') : WRes h' p n e o := by
  cases o with
  | none => exact w
  | some x => exact ⟨w.1.le l, w.2⟩
section
variable {K : Value → Heap → Prop} {h h0 : Heap} {p : Option Addr} {l : List Cur} {n c : Nat}
theorem S_CloneC (C : Curs h p l) (hn : l.length = n) (hs : n ≤ 1000000) (k : ∀ p' c' h', h.le h' → OwnL h h' [string { data := #[] }, .int .i64 0, .int .i64 0] p' c' (curV l) → K (slice p' n c') h') :
    CallA Try.prog fn_slices_Clone_api_Currency_api_Currency [slice p n c] h K := by
  refine F_slices_Clone_api_Currency_api_Currency _ _ _ _ _ ?_
  unfold F_slices_Clone_api_Currency_api_CurrencyT
  cases p with
  | none =>
    have : l = [] := by
      rcases C with e | ⟨b, o, e, _⟩
      · have := congrArg List.length e
        rw [curV_length, List.length_nil] at this
        exact List.length_eq_zero_iff.1 (by omega)
      · cases e
    subst this
    subst hn
    exact Br.yes rfl (Ret.mk (k none 0 h h.le_refl (OwnL.nil _ _ _)))
  | some a =>
    refine Br.no rfl ?_
    intro r hr
    refine (own_new (T := 65) (z := [string { data := #[] }, .int .i64 0, .int .i64 0]) hr).push (by decide) (le_ins hr) (by omega) (by rw [curV_length, hn]; rfl) (C.le (le_ins hr)) (allCells_cur _) (by simp) ?_
    intro p' c' h' l' w' _ _
    rw [Nat.zero_add]
    exact Ret.mk (k p' c' h' l' (by rw [List.nil_append] at w'; exact w'))
theorem S_with {cur : Int} {j : Nat} {x : Cur} (C : Curs h p l) (hn : l.length = n) (hs : n ≤ 1000000) (hc : cur = (j : Int)) (hj : j < n)
    (k : ∀ p' n' c' e h', h.le h' → WRes h' p' n' e (withL l j x) → K (tuple #[slice p' n' c', .int .i64 e]) h') :
    CallA Try.prog fn_table_with [slice p n c, .int .i64 cur, agg #[string x.code, .int .i64 x.rate, .int .i64 x.cut]] h K := by
  subst hc
  refine F_table_with _ _ _ _ _ _ _ _ _ ?_
  unfold F_table_withT
  intro r hr
  have A := At.new h r [string x.code, .int .i64 x.rate, .int .i64 x.cut] 65
  have l1 : h.le (h.ins r (.cells [string x.code, .int .i64 x.rate, .int .i64 x.cut].toArray 65 (0, 0))) := le_ins hr
  generalize h.ins r (.cells [string x.code, .int .i64 x.rate, .int .i64 x.cut].toArray 65 (0, 0)) = h1 at *
  unfold withL at k
  refine ⟨_, A.cell rfl, _, A.cell rfl, _, A.cell rfl, S_fits fun h2 l2 => ⟨_, rfl, ?_⟩⟩
  have l12 := Heap.le_trans l1 l2
  cases ef : fitsB (j : Int) x with
  | false =>
    rw [ef, if_neg (by decide)] at k
    exact Br.yes rfl (Ret.mk (k none 0 0 1 h2 l12 ⟨rfl, rfl, rfl⟩))
  | true =>
    rw [ef, if_pos rfl] at k
    refine Br.no rfl (S_CloneC (C.le l12) hn hs fun p' c' h3 l3 own => ⟨_, _, _, rfl, ?_⟩)
    have A3 := A.le (Heap.le_trans l2 l3)
    refine ⟨_, A3.cell rfl, _, A3.cell rfl, _, A3.cell rfl, by omega, by omega, ?_⟩
    rcases own with ⟨e1, _, _⟩ | ⟨b, sp, rfl, e0, B, hcap⟩
    · have := congrArg List.length e1
      rw [curV_length, List.length_nil] at this
      omega
    · rw [Int.toNat_natCast]
      refine withAddr_intro rfl ⟨B.canSt (by rw [List.length_append, curV_length]; omega), ?_⟩
      have B' := B.set (o := 0 + j * 3) (ws := [string x.code, .int .i64 x.rate, .int .i64 x.cut])
      have e4 : setL (curV l ++ sp) (0 + j * 3) [string x.code, .int .i64 x.rate, .int .i64 x.cut] = curV (l.set j x) ++ sp := by
        rw [Nat.zero_add]; exact curV_set x sp l j (by omega)
      rw [e4] at B'
      have e5 : h b = none := none_of_le l12 e0
      exact Ret.mk (k _ _ _ _ _ (le_setN (Heap.le_trans l12 l3) e5) ⟨B'.toRd, by simpa using hn, rfl⟩)
theorem S_WithRate {cur r : Int} (C : Curs h p l) (hn : l.length = n) (hs : n ≤ 1000000)
    (k : ∀ p' n' c' e h', h.le h' → WRes h' p' n' e (wRate l cur r) → K (tuple #[slice p' n' c', .int .i64 e]) h') : CallA Try.prog fn_table_WithRate [slice p n c, .int .i64 cur, .int .i64 r] h K := by
  refine F_table_WithRate _ _ _ _ _ _ _ ?_
  unfold F_table_WithRateT
  unfold wRate at k
  refine S_has ⟨_, rfl, ?_⟩
  by_cases hc : 0 ≤ cur ∧ cur < (n : Int)
  · rw [decide_eq_true hc]
    obtain ⟨j, rfl⟩ := Int.eq_ofNat_of_zero_le hc.1
    have hx : l[j]? = some l[j] := List.getElem?_eq_getElem (by omega)
    rw [if_pos hc.1, Int.toNat_natCast, hx] at k
    generalize l[j] = x at *
    refine Br.no rfl (cx0 C hn rfl hx (cx2 C hn rfl hx (S_with (x := ⟨x.code, r, x.cut⟩) C hn hs rfl (by omega) fun p' n' c' e h' l' w => ⟨_, _, _, _, rfl, Ret.mk (k _ _ _ _ _ l' w)⟩)))
  · rw [decide_eq_false hc]
    refine Br.yes rfl (Ret.mk (k none 0 0 1 h h.le_refl ?_))
    split
    · rw [List.getElem?_eq_none (by omega)]; exact ⟨rfl, rfl, rfl⟩
    · exact ⟨rfl, rfl, rfl⟩
theorem S_WithCut {cur r : Int} (C : Curs h p l) (hn : l.length = n) (hs : n ≤ 1000000)
    (k : ∀ p' n' c' e h', h.le h' → WRes h' p' n' e (wCut l cur r) → K (tuple #[slice p' n' c', .int .i64 e]) h') : CallA Try.prog fn_table_WithCut [slice p n c, .int .i64 cur, .int .i64 r] h K := by
  refine F_table_WithCut _ _ _ _ _ _ _ ?_
  unfold F_table_WithCutT
  unfold wCut at k
  refine S_has ⟨_, rfl, ?_⟩
  by_cases hc : 0 ≤ cur ∧ cur < (n : Int)
  · rw [decide_eq_true hc]
    obtain ⟨j, rfl⟩ := Int.eq_ofNat_of_zero_le hc.1
    have hx : l[j]? = some l[j] := List.getElem?_eq_getElem (by omega)
    rw [if_pos hc.1, Int.toNat_natCast, hx] at k
    generalize l[j] = x at *
    refine Br.no rfl (cx0 C hn rfl hx (cx1 C hn rfl hx (S_with (x := ⟨x.code, x.rate, r⟩) C hn hs rfl (by omega) fun p' n' c' e h' l' w => ⟨_, _, _, _, rfl, Ret.mk (k _ _ _ _ _ l' w)⟩)))
  · rw [decide_eq_false hc]
    refine Br.yes rfl (Ret.mk (k none 0 0 1 h h.le_refl ?_))
    split
    · rw [List.getElem?_eq_none (by omega)]; exact ⟨rfl, rfl, rfl⟩
    · exact ⟨rfl, rfl, rfl⟩
theorem S_RWith {cur r t : Int} (C : Curs h p l) (hn : l.length = n) (hs : n ≤ 1000000)
    (k : ∀ p' n' c' e h', h.le h' → WRes h' p' n' e (rWith l cur r t) → K (tuple #[slice p' n' c', .int .i64 e]) h') : CallA Try.prog fn_ref03_With [slice p n c, .int .i64 cur, .int .i64 r, .int .i64 t] h K := by
  refine F_ref03_With _ _ _ _ _ _ _ _ ?_
  unfold F_ref03_WithT
  unfold rWith at k
  refine Br.dec (fun e => ?_) (fun e => Br.dec (fun e2 => ?_) (fun e2 => ?_))
  · rw [if_neg (by omega)] at k
    exact Ret.mk (k none 0 0 1 h h.le_refl ⟨rfl, rfl, rfl⟩)
  · rw [if_pos (by omega), List.getElem?_eq_none (by omega)] at k
    exact Ret.mk (k none 0 0 1 h h.le_refl ⟨rfl, rfl, rfl⟩)
  · obtain ⟨j, rfl⟩ := Int.eq_ofNat_of_zero_le (show 0 ≤ cur by omega)
    have hx : l[j]? = some l[j] := List.getElem?_eq_getElem (by omega)
    rw [if_pos (by omega), Int.toNat_natCast, hx] at k
    generalize l[j] = x at *
    dsimp only at k
    intro r0 hr
    refine (own_new (T := 65) (z := [string { data := #[] }, .int .i64 0, .int .i64 0]) hr).push (by decide) (le_ins hr) (by omega) (by rw [curV_length, hn]; rfl) (C.le (le_ins hr)) (allCells_cur _) (by simp) ?_
    intro p' c' h' l' own _ _
    rw [Nat.zero_add, List.nil_append] at *
    rcases own with ⟨e1, _, _⟩ | ⟨b, sp, rfl, e0, B, hcap⟩
    · have := congrArg List.length e1
      rw [curV_length, List.length_nil] at this
      omega
    · rw [Int.toNat_natCast]
      refine ⟨by omega, by omega, withAddr_intro rfl ⟨B.canSt (by rw [List.length_append, curV_length]; omega), by omega, by omega, withAddr_intro rfl ?_⟩⟩
      have B1 := B.set (o := 0 + j * 3 + 1) (ws := [.int .i64 r])
      have e4 : setL (curV l ++ sp) (0 + j * 3 + 1) [.int .i64 r] = curV (l.set j ⟨x.code, r, x.cut⟩) ++ sp := by
        rw [Nat.zero_add]; exact curV_rate r sp l j x hx
      rw [e4] at B1
      refine ⟨B1.canSt (by rw [List.length_append, curV_length, List.length_set]; omega), ?_⟩
      have B2 := B1.set (o := 0 + j * 3 + 2) (ws := [.int .i64 t])
      have e5 : setL (curV (l.set j ⟨x.code, r, x.cut⟩) ++ sp) (0 + j * 3 + 2) [.int .i64 t] = curV (l.set j ⟨x.code, r, t⟩) ++ sp := by
        rw [Nat.zero_add, curV_cut t sp _ j ⟨x.code, r, x.cut⟩ (by rw [List.getElem?_set_self (by omega)]), List.set_set]
      rw [e5] at B2
      have l2 := le_setN (o := 0 + j * 3 + 2) (ws := [.int .i64 t]) (le_setN (o := 0 + j * 3 + 1) (ws := [.int .i64 r]) l' e0) e0
      generalize (h'.setN b (0 + j * 3 + 1) [.int .i64 r]).setN b (0 + j * 3 + 2) [.int .i64 t] = h2 at *
      have C2 : Curs h2 (some ⟨b, 0, none⟩) (l.set j ⟨x.code, r, t⟩) := B2.toRd
      refine S_RCheck C2 (by simpa using hn) ⟨_, rfl, Br.intro (fun g => ?_) (fun g => ?_)⟩
      · rw [if_neg (by simpa using g)] at k
        exact Ret.mk (k none 0 0 1 h2 l2 ⟨rfl, rfl, rfl⟩)
      · rw [if_pos (by simpa using g)] at k
        exact Ret.mk (k _ _ _ _ h2 l2 ⟨C2, by simpa using hn, rfl⟩)
theorem rsame_loop {p q : Option Addr} {a b : Nat} (C : Curs h p l) (D : Curs h q l) (hn : l.length = n) (hs : n ≤ 1099511627776) (k : K (.bool true) h) :
    ∀ (m j : Nat), m + j = n → L_ref03_Same_0 p n a q n b j h K := by
  intro m
  induction m with
  | zero =>
    intro j hj
    refine L_ref03_Same_0r _ _ _ _ _ _ _ _ _ ?_
    unfold L_ref03_Same_0T
    exact Br.no (by simp; omega) (Ret.mk k)
  | succ m ih =>
    intro j hj
    refine L_ref03_Same_0r _ _ _ _ _ _ _ _ _ ?_
    unfold L_ref03_Same_0T
    have hx : l[j]? = some l[j] := List.getElem?_eq_getElem (by omega)
    refine Br.yes (by simp; omega) (cx3 C hn rfl hx (cx3 D hn rfl hx (Br.no (by simp) ?_)))
    rw [wrap_i64_id (by omega) (by omega)]
    exact ih (j + 1) (by omega)
theorem S_RSame {p q : Option Addr} {n m a b : Nat} {e1 e2 : Int} {o : Option (List Cur)} (w1 : WRes h p n e1 o) (w2 : WRes h q m e2 o) (hs : n ≤ 1099511627776) (k : K (.bool true) h) : CallA Try.prog fn_ref03_Same [slice p n a, slice q m b] h K := by
  refine F_ref03_Same _ _ _ _ _ _ _ _ ?_
  unfold F_ref03_SameT
  cases o with
  | none =>
    obtain ⟨rfl, rfl, _⟩ := w1
    obtain ⟨rfl, rfl, _⟩ := w2
    exact Br.no rfl (rsame_loop (l := []) (.inl rfl) (.inl rfl) rfl (by omega) k 0 0 rfl)
  | some l =>
    obtain ⟨C, hn, _⟩ := w1
    obtain ⟨D, hm, _⟩ := w2
    have : n = m := by omega
    subst this
    exact Br.no (by simp) (rsame_loop C D hn hs k n 0 (by omega))
theorem WRes.err {p q : Option Addr} {n m : Nat} {e1 e2 : Int} {o : Option (List Cur)} {h h' : Heap} (w1 : WRes h p n e1 o) (w2 : WRes h' q m e2 o) : e1 = e2 := by
  cases o with
  | none => rw [w1.2.2, w2.2.2]
  | some l => rw [w1.2.2, w2.2.2]
theorem large_loop (C : Curs h p l) (hn : l.length = n) (hs : n ≤ 9223372036854775807) (k : ∀ b : Bool, (b = false → n ≤ 20) → K (.bool b) h) :
    ∀ (m j : Nat) (t : Int), m + j = n → L_law03_large_0 p n c t n j h K := by
  intro m
  induction m with
  | zero =>
    intro j t hj
    refine L_law03_large_0r _ _ _ _ _ _ _ _ ?_
    unfold L_law03_large_0T
    exact Br.no (by simp; omega) (Ret.mk (k _ fun e => by simp at e; omega))
  | succ m ih =>
    intro j t hj
    refine L_law03_large_0r _ _ _ _ _ _ _ _ ?_
    unfold L_law03_large_0T
    have hx : l[j]? = some l[j] := List.getElem?_eq_getElem (by omega)
    refine Br.yes (by simp; omega) (cx0 C hn rfl hx (Br.intro (fun _ => Ret.mk (k true fun e => by cases e)) (fun _ => ?_)))
    rw [wrap_i64_id (n := (j : Int) + 1) (by omega) (by omega)]
    exact ih (j + 1) _ (by omega)
theorem S_large (C : Curs h p l) (hn : l.length = n) (hs : n ≤ 9223372036854775807) (k : ∀ b : Bool, (b = false → n ≤ 20) → K (.bool b) h) : CallA Try.prog fn_law03_large [slice p n c] h K := by
  refine F_law03_large _ _ _ _ _ ?_
  unfold F_law03_largeT
  exact large_loop C hn hs k n 0 0 (by omega)
/-! what amounts are worth -/
def curAt (l : List Cur) (cur : Int) : Option Cur := if 0 ≤ cur then l[cur.toNat]? else none
theorem curAt_some {l : List Cur} {cur : Int} {n : Nat} (hn : l.length = n) (hc : 0 ≤ cur ∧ cur < (n : Int)) : ∃ j x, cur = ((j : Nat) : Int) ∧ l[j]? = some x ∧ curAt l cur = some x := by
  obtain ⟨j, rfl⟩ := Int.eq_ofNat_of_zero_le hc.1
  have hx : l[j]? = some l[j] := List.getElem?_eq_getElem (by omega)
  exact ⟨j, _, rfl, hx, by unfold curAt; rw [if_pos hc.1, Int.toNat_natCast]; exact hx⟩
theorem curAt_none {l : List Cur} {cur : Int} {n : Nat} (hn : l.length = n) (hc : ¬ (0 ≤ cur ∧ cur < (n : Int))) : curAt l cur = none := by
  unfold curAt
  split
  · exact List.getElem?_eq_none (by omega)
  · rfl
def partC (x : Cur) (a : Int) : Int := if a < 0 then 10000 + x.cut else 10000 - x.cut
def worthR (l : List Cur) (cur a : Int) : Int × Int := match curAt l cur with
  | some x => md a (x.rate * partC x a) 100000000 false
  | none => (0, 1)
def plainR (l : List Cur) (cur a : Int) : Int × Int := match curAt l cur with
  | some x => md a x.rate 10000 false
  | none => (0, 1)
def changeR (l : List Cur) (f t a : Int) (up : Bool) : Int × Int := match curAt l f, curAt l t with
  | some x, some y => md a x.rate y.rate up
  | _, _ => (0, 1)
theorem inb_of (ok : l.all inbB = true) {j : Nat} {x : Cur} (hx : l[j]? = some x) : 1 ≤ x.rate ∧ x.rate ≤ 100000000 ∧ 0 ≤ x.cut ∧ x.cut ≤ 10000 := by
  have hj := List.mem_of_getElem? hx
  have := List.all_eq_true.1 ok x hj
  unfold inbB at this
  exact of_decide_eq_true this
theorem part_bound {x : Cur} (b : 1 ≤ x.rate ∧ x.rate ≤ 100000000 ∧ 0 ≤ x.cut ∧ x.cut ≤ 10000) (a : Int) : 0 ≤ partC x a ∧ partC x a ≤ 20000 ∧ I64 (x.rate * partC x a) ∧ 0 ≤ x.rate * partC x a := by
  have p1 : 0 ≤ partC x a ∧ partC x a ≤ 20000 := by unfold partC; split <;> omega
  have m1 : 0 ≤ x.rate * partC x a := Int.mul_nonneg (by omega) p1.1
  have m2 : x.rate * partC x a ≤ 100000000 * 20000 := Int.mul_le_mul b.2.1 p1.2 p1.1 (by omega)
  exact ⟨p1.1, p1.2, ⟨by omega, by omega⟩, m1⟩
theorem S_Worth {cur a : Int} (C : Curs h p l) (hn : l.length = n) (ok : l.all inbB = true) (ha : I64 a) (k : K (tuple #[.int .i64 (worthR l cur a).1, .int .i64 (worthR l cur a).2]) h) :
    CallA Try.prog fn_table_Worth [slice p n c, .int .i64 cur, .int .i64 a] h K := by
  refine F_table_Worth _ _ _ _ _ _ _ ?_
  unfold F_table_WorthT
  unfold worthR at k
  refine S_has ⟨_, rfl, ?_⟩
  by_cases hc : 0 ≤ cur ∧ cur < (n : Int)
  · rw [decide_eq_true hc]
    obtain ⟨j, x, rfl, hx, e⟩ := curAt_some hn hc
    rw [e] at k
    dsimp only at k
    have b := inb_of ok hx
    obtain ⟨p1, p2, p3, _⟩ := part_bound b a
    unfold partC at k p1 p2 p3
    refine Br.no rfl (cx2 C hn rfl hx (Br.dec (fun g => ?_) (fun g => ?_)))
    · rw [if_pos g] at k p1 p2 p3
      refine cx2 C hn rfl hx (cx1 C hn rfl hx ?_)
      rw [wrap_i64_id (n := 10000 + x.cut) (by omega) (by omega), wrap_i64_id p3.1 p3.2]
      exact S_MulDiv ha p3 ⟨by decide, by decide⟩ false h _ ⟨_, _, rfl, Ret.mk k⟩
    · rw [if_neg g] at k p1 p2 p3
      refine cx1 C hn rfl hx ?_
      rw [wrap_i64_id (n := 10000 - x.cut) (by omega) (by omega), wrap_i64_id p3.1 p3.2]
      exact S_MulDiv ha p3 ⟨by decide, by decide⟩ false h _ ⟨_, _, rfl, Ret.mk k⟩
  · rw [decide_eq_false hc]
    rw [curAt_none hn hc] at k
    exact Br.yes rfl (Ret.mk k)
theorem rate_I64 {x : Cur} (b : 1 ≤ x.rate ∧ x.rate ≤ 100000000 ∧ 0 ≤ x.cut ∧ x.cut ≤ 10000) : I64 x.rate := ⟨by omega, by omega⟩
theorem S_Plain {cur a : Int} (C : Curs h p l) (hn : l.length = n) (ok : l.all inbB = true) (ha : I64 a) (k : K (tuple #[.int .i64 (plainR l cur a).1, .int .i64 (plainR l cur a).2]) h) :
    CallA Try.prog fn_table_Plain [slice p n c, .int .i64 cur, .int .i64 a] h K := by
  refine F_table_Plain _ _ _ _ _ _ _ ?_
  unfold F_table_PlainT
  unfold plainR at k
  refine S_has ⟨_, rfl, ?_⟩
  by_cases hc : 0 ≤ cur ∧ cur < (n : Int)
  · rw [decide_eq_true hc]
    obtain ⟨j, x, rfl, hx, e⟩ := curAt_some hn hc
    rw [e] at k
    exact Br.no rfl (cx1 C hn rfl hx (S_MulDiv ha (rate_I64 (inb_of ok hx)) ⟨by decide, by decide⟩ false h _ ⟨_, _, rfl, Ret.mk k⟩))
  · rw [decide_eq_false hc]
    rw [curAt_none hn hc] at k
    exact Br.yes rfl (Ret.mk k)
theorem S_Change {f t a : Int} {up : Bool} (C : Curs h p l) (hn : l.length = n) (ok : l.all inbB = true) (ha : I64 a) (k : K (tuple #[.int .i64 (changeR l f t a up).1, .int .i64 (changeR l f t a up).2]) h) :
    CallA Try.prog fn_table_Change [slice p n c, .int .i64 f, .int .i64 t, .int .i64 a, .bool up] h K := by
  refine F_table_Change _ _ _ _ _ _ _ _ _ ?_
  unfold F_table_ChangeT
  unfold changeR at k
  refine S_has ⟨_, rfl, ?_⟩
  by_cases hc : 0 ≤ f ∧ f < (n : Int)
  · rw [decide_eq_true hc]
    obtain ⟨j, x, rfl, hx, e⟩ := curAt_some hn hc
    rw [e] at k
    refine Br.no rfl (S_has ⟨_, rfl, ?_⟩)
    by_cases hd : 0 ≤ t ∧ t < (n : Int)
    · rw [decide_eq_true hd]
      obtain ⟨i, y, rfl, hy, e2⟩ := curAt_some hn hd
      rw [e2] at k
      exact Br.no rfl (cx1 C hn rfl hx (cx1 C hn rfl hy (S_MulDiv ha (rate_I64 (inb_of ok hx)) (rate_I64 (inb_of ok hy)) up h _ ⟨_, _, rfl, Ret.mk k⟩)))
    · rw [decide_eq_false hd]
      rw [curAt_none hn hd] at k
      exact Br.yes rfl (Ret.mk k)
  · rw [decide_eq_false hc]
    rw [curAt_none hn hc] at k
    exact Br.yes rfl (Ret.mk k)
theorem S_law03_awake (k : ∀ h', h.le h' → K (.bool true) h') : CallA Try.prog fn_law03_awake [] h K := by
  refine F_law03_awake _ _ ?_
  unfold F_law03_awakeT
  have i64 : ∀ n : Int, -9223372036854775808 ≤ n → n ≤ 9223372036854775807 → I64 n := fun n a b => ⟨a, b⟩
  intro r hr
  have C : Curs (h.ins r (.cells [string { data := #[69, 85, 82] }, .int .i64 10000, .int .i64 0, string { data := #[85, 83, 68] }, .int .i64 12500, .int .i64 200].toArray 65 (0, 0))) (some ⟨r, 0, none⟩) [⟨{ data := #[69, 85, 82] }, 10000, 0⟩, ⟨{ data := #[85, 83, 68] }, 12500, 200⟩] := rdL_new _ _ _ _ _
  have l1 : h.le (h.ins r (.cells [string { data := #[69, 85, 82] }, .int .i64 10000, .int .i64 0, string { data := #[85, 83, 68] }, .int .i64 12500, .int .i64 200].toArray 65 (0, 0))) := le_ins hr
  generalize h.ins r (.cells [string { data := #[69, 85, 82] }, .int .i64 10000, .int .i64 0, string { data := #[85, 83, 68] }, .int .i64 12500, .int .i64 200].toArray 65 (0, 0)) = h1 at *
  have ok : [(⟨{ data := #[69, 85, 82] }, 10000, 0⟩ : Cur), ⟨{ data := #[85, 83, 68] }, 12500, 200⟩].all inbB = true := by decide
  refine S_Worth C rfl ok (i64 _ (by decide) (by decide)) ⟨_, _, rfl, S_Worth C rfl ok (i64 _ (by decide) (by decide)) ⟨_, _, rfl, S_Plain C rfl ok (i64 _ (by decide) (by decide)) ⟨_, _, rfl, S_Change C rfl ok (i64 _ (by decide) (by decide)) ⟨_, _, rfl, ?_⟩⟩⟩⟩
  refine S_Worth C rfl ok (i64 _ (by decide) (by decide)) ⟨_, _, rfl, S_WithRate C rfl (by decide) fun p1 n1 c1 e1 h2 l2 w1 => ⟨_, _, _, _, rfl, ?_⟩⟩
  refine S_WithCut (C.le l2) rfl (by decide) fun p2 n2 c2 e2 h3 l3 w2 => ⟨_, _, _, _, rfl, ?_⟩
  have C3 := (C.le l2).le l3
  refine S_Find C3 rfl (by decide) fun h4 l4 => ⟨_, _, rfl, S_Check (C3.le l4) rfl fun h5 l5 => ⟨_, rfl, Br.yes (by decide +kernel) ?_⟩⟩
  refine S_Check (l := []) (.inl rfl) rfl fun h6 l6 => ⟨_, rfl, Br.yes (by decide) ?_⟩
  have w1 : WRes h2 p1 n1 e1 (some [⟨{ data := #[69, 85, 82] }, 10000, 0⟩, ⟨{ data := #[85, 83, 68] }, 7, 200⟩]) := w1
  have w2 : WRes h3 p2 n2 e2 none := w2
  obtain ⟨D, hn1, he1⟩ := w1
  obtain ⟨_, _, he2⟩ := w2
  subst hn1 he1 he2
  refine Br.yes (by decide) (Br.yes (by decide) (Br.yes (by decide) (Br.yes (by decide) (Br.yes (by decide) (Br.yes (by decide) (Br.yes (by decide) (Br.yes (by decide) (Br.yes (by decide) (Br.yes rfl ?_)))))))))
  have D6 := ((((D.le l3).le l4).le l5).le l6)
  refine cx1 (j := 1) (i := 1) D6 rfl rfl rfl (Br.yes rfl (Br.yes rfl (Br.yes rfl (Br.yes (by decide +kernel) ?_))))
  have e9 : (findI { data := #[85, 83, 68] } [(⟨{ data := #[69, 85, 82] }, 10000, 0⟩ : Cur), ⟨{ data := #[85, 83, 68] }, 12500, 200⟩]).isSome = true := by decide +kernel
  rw [e9]
  exact Ret.mk (k h6 (Heap.le_trans l1 (Heap.le_trans l2 (Heap.le_trans l3 (Heap.le_trans l4 (Heap.le_trans l5 l6))))))
end
end Go.Proofs.Ythojacmegofhcaa
