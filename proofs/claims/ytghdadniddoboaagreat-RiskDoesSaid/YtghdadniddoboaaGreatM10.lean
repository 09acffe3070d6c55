import Derived.Test.YtghdadniddoboaaGreatM07
import Derived.Test.YtghdadniddoboaaGreatM09
import Derived.Test.YtghdadniddoboaaGreatM04
import Derived.Laws.RangeAny
import Derived.Laws.RangeString
/- Tables of currencies: how they lie in memory, and what the table's functions and the reference's answer. -/
namespace Go.Proofs.YtghdadniddoboaaGreat
open Go Go.Sy Go.Value
set_option linter.unusedVariables false
set_option linter.unusedSimpArgs false

structure Cur where
  code : ByteArray
  rate : Int
  cut : Int
def curV : List Cur → List Value
  | [] => []
  | x :: l => .string x.code :: .int .i64 x.rate :: .int .i64 x.cut :: curV l
theorem curV_length : ∀ l, (curV l).length = l.length * 3
  | [] => rfl
  | x :: l => by simp only [curV, List.length_cons, curV_length l]; omega
theorem allCells_cur : ∀ l, allCells (curV l) = true
  | [] => rfl
  | x :: l => allCells_cur l
theorem curV_get : ∀ (l : List Cur) (j : Nat) (x : Cur), l[j]? = some x → (curV l)[j * 3]? = some (.string x.code) ∧ (curV l)[j * 3 + 1]? = some (.int .i64 x.rate) ∧ (curV l)[j * 3 + 2]? = some (.int .i64 x.cut)
  | [], j, x, h => by simp at h
  | y :: l, 0, x, h => by
    simp at h
    subst h
    exact ⟨rfl, rfl, rfl⟩
  | y :: l, j + 1, x, h => by
    have := curV_get l j x (by simpa using h)
    have e : ∀ i, (curV (y :: l))[(j + 1) * 3 + i]? = (curV l)[j * 3 + i]? := fun i => by
      rw [show (j + 1) * 3 + i = j * 3 + i + 1 + 1 + 1 from by omega]
      simp only [curV, List.getElem?_cons_succ]
    exact ⟨(e 0).trans this.1, (e 1).trans this.2.1, (e 2).trans this.2.2⟩
theorem curV_set (x : Cur) (sp : List Value) : ∀ (l : List Cur) (j : Nat), j < l.length → setL (curV l ++ sp) (j * 3) [.string x.code, .int .i64 x.rate, .int .i64 x.cut] = curV (l.set j x) ++ sp
  | [], j, h => by simp at h
  | y :: l, 0, _ => by simp [curV, setL, setT]
  | y :: l, j + 1, h => by
    have ih := curV_set x sp l j (by simpa using h)
    simp only [setL, setT_eq] at ih ⊢
    rw [show (j + 1) * 3 = j * 3 + 1 + 1 + 1 from by omega]
    simp only [curV, List.cons_append, List.set_cons_succ]
    rw [ih]
theorem curV_rate (r : Int) (sp : List Value) : ∀ (l : List Cur) (j : Nat) (x : Cur), l[j]? = some x → setL (curV l ++ sp) (j * 3 + 1) [.int .i64 r] = curV (l.set j ⟨x.code, r, x.cut⟩) ++ sp
  | [], j, x, h => by simp at h
  | y :: l, 0, x, h => by
    simp at h
    subst h
    simp [curV, setL, setT]
  | y :: l, j + 1, x, h => by
    have ih := curV_rate r sp l j x (by simpa using h)
    simp only [setL, setT_eq] at ih ⊢
    rw [show (j + 1) * 3 + 1 = j * 3 + 1 + 1 + 1 + 1 from by omega]
    simp only [curV, List.cons_append, List.set_cons_succ]
    rw [ih]
theorem curV_cut (r : Int) (sp : List Value) : ∀ (l : List Cur) (j : Nat) (x : Cur), l[j]? = some x → setL (curV l ++ sp) (j * 3 + 2) [.int .i64 r] = curV (l.set j ⟨x.code, x.rate, r⟩) ++ sp
  | [], j, x, h => by simp at h
  | y :: l, 0, x, h => by
    simp at h
    subst h
    simp [curV, setL, setT]
  | y :: l, j + 1, x, h => by
    have ih := curV_cut r sp l j x (by simpa using h)
    simp only [setL, setT_eq] at ih ⊢
    rw [show (j + 1) * 3 + 2 = j * 3 + 2 + 1 + 1 + 1 from by omega]
    simp only [curV, List.cons_append, List.set_cons_succ]
    rw [ih]
def Curs (h : Heap) (p : Option Addr) (l : List Cur) : Prop := rdL h p (curV l)
theorem Curs.le {h h' : Heap} {p : Option Addr} {l : List Cur} (c : Curs h p l) (e : h.le h') : Curs h' p l := rdL_le e c
theorem Curs.at {h : Heap} {p : Option Addr} {l : List Cur} (c : Curs h p l) {j : Nat} {x : Cur} (hx : l[j]? = some x) :
    ∃ b o, p = some ⟨b, o, none⟩ ∧ h.cell b (o + j * 3) = some (.string x.code) ∧ h.cell b (o + j * 3 + 1) = some (.int .i64 x.rate) ∧ h.cell b (o + j * 3 + 2) = some (.int .i64 x.cut) := by
  have hj : j < l.length := (List.getElem?_eq_some_iff.1 hx).1
  obtain ⟨g1, g2, g3⟩ := curV_get l j x hx
  rcases c with e | ⟨b, o, e, r⟩
  · have := congrArg List.length e
    rw [curV_length, List.length_nil] at this
    omega
  · refine ⟨b, o, e, ?_, ?_, ?_⟩
    · rw [r _ (by rw [curV_length]; omega), g1]
    · rw [Nat.add_assoc, r _ (by rw [curV_length]; omega), g2]
    · rw [Nat.add_assoc, r _ (by rw [curV_length]; omega), g3]
section
variable {h : Heap} {p : Option Addr} {l : List Cur} {N : Nat}
theorem cx0 (C : Curs h p l) (hn : l.length = N) {j : Nat} {i : Int} (hi : i = (j : Int)) {x : Cur} (hx : l[j]? = some x) {Q : ByteArray → Prop} (kk : Q x.code) :
    0 ≤ i ∧ i < (N : Int) ∧ withAddr p fun b o => ∃ s, h.cell b (o + i.toNat * 3) = some (.string s) ∧ Q s := by
  subst hi hn
  have hj : j < l.length := (List.getElem?_eq_some_iff.1 hx).1
  obtain ⟨b, o, e, h1, h2, h3⟩ := C.at hx
  exact ⟨by omega, by omega, withAddr_intro e ⟨_, h1, kk⟩⟩
theorem cx1 (C : Curs h p l) (hn : l.length = N) {j : Nat} {i : Int} (hi : i = (j : Int)) {x : Cur} (hx : l[j]? = some x) {Q : Int → Prop} (kk : Q x.rate) :
    0 ≤ i ∧ i < (N : Int) ∧ withAddr p fun b o => ∃ s, h.cell b (o + i.toNat * 3 + 1) = some (.int .i64 s) ∧ Q s := by
  subst hi hn
  have hj : j < l.length := (List.getElem?_eq_some_iff.1 hx).1
  obtain ⟨b, o, e, h1, h2, h3⟩ := C.at hx
  exact ⟨by omega, by omega, withAddr_intro e ⟨_, h2, kk⟩⟩
theorem cx2 (C : Curs h p l) (hn : l.length = N) {j : Nat} {i : Int} (hi : i = (j : Int)) {x : Cur} (hx : l[j]? = some x) {Q : Int → Prop} (kk : Q x.cut) :
    0 ≤ i ∧ i < (N : Int) ∧ withAddr p fun b o => ∃ s, h.cell b (o + i.toNat * 3 + 2) = some (.int .i64 s) ∧ Q s := by
  subst hi hn
  have hj : j < l.length := (List.getElem?_eq_some_iff.1 hx).1
  obtain ⟨b, o, e, h1, h2, h3⟩ := C.at hx
  exact ⟨by omega, by omega, withAddr_intro e ⟨_, h3, kk⟩⟩
theorem cx3 (C : Curs h p l) (hn : l.length = N) {j : Nat} {i : Int} (hi : i = (j : Int)) {x : Cur} (hx : l[j]? = some x) {Q : ByteArray → Int → Int → Prop} (kk : Q x.code x.rate x.cut) :
    0 ≤ i ∧ i < (N : Int) ∧ withAddr p fun b o => ∃ s, h.cell b (o + i.toNat * 3) = some (.string s) ∧ ∃ n, h.cell b (o + i.toNat * 3 + 1) = some (.int .i64 n) ∧ ∃ m, h.cell b (o + i.toNat * 3 + 2) = some (.int .i64 m) ∧ Q s n m := by
  subst hi hn
  have hj : j < l.length := (List.getElem?_eq_some_iff.1 hx).1
  obtain ⟨b, o, e, h1, h2, h3⟩ := C.at hx
  exact ⟨by omega, by omega, withAddr_intro e ⟨_, h1, _, h2, _, h3, kk⟩⟩
end

/-! what a table is -/
def isCap (c : UInt8) : Bool := decide (65 ≤ c.toNat ∧ c.toNat ≤ 90)
def capB (s : ByteArray) : Bool := s.data.toList.all isCap && ((s.size : Int) == 3)
def sameC (a b : ByteArray) : Bool := a.toList == b.toList
theorem sameC_refl (a : ByteArray) : sameC a a = true := by unfold sameC; simp
theorem sameC_comm (a b : ByteArray) : sameC a b = sameC b a := by
  unfold sameC
  rw [Bool.eq_iff_iff]
  simp only [beq_iff_eq]
  exact eq_comm
def findI (c : ByteArray) : List Cur → Option Nat
  | [] => none
  | x :: r => if sameC x.code c then some 0 else (findI c r).map (· + 1)
theorem findI_cons (c : ByteArray) (x : Cur) (r : List Cur) : findI c (x :: r) = if sameC x.code c then some 0 else (findI c r).map (· + 1) := rfl
def dup (pre : List Cur) (x : Cur) : Bool := pre.any fun y => sameC y.code x.code
def uniqB : List Cur → List Cur → Bool
  | _, [] => true
  | pre, x :: r => !dup pre x && uniqB (pre ++ [x]) r
def inbB (x : Cur) : Bool := decide (1 ≤ x.rate ∧ x.rate ≤ 100000000 ∧ 0 ≤ x.cut ∧ x.cut ≤ 10000)
def fitsB (i : Int) (x : Cur) : Bool := if i = 0 then (x.rate == 10000) && (x.cut == 0) else inbB x
def fitsF : Nat → List Cur → Bool
  | _, [] => true
  | i, x :: r => fitsB i x && fitsF (i + 1) r
theorem fitsF_cons (i : Nat) (x : Cur) (r : List Cur) : fitsF i (x :: r) = (fitsB i x && fitsF (i + 1) r) := rfl
def tabE (l : List Cur) : Int := if l.length < 1 ∨ 8 < l.length then 4 else if l.all (fun x => capB x.code) then (if uniqB [] l then (if fitsF 0 l then 0 else 1) else 6) else 2
theorem fits_inb {i : Int} {x : Cur} (h : fitsB i x = true) : inbB x = true := by
  unfold fitsB at h
  split at h
  · simp only [Bool.and_eq_true, beq_iff_eq] at h
    unfold inbB
    simp; omega
  · exact h
theorem fitsF_succ : ∀ (l : List Cur) (i : Nat), fitsF (i + 1) l = l.all inbB
  | [], _ => rfl
  | x :: r, i => by
    unfold fitsF
    rw [fitsF_succ r (i + 1)]
    unfold fitsB
    rw [if_neg (by omega)]
    rfl
theorem find_at : ∀ (pre : List Cur) (x : Cur) (r : List Cur), findI x.code (pre ++ x :: r) = some pre.length ∧ dup pre x = false ∨ ∃ k, findI x.code (pre ++ x :: r) = some k ∧ k < pre.length ∧ dup pre x = true
  | [], x, r => .inl ⟨by simp [findI, sameC_refl], rfl⟩
  | y :: pre, x, r => by
    by_cases hs : sameC y.code x.code = true
    · refine .inr ⟨0, ?_, by simp, by simp [dup, hs]⟩
      simp [findI, hs]
    · rcases find_at pre x r with ⟨e, d⟩ | ⟨k, e, hk, d⟩
      · refine .inl ⟨?_, ?_⟩
        · rw [List.cons_append]; unfold findI; rw [if_neg hs, e]; rfl
        · unfold dup at *; rw [List.any_cons, d]; simpa using hs
      · refine .inr ⟨k + 1, ?_, by simpa using hk, ?_⟩
        · rw [List.cons_append]; unfold findI; rw [if_neg hs, e]; rfl
        · unfold dup at *; rw [List.any_cons, d, Bool.or_true]

theorem ba_get (s : ByteArray) (i : Nat) : s[i]? = s.data.toList[i]? := by
  have hsz : s.data.toList.length = s.size := by rw [Array.length_toList]; rfl
  by_cases h : i < s.size
  · rw [getElem?_pos s i h, List.getElem?_eq_getElem (by omega)]; rfl
  · rw [getElem?_neg s i h, List.getElem?_eq_none (by omega)]
theorem le_own {h0 h : Heap} {r : Nat} {x : Obj} (l : h0.le h) (e : h0 r = none) : h0.le (h.ins r x) := fun y o hy => by
  unfold Heap.ins
  rw [if_neg (fun e2 => by rw [e2, e] at hy; cases hy)]
  exact l y o hy
section
variable {K : Value → Heap → Prop} {h : Heap}
theorem formed_loop {h0 : Heap} {s : ByteArray} {t : Nat} (ht : h0 t = none) (k : ∀ h', h0.le h' → K (.bool (capB s)) h') :
    ∀ (m pos : Nat) (h : Heap), m + pos = s.size → h0.le h → h t = some (.stringIter s pos) → capB s = ((s.data.toList.drop pos).all isCap && ((s.size : Int) == 3)) → L_table_formed_0 s t h K := by
  have hsz : s.data.toList.length = s.size := by rw [Array.length_toList]; rfl
  intro m
  induction m with
  | zero =>
    intro pos h hm lh ht2 e
    refine L_table_formed_0r _ _ _ _ ?_
    unfold L_table_formed_0T
    refine ⟨s, pos, ht2, Br.no (by simp; omega) ?_⟩
    rw [List.drop_eq_nil_of_le (by omega), List.all_nil, Bool.true_and] at e
    rw [← e]
    exact Ret.mk (k h lh)
  | succ m ih =>
    intro pos h hm lh ht2 e
    refine L_table_formed_0r _ _ _ _ ?_
    unfold L_table_formed_0T
    have hp : pos < s.size := by omega
    have hpl : pos < s.data.toList.length := by omega
    have eb : s.data.toList[pos] = s[pos] := rfl
    rw [List.drop_eq_getElem_cons hpl, List.all_cons, eb] at e
    have bad : isCap s[pos] = false → ∀ h', h0.le h' → Ret h' K (.bool false) := fun hb h' l' => by
      rw [hb, Bool.false_and, Bool.false_and] at e
      have := k h' l'
      rw [e] at this
      exact Ret.mk this
    refine ⟨s, pos, ht2, Br.yes (by simpa using hp) ?_⟩
    by_cases ha : s[pos].toNat < 128
    · rw [decode_ascii s pos hp ha]
      dsimp only
      refine Br.dec (fun g => bad (by unfold isCap; exact decide_eq_false (by omega)) _ (le_own lh ht)) fun g => ?_
      refine Br.dec (fun g => bad (by unfold isCap; exact decide_eq_false (by omega)) _ (le_own lh ht)) fun g2 => ?_
      refine ih (pos + 1) _ (by omega) (le_own lh ht) (by unfold Heap.ins; rw [if_pos rfl]) ?_
      rw [show isCap s[pos] = true from by unfold isCap; exact decide_eq_true (by omega), Bool.true_and] at e
      exact e
    · obtain ⟨d1, d2⟩ := decode_high s pos hp (by omega)
      refine Br.dec (fun g => bad (by unfold isCap; exact decide_eq_false (by omega)) _ (le_own lh ht)) fun g => ?_
      exact Br.yes (by simp; omega) (bad (by unfold isCap; exact decide_eq_false (by omega)) _ (le_own lh ht))
theorem S_formed {s : ByteArray} (k : ∀ h', h.le h' → K (.bool (capB s)) h') : CallA Tryz.prog fn_table_formed [string s] h K := by
  refine F_table_formed _ _ _ ?_
  unfold F_table_formedT
  intro r hr
  exact formed_loop hr k s.size 0 _ (by omega) (le_ins hr) (by unfold Heap.ins; rw [if_pos rfl]) rfl
theorem S_capital {s : ByteArray} (k : K (.bool (capB s)) h) : CallA Tryz.prog fn_ref03_capital [string s] h K := by
  refine F_ref03_capital _ _ _ ?_
  unfold F_ref03_capitalT
  have hsz : s.data.toList.length = s.size := by rw [Array.length_toList]; rfl
  unfold capB at k
  by_cases h3 : s.size = 3
  · refine Br.no (by simp; omega) ?_
    have e3 : ((s.size : Int) == 3) = true := by simp; omega
    rw [e3, Bool.and_true] at k
    simp only [ba_get]
    match hl : s.data.toList, hsz with
    | [a, b, c], _ =>
      rw [hl] at k
      simp only [List.all_cons, List.all_nil, Bool.and_true] at k
      have bad : isCap a = false ∨ isCap b = false ∨ isCap c = false → Ret h K (.bool false) := fun hb => by
        have : (isCap a && (isCap b && isCap c)) = false := by rcases hb with e | e | e <;> simp [e]
        rw [this] at k
        exact Ret.mk k
      have no : ∀ c : UInt8, ¬ (65 ≤ c.toNat ∧ c.toNat ≤ 90) → isCap c = false := fun c e => by unfold isCap; exact decide_eq_false e
      have yes : ∀ c : UInt8, (65 ≤ c.toNat ∧ c.toNat ≤ 90) → isCap c = true := fun c e => by unfold isCap; exact decide_eq_true e
      refine ⟨by decide, a, rfl, Br.dec (fun g1 => ?_) fun g => bad (.inl (no a (by omega)))⟩
      refine ⟨by decide, a, rfl, Br.dec (fun g2 => ?_) fun g => bad (.inl (no a (by omega)))⟩
      refine ⟨by decide, b, rfl, Br.dec (fun g3 => ?_) fun g => bad (.inr (.inl (no b (by omega))))⟩
      refine ⟨by decide, b, rfl, Br.dec (fun g4 => ?_) fun g => bad (.inr (.inl (no b (by omega))))⟩
      refine ⟨by decide, c, rfl, Br.dec (fun g5 => ?_) fun g => bad (.inr (.inr (no c (by omega))))⟩
      refine ⟨by decide, c, rfl, ?_⟩
      rw [yes a (by omega), yes b (by omega), Bool.true_and, Bool.true_and] at k
      have : isCap c = decide ((c.toNat : Int) ≤ 90) := by
        unfold isCap
        exact decide_eq_decide.2 (by omega)
      rw [this] at k
      exact Ret.mk k
    | [], e => simp at e; omega
    | [_], e => simp at e; omega
    | [_, _], e => simp at e; omega
    | _ :: _ :: _ :: _ :: _, e => simp at e; omega
  · refine Br.yes (by simp; omega) ?_
    have e3 : ((s.size : Int) == 3) = false := by simp; omega
    rw [e3, Bool.and_false] at k
    exact Ret.mk k
theorem S_is {x : Cur} {code : ByteArray} {r : Nat} (A : At h r [.string code]) (k : ∀ h', h.le h' → K (.bool (sameC x.code code)) h') :
    CallA Tryz.prog fn_table_Find_1 [agg #[string x.code, int .i64 x.rate, int .i64 x.cut], pointer (some ⟨r, 0, none⟩)] h K := by
  refine F_table_Find_1 _ _ _ _ _ _ ?_
  unfold F_table_Find_1T
  intro b hb
  have B := At.new h b [string x.code, int .i64 x.rate, int .i64 x.cut] 60
  refine ⟨_, B.cell rfl, _, (A.ins hb).cell rfl, Ret.mk (k _ (le_ins hb))⟩
theorem index_loop {h0 : Heap} {p : Option Addr} {l : List Cur} {n c r : Nat} {code : ByteArray} (C : Curs h0 p l) (hn : l.length = n) (A : At h0 r [.string code]) (hs : n ≤ 1099511627776)
    (k : ∀ h', h0.le h' → K (.int .i64 (match findI code l with | some i => (i : Int) | none => -1)) h') :
    ∀ (m j : Nat) (h : Heap), m + j = n → h0.le h → (findI code l = (findI code (l.drop j)).map (· + j)) → L_slices_IndexFunc_api_Currency_api_Currency_0 p n c r n j h K := by
  intro m
  induction m with
  | zero =>
    intro j h hj lh e
    refine L_slices_IndexFunc_api_Currency_api_Currency_0r _ _ _ _ _ _ _ _ ?_
    unfold L_slices_IndexFunc_api_Currency_api_Currency_0T
    refine Br.no (by simp; omega) ?_
    rw [List.drop_eq_nil_of_le (by omega)] at e
    have := k h lh
    rw [e] at this
    exact Ret.mk this
  | succ m ih =>
    intro j h hj lh e
    refine L_slices_IndexFunc_api_Currency_api_Currency_0r _ _ _ _ _ _ _ _ ?_
    unfold L_slices_IndexFunc_api_Currency_api_Currency_0T
    have hx : l[j]? = some l[j] := List.getElem?_eq_getElem (by omega)
    rw [List.drop_eq_getElem_cons (by omega : j < l.length)] at e
    rw [findI_cons] at e
    refine Br.yes (by simp; omega) (cx3 (C.le lh) hn rfl hx (S_is (A.le lh) fun h' l' => ⟨_, rfl, ?_⟩))
    have lh' := Heap.le_trans lh l'
    cases es : sameC l[j].code code with
    | true =>
      rw [es, if_pos rfl] at e
      refine Br.yes rfl ?_
      have := k h' lh'
      have e2 : findI code l = some j := by rw [e]; simp
      rw [e2] at this
      exact Ret.mk this
    | false =>
      rw [es, if_neg (by decide)] at e
      refine Br.no rfl ?_
      rw [wrap_i64_id (by omega) (by omega)]
      refine ih (j + 1) h' (by omega) lh' ?_
      rw [e, Option.map_map]
      congr 1
      funext x
      simp; omega
theorem S_Find {p : Option Addr} {l : List Cur} {n c : Nat} {code : ByteArray} (C : Curs h p l) (hn : l.length = n) (hs : n ≤ 1099511627776)
    (k : ∀ h', h.le h' → K (tuple #[int .i64 (((findI code l).getD 0 : Nat) : Int), .bool (findI code l).isSome]) h') : CallA Tryz.prog fn_table_Find [slice p n c, string code] h K := by
  refine F_table_Find _ _ _ _ _ _ ?_
  unfold F_table_FindT
  intro r hr
  have A := At.new h r [string code] 9
  refine F_slices_IndexFunc_api_Currency_api_Currency _ _ _ _ _ _ ?_
  unfold F_slices_IndexFunc_api_Currency_api_CurrencyT
  refine index_loop (C.le (le_ins hr)) hn A hs (fun h' l' => ⟨_, rfl, ?_⟩) n 0 _ (by omega) (Heap.le_refl _) (by simp)
  have := k h' (Heap.le_trans (le_ins hr) l')
  cases e : findI code l with
  | none => rw [e] at this; exact Ret.mk this
  | some i =>
    rw [e] at this
    dsimp only
    rw [if_neg (by omega), decide_eq_true (by omega)]
    exact Ret.mk this
theorem S_fits {i : Int} {x : Cur} (k : ∀ h', h.le h' → K (.bool (fitsB i x)) h') : CallA Tryz.prog fn_table_fits [int .i64 i, agg #[string x.code, int .i64 x.rate, int .i64 x.cut]] h K := by
  refine F_table_fits _ _ _ _ _ _ ?_
  unfold F_table_fitsT
  intro b hb
  have B := At.new h b [string x.code, int .i64 x.rate, int .i64 x.cut] 60
  have fin := k _ (le_ins hb (o := .cells [string x.code, int .i64 x.rate, int .i64 x.cut].toArray 60 (0, 0)))
  generalize Heap.ins h b _ = h1 at *
  unfold fitsB inbB at fin
  refine Br.intro (fun e => ?_) (fun e => ?_)
  · have e : i = 0 := by simpa using e
    rw [if_pos e] at fin
    refine ⟨_, B.cell rfl, Br.intro (fun e2 => ⟨_, B.cell rfl, ?_⟩) (fun e2 => ?_)⟩
    · rw [e2, Bool.true_and] at fin; exact Ret.mk fin
    · rw [e2, Bool.false_and] at fin; exact Ret.mk fin
  · have e : ¬ i = 0 := by simpa using e
    rw [if_neg e] at fin
    have no : ∀ {P : Prop}, (P → ¬ (1 ≤ x.rate ∧ x.rate ≤ 100000000 ∧ 0 ≤ x.cut ∧ x.cut ≤ 10000)) → P → Ret h1 K (.bool false) := fun hp y => by
      rw [decide_eq_false (hp y)] at fin
      exact Ret.mk fin
    refine ⟨_, B.cell rfl, Br.dec (fun g1 => ?_) (no fun _ => by omega)⟩
    refine ⟨_, B.cell rfl, Br.dec (fun g2 => ?_) (no fun _ => by omega)⟩
    refine ⟨_, B.cell rfl, Br.dec (fun g3 => ⟨_, B.cell rfl, ?_⟩) (no fun _ => by omega)⟩
    have : decide (1 ≤ x.rate ∧ x.rate ≤ 100000000 ∧ 0 ≤ x.cut ∧ x.cut ≤ 10000) = decide (x.cut ≤ 10000) := decide_eq_decide.2 (by omega)
    rw [this] at fin
    exact Ret.mk fin
theorem S_has {p : Option Addr} {n c : Nat} {cur : Int} (k : K (.bool (decide (0 ≤ cur ∧ cur < (n : Int)))) h) : CallA Tryz.prog fn_table_has [slice p n c, int .i64 cur] h K := by
  refine F_table_has _ _ _ _ _ _ ?_
  unfold F_table_hasT
  refine Br.dec (fun g => ?_) (fun g => ?_)
  · have : decide (0 ≤ cur ∧ cur < (n : Int)) = decide (cur < (n : Int)) := decide_eq_decide.2 (by omega)
    rw [this] at k
    exact Ret.mk k
  · rw [decide_eq_false (by omega)] at k
    exact Ret.mk k
end
end Go.Proofs.YtghdadniddoboaaGreat

/- Whether a table may be, tables of another rate or haircut, and the reference's: the same. -/
namespace Go.Proofs.YtghdadniddoboaaGreat
open Go Go.Sy Go.Value
set_option linter.unusedVariables false
set_option linter.unusedSimpArgs false

section
variable {K : Value → Heap → Prop} {h h0 : Heap} {p : Option Addr} {l : List Cur} {n c : Nat}
theorem chk0 (C : Curs h0 p l) (hn : l.length = n) (hs : n ≤ 8) (k2 : l.all (fun x => capB x.code) = false → ∀ h', h0.le h' → K (.int .i64 2) h')
    (k : l.all (fun x => capB x.code) = true → ∀ h', h0.le h' → L_table_Check_1 p n c p n c n 0 h' K) :
    ∀ (m j : Nat) (h : Heap), m + j = n → h0.le h → l.all (fun x => capB x.code) = (l.drop j).all (fun x => capB x.code) → L_table_Check_0 p n c p n c n j h K := by
  intro m
  induction m with
  | zero =>
    intro j h hj lh e
    refine L_table_Check_0r _ _ _ _ _ _ _ _ _ _ ?_
    unfold L_table_Check_0T
    rw [List.drop_eq_nil_of_le (by omega), List.all_nil] at e
    exact Br.no (by simp; omega) (k e h lh)
  | succ m ih =>
    intro j h hj lh e
    refine L_table_Check_0r _ _ _ _ _ _ _ _ _ _ ?_
    unfold L_table_Check_0T
    have hx : l[j]? = some l[j] := List.getElem?_eq_getElem (by omega)
    rw [List.drop_eq_getElem_cons (by omega : j < l.length), List.all_cons] at e
    generalize l[j] = x at *
    refine Br.yes (by simp; omega) (cx3 (C.le lh) hn rfl hx ?_)
    intro r hr
    have A0 := At.new h r [string { data := #[] }, .int .i64 0, .int .i64 0] 60
    have l1 : h.le (h.ins r (.cells [string { data := #[] }, .int .i64 0, .int .i64 0].toArray 60 (0, 0))) := le_ins hr
    generalize h.ins r (.cells [string { data := #[] }, .int .i64 0, .int .i64 0].toArray 60 (0, 0)) = h1 at *
    refine ⟨A0.canSt (by decide), ?_⟩
    have A := A0.set (o := 0) (ws := [string x.code, .int .i64 x.rate, .int .i64 x.cut])
    have l2 : h.le (h1.setN r 0 [string x.code, .int .i64 x.rate, .int .i64 x.cut]) := le_setN l1 hr
    generalize h1.setN r 0 [string x.code, .int .i64 x.rate, .int .i64 x.cut] = h2 at *
    refine ⟨_, A.cell rfl, S_formed fun h3 l3 => ⟨_, rfl, ?_⟩⟩
    have l4 := Heap.le_trans lh (Heap.le_trans l2 l3)
    cases ec : capB x.code with
    | false =>
      rw [ec, Bool.false_and] at e
      exact Br.yes rfl (Ret.mk (k2 e _ l4))
    | true =>
      rw [ec, Bool.true_and] at e
      refine Br.no rfl ?_
      rw [wrap_i64_id (by omega) (by omega)]
      exact ih (j + 1) h3 (by omega) l4 e
theorem uniq_step {j : Nat} (hj : j < l.length) : uniqB (l.take j) (l.drop j) = (!dup (l.take j) l[j] && uniqB (l.take (j + 1)) (l.drop (j + 1))) := by
  rw [List.drop_eq_getElem_cons hj, uniqB, List.take_succ_eq_append_getElem hj]
theorem chk1 (C : Curs h0 p l) (hn : l.length = n) (hs : n ≤ 8) (k6 : uniqB [] l = false → ∀ h', h0.le h' → K (.int .i64 6) h')
    (k : uniqB [] l = true → ∀ h', h0.le h' → L_table_Check_2 p n c n 0 h' K) :
    ∀ (m j : Nat) (h : Heap), m + j = n → h0.le h → uniqB [] l = uniqB (l.take j) (l.drop j) → L_table_Check_1 p n c p n c n j h K := by
  intro m
  induction m with
  | zero =>
    intro j h hj lh e
    refine L_table_Check_1r _ _ _ _ _ _ _ _ _ _ ?_
    unfold L_table_Check_1T
    rw [List.drop_eq_nil_of_le (by omega)] at e
    exact Br.no (by simp; omega) (k e h lh)
  | succ m ih =>
    intro j h hj lh e
    refine L_table_Check_1r _ _ _ _ _ _ _ _ _ _ ?_
    unfold L_table_Check_1T
    have hjl : j < l.length := by omega
    have hx : l[j]? = some l[j] := List.getElem?_eq_getElem hjl
    rw [uniq_step hjl] at e
    have fa := find_at (l.take j) l[j] (l.drop (j + 1))
    rw [← List.drop_eq_getElem_cons hjl, List.take_append_drop, List.length_take, Nat.min_eq_left (by omega)] at fa
    generalize l[j] = x at *
    refine Br.yes (by simp; omega) (cx3 (C.le lh) hn rfl hx ?_)
    intro r hr
    have A0 := At.new h r [string { data := #[] }, .int .i64 0, .int .i64 0] 60
    have l1 : h.le (h.ins r (.cells [string { data := #[] }, .int .i64 0, .int .i64 0].toArray 60 (0, 0))) := le_ins hr
    generalize h.ins r (.cells [string { data := #[] }, .int .i64 0, .int .i64 0].toArray 60 (0, 0)) = h1 at *
    refine ⟨A0.canSt (by decide), ?_⟩
    have A := A0.set (o := 0) (ws := [string x.code, .int .i64 x.rate, .int .i64 x.cut])
    have l2 : h.le (h1.setN r 0 [string x.code, .int .i64 x.rate, .int .i64 x.cut]) := le_setN l1 hr
    generalize h1.setN r 0 [string x.code, .int .i64 x.rate, .int .i64 x.cut] = h2 at *
    refine ⟨_, A.cell rfl, S_Find ((C.le lh).le l2) hn (by omega) fun h3 l3 => ⟨_, _, rfl, ?_⟩⟩
    have l4 := Heap.le_trans lh (Heap.le_trans l2 l3)
    rcases fa with ⟨e1, d⟩ | ⟨i, e1, hi, d⟩
    · rw [d, Bool.not_false, Bool.true_and] at e
      rw [e1]
      refine Br.no (by simp) ?_
      rw [wrap_i64_id (by omega) (by omega)]
      exact ih (j + 1) h3 (by omega) l4 e
    · rw [d, Bool.not_true, Bool.false_and] at e
      rw [e1]
      refine Br.yes (by simp; omega) (Ret.mk (k6 e _ l4))
theorem chk2 (C : Curs h0 p l) (hn : l.length = n) (hs : n ≤ 8) (k : ∀ h', h0.le h' → K (.int .i64 (errB (fitsF 0 l))) h') :
    ∀ (m j : Nat) (h : Heap), m + j = n → h0.le h → fitsF 0 l = fitsF j (l.drop j) → L_table_Check_2 p n c n j h K := by
  intro m
  induction m with
  | zero =>
    intro j h hj lh e
    refine L_table_Check_2r _ _ _ _ _ _ _ ?_
    unfold L_table_Check_2T
    rw [List.drop_eq_nil_of_le (by omega)] at e
    have := k h lh
    rw [e] at this
    exact Br.no (by simp; omega) (Ret.mk this)
  | succ m ih =>
    intro j h hj lh e
    refine L_table_Check_2r _ _ _ _ _ _ _ ?_
    unfold L_table_Check_2T
    have hjl : j < l.length := by omega
    have hx : l[j]? = some l[j] := List.getElem?_eq_getElem hjl
    rw [List.drop_eq_getElem_cons hjl, fitsF_cons] at e
    generalize l[j] = x at *
    refine Br.yes (by simp; omega) (cx3 (C.le lh) hn rfl hx ?_)
    intro r hr
    have A0 := At.new h r [string { data := #[] }, .int .i64 0, .int .i64 0] 60
    have l1 : h.le (h.ins r (.cells [string { data := #[] }, .int .i64 0, .int .i64 0].toArray 60 (0, 0))) := le_ins hr
    generalize h.ins r (.cells [string { data := #[] }, .int .i64 0, .int .i64 0].toArray 60 (0, 0)) = h1 at *
    refine ⟨A0.canSt (by decide), ?_⟩
    have A := A0.set (o := 0) (ws := [string x.code, .int .i64 x.rate, .int .i64 x.cut])
    have l2 : h.le (h1.setN r 0 [string x.code, .int .i64 x.rate, .int .i64 x.cut]) := le_setN l1 hr
    generalize h1.setN r 0 [string x.code, .int .i64 x.rate, .int .i64 x.cut] = h2 at *
    refine ⟨_, A.cell rfl, _, A.cell rfl, _, A.cell rfl, S_fits fun h3 l3 => ⟨_, rfl, ?_⟩⟩
    have l4 := Heap.le_trans lh (Heap.le_trans l2 l3)
    cases ec : fitsB (j : Int) x with
    | false =>
      rw [ec, Bool.false_and] at e
      have := k _ l4
      rw [show fitsF 0 l = false from e] at this
      exact Br.yes rfl (Ret.mk this)
    | true =>
      rw [ec, Bool.true_and] at e
      refine Br.no rfl ?_
      rw [wrap_i64_id (by omega) (by omega)]
      exact ih (j + 1) h3 (by omega) l4 e
theorem S_Check (C : Curs h p l) (hn : l.length = n) (k : ∀ h', h.le h' → K (.int .i64 (tabE l)) h') : CallA Tryz.prog fn_table_Check [slice p n c] h K := by
  refine F_table_Check _ _ _ _ _ ?_
  unfold F_table_CheckT
  unfold tabE at k
  refine Br.intro (fun e => ?_) (fun e => Br.dec (fun e2 => ?_) (fun e2 => ?_))
  · have e : n = 0 := by simpa using e
    have := k h h.le_refl
    rw [if_pos (by omega)] at this
    exact Ret.mk this
  · have := k h h.le_refl
    rw [if_pos (by omega)] at this
    exact Ret.mk this
  · have e : n ≠ 0 := by simpa using e
    rw [if_neg (by omega)] at k
    refine chk0 C hn (by omega) (fun a h' l' => ?_) (fun a h' l' => ?_) n 0 h (by omega) h.le_refl rfl
    · have := k h' l'
      rw [if_neg (by rw [a]; decide)] at this
      exact this
    · rw [if_pos a] at k
      refine chk1 (C.le l') hn (by omega) (fun b h2 l2 => ?_) (fun b h2 l2 => ?_) n 0 h' (by omega) h'.le_refl rfl
      · have := k h2 (Heap.le_trans l' l2)
        rw [if_neg (by rw [b]; decide)] at this
        exact this
      · rw [if_pos b] at k
        exact chk2 ((C.le l').le l2) hn (by omega) (fun h3 l3 => k h3 (Heap.le_trans l' (Heap.le_trans l2 l3))) n 0 h2 (by omega) h2.le_refl rfl
/-! the reference's -/
theorem rchk0 (C : Curs h p l) (hn : l.length = n) (hs : n ≤ 8) (k2 : l.all (fun x => capB x.code) = false → K (.int .i64 2) h)
    (k : l.all (fun x => capB x.code) = true → L_ref03_Check_1 p n c 0 h K) :
    ∀ (m j : Nat), m + j = n → l.all (fun x => capB x.code) = (l.drop j).all (fun x => capB x.code) → L_ref03_Check_0 p n c j h K := by
  intro m
  induction m with
  | zero =>
    intro j hj e
    refine L_ref03_Check_0r _ _ _ _ _ _ ?_
    unfold L_ref03_Check_0T
    rw [List.drop_eq_nil_of_le (by omega), List.all_nil] at e
    exact Br.no (by simp; omega) (k e)
  | succ m ih =>
    intro j hj e
    refine L_ref03_Check_0r _ _ _ _ _ _ ?_
    unfold L_ref03_Check_0T
    have hx : l[j]? = some l[j] := List.getElem?_eq_getElem (by omega)
    rw [List.drop_eq_getElem_cons (by omega : j < l.length), List.all_cons] at e
    generalize l[j] = x at *
    refine Br.yes (by simp; omega) (cx0 C hn rfl hx (S_capital ⟨_, rfl, ?_⟩))
    cases ec : capB x.code with
    | false =>
      rw [ec, Bool.false_and] at e
      exact Br.yes rfl (Ret.mk (k2 e))
    | true =>
      rw [ec, Bool.true_and] at e
      refine Br.no rfl ?_
      rw [wrap_i64_id (by omega) (by omega)]
      exact ih (j + 1) (by omega) e
theorem rchk2 (C : Curs h p l) (hn : l.length = n) (hs : n ≤ 8) {i : Nat} {x : Cur} (hi : i < n) (hx : l[i]? = some x) (k6 : dup (l.take i) x = true → K (.int .i64 6) h) (k : dup (l.take i) x = false → L_ref03_Check_1 p n c ((i + 1 : Nat) : Int) h K) :
    ∀ (m j : Nat), m + j = i → dup (l.take i) x = dup ((l.take i).drop j) x → L_ref03_Check_2 p n c i j h K := by
  intro m
  induction m with
  | zero =>
    intro j hj e
    refine L_ref03_Check_2r _ _ _ _ _ _ _ ?_
    unfold L_ref03_Check_2T
    rw [List.drop_eq_nil_of_le (by rw [List.length_take]; omega)] at e
    refine Br.no (by simp; omega) ?_
    rw [wrap_i64_id (by omega) (by omega)]
    exact k e
  | succ m ih =>
    intro j hj e
    refine L_ref03_Check_2r _ _ _ _ _ _ _ ?_
    unfold L_ref03_Check_2T
    have hy : l[j]? = some l[j] := List.getElem?_eq_getElem (by omega)
    have hl : j < (l.take i).length := by rw [List.length_take]; omega
    rw [List.drop_eq_getElem_cons hl] at e
    unfold dup at e
    rw [List.any_cons, List.getElem_take] at e
    generalize l[j] = y at *
    refine Br.yes (by simp; omega) (cx0 C hn rfl hx (cx0 C hn rfl hy (Br.intro (fun es => ?_) (fun es => ?_))))
    · have es : sameC x.code y.code = true := es
      rw [sameC_comm y.code, es, Bool.true_or] at e
      exact Ret.mk (k6 e)
    · have es : sameC x.code y.code = false := es
      rw [sameC_comm y.code, es, Bool.false_or] at e
      rw [wrap_i64_id (by omega) (by omega)]
      exact ih (j + 1) (by omega) e
theorem rchk3 (C : Curs h p l) (hn : l.length = n) (hs : n ≤ 8) (k : K (.int .i64 (errB (l.all inbB))) h) :
    ∀ (m j : Nat), m + j = n → l.all inbB = (l.drop j).all inbB → L_ref03_Check_3 p n c j h K := by
  intro m
  induction m with
  | zero =>
    intro j hj e
    refine L_ref03_Check_3r _ _ _ _ _ _ ?_
    unfold L_ref03_Check_3T
    rw [List.drop_eq_nil_of_le (by omega), List.all_nil] at e
    rw [e] at k
    exact Br.no (by simp; omega) (Ret.mk k)
  | succ m ih =>
    intro j hj e
    refine L_ref03_Check_3r _ _ _ _ _ _ ?_
    unfold L_ref03_Check_3T
    have hx : l[j]? = some l[j] := List.getElem?_eq_getElem (by omega)
    rw [List.drop_eq_getElem_cons (by omega : j < l.length), List.all_cons] at e
    generalize l[j] = x at *
    unfold inbB at e
    have no : ∀ {P : Prop}, (P → ¬ (1 ≤ x.rate ∧ x.rate ≤ 100000000 ∧ 0 ≤ x.cut ∧ x.cut ≤ 10000)) → P → Ret h K (.int .i64 1) := fun hp y => by
      rw [decide_eq_false (hp y), Bool.false_and] at e
      have e : l.all inbB = false := e
      rw [e] at k
      exact Ret.mk k
    refine Br.yes (by simp; omega) (cx1 C hn rfl hx (Br.dec (no fun _ => by omega) fun g1 => ?_))
    refine cx1 C hn rfl hx (Br.dec (no fun _ => by omega) fun g2 => ?_)
    refine cx2 C hn rfl hx (Br.dec (no fun _ => by omega) fun g3 => ?_)
    refine cx2 C hn rfl hx (Br.dec (no fun _ => by omega) fun g4 => ?_)
    rw [decide_eq_true (by omega), Bool.true_and] at e
    rw [wrap_i64_id (by omega) (by omega)]
    exact ih (j + 1) (by omega) e
theorem rchk1 (C : Curs h p l) (hn : l.length = n) (hs : n ≤ 8) (h1 : 1 ≤ n) (k6 : uniqB [] l = false → K (.int .i64 6) h)
    (k : uniqB [] l = true → K (.int .i64 (errB (fitsF 0 l))) h) :
    ∀ (m j : Nat), m + j = n → uniqB [] l = uniqB (l.take j) (l.drop j) → L_ref03_Check_1 p n c j h K := by
  intro m
  induction m with
  | zero =>
    intro j hj e
    refine L_ref03_Check_1r _ _ _ _ _ _ ?_
    unfold L_ref03_Check_1T
    rw [List.drop_eq_nil_of_le (by omega)] at e
    have k := k e
    refine Br.no (by simp; omega) ?_
    match l, hn, C, k with
    | [], hn, C, k => simp at hn; omega
    | x :: r, hn, C, k =>
      rw [fitsF_cons, fitsF_succ] at k
      unfold fitsB at k
      rw [if_pos (by omega)] at k
      obtain ⟨b, o, ep, g0, g1, g2⟩ := C.at (j := 0) (x := x) rfl
      refine ⟨by omega, by omega, withAddr_intro ep ⟨_, by simpa using g1, Br.intro (fun e1 => ?_) (fun e1 => ⟨by omega, by omega, withAddr_intro ep ⟨_, by simpa using g2, Br.intro (fun e2 => ?_) (fun e2 => ?_)⟩⟩)⟩⟩
      · have : (x.rate == 10000) = false := by simpa using e1
        rw [this, Bool.false_and, Bool.false_and] at k
        exact Ret.mk k
      · have : (x.cut == 0) = false := by simpa using e2
        rw [this, Bool.and_false, Bool.false_and] at k
        exact Ret.mk k
      · have a1 : (x.rate == 10000) = true := by simpa using e1
        have a2 : (x.cut == 0) = true := by simpa using e2
        rw [a1, a2, Bool.true_and, Bool.true_and] at k
        have a3 : inbB x = true := by
          simp only [beq_iff_eq] at a1 a2
          unfold inbB
          simp; omega
        refine rchk3 C hn hs ?_ n 0 (by omega) rfl
        rw [List.all_cons, a3, Bool.true_and]
        exact k
  | succ m ih =>
    intro j hj e
    refine L_ref03_Check_1r _ _ _ _ _ _ ?_
    unfold L_ref03_Check_1T
    have hjl : j < l.length := by omega
    have hx : l[j]? = some l[j] := List.getElem?_eq_getElem hjl
    rw [uniq_step hjl] at e
    generalize l[j] = x at *
    refine Br.yes (by simp; omega) (rchk2 C hn hs (by omega) hx (fun d => ?_) (fun d => ?_) j 0 (by omega) rfl)
    · rw [d, Bool.not_true, Bool.false_and] at e
      exact k6 e
    · rw [d, Bool.not_false, Bool.true_and] at e
      exact ih (j + 1) (by omega) e
theorem S_RCheck (C : Curs h p l) (hn : l.length = n) (k : K (.int .i64 (tabE l)) h) : CallA Tryz.prog fn_ref03_Check [slice p n c] h K := by
  refine F_ref03_Check _ _ _ _ _ ?_
  unfold F_ref03_CheckT
  unfold tabE at k
  refine Br.dec (fun e => ?_) (fun e => Br.dec (fun e2 => ?_) (fun e2 => ?_))
  · rw [if_pos (by omega)] at k
    exact Ret.mk k
  · rw [if_pos (by omega)] at k
    exact Ret.mk k
  · rw [if_neg (by omega)] at k
    refine rchk0 C hn (by omega) (fun a => ?_) (fun a => ?_) n 0 (by omega) rfl
    · rw [if_neg (by rw [a]; decide)] at k
      exact k
    · rw [if_pos a] at k
      refine rchk1 C hn (by omega) (by omega) (fun b => ?_) (fun b => ?_) n 0 (by omega) rfl
      · rw [if_neg (by rw [b]; decide)] at k
        exact k
      · rw [if_pos b] at k
        exact k
end
end Go.Proofs.YtghdadniddoboaaGreat

/- Tables with another rate or haircut; what amounts are worth; whether a table is large; the law's first question. -/

namespace Go.Proofs.YtghdadniddoboaaGreat
open Go Go.Sy Go.Value
set_option linter.unusedVariables false
set_option linter.unusedSimpArgs false

/-! plain laws -/
def withL (l : List Cur) (j : Nat) (x : Cur) : Option (List Cur) := if fitsB j x then some (l.set j x) else none
def wRate (l : List Cur) (cur r : Int) : Option (List Cur) := if 0 ≤ cur then (match l[cur.toNat]? with | some y => withL l cur.toNat ⟨y.code, r, y.cut⟩ | none => none) else none
def wCut (l : List Cur) (cur r : Int) : Option (List Cur) := if 0 ≤ cur then (match l[cur.toNat]? with | some y => withL l cur.toNat ⟨y.code, y.rate, r⟩ | none => none) else none
def rWith (l : List Cur) (cur r t : Int) : Option (List Cur) := if 0 ≤ cur then (match l[cur.toNat]? with | some y => (if tabE (l.set cur.toNat ⟨y.code, r, t⟩) = 0 then some (l.set cur.toNat ⟨y.code, r, t⟩) else none) | none => none) else none
theorem dup_map {pre pre' : List Cur} {x x' : Cur} (h : pre.map (·.code) = pre'.map (·.code)) (hx : x.code = x'.code) : dup pre x = dup pre' x' := by
  have e : ∀ (pre : List Cur) (x : Cur), dup pre x = (pre.map (·.code)).any fun c => sameC c x.code := fun pre x => by
    unfold dup; rw [List.any_map]; rfl
  rw [e, e, h, hx]
theorem uniq_map : ∀ (l l' pre pre' : List Cur), l.map (·.code) = l'.map (·.code) → pre.map (·.code) = pre'.map (·.code) → uniqB pre l = uniqB pre' l'
  | [], [], _, _, _, _ => rfl
  | [], _ :: _, _, _, h, _ => by simp at h
  | _ :: _, [], _, _, h, _ => by simp at h
  | x :: l, x' :: l', pre, pre', h, hp => by
    simp only [List.map_cons, List.cons.injEq] at h
    rw [uniqB, uniqB, dup_map hp h.1, uniq_map l l' (pre ++ [x]) (pre' ++ [x']) h.2 (by simp [hp, h.1])]
theorem fitsF_set : ∀ (l : List Cur) (i j : Nat) (x : Cur), fitsF i l = true → j < l.length → fitsF i (l.set j x) = fitsB ((i + j : Nat) : Int) x
  | [], _, _, _, _, h => by simp at h
  | y :: l, i, 0, x, hf, _ => by
    rw [fitsF_cons, Bool.and_eq_true] at hf
    rw [List.set_cons_zero, fitsF_cons, hf.2, Bool.and_true]
    rfl
  | y :: l, i, j + 1, x, hf, h => by
    rw [fitsF_cons, Bool.and_eq_true] at hf
    rw [List.set_cons_succ, fitsF_cons, hf.1, Bool.true_and, fitsF_set l (i + 1) j x hf.2 (by simpa using h)]
    congr 2
    omega
theorem tab_parts {l : List Cur} (h : tabE l = 0) : 1 ≤ l.length ∧ l.length ≤ 8 ∧ l.all (fun x => capB x.code) = true ∧ uniqB [] l = true ∧ fitsF 0 l = true := by
  unfold tabE at h
  split at h
  · cases h
  · split at h
    · split at h
      · split at h
        · refine ⟨by omega, by omega, by assumption, by assumption, by assumption⟩
        · cases h
      · cases h
    · cases h
theorem tab_set {l : List Cur} {j : Nat} {x y : Cur} (h : tabE l = 0) (hy : l[j]? = some y) (hc : x.code = y.code) : (tabE (l.set j x) = 0) ↔ (fitsB j x = true) := by
  obtain ⟨h1, h2, h3, h4, h5⟩ := tab_parts h
  have hj : j < l.length := (List.getElem?_eq_some_iff.1 hy).1
  have hm : (l.set j x).map (·.code) = l.map (·.code) := by
    rw [List.map_set, hc]
    refine List.ext_getElem? fun i => ?_
    by_cases e : i = j
    · subst e
      rw [List.getElem?_set_self (by simpa using hj), List.getElem?_map, hy]; rfl
    · rw [List.getElem?_set_ne (fun e2 => e e2.symm)]
  have a3 : (l.set j x).all (fun x => capB x.code) = true := by
    have e : ∀ l : List Cur, l.all (fun x => capB x.code) = (l.map (·.code)).all capB := fun l => by rw [List.all_map]; rfl
    rw [e, hm, ← e]; exact h3
  have a4 : uniqB [] (l.set j x) = true := by rw [uniq_map _ l [] [] hm rfl]; exact h4
  have a5 := fitsF_set l 0 j x h5 hj
  rw [Nat.zero_add] at a5
  unfold tabE
  rw [List.length_set, if_neg (by omega), if_pos a3, if_pos a4, a5]
  split
  · simp [*]
  · simp [*]
theorem rWith_rate {l : List Cur} (h : tabE l = 0) {cur r t : Int} (ht : ∀ y, 0 ≤ cur → l[cur.toNat]? = some y → t = y.cut) : rWith l cur r t = wRate l cur r := by
  unfold rWith wRate
  by_cases h0 : 0 ≤ cur
  · rw [if_pos h0, if_pos h0]
    cases hy : l[cur.toNat]? with
    | none => rfl
    | some y =>
      dsimp only
      rw [ht y h0 hy]
      unfold withL
      have := tab_set (x := ⟨y.code, r, y.cut⟩) h hy rfl
      by_cases hf : fitsB (cur.toNat : Int) ⟨y.code, r, y.cut⟩ = true
      · rw [if_pos (this.2 hf), if_pos hf]
      · rw [if_neg (fun e => hf (this.1 e)), if_neg hf]
  · rw [if_neg h0, if_neg h0]
theorem rWith_cut {l : List Cur} (h : tabE l = 0) {cur r t : Int} (ht : ∀ y, 0 ≤ cur → l[cur.toNat]? = some y → r = y.rate) : rWith l cur r t = wCut l cur t := by
  unfold rWith wCut
  by_cases h0 : 0 ≤ cur
  · rw [if_pos h0, if_pos h0]
    cases hy : l[cur.toNat]? with
    | none => rfl
    | some y =>
      dsimp only
      rw [ht y h0 hy]
      unfold withL
      have := tab_set (x := ⟨y.code, y.rate, t⟩) h hy rfl
      by_cases hf : fitsB (cur.toNat : Int) ⟨y.code, y.rate, t⟩ = true
      · rw [if_pos (this.2 hf), if_pos hf]
      · rw [if_neg (fun e => hf (this.1 e)), if_neg hf]
  · rw [if_neg h0, if_neg h0]
def WRes (h : Heap) (p : Option Addr) (n : Nat) (e : Int) : Option (List Cur) → Prop
  | none => p = none ∧ n = 0 ∧ e = 1
  | some l => Curs h p l ∧ l.length = n ∧ e = 0
theorem WRes.le {h h' : Heap} {p : Option Addr} {n : Nat} {e : Int} {o : Option (List Cur)} (w : WRes h p n e o) (l : h.le h') : WRes h' p n e o := by
  cases o with
  | none => exact w
  | some x => exact ⟨w.1.le l, w.2⟩
section
variable {K : Value → Heap → Prop} {h h0 : Heap} {p : Option Addr} {l : List Cur} {n c : Nat}
theorem S_CloneC (C : Curs h p l) (hn : l.length = n) (hs : n ≤ 1000000) (k : ∀ p' c' h', h.le h' → OwnL h h' [string { data := #[] }, .int .i64 0, .int .i64 0] p' c' (curV l) → K (slice p' n c') h') :
    CallA Tryz.prog fn_slices_Clone_api_Currency_api_Currency [slice p n c] h K := by
  refine F_slices_Clone_api_Currency_api_Currency _ _ _ _ _ ?_
  unfold F_slices_Clone_api_Currency_api_CurrencyT
  cases p with
  | none =>
    have : l = [] := by
      rcases C with e | ⟨b, o, e, _⟩
      · have := congrArg List.length e
        rw [curV_length, List.length_nil] at this
        exact List.length_eq_zero_iff.1 (by omega)
      · cases e
    subst this
    subst hn
    exact Br.yes rfl (Ret.mk (k none 0 h h.le_refl (OwnL.nil _ _ _)))
  | some a =>
    refine Br.no rfl ?_
    intro r hr
    refine (own_new (T := 60) (z := [string { data := #[] }, .int .i64 0, .int .i64 0]) hr).push (by decide) (le_ins hr) (by omega) (by rw [curV_length, hn]; rfl) (C.le (le_ins hr)) (allCells_cur _) (by simp) ?_
    intro p' c' h' l' w' _ _
    rw [Nat.zero_add]
    exact Ret.mk (k p' c' h' l' (by rw [List.nil_append] at w'; exact w'))
theorem rsame_loop {p q : Option Addr} {a b : Nat} (C : Curs h p l) (D : Curs h q l) (hn : l.length = n) (hs : n ≤ 1099511627776) (k : K (.bool true) h) :
    ∀ (m j : Nat), m + j = n → L_ref03_Same_0 p n a q n b j h K := by
  intro m
  induction m with
  | zero =>
    intro j hj
    refine L_ref03_Same_0r _ _ _ _ _ _ _ _ _ ?_
    unfold L_ref03_Same_0T
    exact Br.no (by simp; omega) (Ret.mk k)
  | succ m ih =>
    intro j hj
    refine L_ref03_Same_0r _ _ _ _ _ _ _ _ _ ?_
    unfold L_ref03_Same_0T
    have hx : l[j]? = some l[j] := List.getElem?_eq_getElem (by omega)
    refine Br.yes (by simp; omega) (cx3 C hn rfl hx (cx3 D hn rfl hx (Br.no (by simp) ?_)))
    rw [wrap_i64_id (by omega) (by omega)]
    exact ih (j + 1) (by omega)
theorem S_RSame {p q : Option Addr} {n m a b : Nat} {e1 e2 : Int} {o : Option (List Cur)} (w1 : WRes h p n e1 o) (w2 : WRes h q m e2 o) (hs : n ≤ 1099511627776) (k : K (.bool true) h) : CallA Tryz.prog fn_ref03_Same [slice p n a, slice q m b] h K := by
  refine F_ref03_Same _ _ _ _ _ _ _ _ ?_
  unfold F_ref03_SameT
  cases o with
  | none =>
    obtain ⟨rfl, rfl, _⟩ := w1
    obtain ⟨rfl, rfl, _⟩ := w2
    exact Br.no rfl (rsame_loop (l := []) (.inl rfl) (.inl rfl) rfl (by omega) k 0 0 rfl)
  | some l =>
    obtain ⟨C, hn, _⟩ := w1
    obtain ⟨D, hm, _⟩ := w2
    have : n = m := by omega
    subst this
    exact Br.no (by simp) (rsame_loop C D hn hs k n 0 (by omega))
/-! what amounts are worth -/
def curAt (l : List Cur) (cur : Int) : Option Cur := if 0 ≤ cur then l[cur.toNat]? else none
theorem curAt_some {l : List Cur} {cur : Int} {n : Nat} (hn : l.length = n) (hc : 0 ≤ cur ∧ cur < (n : Int)) : ∃ j x, cur = ((j : Nat) : Int) ∧ l[j]? = some x ∧ curAt l cur = some x := by
  obtain ⟨j, rfl⟩ := Int.eq_ofNat_of_zero_le hc.1
  have hx : l[j]? = some l[j] := List.getElem?_eq_getElem (by omega)
  exact ⟨j, _, rfl, hx, by unfold curAt; rw [if_pos hc.1, Int.toNat_natCast]; exact hx⟩
theorem curAt_none {l : List Cur} {cur : Int} {n : Nat} (hn : l.length = n) (hc : ¬ (0 ≤ cur ∧ cur < (n : Int))) : curAt l cur = none := by
  unfold curAt
  split
  · exact List.getElem?_eq_none (by omega)
  · rfl
def partC (x : Cur) (a : Int) : Int := if a < 0 then 10000 + x.cut else 10000 - x.cut
def worthR (l : List Cur) (cur a : Int) : Int × Int := match curAt l cur with
  | some x => md a (x.rate * partC x a) 100000000 false
  | none => (0, 1)
def plainR (l : List Cur) (cur a : Int) : Int × Int := match curAt l cur with
  | some x => md a x.rate 10000 false
  | none => (0, 1)
theorem inb_of (ok : l.all inbB = true) {j : Nat} {x : Cur} (hx : l[j]? = some x) : 1 ≤ x.rate ∧ x.rate ≤ 100000000 ∧ 0 ≤ x.cut ∧ x.cut ≤ 10000 := by
  have hj := List.mem_of_getElem? hx
  have := List.all_eq_true.1 ok x hj
  unfold inbB at this
  exact of_decide_eq_true this
theorem part_bound {x : Cur} (b : 1 ≤ x.rate ∧ x.rate ≤ 100000000 ∧ 0 ≤ x.cut ∧ x.cut ≤ 10000) (a : Int) : 0 ≤ partC x a ∧ partC x a ≤ 20000 ∧ I64 (x.rate * partC x a) ∧ 0 ≤ x.rate * partC x a := by
  have p1 : 0 ≤ partC x a ∧ partC x a ≤ 20000 := by unfold partC; split <;> omega
  have m1 : 0 ≤ x.rate * partC x a := Int.mul_nonneg (by omega) p1.1
  have m2 : x.rate * partC x a ≤ 100000000 * 20000 := Int.mul_le_mul b.2.1 p1.2 p1.1 (by omega)
  exact ⟨p1.1, p1.2, ⟨by omega, by omega⟩, m1⟩
theorem S_Worth {cur a : Int} (C : Curs h p l) (hn : l.length = n) (ok : l.all inbB = true) (ha : I64 a) (k : K (tuple #[.int .i64 (worthR l cur a).1, .int .i64 (worthR l cur a).2]) h) :
    CallA Tryz.prog fn_table_Worth [slice p n c, .int .i64 cur, .int .i64 a] h K := by
  refine F_table_Worth _ _ _ _ _ _ _ ?_
  unfold F_table_WorthT
  unfold worthR at k
  refine S_has ⟨_, rfl, ?_⟩
  by_cases hc : 0 ≤ cur ∧ cur < (n : Int)
  · rw [decide_eq_true hc]
    obtain ⟨j, x, rfl, hx, e⟩ := curAt_some hn hc
    rw [e] at k
    dsimp only at k
    have b := inb_of ok hx
    obtain ⟨p1, p2, p3, _⟩ := part_bound b a
    unfold partC at k p1 p2 p3
    refine Br.no rfl (cx2 C hn rfl hx (Br.dec (fun g => ?_) (fun g => ?_)))
    · rw [if_pos g] at k p1 p2 p3
      refine cx2 C hn rfl hx (cx1 C hn rfl hx ?_)
      rw [wrap_i64_id (n := 10000 + x.cut) (by omega) (by omega), wrap_i64_id p3.1 p3.2]
      exact S_MulDiv ha p3 ⟨by decide, by decide⟩ false h _ ⟨_, _, rfl, Ret.mk k⟩
    · rw [if_neg g] at k p1 p2 p3
      refine cx1 C hn rfl hx ?_
      rw [wrap_i64_id (n := 10000 - x.cut) (by omega) (by omega), wrap_i64_id p3.1 p3.2]
      exact S_MulDiv ha p3 ⟨by decide, by decide⟩ false h _ ⟨_, _, rfl, Ret.mk k⟩
  · rw [decide_eq_false hc]
    rw [curAt_none hn hc] at k
    exact Br.yes rfl (Ret.mk k)
theorem rate_I64 {x : Cur} (b : 1 ≤ x.rate ∧ x.rate ≤ 100000000 ∧ 0 ≤ x.cut ∧ x.cut ≤ 10000) : I64 x.rate := ⟨by omega, by omega⟩
theorem S_Plain {cur a : Int} (C : Curs h p l) (hn : l.length = n) (ok : l.all inbB = true) (ha : I64 a) (k : K (tuple #[.int .i64 (plainR l cur a).1, .int .i64 (plainR l cur a).2]) h) :
    CallA Tryz.prog fn_table_Plain [slice p n c, .int .i64 cur, .int .i64 a] h K := by
  refine F_table_Plain _ _ _ _ _ _ _ ?_
  unfold F_table_PlainT
  unfold plainR at k
  refine S_has ⟨_, rfl, ?_⟩
  by_cases hc : 0 ≤ cur ∧ cur < (n : Int)
  · rw [decide_eq_true hc]
    obtain ⟨j, x, rfl, hx, e⟩ := curAt_some hn hc
    rw [e] at k
    exact Br.no rfl (cx1 C hn rfl hx (S_MulDiv ha (rate_I64 (inb_of ok hx)) ⟨by decide, by decide⟩ false h _ ⟨_, _, rfl, Ret.mk k⟩))
  · rw [decide_eq_false hc]
    rw [curAt_none hn hc] at k
    exact Br.yes rfl (Ret.mk k)
end
end Go.Proofs.YtghdadniddoboaaGreat

/- The laws TableTells, TableWorth and TableBack. -/
namespace Go.Proofs.YtghdadniddoboaaGreat
open Go Go.Sy Go.Value
set_option linter.unusedVariables false
set_option linter.unusedSimpArgs false

def curSh : Sh := .sl (.two .str (.two (.int .i64) (.two (.int .i64) .nil)))
theorem curs_of {h : Heap} {p : Option Addr} {n c : Nat} (H : curSh.Has h [.slice p n c]) : n ≤ 9223372036854775807 ∧ ∃ l : List Cur, l.length = n ∧ Curs h p l ∧ ∀ x ∈ l, I64 x.rate ∧ I64 x.cut := by
  obtain ⟨h1, h2, L, hL, hA, hR⟩ := Sh.Has.list H
  refine ⟨by omega, ?_⟩
  have : ∀ L : List (List Value), (∀ vs ∈ L, vs.length = (Sh.two .str (.two (.int .i64) (.two (.int .i64) .nil))).n ∧ (Sh.two .str (.two (.int .i64) (.two (.int .i64) .nil))).Has h vs) →
      ∃ l : List Cur, l.length = L.length ∧ L.flatten = curV l ∧ ∀ x ∈ l, I64 x.rate ∧ I64 x.cut := by
    intro L
    induction L with
    | nil => exact fun _ => ⟨[], rfl, rfl, fun _ hn => (by cases hn)⟩
    | cons a L ih =>
      intro hA
      obtain ⟨l, e1, e2, e3⟩ := ih (fun vs hv => hA vs (List.mem_cons_of_mem _ hv))
      obtain ⟨_, _, ea, _, ⟨s, rfl, _⟩, _, _, rfl, _, ⟨r, rfl, wr⟩, _, _, rfl, _, ⟨t, rfl, wt⟩, rfl⟩ := (hA a (List.mem_cons_self ..)).2
      subst ea
      refine ⟨⟨s, r, t⟩ :: l, by simp [e1], by rw [List.flatten_cons, e2]; rfl, fun x hx => ?_⟩
      rcases List.mem_cons.1 hx with rfl | hx
      · exact ⟨I64.of_wf wr, I64.of_wf wt⟩
      · exact e3 x hx
  obtain ⟨l, e1, e2, e3⟩ := this L hA
  exact ⟨l, by rw [e1, hL], by unfold Curs; rw [← e2]; exact hR, e3⟩
section
variable {K : Value → Heap → Prop} {h h0 : Heap} {p : Option Addr} {l : List Cur} {n c : Nat}
theorem all_inb (h : tabE l = 0) : l.all inbB = true := by
  obtain ⟨_, _, _, _, h5⟩ := tab_parts h
  match l, h5 with
  | [], _ => rfl
  | x :: r, h5 =>
    rw [fitsF_cons, Bool.and_eq_true, fitsF_succ] at h5
    rw [List.all_cons, fits_inb h5.1, h5.2]; rfl
theorem S_RPlain {cur a : Int} (C : Curs h p l) (hn : l.length = n) (ok : l.all inbB = true) (ha : I64 a) (k : ∀ h', h.le h' → K (tuple #[.int .i64 (plainR l cur a).1, .int .i64 (plainR l cur a).2]) h') :
    CallA Tryz.prog fn_ref03_Plain [slice p n c, .int .i64 cur, .int .i64 a] h K := by
  refine F_ref03_Plain _ _ _ _ _ _ _ ?_
  unfold F_ref03_PlainT
  unfold plainR at k
  by_cases hc : 0 ≤ cur ∧ cur < (n : Int)
  · obtain ⟨j, x, rfl, hx, e⟩ := curAt_some hn hc
    rw [e] at k
    exact Br.no (decide_eq_false (by omega)) (Br.no (decide_eq_false (by omega)) (cx1 C hn rfl hx (S_RMulDiv ha (rate_I64 (inb_of ok hx)) ⟨by decide, by decide⟩ fun h' l' => ⟨_, _, rfl, Ret.mk (k h' l')⟩)))
  · rw [curAt_none hn hc] at k
    exact Br.dec (fun _ => Ret.mk (k h h.le_refl)) fun _ => Br.yes (decide_eq_true (by omega)) (Ret.mk (k h h.le_refl))
theorem cx1B (C : Curs h p l) (hn : l.length = n) {j : Nat} {i : Int} (hi : i = (j : Int)) {x : Cur} (hx : l[j]? = some x) {Q : Nat → Int → Prop} (kk : ∀ b, Q b x.rate) :
    0 ≤ i ∧ i < (n : Int) ∧ withAddr p fun b o => ∃ s, h.cell b (o + i.toNat * 3 + 1) = some (.int .i64 s) ∧ Q b s := by
  subst hi hn
  have hj : j < l.length := (List.getElem?_eq_some_iff.1 hx).1
  obtain ⟨b, o, e, h1, h2, h3⟩ := C.at hx
  exact ⟨by omega, by omega, withAddr_intro e ⟨_, h2, kk b⟩⟩
theorem worth_tail {a r q : Int} {bb : Nat} {x : Cur} (ha : I64 a) (hr : r = x.rate) (hr64 : I64 r) (hq : q = partC x a) (hq64 : I64 q) (k : ∀ h', h.le h' → K (tuple #[.int .i64 (md a (x.rate * partC x a) 100000000 false).1, .int .i64 (md a (x.rate * partC x a) 100000000 false).2]) h') :
    CallA Tryz.prog fn_ref01_Of [int IntKind.i64 a] h fun (v : Value) (h_1 : Heap) => ∃ (b : Bool), ∃ (a : Option Addr), ∃ (n_2 : Nat), ∃ (m : Nat), v = agg #[Value.bool b, slice a n_2 m] ∧ (Heap.le h h_1 ∨ Keeps [bb] h h_1) ∧
      CallA Tryz.prog fn_ref01_Of [int IntKind.i64 r] h_1 fun (v : Value) (h : Heap) => ∃ (b_1 : Bool), ∃ (a_1 : Option Addr), ∃ (n_3 : Nat), ∃ (m_1 : Nat), v = agg #[Value.bool b_1, slice a_1 n_3 m_1] ∧
        CallA Tryz.prog fn_ref01_Mul [agg #[Value.bool b, slice a n_2 m], agg #[Value.bool b_1, slice a_1 n_3 m_1]] h fun (v : Value) (h : Heap) => ∃ (b : Bool), ∃ (a : Option Addr), ∃ (n_4 : Nat), ∃ (m : Nat), v = agg #[Value.bool b, slice a n_4 m] ∧
          CallA Tryz.prog fn_ref01_Of [int IntKind.i64 q] h fun (v : Value) (h : Heap) => ∃ (b_2 : Bool), ∃ (a_2 : Option Addr), ∃ (n : Nat), ∃ (m_2 : Nat), v = agg #[Value.bool b_2, slice a_2 n m_2] ∧
            CallA Tryz.prog fn_ref01_Mul [agg #[Value.bool b, slice a n_4 m], agg #[Value.bool b_2, slice a_2 n m_2]] h fun (v : Value) (h : Heap) => ∃ (b : Bool), ∃ (a : Option Addr), ∃ (n : Nat), ∃ (m : Nat), v = agg #[Value.bool b, slice a n m] ∧
              newB h [Value.bool false, slice none 0 0] 126 fun (r : Nat) (h : Heap) => Heap.canSt h r 0 2 ∧ ∃ (b_3 : Bool), Heap.cell (Heap.setN h r 0 [Value.bool b, slice a n m]) r 0 = some (Value.bool b_3) ∧
                ∃ (a_3 : Option Addr), ∃ (n_5 : Nat), ∃ (m_3 : Nat), Heap.cell (Heap.setN h r 0 [Value.bool b, slice a n m]) r 1 = some (slice a_3 n_5 m_3) ∧
                  CallA Tryz.prog fn_ref01_Of [int IntKind.i64 100000000] (Heap.setN h r 0 [Value.bool b, slice a n m]) fun (v : Value) (h_2 : Heap) => ∃ (b_4 : Bool), ∃ (a_4 : Option Addr), ∃ (n_6 : Nat), ∃ (m_4 : Nat), v = agg #[Value.bool b_4, slice a_4 n_6 m_4] ∧ (Heap.le (Heap.setN h r 0 [Value.bool b, slice a n m]) h_2 ∨ Keeps [r] (Heap.setN h r 0 [Value.bool b, slice a n m]) h_2) ∧
                    CallA Tryz.prog fn_ref01_Div [agg #[Value.bool b_3, slice a_3 n_5 m_3], agg #[Value.bool b_4, slice a_4 n_6 m_4], Value.bool false] h_2 fun (v : Value) (h : Heap) => ∃ (b : Bool), ∃ (a : Option Addr), ∃ (n : Nat), ∃ (m : Nat), v = agg #[Value.bool b, slice a n m] ∧
                      CallA Tryz.prog fn_ref01_Fit [agg #[Value.bool b, slice a n m]] h fun (v : Value) (h : Heap) => ∃ (n : Int), ∃ (n_7 : Int), v = tuple #[int IntKind.i64 n, int IntKind.i64 n_7] ∧ Ret h K (tuple #[int IntKind.i64 n, int IntKind.i64 n_7]) := by
  refine S_Of ha fun v1 h1 l1 bn1 => ?_
  have br1 := bn1.raw
  obtain ⟨n1, p1, c1, d1, rfl, _⟩ := bn1
  refine ⟨_, _, _, _, rfl, .inl l1, ?_⟩
  refine S_Of hr64 fun v2 h2 l2 bn2 => ?_
  have br2 := bn2.raw
  obtain ⟨n2, p2, c2, d2, rfl, _⟩ := bn2
  refine ⟨_, _, _, _, rfl, ?_⟩
  refine S_Mul_Big (br1.le l2) br2 (by omega) fun v3 h3 l3 bn3 => ?_
  have br3 := bn3.raw
  obtain ⟨n3, p3, c3, d3, rfl, _⟩ := bn3
  refine ⟨_, _, _, _, rfl, ?_⟩
  refine S_Of hq64 fun v4 h4 l4 bn4 => ?_
  have br4 := bn4.raw
  obtain ⟨n4, p4, c4, d4, rfl, _⟩ := bn4
  refine ⟨_, _, _, _, rfl, ?_⟩
  refine S_Mul_Big (br3.le l4) br4 (by omega) fun v5 h5 l5 bn5 => ?_
  have br5 := bn5.raw
  obtain ⟨n5, p5, c5, d5, rfl, _⟩ := bn5
  refine ⟨_, _, _, _, rfl, ?_⟩
  intro s hs
  have A0 := At.new h5 s [Value.bool false, slice none 0 0] 126
  have m1 : h5.le (h5.ins s (.cells [Value.bool false, slice none 0 0].toArray 126 (0, 0))) := le_ins hs
  generalize h5.ins s (.cells [Value.bool false, slice none 0 0].toArray 126 (0, 0)) = h6 at *
  refine ⟨A0.canSt (by decide), ?_⟩
  have A := A0.set (o := 0) (ws := [Value.bool n5, slice p5 d5.length c5])
  have m2 : h5.le (h6.setN s 0 [Value.bool n5, slice p5 d5.length c5]) := le_setN m1 hs
  generalize h6.setN s 0 [Value.bool n5, slice p5 d5.length c5] = h7 at *
  refine ⟨_, A.cell rfl, _, _, _, A.cell rfl, S_Of (show I64 100000000 from ⟨by decide, by decide⟩) fun v8 h8 l8 bn8 => ?_⟩
  have br8 := bn8.raw
  obtain ⟨n8, p8, c8, d8, rfl, _⟩ := bn8
  refine ⟨_, _, _, _, rfl, .inl l8, ?_⟩
  refine S_Div_Big ((br5.le m2).le l8) br8 (by omega) (by omega) (by decide) fun v9 h9 l9 bn9 => ?_
  have br9 := bn9.raw
  obtain ⟨n9, p9, c9, d9, rfl, _⟩ := bn9
  refine ⟨_, _, _, _, rfl, ?_⟩
  refine S_Fit br9 (by omega) fun h10 l10 => ⟨_, _, rfl, Ret.mk ?_⟩
  have := k h10 (Heap.le_trans l1 (Heap.le_trans l2 (Heap.le_trans l3 (Heap.le_trans l4 (Heap.le_trans l5 (Heap.le_trans m2 (Heap.le_trans l8 (Heap.le_trans l9 l10))))))))
  subst hr hq
  unfold md at this
  rw [if_neg (by decide), ← Int.mul_assoc] at this
  exact this
theorem S_RWorth {cur a : Int} (C : Curs h p l) (hn : l.length = n) (ok : l.all inbB = true) (ha : I64 a) (k : ∀ h', h.le h' → K (tuple #[.int .i64 (worthR l cur a).1, .int .i64 (worthR l cur a).2]) h') :
    CallA Tryz.prog fn_ref03_Worth [slice p n c, .int .i64 cur, .int .i64 a] h K := by
  refine F_ref03_Worth _ _ _ _ _ _ _ ?_
  unfold F_ref03_WorthT
  unfold worthR at k
  by_cases hc : 0 ≤ cur ∧ cur < (n : Int)
  · obtain ⟨j, x, rfl, hx, e⟩ := curAt_some hn hc
    rw [e] at k
    have b := inb_of ok hx
    have hr64 := rate_I64 b
    obtain ⟨p1, p2, _, _⟩ := part_bound b a
    refine Br.no (decide_eq_false (by omega)) (Br.no (decide_eq_false (by omega)) (cx2 C hn rfl hx (Br.dec (fun g => ?_) (fun g => ?_))))
    · have e1 : IntKind.wrap .i64 (10000 + x.cut) = partC x a := by rw [wrap_i64_id (by omega) (by omega)]; unfold partC; rw [if_pos g]
      refine cx2 C hn rfl hx (cx1B C hn rfl hx fun b => worth_tail ha rfl hr64 e1 ⟨by omega, by omega⟩ k)
    · have e1 : IntKind.wrap .i64 (10000 - x.cut) = partC x a := by rw [wrap_i64_id (by omega) (by omega)]; unfold partC; rw [if_neg g]
      exact cx1B C hn rfl hx fun b => worth_tail ha rfl hr64 e1 ⟨by omega, by omega⟩ k
  · rw [curAt_none hn hc] at k
    exact Br.dec (fun _ => Ret.mk (k h h.le_refl)) fun _ => Br.yes (decide_eq_true (by omega)) (Ret.mk (k h h.le_refl))
end
end Go.Proofs.YtghdadniddoboaaGreat
