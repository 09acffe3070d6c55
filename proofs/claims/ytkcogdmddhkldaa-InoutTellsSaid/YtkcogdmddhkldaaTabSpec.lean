/- Tables of currencies: how they lie in memory, and what the table's functions and the reference's answer. -/
import Derived.Test.YtkcogdmddhkldaaGen
import Derived.Test.YtkcogdmddhkldaaBigParts
import Derived.Test.YtkcogdmddhkldaaEqTab
import Derived.Laws.RangeAny
import Derived.Laws.RangeString
namespace Go.Proofs.Ytkcogdmddhkldaa
open Go Go.Sy Go.Value
set_option linter.unusedVariables false
set_option linter.unusedSimpArgs false

structure Cur where
  code : ByteArray
  rate : Int
  cut : Int
def curV : List Cur → List Value
  | [] => []
  | x :: l => .string x.code :: .int .i64 x.rate :: .int .i64 x.cut :: curV l
theorem curV_length : ∀ l, (curV l).length = l.length * 3
  | [] => rfl
  | x :: l => by simp only [curV, List.length_cons, curV_length l]; omega
theorem curV_append : ∀ l m, curV (l ++ m) = curV l ++ curV m
  | [], m => rfl
  | x :: l, m => by simp only [List.cons_append, curV, curV_append l m]
theorem allCells_cur : ∀ l, allCells (curV l) = true
  | [] => rfl
  | x :: l => allCells_cur l
theorem curV_get : ∀ (l : List Cur) (j : Nat) (x : Cur), l[j]? = some x → (curV l)[j * 3]? = some (.string x.code) ∧ (curV l)[j * 3 + 1]? = some (.int .i64 x.rate) ∧ (curV l)[j * 3 + 2]? = some (.int .i64 x.cut)
  | [], j, x, h => by simp at h
  | y :: l, 0, x, h => by
    simp at h
    subst h
    exact ⟨rfl, rfl, rfl⟩
  | y :: l, j + 1, x, h => by
    have := curV_get l j x (by simpa using h)
    have e : ∀ i, (curV (y :: l))[(j + 1) * 3 + i]? = (curV l)[j * 3 + i]? := fun i => by
      rw [show (j + 1) * 3 + i = j * 3 + i + 1 + 1 + 1 from by omega]
      simp only [curV, List.getElem?_cons_succ]
    exact ⟨(e 0).trans this.1, (e 1).trans this.2.1, (e 2).trans this.2.2⟩
theorem curV_set (x : Cur) (sp : List Value) : ∀ (l : List Cur) (j : Nat), j < l.length → setL (curV l ++ sp) (j * 3) [.string x.code, .int .i64 x.rate, .int .i64 x.cut] = curV (l.set j x) ++ sp
  | [], j, h => by simp at h
  | y :: l, 0, _ => by simp [curV, setL, setT]
  | y :: l, j + 1, h => by
    have ih := curV_set x sp l j (by simpa using h)
    simp only [setL, setT_eq] at ih ⊢
    rw [show (j + 1) * 3 = j * 3 + 1 + 1 + 1 from by omega]
    simp only [curV, List.cons_append, List.set_cons_succ]
    rw [ih]
theorem curV_rate (r : Int) (sp : List Value) : ∀ (l : List Cur) (j : Nat) (x : Cur), l[j]? = some x → setL (curV l ++ sp) (j * 3 + 1) [.int .i64 r] = curV (l.set j ⟨x.code, r, x.cut⟩) ++ sp
  | [], j, x, h => by simp at h
  | y :: l, 0, x, h => by
    simp at h
    subst h
    simp [curV, setL, setT]
  | y :: l, j + 1, x, h => by
    have ih := curV_rate r sp l j x (by simpa using h)
    simp only [setL, setT_eq] at ih ⊢
    rw [show (j + 1) * 3 + 1 = j * 3 + 1 + 1 + 1 + 1 from by omega]
    simp only [curV, List.cons_append, List.set_cons_succ]
    rw [ih]
theorem curV_cut (r : Int) (sp : List Value) : ∀ (l : List Cur) (j : Nat) (x : Cur), l[j]? = some x → setL (curV l ++ sp) (j * 3 + 2) [.int .i64 r] = curV (l.set j ⟨x.code, x.rate, r⟩) ++ sp
  | [], j, x, h => by simp at h
  | y :: l, 0, x, h => by
    simp at h
    subst h
    simp [curV, setL, setT]
  | y :: l, j + 1, x, h => by
    have ih := curV_cut r sp l j x (by simpa using h)
    simp only [setL, setT_eq] at ih ⊢
    rw [show (j + 1) * 3 + 2 = j * 3 + 2 + 1 + 1 + 1 from by omega]
    simp only [curV, List.cons_append, List.set_cons_succ]
    rw [ih]
def Curs (h : Heap) (p : Option Addr) (l : List Cur) : Prop := rdL h p (curV l)
theorem Curs.le {h h' : Heap} {p : Option Addr} {l : List Cur} (c : Curs h p l) (e : h.le h') : Curs h' p l := rdL_le e c
theorem Curs.at {h : Heap} {p : Option Addr} {l : List Cur} (c : Curs h p l) {j : Nat} {x : Cur} (hx : l[j]? = some x) :
    ∃ b o, p = some ⟨b, o, none⟩ ∧ h.cell b (o + j * 3) = some (.string x.code) ∧ h.cell b (o + j * 3 + 1) = some (.int .i64 x.rate) ∧ h.cell b (o + j * 3 + 2) = some (.int .i64 x.cut) := by
  have hj : j < l.length := (List.getElem?_eq_some_iff.1 hx).1
  obtain ⟨g1, g2, g3⟩ := curV_get l j x hx
  rcases c with e | ⟨b, o, e, r⟩
  · have := congrArg List.length e
    rw [curV_length, List.length_nil] at this
    omega
  · refine ⟨b, o, e, ?_, ?_, ?_⟩
    · rw [r _ (by rw [curV_length]; omega), g1]
    · rw [Nat.add_assoc, r _ (by rw [curV_length]; omega), g2]
    · rw [Nat.add_assoc, r _ (by rw [curV_length]; omega), g3]
section
variable {h : Heap} {p : Option Addr} {l : List Cur} {N : Nat}
theorem cx0 (C : Curs h p l) (hn : l.length = N) {j : Nat} {i : Int} (hi : i = (j : Int)) {x : Cur} (hx : l[j]? = some x) {Q : ByteArray → Prop} (kk : Q x.code) :
    0 ≤ i ∧ i < (N : Int) ∧ withAddr p fun b o => ∃ s, h.cell b (o + i.toNat * 3) = some (.string s) ∧ Q s := by
  subst hi hn
  have hj : j < l.length := (List.getElem?_eq_some_iff.1 hx).1
  obtain ⟨b, o, e, h1, h2, h3⟩ := C.at hx
  exact ⟨by omega, by omega, withAddr_intro e ⟨_, h1, kk⟩⟩
theorem cx1 (C : Curs h p l) (hn : l.length = N) {j : Nat} {i : Int} (hi : i = (j : Int)) {x : Cur} (hx : l[j]? = some x) {Q : Int → Prop} (kk : Q x.rate) :
    0 ≤ i ∧ i < (N : Int) ∧ withAddr p fun b o => ∃ s, h.cell b (o + i.toNat * 3 + 1) = some (.int .i64 s) ∧ Q s := by
  subst hi hn
  have hj : j < l.length := (List.getElem?_eq_some_iff.1 hx).1
  obtain ⟨b, o, e, h1, h2, h3⟩ := C.at hx
  exact ⟨by omega, by omega, withAddr_intro e ⟨_, h2, kk⟩⟩
theorem cx2 (C : Curs h p l) (hn : l.length = N) {j : Nat} {i : Int} (hi : i = (j : Int)) {x : Cur} (hx : l[j]? = some x) {Q : Int → Prop} (kk : Q x.cut) :
    0 ≤ i ∧ i < (N : Int) ∧ withAddr p fun b o => ∃ s, h.cell b (o + i.toNat * 3 + 2) = some (.int .i64 s) ∧ Q s := by
  subst hi hn
  have hj : j < l.length := (List.getElem?_eq_some_iff.1 hx).1
  obtain ⟨b, o, e, h1, h2, h3⟩ := C.at hx
  exact ⟨by omega, by omega, withAddr_intro e ⟨_, h3, kk⟩⟩
theorem cx3 (C : Curs h p l) (hn : l.length = N) {j : Nat} {i : Int} (hi : i = (j : Int)) {x : Cur} (hx : l[j]? = some x) {Q : ByteArray → Int → Int → Prop} (kk : Q x.code x.rate x.cut) :
    0 ≤ i ∧ i < (N : Int) ∧ withAddr p fun b o => ∃ s, h.cell b (o + i.toNat * 3) = some (.string s) ∧ ∃ n, h.cell b (o + i.toNat * 3 + 1) = some (.int .i64 n) ∧ ∃ m, h.cell b (o + i.toNat * 3 + 2) = some (.int .i64 m) ∧ Q s n m := by
  subst hi hn
  have hj : j < l.length := (List.getElem?_eq_some_iff.1 hx).1
  obtain ⟨b, o, e, h1, h2, h3⟩ := C.at hx
  exact ⟨by omega, by omega, withAddr_intro e ⟨_, h1, _, h2, _, h3, kk⟩⟩
end

/-! what a table is -/
def isCap (c : UInt8) : Bool := decide (65 ≤ c.toNat ∧ c.toNat ≤ 90)
def capB (s : ByteArray) : Bool := s.data.toList.all isCap && ((s.size : Int) == 3)
def sameC (a b : ByteArray) : Bool := a.toList == b.toList
theorem sameC_refl (a : ByteArray) : sameC a a = true := by unfold sameC; simp
theorem sameC_comm (a b : ByteArray) : sameC a b = sameC b a := by
  unfold sameC
  rw [Bool.eq_iff_iff]
  simp only [beq_iff_eq]
  exact eq_comm
def findI (c : ByteArray) : List Cur → Option Nat
  | [] => none
  | x :: r => if sameC x.code c then some 0 else (findI c r).map (· + 1)
theorem findI_cons (c : ByteArray) (x : Cur) (r : List Cur) : findI c (x :: r) = if sameC x.code c then some 0 else (findI c r).map (· + 1) := rfl
def dup (pre : List Cur) (x : Cur) : Bool := pre.any fun y => sameC y.code x.code
def uniqB : List Cur → List Cur → Bool
  | _, [] => true
  | pre, x :: r => !dup pre x && uniqB (pre ++ [x]) r
def inbB (x : Cur) : Bool := decide (1 ≤ x.rate ∧ x.rate ≤ 100000000 ∧ 0 ≤ x.cut ∧ x.cut ≤ 10000)
def fitsB (i : Int) (x : Cur) : Bool := if i = 0 then (x.rate == 10000) && (x.cut == 0) else inbB x
def fitsF : Nat → List Cur → Bool
  | _, [] => true
  | i, x :: r => fitsB i x && fitsF (i + 1) r
theorem fitsF_cons (i : Nat) (x : Cur) (r : List Cur) : fitsF i (x :: r) = (fitsB i x && fitsF (i + 1) r) := rfl
def tabE (l : List Cur) : Int := if l.length < 1 ∨ 8 < l.length then 4 else if l.all (fun x => capB x.code) then (if uniqB [] l then (if fitsF 0 l then 0 else 1) else 6) else 2
theorem fits_inb {i : Int} {x : Cur} (h : fitsB i x = true) : inbB x = true := by
  unfold fitsB at h
  split at h
  · simp only [Bool.and_eq_true, beq_iff_eq] at h
    unfold inbB
    simp; omega
  · exact h
theorem fitsF_succ : ∀ (l : List Cur) (i : Nat), fitsF (i + 1) l = l.all inbB
  | [], _ => rfl
  | x :: r, i => by
    unfold fitsF
    rw [fitsF_succ r (i + 1)]
    unfold fitsB
    rw [if_neg (by omega)]
    rfl
theorem find_at : ∀ (pre : List Cur) (x : Cur) (r : List Cur), findI x.code (pre ++ x :: r) = some pre.length ∧ dup pre x = false ∨ ∃ k, findI x.code (pre ++ x :: r) = some k ∧ k < pre.length ∧ dup pre x = true
  | [], x, r => .inl ⟨by simp [findI, sameC_refl], rfl⟩
  | y :: pre, x, r => by
    by_cases hs : sameC y.code x.code = true
    · refine .inr ⟨0, ?_, by simp, by simp [dup, hs]⟩
      simp [findI, hs]
    · rcases find_at pre x r with ⟨e, d⟩ | ⟨k, e, hk, d⟩
      · refine .inl ⟨?_, ?_⟩
        · rw [List.cons_append]; unfold findI; rw [if_neg hs, e]; rfl
        · unfold dup at *; rw [List.any_cons, d]; simpa using hs
      · refine .inr ⟨k + 1, ?_, by simpa using hk, ?_⟩
        · rw [List.cons_append]; unfold findI; rw [if_neg hs, e]; rfl
        · unfold dup at *; rw [List.any_cons, d, Bool.or_true]

theorem ba_get (s : ByteArray) (i : Nat) : s[i]? = s.data.toList[i]? := by
  have hsz : s.data.toList.length = s.size := by rw [Array.length_toList]; rfl
  by_cases h : i < s.size
  · rw [getElem?_pos s i h, List.getElem?_eq_getElem (by omega)]; rfl
  · rw [getElem?_neg s i h, List.getElem?_eq_none (by omega)]
theorem le_own {h0 h : Heap} {r : Nat} {x : Obj} (l : h0.le h) (e : h0 r = none) : h0.le (h.ins r x) := fun y o hy => by
  unfold Heap.ins
  rw [if_neg (fun e2 => by rw [e2, e] at hy; cases hy)]
  exact l y o hy
section
variable {K : Value → Heap → Prop} {h : Heap}
theorem formed_loop {h0 : Heap} {s : ByteArray} {t : Nat} (ht : h0 t = none) (k : ∀ h', h0.le h' → K (.bool (capB s)) h') :
    ∀ (m pos : Nat) (h : Heap), m + pos = s.size → h0.le h → h t = some (.stringIter s pos) → capB s = ((s.data.toList.drop pos).all isCap && ((s.size : Int) == 3)) → L_table_formed_0 s t h K := by
  have hsz : s.data.toList.length = s.size := by rw [Array.length_toList]; rfl
  intro m
  induction m with
  | zero =>
    intro pos h hm lh ht2 e
    refine L_table_formed_0r _ _ _ _ ?_
    unfold L_table_formed_0T
    refine ⟨s, pos, ht2, Br.no (by simp; omega) ?_⟩
    rw [List.drop_eq_nil_of_le (by omega), List.all_nil, Bool.true_and] at e
    rw [← e]
    exact Ret.mk (k h lh)
  | succ m ih =>
    intro pos h hm lh ht2 e
    refine L_table_formed_0r _ _ _ _ ?_
    unfold L_table_formed_0T
    have hp : pos < s.size := by omega
    have hpl : pos < s.data.toList.length := by omega
    have eb : s.data.toList[pos] = s[pos] := rfl
    rw [List.drop_eq_getElem_cons hpl, List.all_cons, eb] at e
    have bad : isCap s[pos] = false → ∀ h', h0.le h' → Ret h' K (.bool false) := fun hb h' l' => by
      rw [hb, Bool.false_and, Bool.false_and] at e
      have := k h' l'
      rw [e] at this
      exact Ret.mk this
    refine ⟨s, pos, ht2, Br.yes (by simpa using hp) ?_⟩
    by_cases ha : s[pos].toNat < 128
    · rw [decode_ascii s pos hp ha]
      dsimp only
      refine Br.dec (fun g => bad (by unfold isCap; exact decide_eq_false (by omega)) _ (le_own lh ht)) fun g => ?_
      refine Br.dec (fun g => bad (by unfold isCap; exact decide_eq_false (by omega)) _ (le_own lh ht)) fun g2 => ?_
      refine ih (pos + 1) _ (by omega) (le_own lh ht) (by unfold Heap.ins; rw [if_pos rfl]) ?_
      rw [show isCap s[pos] = true from by unfold isCap; exact decide_eq_true (by omega), Bool.true_and] at e
      exact e
    · obtain ⟨d1, d2⟩ := decode_high s pos hp (by omega)
      refine Br.dec (fun g => bad (by unfold isCap; exact decide_eq_false (by omega)) _ (le_own lh ht)) fun g => ?_
      exact Br.yes (by simp; omega) (bad (by unfold isCap; exact decide_eq_false (by omega)) _ (le_own lh ht))
theorem S_formed {s : ByteArray} (k : ∀ h', h.le h' → K (.bool (capB s)) h') : CallA Try.prog fn_table_formed [string s] h K := by
  refine F_table_formed _ _ _ ?_
  unfold F_table_formedT
  intro r hr
  exact formed_loop hr k s.size 0 _ (by omega) (le_ins hr) (by unfold Heap.ins; rw [if_pos rfl]) rfl
theorem S_capital {s : ByteArray} (k : K (.bool (capB s)) h) : CallA Try.prog fn_ref03_capital [string s] h K := by
  refine F_ref03_capital _ _ _ ?_
  unfold F_ref03_capitalT
  have hsz : s.data.toList.length = s.size := by rw [Array.length_toList]; rfl
  unfold capB at k
  by_cases h3 : s.size = 3
  · refine Br.no (by simp; omega) ?_
    have e3 : ((s.size : Int) == 3) = true := by simp; omega
    rw [e3, Bool.and_true] at k
    simp only [ba_get]
    match hl : s.data.toList, hsz with
    | [a, b, c], _ =>
      rw [hl] at k
      simp only [List.all_cons, List.all_nil, Bool.and_true] at k
      have bad : isCap a = false ∨ isCap b = false ∨ isCap c = false → Ret h K (.bool false) := fun hb => by
        have : (isCap a && (isCap b && isCap c)) = false := by rcases hb with e | e | e <;> simp [e]
        rw [this] at k
        exact Ret.mk k
      have no : ∀ c : UInt8, ¬ (65 ≤ c.toNat ∧ c.toNat ≤ 90) → isCap c = false := fun c e => by unfold isCap; exact decide_eq_false e
      have yes : ∀ c : UInt8, (65 ≤ c.toNat ∧ c.toNat ≤ 90) → isCap c = true := fun c e => by unfold isCap; exact decide_eq_true e
      refine ⟨by decide, a, rfl, Br.dec (fun g1 => ?_) fun g => bad (.inl (no a (by omega)))⟩
      refine ⟨by decide, a, rfl, Br.dec (fun g2 => ?_) fun g => bad (.inl (no a (by omega)))⟩
      refine ⟨by decide, b, rfl, Br.dec (fun g3 => ?_) fun g => bad (.inr (.inl (no b (by omega))))⟩
      refine ⟨by decide, b, rfl, Br.dec (fun g4 => ?_) fun g => bad (.inr (.inl (no b (by omega))))⟩
      refine ⟨by decide, c, rfl, Br.dec (fun g5 => ?_) fun g => bad (.inr (.inr (no c (by omega))))⟩
      refine ⟨by decide, c, rfl, ?_⟩
      rw [yes a (by omega), yes b (by omega), Bool.true_and, Bool.true_and] at k
      have : isCap c = decide ((c.toNat : Int) ≤ 90) := by
        unfold isCap
        exact decide_eq_decide.2 (by omega)
      rw [this] at k
      exact Ret.mk k
    | [], e => simp at e; omega
    | [_], e => simp at e; omega
    | [_, _], e => simp at e; omega
    | _ :: _ :: _ :: _ :: _, e => simp at e; omega
  · refine Br.yes (by simp; omega) ?_
    have e3 : ((s.size : Int) == 3) = false := by simp; omega
    rw [e3, Bool.and_false] at k
    exact Ret.mk k
theorem S_is {x : Cur} {code : ByteArray} {r : Nat} (A : At h r [.string code]) (k : ∀ h', h.le h' → K (.bool (sameC x.code code)) h') :
    CallA Try.prog fn_table_Find_1 [agg #[string x.code, int .i64 x.rate, int .i64 x.cut], pointer (some ⟨r, 0, none⟩)] h K := by
  refine F_table_Find_1 _ _ _ _ _ _ ?_
  unfold F_table_Find_1T
  intro b hb
  have B := At.new h b [string x.code, int .i64 x.rate, int .i64 x.cut] 106
  refine ⟨_, B.cell rfl, _, (A.ins hb).cell rfl, Ret.mk (k _ (le_ins hb))⟩
theorem index_loop {h0 : Heap} {p : Option Addr} {l : List Cur} {n c r : Nat} {code : ByteArray} (C : Curs h0 p l) (hn : l.length = n) (A : At h0 r [.string code]) (hs : n ≤ 1099511627776)
    (k : ∀ h', h0.le h' → K (.int .i64 (match findI code l with | some i => (i : Int) | none => -1)) h') :
    ∀ (m j : Nat) (h : Heap), m + j = n → h0.le h → (findI code l = (findI code (l.drop j)).map (· + j)) → L_slices_IndexFunc_api_Currency_api_Currency_0 p n c r n j h K := by
  intro m
  induction m with
  | zero =>
    intro j h hj lh e
    refine L_slices_IndexFunc_api_Currency_api_Currency_0r _ _ _ _ _ _ _ _ ?_
    unfold L_slices_IndexFunc_api_Currency_api_Currency_0T
    refine Br.no (by simp; omega) ?_
    rw [List.drop_eq_nil_of_le (by omega)] at e
    have := k h lh
    rw [e] at this
    exact Ret.mk this
  | succ m ih =>
    intro j h hj lh e
    refine L_slices_IndexFunc_api_Currency_api_Currency_0r _ _ _ _ _ _ _ _ ?_
    unfold L_slices_IndexFunc_api_Currency_api_Currency_0T
    have hx : l[j]? = some l[j] := List.getElem?_eq_getElem (by omega)
    rw [List.drop_eq_getElem_cons (by omega : j < l.length)] at e
    rw [findI_cons] at e
    refine Br.yes (by simp; omega) (cx3 (C.le lh) hn rfl hx (S_is (A.le lh) fun h' l' => ⟨_, rfl, ?_⟩))
    have lh' := Heap.le_trans lh l'
    cases es : sameC l[j].code code with
    | true =>
      rw [es, if_pos rfl] at e
      refine Br.yes rfl ?_
      have := k h' lh'
      have e2 : findI code l = some j := by rw [e]; simp
      rw [e2] at this
      exact Ret.mk this
    | false =>
      rw [es, if_neg (by decide)] at e
      refine Br.no rfl ?_
      rw [wrap_i64_id (by omega) (by omega)]
      refine ih (j + 1) h' (by omega) lh' ?_
      rw [e, Option.map_map]
      congr 1
      funext x
      simp; omega
theorem S_Find {p : Option Addr} {l : List Cur} {n c : Nat} {code : ByteArray} (C : Curs h p l) (hn : l.length = n) (hs : n ≤ 1099511627776)
    (k : ∀ h', h.le h' → K (tuple #[int .i64 (((findI code l).getD 0 : Nat) : Int), .bool (findI code l).isSome]) h') : CallA Try.prog fn_table_Find [slice p n c, string code] h K := by
  refine F_table_Find _ _ _ _ _ _ ?_
  unfold F_table_FindT
  intro r hr
  have A := At.new h r [string code] 9
  refine F_slices_IndexFunc_api_Currency_api_Currency _ _ _ _ _ _ ?_
  unfold F_slices_IndexFunc_api_Currency_api_CurrencyT
  refine index_loop (C.le (le_ins hr)) hn A hs (fun h' l' => ⟨_, rfl, ?_⟩) n 0 _ (by omega) (Heap.le_refl _) (by simp)
  have := k h' (Heap.le_trans (le_ins hr) l')
  cases e : findI code l with
  | none => rw [e] at this; exact Ret.mk this
  | some i =>
    rw [e] at this
    dsimp only
    rw [if_neg (by omega), decide_eq_true (by omega)]
    exact Ret.mk this
theorem S_fits {i : Int} {x : Cur} (k : ∀ h', h.le h' → K (.bool (fitsB i x)) h') : CallA Try.prog fn_table_fits [int .i64 i, agg #[string x.code, int .i64 x.rate, int .i64 x.cut]] h K := by
  refine F_table_fits _ _ _ _ _ _ ?_
  unfold F_table_fitsT
  intro b hb
  have B := At.new h b [string x.code, int .i64 x.rate, int .i64 x.cut] 106
  have fin := k _ (le_ins hb (o := .cells [string x.code, int .i64 x.rate, int .i64 x.cut].toArray 106 (0, 0)))
  generalize Heap.ins h b _ = h1 at *
  unfold fitsB inbB at fin
  refine Br.intro (fun e => ?_) (fun e => ?_)
  · have e : i = 0 := by simpa using e
    rw [if_pos e] at fin
    refine ⟨_, B.cell rfl, Br.intro (fun e2 => ⟨_, B.cell rfl, ?_⟩) (fun e2 => ?_)⟩
    · rw [e2, Bool.true_and] at fin; exact Ret.mk fin
    · rw [e2, Bool.false_and] at fin; exact Ret.mk fin
  · have e : ¬ i = 0 := by simpa using e
    rw [if_neg e] at fin
    have no : ∀ {P : Prop}, (P → ¬ (1 ≤ x.rate ∧ x.rate ≤ 100000000 ∧ 0 ≤ x.cut ∧ x.cut ≤ 10000)) → P → Ret h1 K (.bool false) := fun hp y => by
      rw [decide_eq_false (hp y)] at fin
      exact Ret.mk fin
    refine ⟨_, B.cell rfl, Br.dec (fun g1 => ?_) (no fun _ => by omega)⟩
    refine ⟨_, B.cell rfl, Br.dec (fun g2 => ?_) (no fun _ => by omega)⟩
    refine ⟨_, B.cell rfl, Br.dec (fun g3 => ⟨_, B.cell rfl, ?_⟩) (no fun _ => by omega)⟩
    have : decide (1 ≤ x.rate ∧ x.rate ≤ 100000000 ∧ 0 ≤ x.cut ∧ x.cut ≤ 10000) = decide (x.cut ≤ 10000) := decide_eq_decide.2 (by omega)
    rw [this] at fin
    exact Ret.mk fin
theorem S_has {p : Option Addr} {n c : Nat} {cur : Int} (k : K (.bool (decide (0 ≤ cur ∧ cur < (n : Int)))) h) : CallA Try.prog fn_table_has [slice p n c, int .i64 cur] h K := by
  refine F_table_has _ _ _ _ _ _ ?_
  unfold F_table_hasT
  refine Br.dec (fun g => ?_) (fun g => ?_)
  · have : decide (0 ≤ cur ∧ cur < (n : Int)) = decide (cur < (n : Int)) := decide_eq_decide.2 (by omega)
    rw [this] at k
    exact Ret.mk k
  · rw [decide_eq_false (by omega)] at k
    exact Ret.mk k
end
end Go.Proofs.Ytkcogdmddhkldaa
