import Derived.Test.YtghdadniddoboaaM01
import Derived.Test.YtghdadniddoboaaM04
import Derived.Sort.AssemblyPlain
/- Lists in memory, read by number; new lists; errors as numbers. -/
namespace Go.Proofs.Ytghdadniddoboaa
open Go Go.Sy Go.Value
set_option linter.unusedVariables false

/-- an element of a list in memory, read -/
theorem ix {k : IntKind} {h : Heap} {a : Option Addr} {l : List Int} {N : Nat} (I : Ints k h a l) (hn : l.length = N) {j : Nat} {i : Int} (hi : i = (j : Int)) {x : Int} (hx : l[j]? = some x) {Q : Int → Prop} (kk : Q x) :
    0 ≤ i ∧ i < (N : Int) ∧ withAddr a fun b o => ∃ n, h.cell b (o + i.toNat) = some (.int k n) ∧ Q n := by
  subst hi hn
  have hj : j < l.length := (List.getElem?_eq_some_iff.1 hx).1
  obtain ⟨b, o, e, hc⟩ := I.at hj
  refine ⟨by omega, by omega, withAddr_intro e ⟨x, ?_, kk⟩⟩
  have : l[j] = x := by rw [List.getElem?_eq_getElem hj] at hx; exact Option.some.inj hx
  rw [Int.toNat_natCast, hc, this]
theorem ix0 {k : IntKind} {h : Heap} {a : Option Addr} {l : List Int} {N : Nat} (I : Ints k h a l) (hn : l.length = N) {x : Int} (hx : l[0]? = some x) {Q : Int → Prop} (kk : Q x) :
    (0 : Int) ≤ 0 ∧ (0 : Int) < (N : Int) ∧ withAddr a fun b o => ∃ n, h.cell b o = some (.int k n) ∧ Q n := by
  have := ix I hn (i := 0) (j := 0) rfl hx kk
  exact this

def errB (b : Bool) : Int := if b then 0 else 1
theorem own_new {h : Heap} {r : Nat} {T : TypeId} {z : List Value} (hr : h r = none) : OwnL h (h.ins r (.cells [].toArray T (0, 0))) z (some ⟨r, 0, none⟩) 0 [] :=
  .inr ⟨r, [], rfl, hr, At.new h r [] T, by simp⟩
/-! rows of structs -/
def Arr {α : Type} (enc : α → List Value) (h : Heap) (p : Option Addr) (l : List α) : Prop := rdL h p (l.flatMap enc)
theorem Arr.le {α : Type} {enc : α → List Value} {h h' : Heap} {p : Option Addr} {l : List α} (a : Arr enc h p l) (e : h.le h') : Arr enc h' p l := rdL_le e a
theorem arr_len {α : Type} {enc : α → List Value} {w : Nat} (hw : ∀ x, (enc x).length = w) (l : List α) : (l.flatMap enc).length = l.length * w := by
  induction l with
  | nil => simp
  | cons a l ih => rw [List.flatMap_cons, List.length_append, ih, hw, List.length_cons, Nat.succ_mul]; omega
theorem arr_get {α : Type} {enc : α → List Value} {w : Nat} (hw : ∀ x, (enc x).length = w) : ∀ (l : List α) (j i : Nat) (x : α), l[j]? = some x → i < w → (l.flatMap enc)[j * w + i]? = (enc x)[i]?
  | [], j, _, x, h, _ => by simp at h
  | y :: l, 0, i, x, h, hi => by
    simp at h
    subst h
    rw [Nat.zero_mul, Nat.zero_add, List.flatMap_cons, List.getElem?_append_left (by rw [hw]; exact hi)]
  | y :: l, j + 1, i, x, h, hi => by
    rw [List.flatMap_cons, List.getElem?_append_right (by rw [hw, Nat.succ_mul]; omega), hw, show (j + 1) * w + i - w = j * w + i by rw [Nat.succ_mul]; omega]
    exact arr_get hw l j i x (by simpa using h) hi
theorem ax {α : Type} {enc : α → List Value} {w : Nat} (hw : ∀ x, (enc x).length = w) {h : Heap} {p : Option Addr} {l : List α} {N : Nat} (C : Arr enc h p l) (hn : l.length = N) {j : Nat} {i : Int} (hi : i = (j : Int)) {x : α} (hx : l[j]? = some x) (w0 : 0 < w) {Q : Nat → Nat → Prop}
    (kk : ∀ b o, p = some ⟨b, o, none⟩ → (∀ i, i < w → h.cell b (o + (j : Int).toNat * w + i) = (enc x)[i]?) → Q b o) : 0 ≤ i ∧ i < (N : Int) ∧ withAddr p Q := by
  subst hi hn
  have hj : j < l.length := (List.getElem?_eq_some_iff.1 hx).1
  have hjw : (j + 1) * w ≤ l.length * w := Nat.mul_le_mul_right _ hj
  rw [Nat.succ_mul] at hjw
  rcases C with e | ⟨b, o, e, r⟩
  · have := congrArg List.length e
    rw [arr_len hw, List.length_nil] at this
    omega
  · exact ⟨by omega, by omega, withAddr_intro e (kk b o e fun i hi => by rw [Int.toNat_natCast, Nat.add_assoc, r _ (by rw [arr_len hw]; omega), arr_get hw l j i x hx hi])⟩
theorem arr_of {α : Type} {enc : α → List Value} {P : α → Prop} {e : Sh} {h : Heap} {p : Option Addr} {n c : Nat} (H : (Sh.sl e).Has h [.slice p n c]) (dec : ∀ vs, e.Has h vs → ∃ x, vs = enc x ∧ P x) :
    n ≤ c ∧ c ≤ 9223372036854775807 ∧ ∃ l : List α, l.length = n ∧ Arr enc h p l ∧ ∀ x ∈ l, P x := by
  obtain ⟨h1, h2, L, hL, hA, hR⟩ := Sh.Has.list H
  refine ⟨h1, h2, ?_⟩
  have : ∀ L : List (List Value), (∀ vs ∈ L, vs.length = e.n ∧ e.Has h vs) → ∃ l : List α, l.length = L.length ∧ L.flatten = l.flatMap enc ∧ ∀ x ∈ l, P x := by
    intro L
    induction L with
    | nil => exact fun _ => ⟨[], rfl, rfl, fun _ hn => (by cases hn)⟩
    | cons a L ih =>
      intro hA
      obtain ⟨l, e1, e2, e3⟩ := ih (fun vs hv => hA vs (List.mem_cons_of_mem _ hv))
      obtain ⟨x, hx, px⟩ := dec a (hA a (List.mem_cons_self ..)).2
      refine ⟨x :: l, by simp [e1], by rw [List.flatten_cons, e2, List.flatMap_cons, hx], fun y hy => ?_⟩
      rcases List.mem_cons.1 hy with rfl | hy
      · exact px
      · exact e3 y hy
  obtain ⟨l, e1, e2, e3⟩ := this L hA
  exact ⟨l, by rw [e1, hL], by unfold Arr; rw [← e2]; exact hR, e3⟩
end Go.Proofs.Ytghdadniddoboaa

/- Who gets one more first: the order, and a list that is put in it, in memory. -/
namespace Go.Proofs.Ytghdadniddoboaa
open Go Go.Sy Go.Value
set_option linter.unusedVariables false
set_option linter.unusedSimpArgs false

def cmpS (x y : Int) : Int := if x < y then -1 else if x > y then 1 else 0
def ordV (left : List Int) (i k : Int) : Int :=
  if cmpS (left.getD k.toNat 0) (left.getD i.toNat 0) = 0 then cmpS i k else cmpS (left.getD k.toNat 0) (left.getD i.toNat 0)
def ltO (left : List Int) (i k : Int) : Bool := decide (ordV left i k < 0)
theorem cmpS_lt {x y : Int} : cmpS x y < 0 ↔ x < y := by unfold cmpS; split <;> (try split) <;> omega
theorem cmpS_eq {x y : Int} : cmpS x y = 0 ↔ x = y := by unfold cmpS; split <;> (try split) <;> omega
theorem ltO_iff {left : List Int} {i k : Int} : ltO left i k = true ↔ left.getD k.toNat 0 < left.getD i.toNat 0 ∨ (left.getD k.toNat 0 = left.getD i.toNat 0 ∧ i < k) := by
  unfold ltO ordV
  rw [decide_eq_true_eq]
  split
  · rename_i e; rw [cmpS_eq] at e; rw [cmpS_lt]; omega
  · rename_i e; rw [cmpS_eq] at e; rw [cmpS_lt]; omega
theorem ltO_no {left : List Int} {i k : Int} : ltO left i k = false ↔ left.getD i.toNat 0 < left.getD k.toNat 0 ∨ (left.getD i.toNat 0 = left.getD k.toNat 0 ∧ k ≤ i) := by
  rw [← Bool.not_eq_true, ltO_iff]; omega
theorem swoO (left : List Int) : Go.Sort.SWO (ltO left) where
  irrefl x := by rw [ltO_no]; omega
  trans x y z := by rw [ltO_iff, ltO_iff, ltO_iff]; omega
  ntrans x y z := by rw [ltO_no, ltO_no, ltO_no]; omega
theorem totO (left : List Int) (x y : Int) (h1 : ltO left x y = false) (h2 : ltO left y x = false) : x = y := by
  rw [ltO_no] at h1 h2; omega

section
variable {h : Heap} {K : Value → Heap → Prop}
theorem S_nan {x : Int} (k : K (.bool false) h) : CallA Try.prog fn_cmp_isNaN_int64 [.int .i64 x] h K := by
  refine F_cmp_isNaN_int64 _ _ _ ?_
  unfold F_cmp_isNaN_int64T
  refine Ret.mk ?_
  rw [show (x != x) = false by simp]; exact k
theorem S_nan2 {x : Int} (k : K (.bool false) h) : CallA Try.prog fn_cmp_isNaN_int [.int .i64 x] h K := by
  refine F_cmp_isNaN_int _ _ _ ?_
  unfold F_cmp_isNaN_intT
  refine Ret.mk ?_
  rw [show (x != x) = false by simp]; exact k
theorem S_cmp {x y : Int} (k : K (.int .i64 (cmpS x y)) h) : CallA Try.prog fn_cmp_Compare_int64 [.int .i64 x, .int .i64 y] h K := by
  refine F_cmp_Compare_int64 _ _ _ _ ?_
  unfold F_cmp_Compare_int64T
  unfold cmpS at k
  refine S_nan ⟨_, rfl, S_nan ⟨_, rfl, Br.no rfl (Br.no rfl (Br.dec (fun g => ?_) fun g => Br.dec (fun g2 => ?_) fun g2 => ?_))⟩⟩
  · rw [if_pos g] at k; exact Ret.mk k
  · rw [if_neg g, if_pos g2] at k; exact Ret.mk k
  · rw [if_neg g, if_neg g2] at k; exact Ret.mk k
theorem S_cmp2 {x y : Int} (k : K (.int .i64 (cmpS x y)) h) : CallA Try.prog fn_cmp_Compare_int [.int .i64 x, .int .i64 y] h K := by
  refine F_cmp_Compare_int _ _ _ _ ?_
  unfold F_cmp_Compare_intT
  unfold cmpS at k
  refine S_nan2 ⟨_, rfl, S_nan2 ⟨_, rfl, Br.no rfl (Br.no rfl (Br.dec (fun g => ?_) fun g => Br.dec (fun g2 => ?_) fun g2 => ?_))⟩⟩
  · rw [if_pos g] at k; exact Ret.mk k
  · rw [if_neg g, if_pos g2] at k; exact Ret.mk k
  · rw [if_neg g, if_neg g2] at k; exact Ret.mk k
theorem S_or2 {p : Option Addr} {a b : Int} (I : Ints .i64 h p [a, b]) (k : K (.int .i64 (if a = 0 then b else a)) h) : CallA Try.prog fn_cmp_Or_int [slice p 2 2] h K := by
  refine F_cmp_Or_int _ _ _ _ _ ?_
  unfold F_cmp_Or_intT
  refine L_cmp_Or_int_0r _ _ _ _ _ _ _ _ ?_
  unfold L_cmp_Or_int_0T
  refine Br.yes (by decide) (ix I rfl (j := 0) rfl rfl (Br.intro (fun g => ?_) fun g => ?_))
  · rw [if_neg (by simpa using g)] at k; exact Ret.mk k
  rw [if_pos (by simpa using g)] at k
  refine L_cmp_Or_int_0r _ _ _ _ _ _ _ _ ?_
  unfold L_cmp_Or_int_0T
  rw [show IntKind.wrap .i64 (0 + 1) = 1 by decide]
  refine Br.yes (by decide) (ix I rfl (j := 1) rfl rfl (Br.intro (fun g => Ret.mk k) fun g => ?_))
  have g : b = 0 := by simpa using g
  refine L_cmp_Or_int_0r _ _ _ _ _ _ _ _ ?_
  unfold L_cmp_Or_int_0T
  rw [show IntKind.wrap .i64 (1 + 1) = 2 by decide]
  rw [g] at k
  exact Br.no (by decide) (Ret.mk k)
theorem S_order {lp : Option Addr} {lc : Nat} {left : List Int} (I : Ints .i64 h lp left) {i k' : Int} (hi : 0 ≤ i ∧ i < (left.length : Int)) (hk : 0 ≤ k' ∧ k' < (left.length : Int))
    (k : ∀ h', h.le h' → K (.int .i64 (ordV left i k')) h') : CallA Try.prog fn_split_by_order [agg #[slice lp left.length lc], .int .i64 i, .int .i64 k'] h K := by
  refine F_split_by_order _ _ _ _ _ _ _ ?_
  unfold F_split_by_orderT
  refine newB_at fun r h1 hr l1 A1 => ?_
  have c := A1.cell (o := 0) rfl
  have gi : ∀ x : Int, 0 ≤ x ∧ x < (left.length : Int) → left[x.toNat]? = some (left.getD x.toNat 0) := fun x hx => by
    rw [List.getD_eq_getElem?_getD, List.getElem?_eq_getElem (by omega)]; rfl
  refine ⟨lp, left.length, lc, c, ix (I.le l1) rfl (j := k'.toNat) (by omega) (gi k' hk) ⟨lp, left.length, lc, c, ix (I.le l1) rfl (j := i.toNat) (by omega) (gi i hi) (S_cmp ⟨_, rfl, S_cmp2 ⟨_, rfl, fun s hs => ?_⟩⟩)⟩⟩
  refine S_or2 (rdL_new _ _ _ _ _) ⟨_, rfl, Ret.mk ?_⟩
  exact k _ (Heap.le_trans l1 (le_ins hs))
end

/-- a list of ones own at B, that is put in order: g0 is all else -/
structure Da (g0 : Heap) (B m n : Nat) (sp : List Value) (h : Heap) (d : Array Int) : Prop where
  le : g0.le h
  at_ : At h B (intsV .i64 d.toList ++ sp)
  sz : d.size = n
  rg : ∀ x ∈ d.toList, 0 ≤ x ∧ x < (m : Int)
section
variable {g0 h : Heap} {B m n : Nat} {sp : List Value} {d : Array Int}
theorem bang {i : Nat} (h : i < d.size) : d[i]! = d.toList[i]'(by simpa using h) := by
  rw [getElem!_pos d i h]; simp
theorem Da.val (D : Da g0 B m n sp h d) {i : Nat} (hi : i < n) : 0 ≤ d[i]! ∧ d[i]! < (m : Int) := by
  have hi : i < d.size := by rw [D.sz]; exact hi
  rw [bang hi]; exact D.rg _ (List.getElem_mem _)
theorem Da.get (D : Da g0 B m n sp h d) {i : Nat} (hi : i < n) : h.cell B i = some (.int .i64 d[i]!) := by
  have hi : i < d.size := by rw [D.sz]; exact hi
  refine D.at_.cell ?_
  have hl : i < d.toList.length := by simpa using hi
  rw [List.getElem?_append_left (by rw [intsV_length]; exact hl), intsV_map, List.getElem?_map, List.getElem?_eq_getElem hl, bang hi]; rfl
theorem Da.mv (D : Da g0 B m n sp h d) {h' : Heap} (l : h.le h') : Da g0 B m n sp h' d := ⟨Heap.le_trans D.le l, D.at_.le l, D.sz, D.rg⟩
theorem setL_i1 {l : List Int} {sp : List Value} {c : Nat} {v : Int} (h : c < l.length) : setL (intsV .i64 l ++ sp) c [.int .i64 v] = intsV .i64 (l.set c v) ++ sp := by
  rw [setL, setL, setT_eq, List.set_append_left _ _ (by rw [intsV_length]; omega), intsV_map, intsV_map, List.map_set]
theorem Da.st (D : Da g0 B m n sp h d) (e0 : g0 B = none) {i : Nat} {x : Int} (hi : i < n) (hx : 0 ≤ x ∧ x < (m : Int)) : Da g0 B m n sp (h.setN B i [.int .i64 x]) (d.setIfInBounds i x) := by
  refine ⟨le_setN D.le e0, ?_, by simpa using D.sz, fun y hy => ?_⟩
  · have := D.at_.set (o := i) (ws := [.int .i64 x])
    rw [setL_i1 (by simpa [D.sz] using hi)] at this
    simpa using this
  · simp only [Array.toList_setIfInBounds] at hy
    rcases List.mem_or_eq_of_mem_set hy with hy | hy
    · exact D.rg _ hy
    · subst hy; exact hx
theorem Da.can (D : Da g0 B m n sp h d) {i : Nat} (hi : i < n) : h.canSt B i 1 := D.at_.canSt (by rw [List.length_append, intsV_length]; have := D.sz; simp; omega)
/-- two of it are compared -/
theorem lessA (D : Da g0 B m n sp h d) {left : List Int} (hm : left.length = m) {lp : Option Addr} {lc : Nat} (I : Ints .i64 g0 lp left) {X Y : Int} {i j : Nat} (hX : X = (i : Int)) (hY : Y = (j : Int)) (hi : i < n) (hj : j < n) {P Q : Heap → Prop}
    (k : ∀ h', Da g0 B m n sp h' d → Br (ltO left d[i]! d[j]!) (P h') (Q h')) :
    (0 : Int) ≤ X ∧ X < (n : Int) ∧ withAddr (some ⟨B, 0, none⟩) fun b o => ∃ x, h.cell b (o + X.toNat) = some (.int .i64 x) ∧ (0 : Int) ≤ Y ∧ Y < (n : Int) ∧ withAddr (some ⟨B, 0, none⟩) fun b o => ∃ y, h.cell b (o + Y.toNat) = some (.int .i64 y) ∧
      CallA Try.prog fn_split_by_order [agg #[slice lp m lc], .int .i64 x, .int .i64 y] h fun v h => ∃ r, v = .int .i64 r ∧ Br (decide (r < 0)) (P h) (Q h) := by
  subst hX hY hm
  refine ⟨by omega, by omega, withAddr_intro rfl ⟨d[i]!, by rw [Int.toNat_natCast, Nat.zero_add]; exact D.get hi, by omega, by omega, withAddr_intro rfl ⟨d[j]!, by rw [Int.toNat_natCast, Nat.zero_add]; exact D.get hj, ?_⟩⟩⟩
  exact S_order (I.le D.le) (D.val hi) (D.val hj) fun h' l' => ⟨_, rfl, k h' (D.mv l')⟩
theorem lessN (D : Da g0 B m n sp h d) {left : List Int} (hm : left.length = m) {lp : Option Addr} {lc : Nat} (I : Ints .i64 g0 lp left) {X Y : Int} {i j : Nat} (hX : X = (i : Int)) (hY : Y = (j : Int)) (hi : i < n) (hj : j < n) {P Q : Heap → Prop}
    (k : ∀ h', Da g0 B m n sp h' d → Br (!ltO left d[i]! d[j]!) (P h') (Q h')) :
    (0 : Int) ≤ X ∧ X < (n : Int) ∧ withAddr (some ⟨B, 0, none⟩) fun b o => ∃ x, h.cell b (o + X.toNat) = some (.int .i64 x) ∧ (0 : Int) ≤ Y ∧ Y < (n : Int) ∧ withAddr (some ⟨B, 0, none⟩) fun b o => ∃ y, h.cell b (o + Y.toNat) = some (.int .i64 y) ∧
      CallA Try.prog fn_split_by_order [agg #[slice lp m lc], .int .i64 x, .int .i64 y] h fun v h => ∃ r, v = .int .i64 r ∧ Br (!decide (r < 0)) (P h) (Q h) := by
  subst hX hY hm
  refine ⟨by omega, by omega, withAddr_intro rfl ⟨d[i]!, by rw [Int.toNat_natCast, Nat.zero_add]; exact D.get hi, by omega, by omega, withAddr_intro rfl ⟨d[j]!, by rw [Int.toNat_natCast, Nat.zero_add]; exact D.get hj, ?_⟩⟩⟩
  exact S_order (I.le D.le) (D.val hi) (D.val hj) fun h' l' => ⟨_, rfl, k h' (D.mv l')⟩
/-- two of it are swapped -/
theorem swapA (D : Da g0 B m n sp h d) (e0 : g0 B = none) {X Y : Int} {i j : Nat} (hX : X = (i : Int)) (hY : Y = (j : Int)) (hi : i < n) (hj : j < n) {J : Heap → Prop}
    (k : ∀ h', Da g0 B m n sp h' (Go.Sort.swp d j i) → J h') :
    (0 : Int) ≤ X ∧ X < (n : Int) ∧ withAddr (some ⟨B, 0, none⟩) fun b o => ∃ x, h.cell b (o + X.toNat) = some (.int .i64 x) ∧ (0 : Int) ≤ Y ∧ Y < (n : Int) ∧ withAddr (some ⟨B, 0, none⟩) fun b o => ∃ y, h.cell b (o + Y.toNat) = some (.int .i64 y) ∧
      (0 : Int) ≤ Y ∧ Y < (n : Int) ∧ withAddr (some ⟨B, 0, none⟩) fun b o => h.canSt b (o + Y.toNat) 1 ∧ (0 : Int) ≤ X ∧ X < (n : Int) ∧ withAddr (some ⟨B, 0, none⟩) fun b1 o1 => (h.setN b (o + Y.toNat) [.int .i64 x]).canSt b1 (o1 + X.toNat) 1 ∧
        J ((h.setN b (o + Y.toNat) [.int .i64 x]).setN b1 (o1 + X.toNat) [.int .i64 y]) := by
  subst hX hY
  have D1 := D.st e0 hj (D.val hi)
  have D2 := D1.st e0 hi (D.val hj)
  have e : ∀ z : Nat, 0 + ((z : Nat) : Int).toNat = z := fun z => by rw [Int.toNat_natCast, Nat.zero_add]
  refine ⟨by omega, by omega, withAddr_intro rfl ⟨d[i]!, by rw [e]; exact D.get hi, by omega, by omega, withAddr_intro rfl ⟨d[j]!, by rw [e]; exact D.get hj, by omega, by omega, withAddr_intro rfl ⟨by rw [e]; exact D.can hj, by omega, by omega, withAddr_intro rfl ⟨by rw [e, e]; exact D1.can hi, ?_⟩⟩⟩⟩⟩
  rw [e, e]
  exact k _ D2
end
end Go.Proofs.Ytghdadniddoboaa

/- A list put in order: by insertion, by a heap; turned about. -/
namespace Go.Proofs.Ytghdadniddoboaa
open Go Go.Sy Go.Value Go.Sort
set_option linter.unusedVariables false
set_option linter.unusedSimpArgs false

theorem wp1 {j : Nat} (h : j ≤ 4000000000) : IntKind.wrap .i64 ((j : Int) + 1) = ((j + 1 : Nat) : Int) := by rw [wrap_i64_id (by omega) (by omega)]; omega
theorem wm1 {j : Nat} (h : j ≤ 4000000000) : IntKind.wrap .i64 (((j + 1 : Nat) : Int) - 1) = (j : Int) := by rw [wrap_i64_id (by omega) (by omega)]; omega
theorem wid {x : Int} (h1 : -4000000000 ≤ x) (h2 : x ≤ 40000000000) : IntKind.wrap .i64 x = x := wrap_i64_id (by omega) (by omega)

section
variable {g0 : Heap} {B m n c lc : Nat} {sp : List Value} {left : List Int} {lp : Option Addr} {K : Value → Heap → Prop} (e0 : g0 B = none) (hm : left.length = m) (I : Ints .i64 g0 lp left) (hn : n ≤ 1000000)
include e0 hm I hn
/-! by insertion -/
theorem ins_in {a b i : Nat} (hi : i < n) : ∀ (j : Nat) (h : Heap) (d : Array Int), Da g0 B m n sp h d → j ≤ i →
    (∀ h', Da g0 B m n sp h' (insInner (ltO left) a j d) → L_slices_insertionSortCmpFunc_int_0 (some ⟨B, 0, none⟩) n c (a : Int) (b : Int) lp m lc ((i + 1 : Nat) : Int) h' K) →
    L_slices_insertionSortCmpFunc_int_1 (some ⟨B, 0, none⟩) n c (a : Int) (b : Int) lp m lc (i : Int) (j : Int) h K := by
  intro j
  induction j with
  | zero =>
    intro h d D hj k
    refine L_slices_insertionSortCmpFunc_int_1r _ _ _ _ _ _ _ _ _ _ _ _ ?_
    unfold L_slices_insertionSortCmpFunc_int_1T
    rw [wp1 (by omega)]
    exact Br.no (by simp) (k h D)
  | succ j ih =>
    intro h d D hj k
    refine L_slices_insertionSortCmpFunc_int_1r _ _ _ _ _ _ _ _ _ _ _ _ ?_
    unfold L_slices_insertionSortCmpFunc_int_1T
    rw [wp1 (by omega), wm1 (by omega)]
    rw [insInner] at k
    refine Br.dec (fun g => lessA D hm I rfl rfl (by omega) (by omega) fun h' D' => Br.intro (fun g2 => ?_) fun g2 => ?_) fun g => ?_
    · refine swapA (J := fun h => L_slices_insertionSortCmpFunc_int_1 (some ⟨B, 0, none⟩) n c (a : Int) (b : Int) lp m lc (i : Int) (j : Int) h K) D' e0 rfl rfl (by omega) (by omega) fun h'' D'' => ih h'' _ D'' (by omega) ?_
      rw [if_pos (by rw [g2, Bool.and_true]; exact decide_eq_true (by omega))] at k
      exact k
    · rw [if_neg (by rw [g2]; simp)] at k
      exact k h' D'
    · rw [if_neg (by simp; omega)] at k
      exact k h D
theorem ins_out {a b : Nat} (hb : b ≤ n) : ∀ (q i : Nat) (h : Heap) (d : Array Int), b - i ≤ q → Da g0 B m n sp h d →
    (∀ h', Da g0 B m n sp h' (insOuter (ltO left) a b i d) → K (tuple #[]) h') → i ≤ 2000000 →
    L_slices_insertionSortCmpFunc_int_0 (some ⟨B, 0, none⟩) n c (a : Int) (b : Int) lp m lc (i : Int) h K := by
  intro q
  induction q with
  | zero =>
    intro i h d hq D k hi
    refine L_slices_insertionSortCmpFunc_int_0r _ _ _ _ _ _ _ _ _ _ _ ?_
    unfold L_slices_insertionSortCmpFunc_int_0T
    rw [insOuter, if_neg (by omega)] at k
    exact Br.no (by simp; omega) (Ret.mk (k h D))
  | succ q ih =>
    intro i h d hq D k hi
    refine L_slices_insertionSortCmpFunc_int_0r _ _ _ _ _ _ _ _ _ _ _ ?_
    unfold L_slices_insertionSortCmpFunc_int_0T
    rw [insOuter] at k
    refine Br.dec (fun g => ins_in e0 hm I hn (by omega) i h d D (Nat.le_refl _) fun h' D' => ih (i + 1) h' _ (by omega) D' ?_ (by omega)) fun g => ?_
    · rw [if_pos (by omega)] at k; exact k
    · rw [if_neg (by omega)] at k; exact Ret.mk (k h D)
theorem S_insertion {h : Heap} {d : Array Int} {a b : Nat} (ha : a ≤ n) (hb : b ≤ n) (D : Da g0 B m n sp h d) (k : ∀ h', Da g0 B m n sp h' (insertionSort (ltO left) d a b) → K (tuple #[]) h') :
    CallA Try.prog fn_slices_insertionSortCmpFunc_int [slice (some ⟨B, 0, none⟩) n c, .int .i64 (a : Int), .int .i64 (b : Int), func (Fn.func fn_split_by_order) #[agg #[slice lp m lc]] #[]] h K := by
  refine F_slices_insertionSortCmpFunc_int _ _ _ _ _ _ _ _ _ _ ?_
  unfold F_slices_insertionSortCmpFunc_intT
  rw [wp1 (by omega)]
  exact ins_out e0 hm I hn hb _ _ _ _ (Nat.le_refl _) D k (by omega)
/-! by a heap -/
theorem sift_in {hi first : Nat} (hf : first + hi ≤ n) : ∀ (q root : Nat) (h : Heap) (d : Array Int), hi - root ≤ q → root ≤ 1000000 → Da g0 B m n sp h d →
    (∀ h', Da g0 B m n sp h' (siftDown (ltO left) hi first root d) → K (tuple #[]) h') →
    L_slices_siftDownCmpFunc_int_0 (some ⟨B, 0, none⟩) n c (hi : Int) (first : Int) lp m lc (root : Int) h K := by
  intro q
  induction q with
  | zero =>
    intro root h d hq hr D k
    refine L_slices_siftDownCmpFunc_int_0r _ _ _ _ _ _ _ _ _ _ _ ?_
    unfold L_slices_siftDownCmpFunc_int_0T
    rw [siftDown, dif_pos (by omega)] at k
    rw [wid (x := 2 * (root : Int)) (by omega) (by omega), wid (x := 2 * (root : Int) + 1) (by omega) (by omega)]
    exact Br.yes (decide_eq_true (by omega)) (Ret.mk (k h D))
  | succ q ih =>
    intro root h d hq hr D k
    refine L_slices_siftDownCmpFunc_int_0r _ _ _ _ _ _ _ _ _ _ _ ?_
    unfold L_slices_siftDownCmpFunc_int_0T
    have w1 : IntKind.wrap .i64 (2 * (root : Int)) = ((2 * root : Nat) : Int) := by rw [wid (by omega) (by omega)]; omega
    have w2 : IntKind.wrap .i64 (((2 * root : Nat) : Int) + 1) = ((2 * root + 1 : Nat) : Int) := by rw [wid (by omega) (by omega)]; omega
    have w3 : IntKind.wrap .i64 (((2 * root + 1 : Nat) : Int) + 1) = ((2 * root + 2 : Nat) : Int) := by rw [wid (by omega) (by omega)]; omega
    have w4 : IntKind.wrap .i64 ((first : Int) + ((2 * root + 1 : Nat) : Int)) = ((first + (2 * root + 1) : Nat) : Int) := by rw [wid (by omega) (by omega)]; omega
    have w5 : IntKind.wrap .i64 ((first : Int) + ((2 * root + 2 : Nat) : Int)) = ((first + (2 * root + 2) : Nat) : Int) := by rw [wid (by omega) (by omega)]; omega
    have w6 : IntKind.wrap .i64 (((first + (2 * root + 1) : Nat) : Int) + 1) = ((first + (2 * root + 1) + 1 : Nat) : Int) := by rw [wid (by omega) (by omega)]; omega
    have w7 : IntKind.wrap .i64 ((first : Int) + (root : Int)) = ((first + root : Nat) : Int) := by rw [wid (by omega) (by omega)]; omega
    rw [w1, w2, w3, w4, w5, w6, w7]
    rw [siftDown] at k
    have low : ∀ (h : Heap), Da g0 B m n sp h d → 2 * root + 1 < hi →
        (∀ h', Da g0 B m n sp h' (if !ltO left d[first + root]! d[first + (2 * root + 1)]! then d else siftDown (ltO left) hi first (2 * root + 1) (swp d (first + root) (first + (2 * root + 1)))) → K (tuple #[]) h') →
        ∀ h', Da g0 B m n sp h' d → Br (!ltO left d[first + root]! d[first + (2 * root + 1)]!) (Ret h' K (tuple #[])) (∀ h'', Da g0 B m n sp h'' (swp d (first + root) (first + (2 * root + 1))) → L_slices_siftDownCmpFunc_int_0 (some ⟨B, 0, none⟩) n c (hi : Int) (first : Int) lp m lc ((2 * root + 1 : Nat) : Int) h'' K) := by
      intro h D g k h' D'
      refine Br.intro (fun g2 => ?_) fun g2 => fun h'' D'' => ?_
      · rw [if_pos g2] at k; exact Ret.mk (k h' D')
      · rw [if_neg (by rw [g2]; simp)] at k
        exact ih _ h'' _ (by omega) (by omega) D'' k
    refine Br.dec (fun g => ?_) fun g => ?_
    · rw [dif_pos (by omega)] at k
      exact Ret.mk (k h D)
    rw [dif_neg (by omega)] at k
    refine Br.dec (fun g1 => lessA D hm I rfl rfl (by omega) (by omega) fun h' D' => Br.intro (fun g2 => ?_) fun g2 => ?_) fun g1 => ?_
    · rw [if_pos (by rw [g2, Bool.and_true]; exact decide_eq_true (by omega))] at k
      refine lessN D' hm I rfl rfl (by omega) (by omega) fun h2 D2 => Br.intro (fun g3 => ?_) fun g3 => ?_
      · rw [if_pos g3] at k; exact Ret.mk (k h2 D2)
      rw [if_neg (by rw [g3]; simp), dif_pos (by omega)] at k
      exact swapA (J := fun h => L_slices_siftDownCmpFunc_int_0 (some ⟨B, 0, none⟩) n c (hi : Int) (first : Int) lp m lc ((2 * root + 2 : Nat) : Int) h K) D2 e0 rfl rfl (by omega) (by omega) fun h3 D3 => ih _ h3 _ (by omega) (by omega) D3 k
    · rw [if_neg (by rw [g2, Bool.and_false]; simp)] at k
      refine lessN D' hm I rfl rfl (by omega) (by omega) fun h2 D2 => Br.intro (fun g3 => ?_) fun g3 => ?_
      · rw [if_pos g3] at k; exact Ret.mk (k h2 D2)
      rw [if_neg (by rw [g3]; simp)] at k
      exact swapA (J := fun h => L_slices_siftDownCmpFunc_int_0 (some ⟨B, 0, none⟩) n c (hi : Int) (first : Int) lp m lc ((2 * root + 1 : Nat) : Int) h K) D2 e0 rfl rfl (by omega) (by omega) fun h3 D3 => ih _ h3 _ (by omega) (by omega) D3 k
    · rw [if_neg (by rw [decide_eq_false (by omega)]; simp)] at k
      refine lessN D hm I rfl rfl (by omega) (by omega) fun h2 D2 => Br.intro (fun g3 => ?_) fun g3 => ?_
      · rw [if_pos g3] at k; exact Ret.mk (k h2 D2)
      rw [if_neg (by rw [g3]; simp)] at k
      exact swapA (J := fun h => L_slices_siftDownCmpFunc_int_0 (some ⟨B, 0, none⟩) n c (hi : Int) (first : Int) lp m lc ((2 * root + 1 : Nat) : Int) h K) D2 e0 rfl rfl (by omega) (by omega) fun h3 D3 => ih _ h3 _ (by omega) (by omega) D3 k
theorem S_sift {h : Heap} {d : Array Int} {lo hi first : Nat} (hf : first + hi ≤ n) (hl : lo ≤ 1000000) (D : Da g0 B m n sp h d) (k : ∀ h', Da g0 B m n sp h' (siftDown (ltO left) hi first lo d) → K (tuple #[]) h') :
    CallA Try.prog fn_slices_siftDownCmpFunc_int [slice (some ⟨B, 0, none⟩) n c, .int .i64 (lo : Int), .int .i64 (hi : Int), .int .i64 (first : Int), func (Fn.func fn_split_by_order) #[agg #[slice lp m lc]] #[]] h K := by
  refine F_slices_siftDownCmpFunc_int _ _ _ _ _ _ _ _ _ _ _ ?_
  unfold F_slices_siftDownCmpFunc_intT
  exact sift_in e0 hm I hn hf _ _ _ _ (Nat.le_refl _) hl D k
theorem heap_pop {first : Nat} : ∀ (q : Nat) (h : Heap) (d : Array Int), first + q ≤ n → Da g0 B m n sp h d →
    (∀ h', Da g0 B m n sp h' (heapPop (ltO left) first q d) → K (tuple #[]) h') →
    L_slices_heapSortCmpFunc_int_1 (some ⟨B, 0, none⟩) n c lp m lc (first : Int) 0 ((q : Int) - 1) h K := by
  intro q
  induction q with
  | zero =>
    intro h d hf D k
    refine L_slices_heapSortCmpFunc_int_1r _ _ _ _ _ _ _ _ _ _ _ ?_
    unfold L_slices_heapSortCmpFunc_int_1T
    exact Br.no (by decide) (Ret.mk (k h D))
  | succ q ih =>
    intro h d hf D k
    refine L_slices_heapSortCmpFunc_int_1r _ _ _ _ _ _ _ _ _ _ _ ?_
    unfold L_slices_heapSortCmpFunc_int_1T
    have w0 : (((q + 1 : Nat) : Int) - 1) = (q : Int) := by omega
    have w1 : IntKind.wrap .i64 ((first : Int) + (q : Int)) = ((first + q : Nat) : Int) := by rw [wid (by omega) (by omega)]; omega
    have w2 : IntKind.wrap .i64 ((q : Int) - 1) = (q : Int) - 1 := wid (by omega) (by omega)
    rw [w0, w1, w2]
    rw [heapPop] at k
    refine Br.yes (decide_eq_true (by omega)) (swapA (J := fun h => CallA Try.prog fn_slices_siftDownCmpFunc_int [slice (some ⟨B, 0, none⟩) n c, .int .i64 0, .int .i64 (q : Int), .int .i64 (first : Int), func (Fn.func fn_split_by_order) #[agg #[slice lp m lc]] #[]] h fun v h => v = tuple #[] ∧ L_slices_heapSortCmpFunc_int_1 (some ⟨B, 0, none⟩) n c lp m lc (first : Int) 0 ((q : Int) - 1) h K) D e0 rfl rfl (by omega) (by omega) fun h1 D1 => ?_)
    exact S_sift (lo := 0) e0 hm I hn (by omega) (by omega) D1 fun h2 D2 => ⟨rfl, ih h2 _ (by omega) D2 k⟩
theorem heap_build {first hi : Nat} (hf : first + hi ≤ n) : ∀ (q : Nat) (h : Heap) (d : Array Int), q ≤ 1000000 → Da g0 B m n sp h d →
    (∀ h', Da g0 B m n sp h' (heapPop (ltO left) first hi (heapBuild (ltO left) hi first q d)) → K (tuple #[]) h') →
    L_slices_heapSortCmpFunc_int_0 (some ⟨B, 0, none⟩) n c lp m lc (first : Int) 0 (hi : Int) ((q : Int) - 1) h K := by
  intro q
  induction q with
  | zero =>
    intro h d hq D k
    refine L_slices_heapSortCmpFunc_int_0r _ _ _ _ _ _ _ _ _ _ _ _ ?_
    unfold L_slices_heapSortCmpFunc_int_0T
    rw [wid (x := (hi : Int) - 1) (by omega) (by omega)]
    rw [heapBuild] at k
    exact Br.no (by decide) (heap_pop e0 hm I hn _ _ _ hf D k)
  | succ q ih =>
    intro h d hq D k
    refine L_slices_heapSortCmpFunc_int_0r _ _ _ _ _ _ _ _ _ _ _ _ ?_
    unfold L_slices_heapSortCmpFunc_int_0T
    have w0 : (((q + 1 : Nat) : Int) - 1) = (q : Int) := by omega
    have w2 : IntKind.wrap .i64 ((q : Int) - 1) = (q : Int) - 1 := wid (by omega) (by omega)
    rw [w0, w2]
    rw [heapBuild] at k
    refine Br.yes (decide_eq_true (by omega)) ?_
    exact S_sift (lo := q) e0 hm I hn hf (by omega) D fun h2 D2 => ⟨rfl, ih h2 _ (by omega) D2 k⟩
theorem S_heap {h : Heap} {d : Array Int} {a b : Nat} (hab : a < b) (hb : b ≤ n) (D : Da g0 B m n sp h d) (k : ∀ h', Da g0 B m n sp h' (heapSort (ltO left) d a b) → K (tuple #[]) h') :
    CallA Try.prog fn_slices_heapSortCmpFunc_int [slice (some ⟨B, 0, none⟩) n c, .int .i64 (a : Int), .int .i64 (b : Int), func (Fn.func fn_split_by_order) #[agg #[slice lp m lc]] #[]] h K := by
  refine F_slices_heapSortCmpFunc_int _ _ _ _ _ _ _ _ _ _ ?_
  unfold F_slices_heapSortCmpFunc_intT
  have w1 : IntKind.wrap .i64 ((b : Int) - (a : Int)) = ((b - a : Nat) : Int) := by rw [wid (by omega) (by omega)]; omega
  have w2 : IntKind.wrap .i64 (((b - a : Nat) : Int) - 1) = ((b - a - 1 : Nat) : Int) := by rw [wid (by omega) (by omega)]; omega
  have w3 : Int.tdiv ((b - a - 1 : Nat) : Int) 2 = (((b - a - 1) / 2 + 1 : Nat) : Int) - 1 := by
    rw [Int.tdiv_eq_ediv_of_nonneg (by omega)]; omega
  rw [w1, w2, w3, wid (by omega) (by omega)]
  unfold heapSort at k
  exact heap_build e0 hm I hn (by omega) _ _ _ (by omega) D k
/-! turned about -/
omit hm I in
theorem rev_in : ∀ (q i j : Nat) (h : Heap) (d : Array Int), j - i ≤ q → i ≤ 1000000 → j < n → Da g0 B m n sp h d →
    (∀ h', Da g0 B m n sp h' (reverseLoop i j d) → K (tuple #[]) h') →
    L_slices_reverseRangeCmpFunc_int_0 (some ⟨B, 0, none⟩) n c (i : Int) (j : Int) h K := by
  intro q
  induction q with
  | zero =>
    intro i j h d hq hi hj D k
    refine L_slices_reverseRangeCmpFunc_int_0r _ _ _ _ _ _ _ ?_
    unfold L_slices_reverseRangeCmpFunc_int_0T
    rw [reverseLoop, if_neg (by omega)] at k
    exact Br.no (decide_eq_false (by omega)) (Ret.mk (k h D))
  | succ q ih =>
    intro i j h d hq hi hj D k
    refine L_slices_reverseRangeCmpFunc_int_0r _ _ _ _ _ _ _ ?_
    unfold L_slices_reverseRangeCmpFunc_int_0T
    rw [reverseLoop] at k
    refine Br.dec (fun g => ?_) fun g => ?_
    · rw [if_pos (by omega)] at k
      have w2 : IntKind.wrap .i64 ((j : Int) - 1) = ((j - 1 : Nat) : Int) := by rw [wid (by omega) (by omega)]; omega
      rw [wp1 (by omega), w2]
      exact swapA (J := fun h => L_slices_reverseRangeCmpFunc_int_0 (some ⟨B, 0, none⟩) n c ((i + 1 : Nat) : Int) ((j - 1 : Nat) : Int) h K) D e0 rfl rfl (by omega) (by omega) fun h1 D1 => ih _ _ h1 _ (by omega) (by omega) (by omega) D1 k
    · rw [if_neg (by omega)] at k
      exact Ret.mk (k h D)
omit hm I in
theorem S_reverse {h : Heap} {d : Array Int} {a b : Nat} (hab : a < b) (hb : b ≤ n) (D : Da g0 B m n sp h d) (k : ∀ h', Da g0 B m n sp h' (reverseRange d a b) → K (tuple #[]) h') :
    CallA Try.prog fn_slices_reverseRangeCmpFunc_int [slice (some ⟨B, 0, none⟩) n c, .int .i64 (a : Int), .int .i64 (b : Int), func (Fn.func fn_split_by_order) #[agg #[slice lp m lc]] #[]] h K := by
  refine F_slices_reverseRangeCmpFunc_int _ _ _ _ _ _ _ _ _ _ ?_
  unfold F_slices_reverseRangeCmpFunc_intT
  have w2 : IntKind.wrap .i64 ((b : Int) - 1) = ((b - 1 : Nat) : Int) := by rw [wid (by omega) (by omega)]; omega
  rw [w2]
  exact rev_in e0 hn _ _ _ _ _ (Nat.le_refl _) (by omega) (by omega) D k
end
end Go.Proofs.Ytghdadniddoboaa
