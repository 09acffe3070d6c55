/- Who gets one more first: the order, and a list that is put in it, in memory. -/
import Derived.Test.YtghdadniddoboaaEqSpOrd
import Derived.Test.YtghdadniddoboaaGen
import Derived.Sort.AssemblyPlain
namespace Go.Proofs.Ytghdadniddoboaa
open Go Go.Sy Go.Value
set_option linter.unusedVariables false
set_option linter.unusedSimpArgs false

def cmpI (x y : Int) : Int := if x < y then -1 else if x > y then 1 else 0
def ordV (left : List Int) (i k : Int) : Int :=
  if cmpI (left.getD k.toNat 0) (left.getD i.toNat 0) = 0 then cmpI i k else cmpI (left.getD k.toNat 0) (left.getD i.toNat 0)
def ltO (left : List Int) (i k : Int) : Bool := decide (ordV left i k < 0)
theorem cmpI_lt {x y : Int} : cmpI x y < 0 ↔ x < y := by unfold cmpI; split <;> (try split) <;> omega
theorem cmpI_eq {x y : Int} : cmpI x y = 0 ↔ x = y := by unfold cmpI; split <;> (try split) <;> omega
theorem ltO_iff {left : List Int} {i k : Int} : ltO left i k = true ↔ left.getD k.toNat 0 < left.getD i.toNat 0 ∨ (left.getD k.toNat 0 = left.getD i.toNat 0 ∧ i < k) := by
  unfold ltO ordV
  rw [decide_eq_true_eq]
  split
  · rename_i e; rw [cmpI_eq] at e; rw [cmpI_lt]; omega
  · rename_i e; rw [cmpI_eq] at e; rw [cmpI_lt]; omega
theorem ltO_no {left : List Int} {i k : Int} : ltO left i k = false ↔ left.getD i.toNat 0 < left.getD k.toNat 0 ∨ (left.getD i.toNat 0 = left.getD k.toNat 0 ∧ k ≤ i) := by
  rw [← Bool.not_eq_true, ltO_iff]; omega
theorem swoO (left : List Int) : Go.Sort.SWO (ltO left) where
  irrefl x := by rw [ltO_no]; omega
  trans x y z := by rw [ltO_iff, ltO_iff, ltO_iff]; omega
  ntrans x y z := by rw [ltO_no, ltO_no, ltO_no]; omega
theorem totO (left : List Int) (x y : Int) (h1 : ltO left x y = false) (h2 : ltO left y x = false) : x = y := by
  rw [ltO_no] at h1 h2; omega

section
variable {h : Heap} {K : Value → Heap → Prop}
theorem S_nan {x : Int} (k : K (.bool false) h) : CallA Try.prog fn_cmp_isNaN_int64 [.int .i64 x] h K := by
  refine F_cmp_isNaN_int64 _ _ _ ?_
  unfold F_cmp_isNaN_int64T
  refine Ret.mk ?_
  rw [show (x != x) = false by simp]; exact k
theorem S_nan2 {x : Int} (k : K (.bool false) h) : CallA Try.prog fn_cmp_isNaN_int [.int .i64 x] h K := by
  refine F_cmp_isNaN_int _ _ _ ?_
  unfold F_cmp_isNaN_intT
  refine Ret.mk ?_
  rw [show (x != x) = false by simp]; exact k
theorem S_cmp {x y : Int} (k : K (.int .i64 (cmpI x y)) h) : CallA Try.prog fn_cmp_Compare_int64 [.int .i64 x, .int .i64 y] h K := by
  refine F_cmp_Compare_int64 _ _ _ _ ?_
  unfold F_cmp_Compare_int64T
  unfold cmpI at k
  refine S_nan ⟨_, rfl, S_nan ⟨_, rfl, Br.no rfl (Br.no rfl (Br.dec (fun g => ?_) fun g => Br.dec (fun g2 => ?_) fun g2 => ?_))⟩⟩
  · rw [if_pos g] at k; exact Ret.mk k
  · rw [if_neg g, if_pos g2] at k; exact Ret.mk k
  · rw [if_neg g, if_neg g2] at k; exact Ret.mk k
theorem S_cmp2 {x y : Int} (k : K (.int .i64 (cmpI x y)) h) : CallA Try.prog fn_cmp_Compare_int [.int .i64 x, .int .i64 y] h K := by
  refine F_cmp_Compare_int _ _ _ _ ?_
  unfold F_cmp_Compare_intT
  unfold cmpI at k
  refine S_nan2 ⟨_, rfl, S_nan2 ⟨_, rfl, Br.no rfl (Br.no rfl (Br.dec (fun g => ?_) fun g => Br.dec (fun g2 => ?_) fun g2 => ?_))⟩⟩
  · rw [if_pos g] at k; exact Ret.mk k
  · rw [if_neg g, if_pos g2] at k; exact Ret.mk k
  · rw [if_neg g, if_neg g2] at k; exact Ret.mk k
theorem S_or2 {p : Option Addr} {a b : Int} (I : Ints .i64 h p [a, b]) (k : K (.int .i64 (if a = 0 then b else a)) h) : CallA Try.prog fn_cmp_Or_int [slice p 2 2] h K := by
  refine F_cmp_Or_int _ _ _ _ _ ?_
  unfold F_cmp_Or_intT
  refine L_cmp_Or_int_0r _ _ _ _ _ _ _ _ ?_
  unfold L_cmp_Or_int_0T
  refine Br.yes (by decide) (ix I rfl (j := 0) rfl rfl (Br.intro (fun g => ?_) fun g => ?_))
  · rw [if_neg (by simpa using g)] at k; exact Ret.mk k
  rw [if_pos (by simpa using g)] at k
  refine L_cmp_Or_int_0r _ _ _ _ _ _ _ _ ?_
  unfold L_cmp_Or_int_0T
  rw [show IntKind.wrap .i64 (0 + 1) = 1 by decide]
  refine Br.yes (by decide) (ix I rfl (j := 1) rfl rfl (Br.intro (fun g => Ret.mk k) fun g => ?_))
  have g : b = 0 := by simpa using g
  refine L_cmp_Or_int_0r _ _ _ _ _ _ _ _ ?_
  unfold L_cmp_Or_int_0T
  rw [show IntKind.wrap .i64 (1 + 1) = 2 by decide]
  rw [g] at k
  exact Br.no (by decide) (Ret.mk k)
theorem S_order {lp : Option Addr} {lc : Nat} {left : List Int} (I : Ints .i64 h lp left) {i k' : Int} (hi : 0 ≤ i ∧ i < (left.length : Int)) (hk : 0 ≤ k' ∧ k' < (left.length : Int))
    (k : ∀ h', h.le h' → K (.int .i64 (ordV left i k')) h') : CallA Try.prog fn_split_by_order [agg #[slice lp left.length lc], .int .i64 i, .int .i64 k'] h K := by
  refine F_split_by_order _ _ _ _ _ _ _ ?_
  unfold F_split_by_orderT
  refine newB_at fun r h1 hr l1 A1 => ?_
  have c := A1.cell (o := 0) rfl
  have gi : ∀ x : Int, 0 ≤ x ∧ x < (left.length : Int) → left[x.toNat]? = some (left.getD x.toNat 0) := fun x hx => by
    rw [List.getD_eq_getElem?_getD, List.getElem?_eq_getElem (by omega)]; rfl
  refine ⟨lp, left.length, lc, c, ix (I.le l1) rfl (j := k'.toNat) (by omega) (gi k' hk) ⟨lp, left.length, lc, c, ix (I.le l1) rfl (j := i.toNat) (by omega) (gi i hi) (S_cmp ⟨_, rfl, S_cmp2 ⟨_, rfl, fun s hs => ?_⟩⟩)⟩⟩
  refine S_or2 (rdL_new _ _ _ _ _) ⟨_, rfl, Ret.mk ?_⟩
  exact k _ (Heap.le_trans l1 (le_ins hs))
end

/-- a list of ones own at B, that is put in order: g0 is all else -/
structure Da (g0 : Heap) (B m n : Nat) (sp : List Value) (h : Heap) (d : Array Int) : Prop where
  le : g0.le h
  at_ : At h B (intsV .i64 d.toList ++ sp)
  sz : d.size = n
  rg : ∀ x ∈ d.toList, 0 ≤ x ∧ x < (m : Int)
section
variable {g0 h : Heap} {B m n : Nat} {sp : List Value} {d : Array Int}
theorem bang {i : Nat} (h : i < d.size) : d[i]! = d.toList[i]'(by simpa using h) := by
  rw [getElem!_pos d i h]; simp
theorem Da.val (D : Da g0 B m n sp h d) {i : Nat} (hi : i < n) : 0 ≤ d[i]! ∧ d[i]! < (m : Int) := by
  have hi : i < d.size := by rw [D.sz]; exact hi
  rw [bang hi]; exact D.rg _ (List.getElem_mem _)
theorem Da.get (D : Da g0 B m n sp h d) {i : Nat} (hi : i < n) : h.cell B i = some (.int .i64 d[i]!) := by
  have hi : i < d.size := by rw [D.sz]; exact hi
  refine D.at_.cell ?_
  have hl : i < d.toList.length := by simpa using hi
  rw [List.getElem?_append_left (by rw [intsV_length]; exact hl), intsV_map, List.getElem?_map, List.getElem?_eq_getElem hl, bang hi]; rfl
theorem Da.mv (D : Da g0 B m n sp h d) {h' : Heap} (l : h.le h') : Da g0 B m n sp h' d := ⟨Heap.le_trans D.le l, D.at_.le l, D.sz, D.rg⟩
theorem setL_i1 {l : List Int} {sp : List Value} {c : Nat} {v : Int} (h : c < l.length) : setL (intsV .i64 l ++ sp) c [.int .i64 v] = intsV .i64 (l.set c v) ++ sp := by
  rw [setL, setL, setT_eq, List.set_append_left _ _ (by rw [intsV_length]; omega), intsV_map, intsV_map, List.map_set]
theorem Da.st (D : Da g0 B m n sp h d) (e0 : g0 B = none) {i : Nat} {x : Int} (hi : i < n) (hx : 0 ≤ x ∧ x < (m : Int)) : Da g0 B m n sp (h.setN B i [.int .i64 x]) (d.setIfInBounds i x) := by
  refine ⟨le_setN D.le e0, ?_, by simpa using D.sz, fun y hy => ?_⟩
  · have := D.at_.set (o := i) (ws := [.int .i64 x])
    rw [setL_i1 (by simpa [D.sz] using hi)] at this
    simpa using this
  · simp only [Array.toList_setIfInBounds] at hy
    rcases List.mem_or_eq_of_mem_set hy with hy | hy
    · exact D.rg _ hy
    · subst hy; exact hx
theorem Da.can (D : Da g0 B m n sp h d) {i : Nat} (hi : i < n) : h.canSt B i 1 := D.at_.canSt (by rw [List.length_append, intsV_length]; have := D.sz; simp; omega)
/-- two of it are compared -/
theorem lessA (D : Da g0 B m n sp h d) {left : List Int} (hm : left.length = m) {lp : Option Addr} {lc : Nat} (I : Ints .i64 g0 lp left) {X Y : Int} {i j : Nat} (hX : X = (i : Int)) (hY : Y = (j : Int)) (hi : i < n) (hj : j < n) {P Q : Heap → Prop}
    (k : ∀ h', Da g0 B m n sp h' d → Br (ltO left d[i]! d[j]!) (P h') (Q h')) :
    (0 : Int) ≤ X ∧ X < (n : Int) ∧ withAddr (some ⟨B, 0, none⟩) fun b o => ∃ x, h.cell b (o + X.toNat) = some (.int .i64 x) ∧ (0 : Int) ≤ Y ∧ Y < (n : Int) ∧ withAddr (some ⟨B, 0, none⟩) fun b o => ∃ y, h.cell b (o + Y.toNat) = some (.int .i64 y) ∧
      CallA Try.prog fn_split_by_order [agg #[slice lp m lc], .int .i64 x, .int .i64 y] h fun v h => ∃ r, v = .int .i64 r ∧ Br (decide (r < 0)) (P h) (Q h) := by
  subst hX hY hm
  refine ⟨by omega, by omega, withAddr_intro rfl ⟨d[i]!, by rw [Int.toNat_natCast, Nat.zero_add]; exact D.get hi, by omega, by omega, withAddr_intro rfl ⟨d[j]!, by rw [Int.toNat_natCast, Nat.zero_add]; exact D.get hj, ?_⟩⟩⟩
  exact S_order (I.le D.le) (D.val hi) (D.val hj) fun h' l' => ⟨_, rfl, k h' (D.mv l')⟩
theorem lessN (D : Da g0 B m n sp h d) {left : List Int} (hm : left.length = m) {lp : Option Addr} {lc : Nat} (I : Ints .i64 g0 lp left) {X Y : Int} {i j : Nat} (hX : X = (i : Int)) (hY : Y = (j : Int)) (hi : i < n) (hj : j < n) {P Q : Heap → Prop}
    (k : ∀ h', Da g0 B m n sp h' d → Br (!ltO left d[i]! d[j]!) (P h') (Q h')) :
    (0 : Int) ≤ X ∧ X < (n : Int) ∧ withAddr (some ⟨B, 0, none⟩) fun b o => ∃ x, h.cell b (o + X.toNat) = some (.int .i64 x) ∧ (0 : Int) ≤ Y ∧ Y < (n : Int) ∧ withAddr (some ⟨B, 0, none⟩) fun b o => ∃ y, h.cell b (o + Y.toNat) = some (.int .i64 y) ∧
      CallA Try.prog fn_split_by_order [agg #[slice lp m lc], .int .i64 x, .int .i64 y] h fun v h => ∃ r, v = .int .i64 r ∧ Br (!decide (r < 0)) (P h) (Q h) := by
  subst hX hY hm
  refine ⟨by omega, by omega, withAddr_intro rfl ⟨d[i]!, by rw [Int.toNat_natCast, Nat.zero_add]; exact D.get hi, by omega, by omega, withAddr_intro rfl ⟨d[j]!, by rw [Int.toNat_natCast, Nat.zero_add]; exact D.get hj, ?_⟩⟩⟩
  exact S_order (I.le D.le) (D.val hi) (D.val hj) fun h' l' => ⟨_, rfl, k h' (D.mv l')⟩
/-- two of it are swapped -/
theorem swapA (D : Da g0 B m n sp h d) (e0 : g0 B = none) {X Y : Int} {i j : Nat} (hX : X = (i : Int)) (hY : Y = (j : Int)) (hi : i < n) (hj : j < n) {J : Heap → Prop}
    (k : ∀ h', Da g0 B m n sp h' (Go.Sort.swp d j i) → J h') :
    (0 : Int) ≤ X ∧ X < (n : Int) ∧ withAddr (some ⟨B, 0, none⟩) fun b o => ∃ x, h.cell b (o + X.toNat) = some (.int .i64 x) ∧ (0 : Int) ≤ Y ∧ Y < (n : Int) ∧ withAddr (some ⟨B, 0, none⟩) fun b o => ∃ y, h.cell b (o + Y.toNat) = some (.int .i64 y) ∧
      (0 : Int) ≤ Y ∧ Y < (n : Int) ∧ withAddr (some ⟨B, 0, none⟩) fun b o => h.canSt b (o + Y.toNat) 1 ∧ (0 : Int) ≤ X ∧ X < (n : Int) ∧ withAddr (some ⟨B, 0, none⟩) fun b1 o1 => (h.setN b (o + Y.toNat) [.int .i64 x]).canSt b1 (o1 + X.toNat) 1 ∧
        J ((h.setN b (o + Y.toNat) [.int .i64 x]).setN b1 (o1 + X.toNat) [.int .i64 y]) := by
  subst hX hY
  have D1 := D.st e0 hj (D.val hi)
  have D2 := D1.st e0 hi (D.val hj)
  have e : ∀ z : Nat, 0 + ((z : Nat) : Int).toNat = z := fun z => by rw [Int.toNat_natCast, Nat.zero_add]
  refine ⟨by omega, by omega, withAddr_intro rfl ⟨d[i]!, by rw [e]; exact D.get hi, by omega, by omega, withAddr_intro rfl ⟨d[j]!, by rw [e]; exact D.get hj, by omega, by omega, withAddr_intro rfl ⟨by rw [e]; exact D.can hj, by omega, by omega, withAddr_intro rfl ⟨by rw [e, e]; exact D1.can hi, ?_⟩⟩⟩⟩⟩
  rw [e, e]
  exact k _ D2
end
end Go.Proofs.Ytghdadniddoboaa
