import Derived.Test.YtjihfieahkbohaaM08
import Derived.Test.YtjihfieahkbohaaM04
import Derived.Sort.AssemblyPlain
/- Entries put in order by the how-manieth they were to be matched: the order, and a list of them in memory. -/
namespace Go.Proofs.Ytjihfieahkbohaa
open Go Go.Sy Go.Value
set_option linter.unusedVariables false
set_option linter.unusedSimpArgs false

def en0 : En := ⟨⟨0, 0, 0, 0, 0, 0, 0⟩, 0, 0, 0⟩
def enAt (F : List En) (i : Int) : En := F.getD i.toNat en0
def ltOE (F : List En) (i k : Int) : Bool := decide ((enAt F i).ord < (enAt F k).ord)
theorem swoOE (F : List En) : Go.Sort.SWO (ltOE F) where
  irrefl x := by unfold ltOE; rw [decide_eq_false_iff_not]; omega
  trans x y z := by unfold ltOE; rw [decide_eq_true_eq, decide_eq_true_eq, decide_eq_true_eq]; omega
  ntrans x y z := by unfold ltOE; rw [decide_eq_false_iff_not, decide_eq_false_iff_not, decide_eq_false_iff_not]; omega
def lstI (F : List En) (d : List Int) : List En := d.map (enAt F)
theorem lstI_len (F : List En) (d : List Int) : (lstI F d).length = d.length := List.length_map ..
def iota (n : Nat) : List Int := (List.range n).map fun (i : Nat) => (i : Int)
theorem iota_len (n : Nat) : (iota n).length = n := by unfold iota; rw [List.length_map, List.length_range]
theorem lstI_iota (F : List En) : lstI F (iota F.length) = F := by
  refine List.ext_getElem? fun i => ?_
  unfold lstI iota
  rw [List.getElem?_map, List.getElem?_map]
  by_cases h : i < F.length
  · rw [List.getElem?_range h]
    simp only [Option.map_some, enAt, Int.toNat_natCast]
    rw [List.getD_eq_getElem?_getD, List.getElem?_eq_getElem h]; rfl
  · rw [List.getElem?_eq_none (by rw [List.length_range]; omega), List.getElem?_eq_none (by omega)]; rfl
theorem getE? {d : Array Int} {i : Nat} (h : i < d.size) : d.toList[i]? = some d[i]! := by
  rw [List.getElem?_eq_getElem (by simpa using h), getElem!_pos d i h]; simp
/-- what comes out of it -/
theorem sort_list {F : List En} {n : Nat} {d : Array Int} (hn : F.length = n) (hp : Go.Sort.PermIn 0 n (iota n).toArray d) (hs : Go.Sort.SortedIn (ltOE F) 0 n d) :
    (lstI F d.toList).Perm F ∧ (lstI F d.toList).Pairwise fun x y => x.ord ≤ y.ord := by
  have hz : d.size = n := by rw [hp.1]; simp [iota_len]
  constructor
  · have h1 := hp.2.2
    have e1 : (d.extract 0 n).toList = d.toList := by rw [← hz]; simp
    have e2 : ((iota n).toArray.extract 0 n).toList = iota n := by
      have := iota_len n
      simp [List.take_of_length_le (Nat.le_of_eq this)]
    rw [e1, e2] at h1
    have h2 := h1.map (enAt F)
    rw [← hn] at h2
    have h3 := lstI_iota F
    unfold lstI at h3 ⊢
    rw [h3] at h2
    exact h2
  · unfold lstI
    rw [List.pairwise_map, List.pairwise_iff_getElem]
    intro i j hi hj hij
    have hi' : i < d.size := by simpa using hi
    have hj' : j < d.size := by simpa using hj
    have := hs i j (Nat.zero_le _) hij (by omega)
    unfold ltOE at this
    rw [decide_eq_false_iff_not, getElem!_pos d i hi', getElem!_pos d j hj'] at this
    have e1 : d.toList[i] = d[i] := by simp
    have e2 : d.toList[j] = d[j] := by simp
    rw [e1, e2]; omega

/-- a list of ones own at B, that is put in order: g0 is all else -/
structure DaE (F : List En) (g0 : Heap) (B m n : Nat) (sp : List Value) (h : Heap) (d : Array Int) : Prop where
  le : g0.le h
  at_ : At h B ((lstI F d.toList).flatMap eV ++ sp)
  sz : d.size = n
  rg : m = m
section
variable {F : List En} {g0 h : Heap} {B m n : Nat} {sp : List Value} {d : Array Int}
theorem DaE.el (D : DaE F g0 B m n sp h d) {i : Nat} (hi : i < n) : (lstI F d.toList)[i]? = some (enAt F d[i]!) := by
  have hi : i < d.size := by rw [D.sz]; exact hi
  unfold lstI
  rw [List.getElem?_map, getE? hi]; rfl
theorem DaE.get (D : DaE F g0 B m n sp h d) {i o : Nat} (hi : i < n) (ho : o < 10) : h.cell B (i * 10 + o) = (eV (enAt F d[i]!))[o]? := by
  have g := arr_get eV_len _ i o _ (D.el hi) ho
  have hlt : o < (eV (enAt F d[i]!)).length := ho
  have hs := D.sz
  rw [List.getElem?_eq_getElem hlt] at g ⊢
  refine D.at_.cell ?_
  rw [List.getElem?_append_left (by rw [arr_len eV_len, lstI_len]; simp only [Array.length_toList]; omega), g]
theorem DaE.mv (D : DaE F g0 B m n sp h d) {h' : Heap} (l : h.le h') : DaE F g0 B m n sp h' d := ⟨Heap.le_trans D.le l, D.at_.le l, D.sz, rfl⟩
theorem DaE.st (D : DaE F g0 B m n sp h d) (e0 : g0 B = none) {i : Nat} {x : Int} (hi : i < n) : DaE F g0 B m n sp (h.setN B (i * 10) (eV (enAt F x))) (d.setIfInBounds i x) := by
  have hs := D.sz
  refine ⟨le_setN D.le e0, ?_, by simpa using D.sz, rfl⟩
  have := D.at_.set (o := i * 10 + 0) (ws := eV (enAt F x))
  rw [setL_row (D.el hi) (by rw [eV_len]; omega) (y := enAt F x) rfl] at this
  have e : (lstI F d.toList).set i (enAt F x) = lstI F (d.setIfInBounds i x).toList := by
    unfold lstI
    rw [Array.toList_setIfInBounds, List.map_set]
  rw [e] at this
  exact this
theorem DaE.can (D : DaE F g0 B m n sp h d) {i : Nat} (hi : i < n) : h.canSt B (i * 10) 10 := D.at_.canSt (by
  have := D.sz
  rw [List.length_append, arr_len eV_len, lstI_len]; simp only [Array.length_toList]; omega)
end
/-- an entry, loaded -/
theorem ldE {h : Heap} {x : En} {a b : Nat} {J : Int → Int → Int → Int → Int → Int → Int → Int → Int → Int → Prop} (hc : ∀ o, o < 10 → h.cell b (a + o) = (eV x)[o]?) (k : J x.d.id x.d.a x.d.b x.d.sc x.d.bc x.d.sell x.d.buy x.st x.ask x.ord) : LdJ10 h b a J :=
  ⟨_, hc 0 (by decide), _, hc 1 (by decide), _, hc 2 (by decide), _, hc 3 (by decide), _, hc 4 (by decide), _, hc 5 (by decide), _, hc 6 (by decide), _, hc 7 (by decide), _, hc 8 (by decide), _, hc 9 (by decide), k⟩
def eA (x : En) : Value := agg #[.int .i64 x.d.id, .int .i64 x.d.a, .int .i64 x.d.b, .int .i64 x.d.sc, .int .i64 x.d.bc, .int .i64 x.d.sell, .int .i64 x.d.buy, .int .i64 x.st, .int .i64 x.ask, .int .i64 x.ord]
def cmpI (x y : Int) : Int := if x < y then -1 else if x > y then 1 else 0
theorem cmpI_lt {x y : Int} : cmpI x y < 0 ↔ x < y := by unfold cmpI; split <;> (try split) <;> omega
section
variable {h : Heap} {K : Value → Heap → Prop}
theorem S_nanI {x : Int} (k : K (.bool false) h) : CallA Try.prog fn_cmp_isNaN_int [.int .i64 x] h K := by
  refine F_cmp_isNaN_int _ _ _ ?_
  unfold F_cmp_isNaN_intT
  refine Ret.mk ?_
  rw [show (x != x) = false by simp]; exact k
theorem S_cmpI {x y : Int} (k : K (.int .i64 (cmpI x y)) h) : CallA Try.prog fn_cmp_Compare_int [.int .i64 x, .int .i64 y] h K := by
  refine F_cmp_Compare_int _ _ _ _ ?_
  unfold F_cmp_Compare_intT
  unfold cmpI at k
  refine S_nanI ⟨_, rfl, S_nanI ⟨_, rfl, Br.no rfl (Br.no rfl (Br.dec (fun g => ?_) fun g => Br.dec (fun g2 => ?_) fun g2 => ?_))⟩⟩
  · rw [if_pos g] at k; exact Ret.mk k
  · rw [if_neg g, if_pos g2] at k; exact Ret.mk k
  · rw [if_neg g, if_neg g2] at k; exact Ret.mk k
theorem S_lessI {x y : Int} (k : K (.bool (decide (x < y))) h) : CallA Try.prog fn_cmp_Less_int [.int .i64 x, .int .i64 y] h K := by
  refine F_cmp_Less_int _ _ _ _ ?_
  unfold F_cmp_Less_intT
  exact S_nanI ⟨_, rfl, Br.no rfl (Ret.mk k)⟩
theorem S_cmpE {x y : En} (k : ∀ h', h.le h' → K (.int .i64 (cmpI x.ord y.ord)) h') : CallA Try.prog fn_pdeal_Book_All_1 [eA x, eA y] h K := by
  refine F_pdeal_Book_All_1 _ _ _ _ _ _ _ _ _ _ _ _ _ _ _ _ _ _ _ _ _ _ ?_
  unfold F_pdeal_Book_All_1T
  refine newB_at fun r1 h1 hr1 l1 A1 => newB_at fun r2 h2 hr2 l2 A2 => ?_
  exact ⟨_, (A1.le l2).cell rfl, _, A2.cell rfl, S_cmpI ⟨_, rfl, Ret.mk (k _ (Heap.le_trans l1 l2))⟩⟩
end
section
variable {F : List En} {g0 h : Heap} {B m n : Nat} {sp : List Value} {d : Array Int}
/-- two of it are compared -/
theorem lessAE (D : DaE F g0 B m n sp h d) (hm : F.length = m) (I : True) {X Y : Int} {i j : Nat} (hX : X = (i : Int)) (hY : Y = (j : Int)) (hi : i < n) (hj : j < n) {P Q : Heap → Prop}
    (k : ∀ h', DaE F g0 B m n sp h' d → Br (ltOE F d[i]! d[j]!) (P h') (Q h')) :
    (0 : Int) ≤ X ∧ X < (n : Int) ∧ withAddr (some ⟨B, 0, none⟩) fun b o => LdJ10 h b (o + X.toNat * 10) fun x0 x1 x2 x3 x4 x5 x6 x7 x8 x9 => (0 : Int) ≤ Y ∧ Y < (n : Int) ∧ withAddr (some ⟨B, 0, none⟩) fun b o => LdJ10 h b (o + Y.toNat * 10) fun y0 y1 y2 y3 y4 y5 y6 y7 y8 y9 =>
      CallA Try.prog fn_pdeal_Book_All_1 [agg #[.int .i64 x0, .int .i64 x1, .int .i64 x2, .int .i64 x3, .int .i64 x4, .int .i64 x5, .int .i64 x6, .int .i64 x7, .int .i64 x8, .int .i64 x9], agg #[.int .i64 y0, .int .i64 y1, .int .i64 y2, .int .i64 y3, .int .i64 y4, .int .i64 y5, .int .i64 y6, .int .i64 y7, .int .i64 y8, .int .i64 y9]] h fun v h => ∃ r, v = .int .i64 r ∧ Br (decide (r < 0)) (P h) (Q h) := by
  subst hX hY
  have e : ∀ z : Nat, 0 + ((z : Nat) : Int).toNat * 10 = z * 10 := fun z => by rw [Int.toNat_natCast, Nat.zero_add]
  refine ⟨by omega, by omega, withAddr_intro rfl ?_⟩
  rw [e]
  refine ldE (fun o ho => D.get hi ho) ⟨by omega, by omega, withAddr_intro rfl ?_⟩
  rw [e]
  refine ldE (fun o ho => D.get hj ho) ?_
  refine S_cmpE (x := enAt F d[i]!) (y := enAt F d[j]!) fun h' l' => ⟨_, rfl, ?_⟩
  have := k h' (D.mv l')
  have e3 : ltOE F d[i]! d[j]! = decide (cmpI (enAt F d[i]!).ord (enAt F d[j]!).ord < 0) := by unfold ltOE; rw [decide_eq_decide]; exact cmpI_lt.symm
  rw [e3] at this
  exact this
theorem lessNE (D : DaE F g0 B m n sp h d) (hm : F.length = m) (I : True) {X Y : Int} {i j : Nat} (hX : X = (i : Int)) (hY : Y = (j : Int)) (hi : i < n) (hj : j < n) {P Q : Heap → Prop}
    (k : ∀ h', DaE F g0 B m n sp h' d → Br (!ltOE F d[i]! d[j]!) (P h') (Q h')) :
    (0 : Int) ≤ X ∧ X < (n : Int) ∧ withAddr (some ⟨B, 0, none⟩) fun b o => LdJ10 h b (o + X.toNat * 10) fun x0 x1 x2 x3 x4 x5 x6 x7 x8 x9 => (0 : Int) ≤ Y ∧ Y < (n : Int) ∧ withAddr (some ⟨B, 0, none⟩) fun b o => LdJ10 h b (o + Y.toNat * 10) fun y0 y1 y2 y3 y4 y5 y6 y7 y8 y9 =>
      CallA Try.prog fn_pdeal_Book_All_1 [agg #[.int .i64 x0, .int .i64 x1, .int .i64 x2, .int .i64 x3, .int .i64 x4, .int .i64 x5, .int .i64 x6, .int .i64 x7, .int .i64 x8, .int .i64 x9], agg #[.int .i64 y0, .int .i64 y1, .int .i64 y2, .int .i64 y3, .int .i64 y4, .int .i64 y5, .int .i64 y6, .int .i64 y7, .int .i64 y8, .int .i64 y9]] h fun v h => ∃ r, v = .int .i64 r ∧ Br (!decide (r < 0)) (P h) (Q h) := by
  subst hX hY
  have e : ∀ z : Nat, 0 + ((z : Nat) : Int).toNat * 10 = z * 10 := fun z => by rw [Int.toNat_natCast, Nat.zero_add]
  refine ⟨by omega, by omega, withAddr_intro rfl ?_⟩
  rw [e]
  refine ldE (fun o ho => D.get hi ho) ⟨by omega, by omega, withAddr_intro rfl ?_⟩
  rw [e]
  refine ldE (fun o ho => D.get hj ho) ?_
  refine S_cmpE (x := enAt F d[i]!) (y := enAt F d[j]!) fun h' l' => ⟨_, rfl, ?_⟩
  have := k h' (D.mv l')
  have e3 : ltOE F d[i]! d[j]! = decide (cmpI (enAt F d[i]!).ord (enAt F d[j]!).ord < 0) := by unfold ltOE; rw [decide_eq_decide]; exact cmpI_lt.symm
  rw [e3] at this
  exact this
theorem lessRE (D : DaE F g0 B m n sp h d) (hm : F.length = m) (I : True) {r : Nat} {vs : List Value} (A : At h r vs) {X Y : Int} {i j : Nat} (hX : X = (i : Int)) (hY : Y = (j : Int)) (hi : i < n) (hj : j < n) {P Q : Heap → Prop}
    (k : ∀ h', DaE F g0 B m n sp h' d → At h' r vs → Br (ltOE F d[i]! d[j]!) (P h') (Q h')) :
    (0 : Int) ≤ X ∧ X < (n : Int) ∧ withAddr (some ⟨B, 0, none⟩) fun b o => LdJ10 h b (o + X.toNat * 10) fun x0 x1 x2 x3 x4 x5 x6 x7 x8 x9 => (0 : Int) ≤ Y ∧ Y < (n : Int) ∧ withAddr (some ⟨B, 0, none⟩) fun b o => LdJ10 h b (o + Y.toNat * 10) fun y0 y1 y2 y3 y4 y5 y6 y7 y8 y9 =>
      CallA Try.prog fn_pdeal_Book_All_1 [agg #[.int .i64 x0, .int .i64 x1, .int .i64 x2, .int .i64 x3, .int .i64 x4, .int .i64 x5, .int .i64 x6, .int .i64 x7, .int .i64 x8, .int .i64 x9], agg #[.int .i64 y0, .int .i64 y1, .int .i64 y2, .int .i64 y3, .int .i64 y4, .int .i64 y5, .int .i64 y6, .int .i64 y7, .int .i64 y8, .int .i64 y9]] h fun v h => ∃ r, v = .int .i64 r ∧ Br (decide (r < 0)) (P h) (Q h) := by
  subst hX hY
  have e : ∀ z : Nat, 0 + ((z : Nat) : Int).toNat * 10 = z * 10 := fun z => by rw [Int.toNat_natCast, Nat.zero_add]
  refine ⟨by omega, by omega, withAddr_intro rfl ?_⟩
  rw [e]
  refine ldE (fun o ho => D.get hi ho) ⟨by omega, by omega, withAddr_intro rfl ?_⟩
  rw [e]
  refine ldE (fun o ho => D.get hj ho) ?_
  refine S_cmpE (x := enAt F d[i]!) (y := enAt F d[j]!) fun h' l' => ⟨_, rfl, ?_⟩
  have := k h' (D.mv l') (A.le l')
  have e3 : ltOE F d[i]! d[j]! = decide (cmpI (enAt F d[i]!).ord (enAt F d[j]!).ord < 0) := by unfold ltOE; rw [decide_eq_decide]; exact cmpI_lt.symm
  rw [e3] at this
  exact this
/-- two of it are swapped -/
theorem swapAE (D : DaE F g0 B m n sp h d) (e0 : g0 B = none) {X Y : Int} {i j : Nat} (hX : X = (i : Int)) (hY : Y = (j : Int)) (hi : i < n) (hj : j < n) {J : Heap → Prop}
    (k : ∀ h', DaE F g0 B m n sp h' (Go.Sort.swp d j i) → J h') :
    (0 : Int) ≤ X ∧ X < (n : Int) ∧ withAddr (some ⟨B, 0, none⟩) fun b o => LdJ10 h b (o + X.toNat * 10) fun x0 x1 x2 x3 x4 x5 x6 x7 x8 x9 => (0 : Int) ≤ Y ∧ Y < (n : Int) ∧ withAddr (some ⟨B, 0, none⟩) fun b o => LdJ10 h b (o + Y.toNat * 10) fun y0 y1 y2 y3 y4 y5 y6 y7 y8 y9 =>
      (0 : Int) ≤ Y ∧ Y < (n : Int) ∧ withAddr (some ⟨B, 0, none⟩) fun b o => h.canSt b (o + Y.toNat * 10) 10 ∧ (0 : Int) ≤ X ∧ X < (n : Int) ∧ withAddr (some ⟨B, 0, none⟩) fun b1 o1 => (h.setN b (o + Y.toNat * 10) [.int .i64 x0, .int .i64 x1, .int .i64 x2, .int .i64 x3, .int .i64 x4, .int .i64 x5, .int .i64 x6, .int .i64 x7, .int .i64 x8, .int .i64 x9]).canSt b1 (o1 + X.toNat * 10) 10 ∧
        J ((h.setN b (o + Y.toNat * 10) [.int .i64 x0, .int .i64 x1, .int .i64 x2, .int .i64 x3, .int .i64 x4, .int .i64 x5, .int .i64 x6, .int .i64 x7, .int .i64 x8, .int .i64 x9]).setN b1 (o1 + X.toNat * 10) [.int .i64 y0, .int .i64 y1, .int .i64 y2, .int .i64 y3, .int .i64 y4, .int .i64 y5, .int .i64 y6, .int .i64 y7, .int .i64 y8, .int .i64 y9]) := by
  subst hX hY
  have D1 := D.st e0 hj (x := d[i]!)
  have D2 := D1.st e0 hi (x := d[j]!)
  have e : ∀ z : Nat, 0 + ((z : Nat) : Int).toNat * 10 = z * 10 := fun z => by rw [Int.toNat_natCast, Nat.zero_add]
  refine ⟨by omega, by omega, withAddr_intro rfl ?_⟩
  rw [e]
  refine ldE (fun o ho => D.get hi ho) ⟨by omega, by omega, withAddr_intro rfl ?_⟩
  rw [e]
  refine ldE (fun o ho => D.get hj ho) ⟨by omega, by omega, withAddr_intro rfl ?_⟩
  rw [e]
  refine ⟨D.can hj, by omega, by omega, withAddr_intro rfl ?_⟩
  rw [e]
  exact ⟨D1.can hi, k _ D2⟩
theorem swapRE (D : DaE F g0 B m n sp h d) (e0 : g0 B = none) {r : Nat} {vs : List Value} (A : At h r vs) (hbr : B ≠ r) {X Y : Int} {i j : Nat} (hX : X = (i : Int)) (hY : Y = (j : Int)) (hi : i < n) (hj : j < n) {J : Heap → Prop}
    (k : ∀ h', DaE F g0 B m n sp h' (Go.Sort.swp d j i) → At h' r vs → J h') :
    (0 : Int) ≤ X ∧ X < (n : Int) ∧ withAddr (some ⟨B, 0, none⟩) fun b o => LdJ10 h b (o + X.toNat * 10) fun x0 x1 x2 x3 x4 x5 x6 x7 x8 x9 => (0 : Int) ≤ Y ∧ Y < (n : Int) ∧ withAddr (some ⟨B, 0, none⟩) fun b o => LdJ10 h b (o + Y.toNat * 10) fun y0 y1 y2 y3 y4 y5 y6 y7 y8 y9 =>
      (0 : Int) ≤ Y ∧ Y < (n : Int) ∧ withAddr (some ⟨B, 0, none⟩) fun b o => h.canSt b (o + Y.toNat * 10) 10 ∧ (0 : Int) ≤ X ∧ X < (n : Int) ∧ withAddr (some ⟨B, 0, none⟩) fun b1 o1 => (h.setN b (o + Y.toNat * 10) [.int .i64 x0, .int .i64 x1, .int .i64 x2, .int .i64 x3, .int .i64 x4, .int .i64 x5, .int .i64 x6, .int .i64 x7, .int .i64 x8, .int .i64 x9]).canSt b1 (o1 + X.toNat * 10) 10 ∧
        J ((h.setN b (o + Y.toNat * 10) [.int .i64 x0, .int .i64 x1, .int .i64 x2, .int .i64 x3, .int .i64 x4, .int .i64 x5, .int .i64 x6, .int .i64 x7, .int .i64 x8, .int .i64 x9]).setN b1 (o1 + X.toNat * 10) [.int .i64 y0, .int .i64 y1, .int .i64 y2, .int .i64 y3, .int .i64 y4, .int .i64 y5, .int .i64 y6, .int .i64 y7, .int .i64 y8, .int .i64 y9]) := by
  subst hX hY
  have D1 := D.st e0 hj (x := d[i]!)
  have D2 := D1.st e0 hi (x := d[j]!)
  have e : ∀ z : Nat, 0 + ((z : Nat) : Int).toNat * 10 = z * 10 := fun z => by rw [Int.toNat_natCast, Nat.zero_add]
  refine ⟨by omega, by omega, withAddr_intro rfl ?_⟩
  rw [e]
  refine ldE (fun o ho => D.get hi ho) ⟨by omega, by omega, withAddr_intro rfl ?_⟩
  rw [e]
  refine ldE (fun o ho => D.get hj ho) ⟨by omega, by omega, withAddr_intro rfl ?_⟩
  rw [e]
  refine ⟨D.can hj, by omega, by omega, withAddr_intro rfl ?_⟩
  rw [e]
  exact ⟨D1.can hi, k _ D2 ((A.set_ne (Ne.symm hbr)).set_ne (Ne.symm hbr))⟩
end
end Go.Proofs.Ytjihfieahkbohaa

/- A list put in order: by insertion, by a heap; turned about. -/
namespace Go.Proofs.Ytjihfieahkbohaa
open Go Go.Sy Go.Value Go.Sort
set_option linter.unusedVariables false
set_option linter.unusedSimpArgs false

theorem wp1E {j : Nat} (h : j ≤ 4000000000) : IntKind.wrap .i64 ((j : Int) + 1) = ((j + 1 : Nat) : Int) := by rw [wrap_i64_id (by omega) (by omega)]; omega
theorem wm1E {j : Nat} (h : j ≤ 4000000000) : IntKind.wrap .i64 (((j + 1 : Nat) : Int) - 1) = (j : Int) := by rw [wrap_i64_id (by omega) (by omega)]; omega
theorem widE {x : Int} (h1 : -4000000000 ≤ x) (h2 : x ≤ 40000000000) : IntKind.wrap .i64 x = x := wrap_i64_id (by omega) (by omega)

section
variable {g0 : Heap} {B m n c : Nat} {sp : List Value} {left : List En} {K : Value → Heap → Prop} (e0 : g0 B = none) (hm : left.length = m) (I : True) (hn : n ≤ 1000000)
include e0 hm I hn
/-! by insertion -/
theorem ins_inE {a b i : Nat} (hi : i < n) : ∀ (j : Nat) (h : Heap) (d : Array Int), DaE left g0 B m n sp h d → j ≤ i →
    (∀ h', DaE left g0 B m n sp h' (insInner (ltOE left) a j d) → L_slices_insertionSortCmpFunc_deal_entry_0 (some ⟨B, 0, none⟩) n c (a : Int) (b : Int) ((i + 1 : Nat) : Int) h' K) →
    L_slices_insertionSortCmpFunc_deal_entry_1 (some ⟨B, 0, none⟩) n c (a : Int) (b : Int) (i : Int) (j : Int) h K := by
  intro j
  induction j with
  | zero =>
    intro h d D hj k
    refine L_slices_insertionSortCmpFunc_deal_entry_1r _ _ _ _ _ _ _ _ _ ?_
    unfold L_slices_insertionSortCmpFunc_deal_entry_1T
    rw [wp1E (by omega)]
    exact Br.no (by simp) (k h D)
  | succ j ih =>
    intro h d D hj k
    refine L_slices_insertionSortCmpFunc_deal_entry_1r _ _ _ _ _ _ _ _ _ ?_
    unfold L_slices_insertionSortCmpFunc_deal_entry_1T
    rw [wp1E (by omega), wm1E (by omega)]
    rw [insInner] at k
    refine Br.dec (fun g => lessAE D hm I rfl rfl (by omega) (by omega) fun h' D' => Br.intro (fun g2 => ?_) fun g2 => ?_) fun g => ?_
    · refine swapAE (J := fun h => L_slices_insertionSortCmpFunc_deal_entry_1 (some ⟨B, 0, none⟩) n c (a : Int) (b : Int) (i : Int) (j : Int) h K) D' e0 rfl rfl (by omega) (by omega) fun h'' D'' => ih h'' _ D'' (by omega) ?_
      rw [if_pos (by rw [g2, Bool.and_true]; exact decide_eq_true (by omega))] at k
      exact k
    · rw [if_neg (by rw [g2]; simp)] at k
      exact k h' D'
    · rw [if_neg (by simp; omega)] at k
      exact k h D
theorem ins_outE {a b : Nat} (hb : b ≤ n) : ∀ (q i : Nat) (h : Heap) (d : Array Int), b - i ≤ q → DaE left g0 B m n sp h d →
    (∀ h', DaE left g0 B m n sp h' (insOuter (ltOE left) a b i d) → K (tuple #[]) h') → i ≤ 2000000 →
    L_slices_insertionSortCmpFunc_deal_entry_0 (some ⟨B, 0, none⟩) n c (a : Int) (b : Int) (i : Int) h K := by
  intro q
  induction q with
  | zero =>
    intro i h d hq D k hi
    refine L_slices_insertionSortCmpFunc_deal_entry_0r _ _ _ _ _ _ _ _ ?_
    unfold L_slices_insertionSortCmpFunc_deal_entry_0T
    rw [insOuter, if_neg (by omega)] at k
    exact Br.no (by simp; omega) (Ret.mk (k h D))
  | succ q ih =>
    intro i h d hq D k hi
    refine L_slices_insertionSortCmpFunc_deal_entry_0r _ _ _ _ _ _ _ _ ?_
    unfold L_slices_insertionSortCmpFunc_deal_entry_0T
    rw [insOuter] at k
    refine Br.dec (fun g => ins_inE e0 hm I hn (by omega) i h d D (Nat.le_refl _) fun h' D' => ih (i + 1) h' _ (by omega) D' ?_ (by omega)) fun g => ?_
    · rw [if_pos (by omega)] at k; exact k
    · rw [if_neg (by omega)] at k; exact Ret.mk (k h D)
theorem S_insertionE {h : Heap} {d : Array Int} {a b : Nat} (ha : a ≤ n) (hb : b ≤ n) (D : DaE left g0 B m n sp h d) (k : ∀ h', DaE left g0 B m n sp h' (insertionSort (ltOE left) d a b) → K (tuple #[]) h') :
    CallA Try.prog fn_slices_insertionSortCmpFunc_deal_entry [slice (some ⟨B, 0, none⟩) n c, .int .i64 (a : Int), .int .i64 (b : Int), func (Fn.func fn_pdeal_Book_All_1) #[] #[]] h K := by
  refine F_slices_insertionSortCmpFunc_deal_entry _ _ _ _ _ _ _ ?_
  unfold F_slices_insertionSortCmpFunc_deal_entryT
  rw [wp1E (by omega)]
  exact ins_outE e0 hm I hn hb _ _ _ _ (Nat.le_refl _) D k (by omega)
/-! by a heap -/
theorem sift_inE {hi first : Nat} (hf : first + hi ≤ n) : ∀ (q root : Nat) (h : Heap) (d : Array Int), hi - root ≤ q → root ≤ 1000000 → DaE left g0 B m n sp h d →
    (∀ h', DaE left g0 B m n sp h' (siftDown (ltOE left) hi first root d) → K (tuple #[]) h') →
    L_slices_siftDownCmpFunc_deal_entry_0 (some ⟨B, 0, none⟩) n c (hi : Int) (first : Int) (root : Int) h K := by
  intro q
  induction q with
  | zero =>
    intro root h d hq hr D k
    refine L_slices_siftDownCmpFunc_deal_entry_0r _ _ _ _ _ _ _ _ ?_
    unfold L_slices_siftDownCmpFunc_deal_entry_0T
    rw [siftDown, dif_pos (by omega)] at k
    rw [widE (x := 2 * (root : Int)) (by omega) (by omega), widE (x := 2 * (root : Int) + 1) (by omega) (by omega)]
    exact Br.yes (decide_eq_true (by omega)) (Ret.mk (k h D))
  | succ q ih =>
    intro root h d hq hr D k
    refine L_slices_siftDownCmpFunc_deal_entry_0r _ _ _ _ _ _ _ _ ?_
    unfold L_slices_siftDownCmpFunc_deal_entry_0T
    have w1 : IntKind.wrap .i64 (2 * (root : Int)) = ((2 * root : Nat) : Int) := by rw [widE (by omega) (by omega)]; omega
    have w2 : IntKind.wrap .i64 (((2 * root : Nat) : Int) + 1) = ((2 * root + 1 : Nat) : Int) := by rw [widE (by omega) (by omega)]; omega
    have w3 : IntKind.wrap .i64 (((2 * root + 1 : Nat) : Int) + 1) = ((2 * root + 2 : Nat) : Int) := by rw [widE (by omega) (by omega)]; omega
    have w4 : IntKind.wrap .i64 ((first : Int) + ((2 * root + 1 : Nat) : Int)) = ((first + (2 * root + 1) : Nat) : Int) := by rw [widE (by omega) (by omega)]; omega
    have w5 : IntKind.wrap .i64 ((first : Int) + ((2 * root + 2 : Nat) : Int)) = ((first + (2 * root + 2) : Nat) : Int) := by rw [widE (by omega) (by omega)]; omega
    have w6 : IntKind.wrap .i64 (((first + (2 * root + 1) : Nat) : Int) + 1) = ((first + (2 * root + 1) + 1 : Nat) : Int) := by rw [widE (by omega) (by omega)]; omega
    have w7 : IntKind.wrap .i64 ((first : Int) + (root : Int)) = ((first + root : Nat) : Int) := by rw [widE (by omega) (by omega)]; omega
    rw [w1, w2, w3, w4, w5, w6, w7]
    rw [siftDown] at k
    have low : ∀ (h : Heap), DaE left g0 B m n sp h d → 2 * root + 1 < hi →
        (∀ h', DaE left g0 B m n sp h' (if !ltOE left d[first + root]! d[first + (2 * root + 1)]! then d else siftDown (ltOE left) hi first (2 * root + 1) (swp d (first + root) (first + (2 * root + 1)))) → K (tuple #[]) h') →
        ∀ h', DaE left g0 B m n sp h' d → Br (!ltOE left d[first + root]! d[first + (2 * root + 1)]!) (Ret h' K (tuple #[])) (∀ h'', DaE left g0 B m n sp h'' (swp d (first + root) (first + (2 * root + 1))) → L_slices_siftDownCmpFunc_deal_entry_0 (some ⟨B, 0, none⟩) n c (hi : Int) (first : Int) ((2 * root + 1 : Nat) : Int) h'' K) := by
      intro h D g k h' D'
      refine Br.intro (fun g2 => ?_) fun g2 => fun h'' D'' => ?_
      · rw [if_pos g2] at k; exact Ret.mk (k h' D')
      · rw [if_neg (by rw [g2]; simp)] at k
        exact ih _ h'' _ (by omega) (by omega) D'' k
    refine Br.dec (fun g => ?_) fun g => ?_
    · rw [dif_pos (by omega)] at k
      exact Ret.mk (k h D)
    rw [dif_neg (by omega)] at k
    refine Br.dec (fun g1 => lessAE D hm I rfl rfl (by omega) (by omega) fun h' D' => Br.intro (fun g2 => ?_) fun g2 => ?_) fun g1 => ?_
    · rw [if_pos (by rw [g2, Bool.and_true]; exact decide_eq_true (by omega))] at k
      refine lessNE D' hm I rfl rfl (by omega) (by omega) fun h2 D2 => Br.intro (fun g3 => ?_) fun g3 => ?_
      · rw [if_pos g3] at k; exact Ret.mk (k h2 D2)
      rw [if_neg (by rw [g3]; simp), dif_pos (by omega)] at k
      exact swapAE (J := fun h => L_slices_siftDownCmpFunc_deal_entry_0 (some ⟨B, 0, none⟩) n c (hi : Int) (first : Int) ((2 * root + 2 : Nat) : Int) h K) D2 e0 rfl rfl (by omega) (by omega) fun h3 D3 => ih _ h3 _ (by omega) (by omega) D3 k
    · rw [if_neg (by rw [g2, Bool.and_false]; simp)] at k
      refine lessNE D' hm I rfl rfl (by omega) (by omega) fun h2 D2 => Br.intro (fun g3 => ?_) fun g3 => ?_
      · rw [if_pos g3] at k; exact Ret.mk (k h2 D2)
      rw [if_neg (by rw [g3]; simp)] at k
      exact swapAE (J := fun h => L_slices_siftDownCmpFunc_deal_entry_0 (some ⟨B, 0, none⟩) n c (hi : Int) (first : Int) ((2 * root + 1 : Nat) : Int) h K) D2 e0 rfl rfl (by omega) (by omega) fun h3 D3 => ih _ h3 _ (by omega) (by omega) D3 k
    · rw [if_neg (by rw [decide_eq_false (by omega)]; simp)] at k
      refine lessNE D hm I rfl rfl (by omega) (by omega) fun h2 D2 => Br.intro (fun g3 => ?_) fun g3 => ?_
      · rw [if_pos g3] at k; exact Ret.mk (k h2 D2)
      rw [if_neg (by rw [g3]; simp)] at k
      exact swapAE (J := fun h => L_slices_siftDownCmpFunc_deal_entry_0 (some ⟨B, 0, none⟩) n c (hi : Int) (first : Int) ((2 * root + 1 : Nat) : Int) h K) D2 e0 rfl rfl (by omega) (by omega) fun h3 D3 => ih _ h3 _ (by omega) (by omega) D3 k
theorem S_siftE {h : Heap} {d : Array Int} {lo hi first : Nat} (hf : first + hi ≤ n) (hl : lo ≤ 1000000) (D : DaE left g0 B m n sp h d) (k : ∀ h', DaE left g0 B m n sp h' (siftDown (ltOE left) hi first lo d) → K (tuple #[]) h') :
    CallA Try.prog fn_slices_siftDownCmpFunc_deal_entry [slice (some ⟨B, 0, none⟩) n c, .int .i64 (lo : Int), .int .i64 (hi : Int), .int .i64 (first : Int), func (Fn.func fn_pdeal_Book_All_1) #[] #[]] h K := by
  refine F_slices_siftDownCmpFunc_deal_entry _ _ _ _ _ _ _ _ ?_
  unfold F_slices_siftDownCmpFunc_deal_entryT
  exact sift_inE e0 hm I hn hf _ _ _ _ (Nat.le_refl _) hl D k
theorem heap_popE {first : Nat} : ∀ (q : Nat) (h : Heap) (d : Array Int), first + q ≤ n → DaE left g0 B m n sp h d →
    (∀ h', DaE left g0 B m n sp h' (heapPop (ltOE left) first q d) → K (tuple #[]) h') →
    L_slices_heapSortCmpFunc_deal_entry_1 (some ⟨B, 0, none⟩) n c (first : Int) 0 ((q : Int) - 1) h K := by
  intro q
  induction q with
  | zero =>
    intro h d hf D k
    refine L_slices_heapSortCmpFunc_deal_entry_1r _ _ _ _ _ _ _ _ ?_
    unfold L_slices_heapSortCmpFunc_deal_entry_1T
    exact Br.no (by decide) (Ret.mk (k h D))
  | succ q ih =>
    intro h d hf D k
    refine L_slices_heapSortCmpFunc_deal_entry_1r _ _ _ _ _ _ _ _ ?_
    unfold L_slices_heapSortCmpFunc_deal_entry_1T
    have w0 : (((q + 1 : Nat) : Int) - 1) = (q : Int) := by omega
    have w1 : IntKind.wrap .i64 ((first : Int) + (q : Int)) = ((first + q : Nat) : Int) := by rw [widE (by omega) (by omega)]; omega
    have w2 : IntKind.wrap .i64 ((q : Int) - 1) = (q : Int) - 1 := widE (by omega) (by omega)
    rw [w0, w1, w2]
    rw [heapPop] at k
    refine Br.yes (decide_eq_true (by omega)) (swapAE (J := fun h => CallA Try.prog fn_slices_siftDownCmpFunc_deal_entry [slice (some ⟨B, 0, none⟩) n c, .int .i64 0, .int .i64 (q : Int), .int .i64 (first : Int), func (Fn.func fn_pdeal_Book_All_1) #[] #[]] h fun v h => v = tuple #[] ∧ L_slices_heapSortCmpFunc_deal_entry_1 (some ⟨B, 0, none⟩) n c (first : Int) 0 ((q : Int) - 1) h K) D e0 rfl rfl (by omega) (by omega) fun h1 D1 => ?_)
    exact S_siftE (lo := 0) e0 hm I hn (by omega) (by omega) D1 fun h2 D2 => ⟨rfl, ih h2 _ (by omega) D2 k⟩
theorem heap_buildE {first hi : Nat} (hf : first + hi ≤ n) : ∀ (q : Nat) (h : Heap) (d : Array Int), q ≤ 1000000 → DaE left g0 B m n sp h d →
    (∀ h', DaE left g0 B m n sp h' (heapPop (ltOE left) first hi (heapBuild (ltOE left) hi first q d)) → K (tuple #[]) h') →
    L_slices_heapSortCmpFunc_deal_entry_0 (some ⟨B, 0, none⟩) n c (first : Int) 0 (hi : Int) ((q : Int) - 1) h K := by
  intro q
  induction q with
  | zero =>
    intro h d hq D k
    refine L_slices_heapSortCmpFunc_deal_entry_0r _ _ _ _ _ _ _ _ _ ?_
    unfold L_slices_heapSortCmpFunc_deal_entry_0T
    rw [widE (x := (hi : Int) - 1) (by omega) (by omega)]
    rw [heapBuild] at k
    exact Br.no (by decide) (heap_popE e0 hm I hn _ _ _ hf D k)
  | succ q ih =>
    intro h d hq D k
    refine L_slices_heapSortCmpFunc_deal_entry_0r _ _ _ _ _ _ _ _ _ ?_
    unfold L_slices_heapSortCmpFunc_deal_entry_0T
    have w0 : (((q + 1 : Nat) : Int) - 1) = (q : Int) := by omega
    have w2 : IntKind.wrap .i64 ((q : Int) - 1) = (q : Int) - 1 := widE (by omega) (by omega)
    rw [w0, w2]
    rw [heapBuild] at k
    refine Br.yes (decide_eq_true (by omega)) ?_
    exact S_siftE (lo := q) e0 hm I hn hf (by omega) D fun h2 D2 => ⟨rfl, ih h2 _ (by omega) D2 k⟩
theorem S_heapE {h : Heap} {d : Array Int} {a b : Nat} (hab : a < b) (hb : b ≤ n) (D : DaE left g0 B m n sp h d) (k : ∀ h', DaE left g0 B m n sp h' (heapSort (ltOE left) d a b) → K (tuple #[]) h') :
    CallA Try.prog fn_slices_heapSortCmpFunc_deal_entry [slice (some ⟨B, 0, none⟩) n c, .int .i64 (a : Int), .int .i64 (b : Int), func (Fn.func fn_pdeal_Book_All_1) #[] #[]] h K := by
  refine F_slices_heapSortCmpFunc_deal_entry _ _ _ _ _ _ _ ?_
  unfold F_slices_heapSortCmpFunc_deal_entryT
  have w1 : IntKind.wrap .i64 ((b : Int) - (a : Int)) = ((b - a : Nat) : Int) := by rw [widE (by omega) (by omega)]; omega
  have w2 : IntKind.wrap .i64 (((b - a : Nat) : Int) - 1) = ((b - a - 1 : Nat) : Int) := by rw [widE (by omega) (by omega)]; omega
  have w3 : Int.tdiv ((b - a - 1 : Nat) : Int) 2 = (((b - a - 1) / 2 + 1 : Nat) : Int) - 1 := by
    rw [Int.tdiv_eq_ediv_of_nonneg (by omega)]; omega
  rw [w1, w2, w3, widE (by omega) (by omega)]
  unfold heapSort at k
  exact heap_buildE e0 hm I hn (by omega) _ _ _ (by omega) D k
/-! turned about -/
omit hm I in
theorem rev_inE : ∀ (q i j : Nat) (h : Heap) (d : Array Int), j - i ≤ q → i ≤ 1000000 → j < n → DaE left g0 B m n sp h d →
    (∀ h', DaE left g0 B m n sp h' (reverseLoop i j d) → K (tuple #[]) h') →
    L_slices_reverseRangeCmpFunc_deal_entry_0 (some ⟨B, 0, none⟩) n c (i : Int) (j : Int) h K := by
  intro q
  induction q with
  | zero =>
    intro i j h d hq hi hj D k
    refine L_slices_reverseRangeCmpFunc_deal_entry_0r _ _ _ _ _ _ _ ?_
    unfold L_slices_reverseRangeCmpFunc_deal_entry_0T
    rw [reverseLoop, if_neg (by omega)] at k
    exact Br.no (decide_eq_false (by omega)) (Ret.mk (k h D))
  | succ q ih =>
    intro i j h d hq hi hj D k
    refine L_slices_reverseRangeCmpFunc_deal_entry_0r _ _ _ _ _ _ _ ?_
    unfold L_slices_reverseRangeCmpFunc_deal_entry_0T
    rw [reverseLoop] at k
    refine Br.dec (fun g => ?_) fun g => ?_
    · rw [if_pos (by omega)] at k
      have w2 : IntKind.wrap .i64 ((j : Int) - 1) = ((j - 1 : Nat) : Int) := by rw [widE (by omega) (by omega)]; omega
      rw [wp1E (by omega), w2]
      exact swapAE (J := fun h => L_slices_reverseRangeCmpFunc_deal_entry_0 (some ⟨B, 0, none⟩) n c ((i + 1 : Nat) : Int) ((j - 1 : Nat) : Int) h K) D e0 rfl rfl (by omega) (by omega) fun h1 D1 => ih _ _ h1 _ (by omega) (by omega) (by omega) D1 k
    · rw [if_neg (by omega)] at k
      exact Ret.mk (k h D)
omit hm I in
theorem S_reverseE {h : Heap} {d : Array Int} {a b : Nat} (hab : a < b) (hb : b ≤ n) (D : DaE left g0 B m n sp h d) (k : ∀ h', DaE left g0 B m n sp h' (reverseRange d a b) → K (tuple #[]) h') :
    CallA Try.prog fn_slices_reverseRangeCmpFunc_deal_entry [slice (some ⟨B, 0, none⟩) n c, .int .i64 (a : Int), .int .i64 (b : Int), func (Fn.func fn_pdeal_Book_All_1) #[] #[]] h K := by
  refine F_slices_reverseRangeCmpFunc_deal_entry _ _ _ _ _ _ _ ?_
  unfold F_slices_reverseRangeCmpFunc_deal_entryT
  have w2 : IntKind.wrap .i64 ((b : Int) - 1) = ((b - 1 : Nat) : Int) := by rw [widE (by omega) (by omega)]; omega
  rw [w2]
  exact rev_inE e0 hn _ _ _ _ _ (Nat.le_refl _) (by omega) (by omega) D k
end
end Go.Proofs.Ytjihfieahkbohaa
