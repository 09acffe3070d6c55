/- The reference's sum of many amounts, all at once and step by step; and the law MoneyTotals. -/
import Derived.Test.YthojacmegofhcaaBigSum
import Derived.Test.YthojacmegofhcaaLawBack
import Derived.Test.YthojacmegofhcaaEqLaw01c
namespace Go.Proofs.Ythojacmegofhcaa
open Go Go.Sy Go.Value
set_option linter.unusedVariables false
set_option linter.unusedSimpArgs false

theorem ints_set_box {h : Heap} {q : Option Addr} {l : List Int} {b : Nat} {x : Bool} {p : Option Addr} {n c : Nat} {ws : List Value} (r : Ints .i64 h q l) (a : At h b [.bool x, slice p n c]) : Ints .i64 (h.setN b 0 ws) q l := by
  by_cases hl : l = []
  · subst hl; exact .inl rfl
  have hq := ints_not_box r a hl
  rcases r with r | ⟨b', o, e, r⟩
  · exact .inl r
  · refine .inr ⟨b', o, e, fun j hj => ?_⟩
    have := r j hj
    unfold Heap.cell at this ⊢
    rw [setN_other (fun e2 => hq o (by rw [e, e2]))]
    exact this
theorem total_loop {l : List Int} (hl : l.length ≤ 100000) (hI : allI64 l) {q : Option Addr} {lc t2 out : Nat} {h0 : Heap} (rl : Ints .i64 h0 q l) (ht : h0 t2 = none) (ho : h0 out = none) (hne : t2 ≠ out) {K : Value → Heap → Prop}
    (k : ∀ v h', h0.le h' → BigR h' v (sumL l) 200000 → K v h') : ∀ (d i : Nat) (h : Heap) (neg : Bool) (p : Option Addr) (c : Nat) (ds : List Int), i + d = l.length → h0.le h → At h t2 [.bool false, slice none 0 0] →
      At h out [.bool neg, slice p ds.length c] → Ints .i64 h p ds → okD ds → sg neg ds = sumL (l.take i) → ds.length ≤ c → ds.length ≤ 5 + i → L_ref01_Total_0 q l.length lc t2 out (i : Int) h K := by
  intro d
  induction d with
  | zero =>
    intro i h neg p c ds hd lh tt oo rd ok e hc hb
    refine L_ref01_Total_0r _ _ _ _ _ _ _ _ ?_
    unfold L_ref01_Total_0T
    refine Br.no (decide_eq_false (by omega)) ⟨_, oo.cell rfl, _, _, _, oo.cell rfl, ret_out ht lh tt fun h' l' keep => k _ _ l' ?_⟩
    rw [List.take_of_length_le (by omega)] at e
    exact ⟨_, _, _, ds, rfl, keep _ _ rd, ok, e.symm, hc, by omega⟩
  | succ d ih =>
    intro i h neg p c ds hd lh tt oo rd ok e hc hb
    refine L_ref01_Total_0r _ _ _ _ _ _ _ _ ?_
    unfold L_ref01_Total_0T
    have hlt : i < l.length := by omega
    obtain ⟨b, o, ea, hcell⟩ := (rl.le lh).at hlt
    refine Br.yes (decide_eq_true (by omega)) ⟨_, oo.cell rfl, _, _, _, oo.cell rfl, by omega, by omega, withAddr_intro ea ⟨_, by rw [Int.toNat_natCast]; exact hcell, ?_⟩⟩
    refine S_Of (hI _ (List.getElem_mem hlt)) fun v1 h1 l1 bn1 => ?_
    have br1 := bn1.raw
    obtain ⟨n1, p1, c1, d1, rfl, r1, o1, x1, lc1, lb1, _⟩ := bn1
    refine ⟨_, _, _, _, rfl, l1, ?_⟩
    refine S_Add_Big (x := sg neg ds) (na := 5 + i) (B := 5 + i) ⟨neg, p, c, ds, rfl, rd.le l1, ok, rfl, hc, hb⟩ br1 (by omega) (by omega) (by omega) fun v2 h2 l2 bn2 => ?_
    obtain ⟨n2, p2, c2, d2, rfl, r2, o2, x2, lc2, lb2, _⟩ := bn2
    have l02 := Heap.le_trans lh (Heap.le_trans l1 l2)
    have oo2 := oo.le (Heap.le_trans l1 l2)
    have tt2 := tt.le (Heap.le_trans l1 l2)
    refine ⟨_, _, _, _, rfl, oo2.canSt (by simp), ?_⟩
    rw [wrap_i64_id (n := (i : Int) + 1) (by omega) (by omega)]
    have oo3 := oo2.set (o := 0) (ws := [.bool n2, slice p2 d2.length c2])
    refine ih (i + 1) _ n2 p2 c2 d2 (by omega) (le_setN l02 ho) (tt2.set_ne hne) oo3 (ints_set_box r2 oo2) o2 ?_ lc2 (by omega)
    rw [← x2, e, sum_take_succ hlt]
theorem S_Total {l : List Int} (hl : l.length ≤ 100000) (hI : allI64 l) {q : Option Addr} {lc : Nat} {h : Heap} (rl : Ints .i64 h q l) {K : Value → Heap → Prop} (k : ∀ v h', h.le h' → BigR h' v (sumL l) 200000 → K v h') :
    CallA Try.prog fn_ref01_Total [slice q l.length lc] h K := by
  refine F_ref01_Total _ _ _ _ _ ?_
  unfold F_ref01_TotalT
  intro r hr r1 hr1
  have t0 := (At.new h r [.bool false, slice none 0 0] 44).ins (x := .cells [.bool false, slice none 0 0].toArray 44 (0, 0)) hr1
  have o0 := At.new (h.ins r (.cells [.bool false, slice none 0 0].toArray 44 (0, 0))) r1 [.bool false, slice none 0 0] 44
  have l1 := le_ins2 (x := .cells [.bool false, slice none 0 0].toArray 44 (0, 0)) (le_ins hr (o := .cells [.bool false, slice none 0 0].toArray 44 (0, 0))) hr1
  have hne : r ≠ r1 := (At.new _ _ _ _).ne hr1
  have h1 : h r1 = none := none_of_le (le_ins hr) hr1
  refine ⟨o0.canSt (by simp), ?_⟩
  have o1 := o0.set (o := 0) (ws := [.bool false, slice none 0 0])
  exact total_loop hl hI rl hr h1 hne k l.length 0 _ false none 0 [] (by omega) (le_setN l1 h1) (t0.set_ne hne) o1 (.inl rfl) (fun d hd => (by cases hd)) (by simp [sg, dig, sumL]) (by simp) (by simp)
theorem rchain_loop {l : List Int} (hl : l.length ≤ 100000) (hI : allI64 l) {q : Option Addr} {lc : Nat} {h0 : Heap} (rl : Ints .i64 h0 q l) {K : Value → Heap → Prop} {R : Int × Int} (k : ∀ h', h0.le h' → K (tuple #[int .i64 R.1, int .i64 R.2]) h') :
    ∀ (d i : Nat) (a : Int) (h : Heap), i + d = l.length → h0.le h → I64 a → chainL a (l.drop i) = R → L_ref01_Chain_0 a q l.length lc (i : Int) h K := by
  intro d
  induction d with
  | zero =>
    intro i a h hd lh ha e
    refine L_ref01_Chain_0r _ _ _ _ _ _ _ ?_
    unfold L_ref01_Chain_0T
    rw [List.drop_of_length_le (by omega)] at e
    have kk := k h lh
    rw [← e] at kk
    exact Br.no (decide_eq_false (by omega)) (Ret.mk kk)
  | succ d ih =>
    intro i a h hd lh ha e
    refine L_ref01_Chain_0r _ _ _ _ _ _ _ ?_
    unfold L_ref01_Chain_0T
    have hlt : i < l.length := by omega
    obtain ⟨b, o, ea, hcell⟩ := (rl.le lh).at hlt
    refine Br.yes (decide_eq_true (by omega)) ⟨by omega, by omega, withAddr_intro ea ⟨_, by rw [Int.toNat_natCast]; exact hcell, ?_⟩⟩
    refine S_Of ha fun v1 h1 l1 bn1 => ?_
    have br1 := bn1.raw
    obtain ⟨n1, p1, c1, d1, rfl, _⟩ := bn1
    refine ⟨_, _, _, _, rfl, l1, ?_⟩
    refine S_Of (hI _ (List.getElem_mem hlt)) fun v2 h2 l2 bn2 => ?_
    have br2 := bn2.raw
    obtain ⟨n2, p2, c2, d2, rfl, _⟩ := bn2
    refine ⟨_, _, _, _, rfl, ?_⟩
    refine S_Add_Big (B := 5) (br1.le l2) br2 (by omega) (by omega) (by omega) fun v3 h3 l3 bn3 => ?_
    have br3 := bn3.raw
    obtain ⟨n3, p3, c3, d3, rfl, _⟩ := bn3
    refine ⟨_, _, _, _, rfl, ?_⟩
    refine S_Fit br3 (by omega) fun h4 l4 => ⟨_, _, rfl, ?_⟩
    have l04 := Heap.le_trans lh (Heap.le_trans l1 (Heap.le_trans l2 (Heap.le_trans l3 l4)))
    rw [List.drop_eq_getElem_cons hlt] at e
    unfold chainL at e
    by_cases hf : I64 (a + l[i])
    · rw [fit_ok hf]
      rw [if_pos (show -9223372036854775808 ≤ a + l[i] ∧ a + l[i] ≤ 9223372036854775807 from hf)] at e
      refine Br.no rfl ?_
      rw [wrap_i64_id (n := (i : Int) + 1) (by omega) (by omega)]
      exact ih (i + 1) _ h4 (by omega) l04 hf e
    · rw [fit_over hf]
      rw [if_neg (show ¬ (-9223372036854775808 ≤ a + l[i] ∧ a + l[i] ≤ 9223372036854775807) from hf)] at e
      have kk := k h4 l04
      rw [← e] at kk
      exact Br.yes rfl (Ret.mk kk)
theorem S_RChain {l : List Int} (hl : l.length ≤ 100000) (hI : allI64 l) {q : Option Addr} {lc : Nat} {h : Heap} (rl : Ints .i64 h q l) {a : Int} (ha : I64 a) {K : Value → Heap → Prop}
    (k : ∀ h', h.le h' → K (tuple #[int .i64 (chainL a l).1, int .i64 (chainL a l).2]) h') : CallA Try.prog fn_ref01_Chain [int .i64 a, slice q l.length lc] h K := by
  refine F_ref01_Chain _ _ _ _ _ _ ?_
  unfold F_ref01_ChainT
  exact rchain_loop hl hI rl k l.length 0 a h (by omega) h.le_refl ha (by rw [List.drop_zero])
theorem law01_MoneyTotals_ok {a : Int} (ha : I64 a) {l : List Int} {p : Option Addr} {ln c : Nat} {h : Heap} (i : Ints .i64 h p l) (hn : l.length = ln) (hl : ln * 8 ≤ 140737488351232)
    (hI : allI64 l) : CallA Try.prog fn_law01_MoneyTotals [int .i64 a, slice p ln c] h fun v h' => v = .bool true ∧ h.le h' := by
  refine F_law01_MoneyTotals _ _ _ _ _ _ ?_
  unfold F_law01_MoneyTotalsT
  have fin : ∀ h', h.le h' → Ret h' (fun v h' => v = .bool true ∧ h.le h') (.bool true) := fun h' l => ⟨h', h'.le_refl, rfl, l⟩
  refine S_law01_awake h _ ⟨_, rfl, Br.no rfl ?_⟩
  refine Br.dec (fun _ => fin _ h.le_refl) (fun h2 => ?_)
  subst hn
  have h200 : l.length ≤ 200 := by omega
  refine S_Sum (by omega) hI h i _ ⟨_, _, rfl, ?_⟩
  refine S_Total (by omega) hI i fun v1 h1 l1 br1 => ?_
  have br1' := br1
  obtain ⟨n1, p1, c1, d1, rfl, _⟩ := br1'
  refine ⟨_, _, _, _, rfl, ?_⟩
  refine S_Fit br1 (by omega) fun h2 l2 => ⟨_, _, rfl, ?_⟩
  have l02 := Heap.le_trans l1 l2
  refine S_Chain (by omega) hI ha h2 (i.le l02) _ ⟨_, _, rfl, ?_⟩
  refine S_RChain (by omega) hI (i.le l02) ha fun h3 l3 => ⟨_, _, rfl, ?_⟩
  refine Br.yes (by simp) (Br.yes (by simp) (Br.yes (by simp) ?_))
  have e : ((chainL a l).2 == (chainL a l).2) = true := by simp
  rw [e]
  exact fin _ (Heap.le_trans l02 l3)
end Go.Proofs.Ythojacmegofhcaa
