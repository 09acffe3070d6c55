import Derived.Test.YtghdadniddoboaaM10
import Derived.Test.YtghdadniddoboaaM05
import Derived.Test.YtghdadniddoboaaM01
/- The reference's sum of many amounts, all at once and step by step. -/
namespace Go.Proofs.Ytghdadniddoboaa
open Go Go.Sy Go.Value
set_option linter.unusedVariables false
set_option linter.unusedSimpArgs false

theorem ints_set_box {h : Heap} {q : Option Addr} {l : List Int} {b : Nat} {x : Bool} {p : Option Addr} {n c : Nat} {ws : List Value} (r : Ints .i64 h q l) (a : At h b [.bool x, slice p n c]) : Ints .i64 (h.setN b 0 ws) q l := by
  by_cases hl : l = []
  · subst hl; exact .inl rfl
  have hq := ints_not_box r a hl
  rcases r with r | ⟨b', o, e, r⟩
  · exact .inl r
  · refine .inr ⟨b', o, e, fun j hj => ?_⟩
    have := r j hj
    unfold Heap.cell at this ⊢
    rw [setN_other (fun e2 => hq o (by rw [e, e2]))]
    exact this
theorem total_loop {l : List Int} {Bd : Nat} (hBd : 5 + l.length ≤ Bd) (hl : l.length ≤ 100000) (hI : allI64 l) {q : Option Addr} {lc t2 out : Nat} {h0 : Heap} (rl : Ints .i64 h0 q l) (ht : h0 t2 = none) (ho : h0 out = none) (hne : t2 ≠ out) {K : Value → Heap → Prop}
    (k : ∀ v h', h0.le h' → BigR h' v (sumL l) Bd → K v h') : ∀ (d i : Nat) (h : Heap) (neg : Bool) (p : Option Addr) (c : Nat) (ds : List Int), i + d = l.length → h0.le h → At h t2 [.bool false, slice none 0 0] →
      At h out [.bool neg, slice p ds.length c] → Ints .i64 h p ds → okD ds → sg neg ds = sumL (l.take i) → ds.length ≤ c → ds.length ≤ 5 + i → L_ref01_Total_0 q l.length lc t2 out (i : Int) h K := by
  intro d
  induction d with
  | zero =>
    intro i h neg p c ds hd lh tt oo rd ok e hc hb
    refine L_ref01_Total_0r _ _ _ _ _ _ _ _ ?_
    unfold L_ref01_Total_0T
    refine Br.no (decide_eq_false (by omega)) ⟨_, oo.cell rfl, _, _, _, oo.cell rfl, ret_out ht lh tt fun h' l' keep => k _ _ l' ?_⟩
    rw [List.take_of_length_le (by omega)] at e
    exact ⟨_, _, _, ds, rfl, keep _ _ rd, ok, e.symm, hc, by omega⟩
  | succ d ih =>
    intro i h neg p c ds hd lh tt oo rd ok e hc hb
    refine L_ref01_Total_0r _ _ _ _ _ _ _ _ ?_
    unfold L_ref01_Total_0T
    have hlt : i < l.length := by omega
    obtain ⟨b, o, ea, hcell⟩ := (rl.le lh).at hlt
    refine Br.yes (decide_eq_true (by omega)) ⟨_, oo.cell rfl, _, _, _, oo.cell rfl, by omega, by omega, withAddr_intro ea ⟨_, by rw [Int.toNat_natCast]; exact hcell, ?_⟩⟩
    refine S_Of (hI _ (List.getElem_mem hlt)) fun v1 h1 l1 bn1 => ?_
    have br1 := bn1.raw
    obtain ⟨n1, p1, c1, d1, rfl, r1, o1, x1, lc1, lb1, _⟩ := bn1
    refine ⟨_, _, _, _, rfl, .inl l1, ?_⟩
    refine S_Add_Big (x := sg neg ds) (na := 5 + i) (B := 5 + i) ⟨neg, p, c, ds, rfl, rd.le l1, ok, rfl, hc, hb⟩ br1 (by omega) (by omega) (by omega) fun v2 h2 l2 bn2 => ?_
    obtain ⟨n2, p2, c2, d2, rfl, r2, o2, x2, lc2, lb2, _⟩ := bn2
    have l02 := Heap.le_trans lh (Heap.le_trans l1 l2)
    have oo2 := oo.le (Heap.le_trans l1 l2)
    have tt2 := tt.le (Heap.le_trans l1 l2)
    refine ⟨_, _, _, _, rfl, oo2.canSt (by simp), ?_⟩
    rw [wrap_i64_id (n := (i : Int) + 1) (by omega) (by omega)]
    have oo3 := oo2.set (o := 0) (ws := [.bool n2, slice p2 d2.length c2])
    refine ih (i + 1) _ n2 p2 c2 d2 (by omega) (le_setN l02 ho) (tt2.set_ne hne) oo3 (ints_set_box r2 oo2) o2 ?_ lc2 (by omega)
    rw [← x2, e, sum_take_succ hlt]
theorem S_TotalB {l : List Int} {Bd : Nat} (hBd : 5 + l.length ≤ Bd) (hl : l.length ≤ 100000) (hI : allI64 l) {q : Option Addr} {lc : Nat} {h : Heap} (rl : Ints .i64 h q l) {K : Value → Heap → Prop} (k : ∀ v h', h.le h' → BigR h' v (sumL l) Bd → K v h') :
    CallA Try.prog fn_ref01_Total [slice q l.length lc] h K := by
  refine F_ref01_Total _ _ _ _ _ ?_
  unfold F_ref01_TotalT
  intro r hr r1 hr1
  have t0 := (At.new h r [.bool false, slice none 0 0] 102).ins (x := .cells [.bool false, slice none 0 0].toArray 102 (0, 0)) hr1
  have o0 := At.new (h.ins r (.cells [.bool false, slice none 0 0].toArray 102 (0, 0))) r1 [.bool false, slice none 0 0] 102
  have l1 := le_ins2 (x := .cells [.bool false, slice none 0 0].toArray 102 (0, 0)) (le_ins hr (o := .cells [.bool false, slice none 0 0].toArray 102 (0, 0))) hr1
  have hne : r ≠ r1 := (At.new _ _ _ _).ne hr1
  have h1 : h r1 = none := none_of_le (le_ins hr) hr1
  refine ⟨o0.canSt (by simp), ?_⟩
  have o1 := o0.set (o := 0) (ws := [.bool false, slice none 0 0])
  exact total_loop hBd hl hI rl hr h1 hne k l.length 0 _ false none 0 [] (by omega) (le_setN l1 h1) (t0.set_ne hne) o1 (.inl rfl) (fun d hd => (by cases hd)) (by simp [sg, dig, sumL]) (by simp) (by simp)
theorem S_Total {l : List Int} (hl : l.length ≤ 100000) (hI : allI64 l) {q : Option Addr} {lc : Nat} {h : Heap} (rl : Ints .i64 h q l) {K : Value → Heap → Prop} (k : ∀ v h', h.le h' → BigR h' v (sumL l) 200000 → K v h') :
    CallA Try.prog fn_ref01_Total [slice q l.length lc] h K := S_TotalB (by omega) hl hI rl k
theorem rchain_loop {l : List Int} (hl : l.length ≤ 100000) (hI : allI64 l) {q : Option Addr} {lc : Nat} {h0 : Heap} (rl : Ints .i64 h0 q l) {K : Value → Heap → Prop} {R : Int × Int} (k : ∀ h', h0.le h' → K (tuple #[int .i64 R.1, int .i64 R.2]) h') :
    ∀ (d i : Nat) (a : Int) (h : Heap), i + d = l.length → h0.le h → I64 a → chainL a (l.drop i) = R → L_ref01_Chain_0 a q l.length lc (i : Int) h K := by
  intro d
  induction d with
  | zero =>
    intro i a h hd lh ha e
    refine L_ref01_Chain_0r _ _ _ _ _ _ _ ?_
    unfold L_ref01_Chain_0T
    rw [List.drop_of_length_le (by omega)] at e
    have kk := k h lh
    rw [← e] at kk
    exact Br.no (decide_eq_false (by omega)) (Ret.mk kk)
  | succ d ih =>
    intro i a h hd lh ha e
    refine L_ref01_Chain_0r _ _ _ _ _ _ _ ?_
    unfold L_ref01_Chain_0T
    have hlt : i < l.length := by omega
    obtain ⟨b, o, ea, hcell⟩ := (rl.le lh).at hlt
    refine Br.yes (decide_eq_true (by omega)) ⟨by omega, by omega, withAddr_intro ea ⟨_, by rw [Int.toNat_natCast]; exact hcell, ?_⟩⟩
    refine S_Of ha fun v1 h1 l1 bn1 => ?_
    have br1 := bn1.raw
    obtain ⟨n1, p1, c1, d1, rfl, _⟩ := bn1
    refine ⟨_, _, _, _, rfl, .inl l1, ?_⟩
    refine S_Of (hI _ (List.getElem_mem hlt)) fun v2 h2 l2 bn2 => ?_
    have br2 := bn2.raw
    obtain ⟨n2, p2, c2, d2, rfl, _⟩ := bn2
    refine ⟨_, _, _, _, rfl, ?_⟩
    refine S_Add_Big (B := 5) (br1.le l2) br2 (by omega) (by omega) (by omega) fun v3 h3 l3 bn3 => ?_
    have br3 := bn3.raw
    obtain ⟨n3, p3, c3, d3, rfl, _⟩ := bn3
    refine ⟨_, _, _, _, rfl, ?_⟩
    refine S_Fit br3 (by omega) fun h4 l4 => ⟨_, _, rfl, ?_⟩
    have l04 := Heap.le_trans lh (Heap.le_trans l1 (Heap.le_trans l2 (Heap.le_trans l3 l4)))
    rw [List.drop_eq_getElem_cons hlt] at e
    unfold chainL at e
    by_cases hf : I64 (a + l[i])
    · rw [fit_ok hf]
      rw [if_pos (show -9223372036854775808 ≤ a + l[i] ∧ a + l[i] ≤ 9223372036854775807 from hf)] at e
      refine Br.no rfl ?_
      rw [wrap_i64_id (n := (i : Int) + 1) (by omega) (by omega)]
      exact ih (i + 1) _ h4 (by omega) l04 hf e
    · rw [fit_over hf]
      rw [if_neg (show ¬ (-9223372036854775808 ≤ a + l[i] ∧ a + l[i] ≤ 9223372036854775807) from hf)] at e
      have kk := k h4 l04
      rw [← e] at kk
      exact Br.yes rfl (Ret.mk kk)
theorem S_RChain {l : List Int} (hl : l.length ≤ 100000) (hI : allI64 l) {q : Option Addr} {lc : Nat} {h : Heap} (rl : Ints .i64 h q l) {a : Int} (ha : I64 a) {K : Value → Heap → Prop}
    (k : ∀ h', h.le h' → K (tuple #[int .i64 (chainL a l).1, int .i64 (chainL a l).2]) h') : CallA Try.prog fn_ref01_Chain [int .i64 a, slice q l.length lc] h K := by
  refine F_ref01_Chain _ _ _ _ _ _ ?_
  unfold F_ref01_ChainT
  exact rchain_loop hl hI rl k l.length 0 a h (by omega) h.le_refl ha (by rw [List.drop_zero])
end Go.Proofs.Ytghdadniddoboaa

/- The reference's whole numbers of any size: a product. -/
namespace Go.Proofs.Ytghdadniddoboaa
open Go Go.Sy Go.Value
set_option linter.unusedVariables false
set_option linter.unusedSimpArgs false

theorem dig_set : ∀ (l : List Int) (j : Nat) (v : Int), j < l.length → dig (l.set j v) = dig l + 10000 ^ j * (v - l.getD j 0)
  | [], j, v, h => by simp at h
  | d :: l, 0, v, h => by simp [dig]; omega
  | d :: l, j + 1, v, h => by
    have e := dig_set l j v (by simpa using h)
    simp only [List.set_cons_succ, dig, e, List.getD_cons_succ, Int.pow_succ]
    rw [Int.mul_add, Int.mul_comm (10000 ^ j) 10000, Int.mul_assoc]
    omega
theorem intsV_set (ds : List Int) (j : Nat) (v : Int) : setL (intsV .i64 ds) j [int .i64 v] = intsV .i64 (ds.set j v) := by
  simp only [setL, setT_eq, intsV_map, List.map_set]
theorem okD_set {ds : List Int} (h : okD ds) (j : Nat) {v : Int} (h0 : 0 ≤ v) (h1 : v < 10000) : okD (ds.set j v) := fun d hd => by
  rcases List.mem_or_eq_of_mem_set hd with e | e
  · exact h d e
  · rw [e]; exact ⟨h0, h1⟩
theorem repL_zeros : ∀ n, repL n [int .i64 0] = intsV .i64 (List.replicate n 0)
  | 0 => rfl
  | n + 1 => by
    rw [List.replicate_succ, intsV, repL, repL_zeros n]; rfl
theorem dig_zeros : ∀ n, dig (List.replicate n 0) = 0
  | 0 => rfl
  | n + 1 => by rw [List.replicate_succ, dig, dig_zeros n]; omega
theorem okD_zeros (n : Nat) : okD (List.replicate n 0) := fun d hd => by
  have := (List.mem_replicate.1 hd).2
  omega
theorem mul_rows {na nb neg : Bool} {pa pb : Option Addr} {ca cb : Nat} {da db : List Int} {a b t4 out m : Nat} {h0 : Heap} (ra : Ints .i64 h0 pa da) (rb : Ints .i64 h0 pb db) (oa : okD da) (ob : okD db)
    (ht : h0 t4 = none) (ho : h0 out = none) (hm0 : h0 m = none) (d1 : a ≠ m) (d2 : b ≠ m) (d3 : t4 ≠ m) (d4 : out ≠ m) {M : Nat} (hM : M = da.length + db.length + 1) (hM2 : M ≤ 1048000)
    {K : Value → Heap → Prop} (k : ∀ v h', h0.le h' → BigN h' v (if neg then -(dig da * dig db) else dig da * dig db) M → K v h') :
    ∀ (e i : Nat) (ds : List Int) (h : Heap), i + e = da.length → ds.length = M → h0.le h → At h a [.bool na, slice pa da.length ca] → At h b [.bool nb, slice pb db.length cb] → At h t4 [.bool false, slice none 0 0] →
      At h out [.bool neg, slice (some ⟨m, 0, none⟩) M M] → At h m (intsV .i64 ds) → okD ds → dig ds = dig (da.take i) * dig db → L_ref01_Mul_0 a b t4 out (i : Int) h K := by
  intro e
  induction e with
  | zero =>
    intro i ds h hi hl l aa ab tt oo am ok hd
    refine L_ref01_Mul_0r _ _ _ _ _ _ _ ?_
    unfold L_ref01_Mul_0T
    refine ⟨_, _, _, aa.cell rfl, Br.no (decide_eq_false (by omega)) ?_⟩
    have rd : Ints .i64 h (some ⟨m, 0, none⟩) ds := by
      have : At h m (intsV .i64 ds ++ []) := by rw [List.append_nil]; exact am
      exact this.toRd
    rw [List.take_of_length_le (by omega)] at hd
    subst hl
    exact add_end l ht oo tt rd ok (Nat.le_refl _) (by omega) (B := ds.length) (Nat.le_refl _) (by unfold sg; rw [hd]) k
  | succ e ih =>
    intro i ds h hi hl l aa ab tt oo am ok hd
    refine L_ref01_Mul_0r _ _ _ _ _ _ _ ?_
    unfold L_ref01_Mul_0T
    have hlt : i < da.length := by omega
    refine ⟨_, _, _, aa.cell rfl, Br.yes (decide_eq_true (by omega)) ?_⟩
    have gx := oa _ (List.getElem_mem hlt)
    have tk := dig_take_succ (l := da) hlt
    -- one row
    have row : ∀ (f j : Nat) (carry : Int) (ds : List Int) (h : Heap), j + f = db.length + 1 → ds.length = M → h0.le h → At h a [.bool na, slice pa da.length ca] → At h b [.bool nb, slice pb db.length cb] → At h t4 [.bool false, slice none 0 0] →
        At h out [.bool neg, slice (some ⟨m, 0, none⟩) M M] → At h m (intsV .i64 ds) → okD ds → 0 ≤ carry → carry < 10000 →
        dig ds + 10000 ^ (i + j) * carry = dig (da.take i) * dig db + 10000 ^ i * (da[i] * dig (db.take j)) → L_ref01_Mul_1 a b t4 out (i : Int) carry (j : Int) h K := by
      intro f
      induction f with
      | zero =>
        intro j carry ds h hj hl l aa ab tt oo am ok c0 c1 hd
        refine L_ref01_Mul_1r _ _ _ _ _ _ _ _ _ ?_
        unfold L_ref01_Mul_1T
        refine ⟨_, _, _, ab.cell rfl, ?_⟩
        rw [wrap_i64_id (n := (db.length : Int) + 1) (by omega) (by omega)]
        refine Br.no (decide_eq_false (by omega)) ?_
        rw [wrap_i64_id (n := (i : Int) + 1) (by omega) (by omega)]
        rw [List.take_of_length_le (show db.length ≤ j by omega)] at hd
        have e1 : dig (da.take i) * dig db + 10000 ^ i * (da[i] * dig db) = dig (da.take (i + 1)) * dig db := by
          rw [tk, Int.add_mul, Int.mul_assoc]
        rw [e1] at hd
        have t1 := dig_take_lt oa (i + 1)
        have t2 := dig_lt ob
        have t3 := dig_nonneg ok
        have t4 := dig_nonneg ob
        have t5 := dig_nonneg (okD_take oa (i + 1))
        have hc : carry = 0 := by
          refine Classical.byContradiction fun hne => ?_
          have p1 : (10000 : Int) ^ (i + j) = 10000 ^ (i + 1) * 10000 ^ db.length := by
            rw [← Int.pow_add]; congr 1; omega
          have q1 : (0 : Int) < 10000 ^ (i + j) := Int.pow_pos (by decide)
          have q2 : (10000 : Int) ^ (i + j) * 1 ≤ 10000 ^ (i + j) * carry := Int.mul_le_mul_of_nonneg_left (by omega) (by omega)
          have q3 : (0 : Int) < 10000 ^ (i + 1) := Int.pow_pos (by decide)
          have q4 : dig (da.take (i + 1)) * dig db ≤ (10000 ^ (i + 1) - 1) * dig db := Int.mul_le_mul_of_nonneg_right (by omega) t4
          have q5 : (10000 ^ (i + 1) - 1 : Int) * dig db ≤ (10000 ^ (i + 1) - 1) * 10000 ^ db.length := Int.mul_le_mul_of_nonneg_left (by omega) (by omega)
          rw [Int.sub_mul, Int.sub_mul] at q5
          rw [Int.sub_mul] at q4
          have q6 : (0 : Int) < 10000 ^ db.length := Int.pow_pos (by decide)
          rw [← p1] at q5
          omega
        rw [hc, Int.mul_zero, Int.add_zero] at hd
        exact ih (i + 1) ds h (by omega) hl l aa ab tt oo am ok hd
      | succ f ihf =>
        intro j carry ds h hj hl l aa ab tt oo am ok c0 c1 hd
        refine L_ref01_Mul_1r _ _ _ _ _ _ _ _ _ ?_
        unfold L_ref01_Mul_1T
        refine ⟨_, _, _, ab.cell rfl, ?_⟩
        rw [wrap_i64_id (n := (db.length : Int) + 1) (by omega) (by omega), wrap_i64_id (n := (i : Int) + (j : Int)) (by omega) (by omega)]
        have hij : i + j < ds.length := by omega
        have eij : ((i : Int) + (j : Int)).toNat = i + j := by omega
        refine Br.yes (decide_eq_true (by omega)) ⟨_, _, _, oo.cell rfl, by omega, by omega, withAddr_intro rfl ⟨_, am.cell (by rw [eij, Nat.zero_add, intsV_map, List.getElem?_map, List.getElem?_eq_getElem hij]; rfl), ?_⟩⟩
        obtain ⟨b1, o1, ea, hca⟩ := (ra.le l).at hlt
        refine ⟨_, _, _, aa.cell rfl, by omega, by omega, withAddr_intro ea ⟨_, by rw [Int.toNat_natCast]; exact hca, ?_⟩⟩
        refine ⟨_, ab.cell rfl, _, _, _, ab.cell rfl, ?_⟩
        refine S_digit (rb.le l) fun h1 l1 => ⟨_, rfl, .inl l1, ?_⟩
        have l01 := Heap.le_trans l l1
        have am1 := am.le l1
        refine ⟨_, _, _, (oo.le l1).cell rfl, by omega, by omega, withAddr_intro rfl ⟨am1.canSt (by rw [intsV_length, eij]; simp; omega), ?_⟩⟩
        have gy := getD_ok ob j
        have gz := ok _ (List.getElem_mem hij)
        have ez : ds.getD (i + j) 0 = ds[i + j] := by rw [List.getD_eq_getElem?_getD, List.getElem?_eq_getElem hij]; rfl
        have tj := dig_take_any db j
        generalize hx : da[i] = x at *
        generalize hy : db.getD j 0 = y at *
        generalize hz : ds[i + j] = z at *
        have xy0 : 0 ≤ x * y := Int.mul_nonneg gx.1 gy.1
        have xy1 : x * y ≤ 9999 * y := Int.mul_le_mul_of_nonneg_right (by omega) gy.1
        have w1 : IntKind.wrap .i64 (IntKind.wrap .i64 (carry + z) + IntKind.wrap .i64 (x * y)) = carry + z + x * y := by
          rw [wrap_i64_id (n := carry + z) (by omega) (by omega), wrap_i64_id (n := x * y) (by omega) (by omega), wrap_i64_id (by omega) (by omega)]
        rw [w1, wrap_i64_id (n := (j : Int) + 1) (by omega) (by omega), eij, Nat.zero_add]
        rcases td (carry + z + x * y) with ⟨z0, z1, z2⟩ | ⟨z0, _⟩
        case inr => omega
        rw [z1, z2]
        have hs : carry + z + x * y = (carry + z + x * y) % 10000 + 10000 * ((carry + z + x * y) / 10000) := by omega
        generalize hv : (carry + z + x * y) % 10000 = v at *
        generalize hq : (carry + z + x * y) / 10000 = q at *
        rw [wrap_i64_id (n := q) (by omega) (by omega)]
        have am2 := am1.set (o := i + j) (ws := [int .i64 v])
        rw [intsV_set] at am2
        refine ihf (j + 1) q (ds.set (i + j) v) _ (by omega) (by rw [List.length_set]; exact hl) (le_setN l01 hm0) ((aa.le l1).set_ne d1) ((ab.le l1).set_ne d2) ((tt.le l1).set_ne d3) ((oo.le l1).set_ne d4) am2 (okD_set ok _ (by omega) (by omega)) (by omega) (by omega) ?_
        rw [dig_set _ _ _ hij, ez, tj, ← Nat.add_assoc, Int.pow_succ, Int.mul_assoc]
        have e1 : (10000 : Int) ^ i * (x * (dig (db.take j) + 10000 ^ j * y)) = 10000 ^ i * (x * dig (db.take j)) + 10000 ^ (i + j) * (x * y) := by
          rw [Int.mul_add, Int.mul_add, Int.pow_add, Int.mul_assoc, ← Int.mul_assoc x, Int.mul_comm x (10000 ^ j), Int.mul_assoc (10000 ^ j)]
        rw [e1]
        generalize (10000 : Int) ^ (i + j) = P at *
        have e2 : P * (v - z) + P * (10000 * q) = P * carry + P * (x * y) := by
          rw [← Int.mul_add, ← Int.mul_add]; congr 1; omega
        omega
    exact row (db.length + 1) 0 0 ds h (by omega) hl l aa ab tt oo am ok (by omega) (by omega) (by simp [dig, hd])
theorem S_Mul_Big {va vb : Value} {x y : Int} {na nb : Nat} {h : Heap} (ha : BigR h va x na) (hb : BigR h vb y nb) (hB : na + nb ≤ 1000000) {K : Value → Heap → Prop}
    (k : ∀ v h', h.le h' → BigN h' v (x * y) (na + nb + 1) → K v h') : CallA Try.prog fn_ref01_Mul [va, vb] h K := by
  obtain ⟨n1, p1, c1, d1, rfl, r1, o1, hx, lc1, lb1⟩ := ha
  obtain ⟨n2, p2, c2, d2, rfl, r2, o2, hy, lc2, lb2⟩ := hb
  refine F_ref01_Mul _ _ _ _ _ _ _ _ _ _ ?_
  unfold F_ref01_MulT
  intro r hr q hq t ht
  have aa := ((At.new h r [.bool n1, slice p1 d1.length c1] 102).ins (x := .cells [.bool n2, slice p2 d2.length c2].toArray 102 (0, 0)) hq).ins (x := .cells [.bool false, slice none 0 0].toArray 102 (0, 0)) ht
  have ab := (At.new (h.ins r (.cells [.bool n1, slice p1 d1.length c1].toArray 102 (0, 0))) q [.bool n2, slice p2 d2.length c2] 102).ins (x := .cells [.bool false, slice none 0 0].toArray 102 (0, 0)) ht
  have tt := At.new ((h.ins r (.cells [.bool n1, slice p1 d1.length c1].toArray 102 (0, 0))).ins q (.cells [.bool n2, slice p2 d2.length c2].toArray 102 (0, 0))) t [.bool false, slice none 0 0] 102
  have l1 := le_ins2 (x := .cells [.bool n2, slice p2 d2.length c2].toArray 102 (0, 0)) (le_ins hr (o := .cells [.bool n1, slice p1 d1.length c1].toArray 102 (0, 0))) hq
  have l2 := le_ins2 (x := .cells [.bool false, slice none 0 0].toArray 102 (0, 0)) l1 ht
  have e2 := none_of_le l1 ht
  generalize hh2 : ((h.ins r (.cells [.bool n1, slice p1 d1.length c1].toArray 102 (0, 0))).ins q (.cells [.bool n2, slice p2 d2.length c2].toArray 102 (0, 0))).ins t (.cells [.bool false, slice none 0 0].toArray 102 (0, 0)) = h2 at *
  refine ⟨_, aa.cell rfl, _, ab.cell rfl, _, _, _, aa.cell rfl, _, _, _, ab.cell rfl, ?_⟩
  have w : IntKind.wrap .i64 (IntKind.wrap .i64 ((d1.length : Int) + (d2.length : Int)) + 1) = ((d1.length + d2.length + 1 : Nat) : Int) := by
    rw [wrap_i64_id (n := (d1.length : Int) + (d2.length : Int)) (by omega) (by omega), wrap_i64_id (by omega) (by omega)]
    omega
  rw [w]
  refine ⟨by omega, Int.le_refl _, by omega, by omega, ?_⟩
  rw [Int.toNat_natCast, repL_zeros]
  intro m hm o ho
  have am := (At.new h2 m (intsV .i64 (List.replicate (d1.length + d2.length + 1) 0)) 3).ins (x := .cells [.bool false, slice none 0 0].toArray 102 (0, 0)) ho
  have m1 := aa.ne hm
  have m2 := ab.ne hm
  have m3 := tt.ne hm
  have aa := (aa.ins (x := .cells (intsV .i64 (List.replicate (d1.length + d2.length + 1) 0)).toArray 3 (0, 0)) hm)
  have ab := (ab.ins (x := .cells (intsV .i64 (List.replicate (d1.length + d2.length + 1) 0)).toArray 3 (0, 0)) hm)
  have tt := (tt.ins (x := .cells (intsV .i64 (List.replicate (d1.length + d2.length + 1) 0)).toArray 3 (0, 0)) hm)
  have l3 := le_ins2 (x := .cells (intsV .i64 (List.replicate (d1.length + d2.length + 1) 0)).toArray 3 (0, 0)) l2 hm
  have em := none_of_le l2 hm
  have q1 := aa.ne ho
  have q2 := ab.ne ho
  have q3 := tt.ne ho
  have q4 : m ≠ o := (At.new _ _ _ _).ne ho
  have eo := none_of_le l3 ho
  have oo := At.new (h2.ins m (.cells (intsV .i64 (List.replicate (d1.length + d2.length + 1) 0)).toArray 3 (0, 0))) o [.bool false, slice none 0 0] 102
  have aa := aa.ins (x := .cells [.bool false, slice none 0 0].toArray 102 (0, 0)) ho
  have ab := ab.ins (x := .cells [.bool false, slice none 0 0].toArray 102 (0, 0)) ho
  have tt := tt.ins (x := .cells [.bool false, slice none 0 0].toArray 102 (0, 0)) ho
  have l4 := le_ins2 (x := .cells [.bool false, slice none 0 0].toArray 102 (0, 0)) l3 ho
  refine ⟨oo.canSt (by simp), ?_⟩
  refine mul_rows (neg := !(n1 == n2)) (r1) (r2) o1 o2 e2 eo em m1 m2 m3 (fun e => q4 e.symm) rfl (by omega) (fun v h' l' bn => k v h' l' ?_) d1.length 0 (List.replicate (d1.length + d2.length + 1) 0) _ (by omega) (by simp) (le_setN l4 eo) (aa.set_ne q1) (ab.set_ne q2) (tt.set_ne q3) oo.set (am.set_ne q4) (okD_zeros _) (by rw [dig_zeros]; simp [dig])
  have ex : x * y = if (!(n1 == n2)) = true then -(dig d1 * dig d2) else dig d1 * dig d2 := by
    rw [hx, hy]; unfold sg
    cases n1 <;> cases n2 <;> simp [Int.neg_mul, Int.mul_neg]
  rw [ex]
  obtain ⟨neg, p, c, ds, a1, a2, a3, a4, a5, a6, a7⟩ := bn
  exact ⟨neg, p, c, ds, a1, a2, a3, a4, a5, by omega, a7⟩
end Go.Proofs.Ytghdadniddoboaa

/- The reference's whole numbers of any size: parted, digit by digit. -/
namespace Go.Proofs.Ytghdadniddoboaa
open Go Go.Sy Go.Value
set_option linter.unusedVariables false
set_option linter.unusedSimpArgs false

/-- what stands while it is parted: the boxes, the quotient's digits in the block m, and what is left (nowhere in m) -/
structure DivSt (h0 : Heap) (a b t6 rest q m : Nat) (na nb : Bool) (pa pb : Option Addr) (ca cb : Nat) (da db : List Int) (W : Nat) (qs : List Int) (R : Int) (h : Heap) : Prop where
  le : h0.le h
  aa : At h a [.bool na, slice pa da.length ca]
  ab : At h b [.bool nb, slice pb db.length cb]
  tt : At h t6 [.bool false, slice none 0 0]
  aq : At h q [.bool na, slice (some ⟨m, 0, none⟩) da.length da.length]
  am : At h m (intsV .i64 qs)
  len : qs.length = da.length
  ok : okD qs
  rr : ∃ p c ds, At h rest [.bool false, slice p (List.length ds) c] ∧ Ints .i64 (h.del m) p ds ∧ okD ds ∧ dig ds = R ∧ ds.length ≤ c ∧ ds.length ≤ W ∧ (R = 0 → ds = [])
section
variable {h0 : Heap} {a b t6 rest q m : Nat} {na nb : Bool} {pa pb : Option Addr} {ca cb : Nat} {da db : List Int} {up : Bool}
theorem DivSt.grow {W : Nat} {qs : List Int} {R : Int} {h h' : Heap} (s : DivSt h0 a b t6 rest q m na nb pa pb ca cb da db W qs R h) (l : h.le h') : DivSt h0 a b t6 rest q m na nb pa pb ca cb da db W qs R h' := by
  obtain ⟨p, c, ds, x1, x2, x3⟩ := s.rr
  exact ⟨Heap.le_trans s.le l, s.aa.le l, s.ab.le l, s.tt.le l, s.aq.le l, s.am.le l, s.len, s.ok, p, c, ds, x1.le l, x2.le (del_mono l), x3⟩
/-- the digit found by halving, laid down, and its part taken off -/
theorem div_half (rb : Ints .i64 h0 pb db) (ob : okD db) (lb : db.length ≤ 100) (lcb : db.length ≤ cb) (hm0 : h0 m = none) (hr0 : h0 rest = none) (d1 : a ≠ m) (d2 : b ≠ m) (d3 : t6 ≠ m) (d4 : q ≠ m) (d5 : rest ≠ m) (e1 : a ≠ rest) (e2 : b ≠ rest) (e3 : t6 ≠ rest) (e4 : q ≠ rest)
    {W : Nat} (hW : W ≤ 100000) (hW2 : db.length + 6 ≤ W) {i : Nat} (hi : i < da.length) {K : Value → Heap → Prop} {qs : List Int} {R : Int} (hB : 0 < dig db)
    (k : ∀ low h', 1 ≤ low → low < 10000 → low * dig db ≤ R → R < (low + 1) * dig db → DivSt h0 a b t6 rest q m na nb pa pb ca cb da db (W + 1) (qs.set i low) (R - low * dig db) h' → L_ref01_Div_1 up a b t6 rest q (i : Int) h' K) :
    ∀ (f : Nat) (low high : Int) (h : Heap), 1 ≤ low → low < high → high ≤ 10000 → high - low ≤ (f : Int) + 1 → low * dig db ≤ R → R < high * dig db → DivSt h0 a b t6 rest q m na nb pa pb ca cb da db W qs R h →
      L_ref01_Div_2 up a b t6 rest q (i : Int) low high h K := by
  intro f
  induction f with
  | zero =>
    intro low high h l1 l2 l3 l4 r1 r2 s
    have hh : high = low + 1 := by omega
    subst hh
    refine L_ref01_Div_2r _ _ _ _ _ _ _ _ _ _ _ ?_
    unfold L_ref01_Div_2T
    rw [wrap_i64_id (n := low + 1 - low) (by omega) (by omega)]
    refine Br.no (decide_eq_false (by omega)) ?_
    have hlen := s.len
    have cs : h.canSt m (0 + (i : Int).toNat) 1 := s.am.canSt (by rw [intsV_length, Int.toNat_natCast]; omega)
    refine ⟨_, _, _, s.aq.cell rfl, by omega, by omega, withAddr_intro rfl ⟨cs, ?_⟩⟩
    rw [Int.toNat_natCast, Nat.zero_add]
    have am2 := s.am.set (o := i) (ws := [int .i64 low])
    rw [intsV_set] at am2
    obtain ⟨p, c, ds, x1, x2, x3, x4, x5, x6, x7⟩ := s.rr
    have sl := le_setN (o := i) (ws := [int .i64 low]) s.le hm0
    have aa2 := s.aa.set_ne (o := i) (ws := [int .i64 low]) d1
    have ab2 := s.ab.set_ne (o := i) (ws := [int .i64 low]) d2
    have tt2 := s.tt.set_ne (o := i) (ws := [int .i64 low]) d3
    have aq2 := s.aq.set_ne (o := i) (ws := [int .i64 low]) d4
    have ar2 := x1.set_ne (o := i) (ws := [int .i64 low]) d5
    rw [← del_set (o := i) (ws := [int .i64 low])] at x2
    generalize h.setN m i [int .i64 low] = g at *
    refine ⟨_, ar2.cell rfl, _, _, _, ar2.cell rfl, _, _, _, ab2.cell rfl, ?_⟩
    refine CallA.off am2 (S_Of ⟨by omega, by omega⟩ fun v1 g1 y1 bn1 => fun g1' z1 n1 k1 => ?_)
    have w1 := le_of_del (Heap.le_trans y1 z1) k1
    have br1 := (bn1.le (le_del z1 n1)).raw
    obtain ⟨u1, q1, c1, ds1, rfl, _⟩ := bn1
    refine ⟨_, _, _, _, rfl, .inl w1, ?_⟩
    have rbg := (rb.le (le_del sl hm0))
    refine CallA.off (am2.le w1) (S_Mul_Big (y := dig db) (nb := db.length) br1 ⟨false, pb, cb, db, rfl, rbg.le (del_mono w1), ob, rfl, lcb, Nat.le_refl _⟩ (by omega) fun v2 g2 y2 bn2 => fun g2' z2 n2 k2 => ?_)
    have w2 := le_of_del (Heap.le_trans y2 z2) k2
    have br2 := (bn2.le (le_del z2 n2)).raw
    obtain ⟨u2, q2, c2, ds2, rfl, _⟩ := bn2
    refine ⟨_, _, _, _, rfl, .inl w2, ?_⟩
    have w12 := Heap.le_trans w1 w2
    refine CallA.off (am2.le w12) (S_Turned br2 (by omega) fun v3 g3 y3 bn3 => fun g3' z3 n3 k3 => ?_)
    have w3 := le_of_del (Heap.le_trans y3 z3) k3
    have br3 := (bn3.le (le_del z3 n3)).raw
    obtain ⟨u3, q3, c3, ds3, rfl, _⟩ := bn3
    refine ⟨_, _, _, _, rfl, .inl w3, ?_⟩
    have w13 := Heap.le_trans w12 w3
    refine CallA.off (am2.le w13) (S_Add_Big (x := R) (na := W) (B := W) ⟨false, p, c, ds, rfl, x2.le (del_mono w13), x3, by rw [← x4]; rfl, x5, x6⟩ br3 (Nat.le_refl _) (by omega) (by omega) fun v4 g4 y4 bn4 => fun g4' z4 n4 k4 => ?_)
    have w4 := le_of_del (Heap.le_trans y4 z4) k4
    have bn4' := bn4.le (le_del z4 n4)
    obtain ⟨u4, q4, c4, ds4, rfl, r4, o4, v4, lc4, lb4, nz4⟩ := bn4'
    have w14 := Heap.le_trans w13 w4
    have ar3 := ar2.le w14
    have nn := dig_nonneg o4
    have hu : u4 = false := by
      cases u4 with
      | false => rfl
      | true =>
        have : sg true ds4 = -dig ds4 := rfl
        have z : dig ds4 = 0 := by omega
        exact (nz4 z).2
    subst hu
    refine ⟨_, _, _, _, rfl, ar3.canSt (by simp), ?_⟩
    have am4 := (am2.le w14).set_ne (o := 0) (ws := [.bool false, slice q4 ds4.length c4]) d5.symm
    refine k low _ l1 (by omega) r1 (by omega) ⟨le_setN (Heap.le_trans sl w14) hr0, (aa2.le w14).set_ne e1, (ab2.le w14).set_ne e2, (tt2.le w14).set_ne e3, (aq2.le w14).set_ne e4, am4, by rw [List.length_set]; exact s.len, okD_set s.ok _ (by omega) (by omega), q4, c4, ds4, ar3.set, ?_, o4, ?_, lc4, lb4, fun z => ?_⟩
    · rw [del_setN d5]
      exact ints_set_box r4 (ar3.del d5)
    · have : sg false ds4 = dig ds4 := rfl
      omega
    · have : sg false ds4 = dig ds4 := rfl
      exact (nz4 (by omega)).1
  | succ f ih =>
    intro low high h l1 l2 l3 l4 r1 r2 s
    by_cases hgap : high - low ≤ 1
    · exact ih low high h l1 l2 l3 (by omega) r1 r2 s
    refine L_ref01_Div_2r _ _ _ _ _ _ _ _ _ _ _ ?_
    unfold L_ref01_Div_2T
    rw [wrap_i64_id (n := high - low) (by omega) (by omega)]
    obtain ⟨p, c, ds, x1, x2, x3, x4, x5, x6, x7⟩ := s.rr
    refine Br.yes (decide_eq_true (by omega)) ⟨_, _, _, s.ab.cell rfl, _, x1.cell rfl, _, _, _, x1.cell rfl, ?_⟩
    have em : IntKind.wrap .i64 (Int.tdiv (IntKind.wrap .i64 (low + high)) 2) = (low + high) / 2 := by
      rw [wrap_i64_id (n := low + high) (by omega) (by omega), Int.tdiv_eq_ediv_of_nonneg (by omega), wrap_i64_id (by omega) (by omega)]
    rw [em]
    have m1 : low < (low + high) / 2 := by omega
    have m2 : (low + high) / 2 < high := by omega
    have m3 : (low + high) / 2 - low ≤ (f : Int) + 1 := by omega
    have m4 : high - (low + high) / 2 ≤ (f : Int) + 1 := by omega
    generalize (low + high) / 2 = mid at *
    refine S_Of ⟨by omega, by omega⟩ fun v1 g1 y1 bn1 => ?_
    have br1 := bn1.raw
    obtain ⟨u1, q1, c1, ds1, rfl, _⟩ := bn1
    refine ⟨_, _, _, _, rfl, .inl y1, ?_⟩
    refine S_Mul_Big (y := dig db) (nb := db.length) br1 ⟨false, pb, cb, db, rfl, rb.le (Heap.le_trans s.le y1), ob, rfl, lcb, Nat.le_refl _⟩ (by omega) fun v2 g2 y2 bn2 => ?_
    obtain ⟨u2, q2, c2, ds2, rfl, r22, o2, v2, lc2, lb2, nz2⟩ := bn2
    refine ⟨_, _, _, _, rfl, .inl y2, ?_⟩
    have y12 := Heap.le_trans y1 y2
    have x2' : Ints .i64 g2 p ds := (x2.le (del_le h m)).le y12
    have nn := dig_nonneg o2
    have hpos : 0 ≤ mid * dig db := Int.mul_nonneg (by omega) (by omega)
    have ed : dig ds2 = mid * dig db := by
      cases u2 with
      | false => exact v2.symm
      | true =>
        have : sg true ds2 = -dig ds2 := rfl
        omega
    refine S_larger r22 x2' o2 x3 (by omega) (by omega) fun g3 y3 => ⟨_, rfl, ?_⟩
    have s3 := s.grow (Heap.le_trans y12 y3)
    rw [ed, x4]
    refine Br.dec (fun le => ?_) (fun nle => ?_)
    · have : mid * dig db ≤ R := by
        unfold cmpI at le
        split at le
        · omega
        · omega
      exact ih mid high g3 (by omega) m2 l3 m4 this r2 s3
    · have : R < mid * dig db := by
        unfold cmpI at nle
        split at nle
        · omega
        · split at nle <;> omega
      exact ih low mid g3 l1 m1 (by omega) m3 r1 this s3
theorem DivSt.more {W W' : Nat} {qs : List Int} {R : Int} {h : Heap} (s : DivSt h0 a b t6 rest q m na nb pa pb ca cb da db W qs R h) (l : W ≤ W') : DivSt h0 a b t6 rest q m na nb pa pb ca cb da db W' qs R h := by
  obtain ⟨p, c, ds, x1, x2, x3, x4, x5, x6, x7⟩ := s.rr
  exact ⟨s.le, s.aa, s.ab, s.tt, s.aq, s.am, s.len, s.ok, p, c, ds, x1, x2, x3, x4, x5, by omega, x7⟩
theorem set_zero : ∀ {qs : List Int} {i : Nat}, qs.getD i 0 = 0 → qs.set i 0 = qs
  | [], _, _ => rfl
  | x :: l, 0, h => by simp at h; simp [h]
  | x :: l, i + 1, h => by simp only [List.getD_cons_succ] at h; rw [List.set_cons_succ, set_zero h]
/-- one digit of the quotient -/
theorem div_row (rb : Ints .i64 h0 pb db) (ob : okD db) (lb : db.length ≤ 100) (lcb : db.length ≤ cb) (hm0 : h0 m = none) (hr0 : h0 rest = none) (d1 : a ≠ m) (d2 : b ≠ m) (d3 : t6 ≠ m) (d4 : q ≠ m) (d5 : rest ≠ m) (e1 : a ≠ rest) (e2 : b ≠ rest) (e3 : t6 ≠ rest) (e4 : q ≠ rest)
    {W : Nat} (hW : W ≤ 100000) (hW2 : db.length + 6 ≤ W) {i : Nat} (hi : i < da.length) (hda : da.length ≤ 1000) {K : Value → Heap → Prop} {qs : List Int} {R : Int} (hB : 0 < dig db) (h0R : 0 ≤ R) (hR : R < 10000 * dig db) (hz : qs.getD i 0 = 0)
    (k : ∀ low h', 0 ≤ low → low < 10000 → low * dig db ≤ R → R < (low + 1) * dig db → DivSt h0 a b t6 rest q m na nb pa pb ca cb da db (W + 1) (qs.set i low) (R - low * dig db) h' → L_ref01_Div_0 up a b t6 rest q ((i : Int) - 1) h' K)
    {h : Heap} (s : DivSt h0 a b t6 rest q m na nb pa pb ca cb da db W qs R h) : L_ref01_Div_1 up a b t6 rest q (i : Int) h K := by
  -- looking once more
  have look : ∀ (W' : Nat) (R' : Int) (qs' : List Int) (h : Heap), W' ≤ 100001 → DivSt h0 a b t6 rest q m na nb pa pb ca cb da db W' qs' R' h →
      (R' < dig db → ∀ h', h.le h' → L_ref01_Div_0 up a b t6 rest q ((i : Int) - 1) h' K) → (dig db ≤ R' → ∀ h', h.le h' → L_ref01_Div_2 up a b t6 rest q (i : Int) 1 10000 h' K) → L_ref01_Div_1 up a b t6 rest q (i : Int) h K := by
    intro W' R' qs' h hW' s c1 c2
    refine L_ref01_Div_1r _ _ _ _ _ _ _ _ _ ?_
    unfold L_ref01_Div_1T
    obtain ⟨p, c, ds, x1, x2, x3, x4, x5, x6, x7⟩ := s.rr
    refine ⟨_, x1.cell rfl, _, _, _, x1.cell rfl, _, s.ab.cell rfl, _, _, _, s.ab.cell rfl, ?_⟩
    refine S_larger (x2.le (del_le h m)) (rb.le s.le) x3 ob (by omega) (by omega) fun g y => ⟨_, rfl, ?_⟩
    rw [x4]
    refine Br.dec (fun ge => c2 ?_ g y) (fun nge => ?_)
    · unfold cmpI at ge
      split at ge
      · omega
      · split at ge <;> omega
    · rw [wrap_i64_id (n := (i : Int) - 1) (by omega) (by omega)]
      refine c1 ?_ g y
      unfold cmpI at nge
      split at nge
      · omega
      · split at nge <;> omega
  refine look W R qs h (by omega) s (fun lt h' l => ?_) (fun ge h' l => ?_)
  · refine k 0 h' (by omega) (by omega) (by omega) (by omega) ?_
    rw [set_zero hz, Int.zero_mul, Int.sub_zero]
    exact (s.grow l).more (by omega)
  · refine div_half (up := up) rb ob lb lcb hm0 hr0 d1 d2 d3 d4 d5 e1 e2 e3 e4 hW hW2 hi hB (fun low h2 g1 g2 g3 g4 s2 => ?_) 10000 1 10000 h' (by omega) (by omega) (by omega) (by omega) (by omega) hR (s.grow l)
    rw [Int.add_mul, Int.one_mul] at g4
    refine look (W + 1) _ _ h2 (by omega) s2 (fun _ h3 l3 => k low h3 (by omega) g2 g3 (by rw [Int.add_mul, Int.one_mul]; exact g4) (s2.grow l3)) (fun ge2 => by omega)
theorem getD_set_ne {qs : List Int} {i j : Nat} {v : Int} (e : i ≠ j) : (qs.set i v).getD j 0 = qs.getD j 0 := by
  rw [List.getD_eq_getElem?_getD, List.getD_eq_getElem?_getD, List.getElem?_set_ne e]
/-- all of them, from the highest on -/
theorem div_rows (ra : Ints .i64 h0 pa da) (oa : okD da) (rb : Ints .i64 h0 pb db) (ob : okD db) (lb : db.length ≤ 100) (lcb : db.length ≤ cb) (hm0 : h0 m = none) (hr0 : h0 rest = none) (d1 : a ≠ m) (d2 : b ≠ m) (d3 : t6 ≠ m) (d4 : q ≠ m) (d5 : rest ≠ m) (e1 : a ≠ rest) (e2 : b ≠ rest) (e3 : t6 ≠ rest) (e4 : q ≠ rest)
    (hda : da.length ≤ 1000) {K : Value → Heap → Prop} (hB : 0 < dig db)
    (kend : ∀ qs R h, DivSt h0 a b t6 rest q m na nb pa pb ca cb da db 10000 qs R h → 0 ≤ R → R < dig db → dig qs * dig db + R = dig da → L_ref01_Div_0 up a b t6 rest q (-1) h K) :
    ∀ (n : Nat) (qs : List Int) (R : Int) (h : Heap), n ≤ da.length → DivSt h0 a b t6 rest q m na nb pa pb ca cb da db (200 + 2 * (da.length - n)) qs R h → 0 ≤ R → R < dig db → (∀ j, j < n → qs.getD j 0 = 0) →
      dig (qs.drop n) * dig db + R = dig (da.drop n) → L_ref01_Div_0 up a b t6 rest q ((n : Int) - 1) h K := by
  intro n
  induction n with
  | zero =>
    intro qs R h hn s r0 r1 hz e
    exact kend qs R h (s.more (by omega)) r0 r1 e
  | succ n ih =>
    intro qs R h hn s r0 r1 hz e
    rw [show (((n + 1 : Nat) : Int) - 1) = (n : Int) from by omega]
    refine L_ref01_Div_0r _ _ _ _ _ _ _ _ _ ?_
    unfold L_ref01_Div_0T
    have hlt : n < da.length := by omega
    obtain ⟨b1, o1, ea, hca⟩ := (ra.le s.le).at hlt
    obtain ⟨p, c, ds, x1, x2, x3, x4, x5, x6, x7⟩ := s.rr
    have gd := oa _ (List.getElem_mem hlt)
    refine Br.yes (decide_eq_true (by omega)) ⟨_, _, _, s.aa.cell rfl, by omega, by omega, withAddr_intro ea ⟨_, by rw [Int.toNat_natCast]; exact hca, ?_⟩⟩
    refine ⟨_, _, _, x1.cell rfl, ?_⟩
    have edrop : dig (da.drop n) = da[n] + 10000 * dig (da.drop (n + 1)) := by rw [List.drop_eq_getElem_cons hlt]; rfl
    generalize da[n] = d at *
    intro r hr
    have nm : m ≠ r := s.am.ne hr
    have s1 := s.grow (le_ins hr (o := .cells [int .i64 d].toArray 3 (0, 0)))
    have x1b := x1.ins (x := .cells [int .i64 d].toArray 3 (0, 0)) hr
    have x2b : Ints .i64 (h.ins r (.cells [int .i64 d].toArray 3 (0, 0))) p ds := (x2.le (del_le h m)).le (le_ins hr)
    have n1 : rdL (h.ins r (.cells [int .i64 d].toArray 3 (0, 0))) (some ⟨r, 0, none⟩) [int .i64 d] := rdL_new _ _ _ _ _
    have rne := x1.ne hr
    refine AppA.mk [int .i64 d] (intsV .i64 ds) (by omega) (by rw [intsV_length]; simp) x2b (allCells_ints _ _) rfl n1 ?_ ?_
    · intro hc
      exact .inl (by have : ds = [] := List.length_eq_zero_iff.1 (by omega)
                     subst this; rfl)
    intro p' c' h' hcap rd keep how
    have lh : h.le h' := fun x y hx => keep x y (le_ins hr x y hx) (fun o e2 => by cases e2; rw [hr] at hx; cases hx)
    have s2 := s.grow lh
    have hp' : ∀ o, p' ≠ some ⟨m, o, none⟩ := by
      intro o e2
      rcases how with ⟨e3, _, _⟩ | ⟨_, r', e3, hr', _⟩
      · rw [e3] at e2; cases e2; exact nm rfl
      · rw [e3] at e2; cases e2
        exact s1.am.ne hr' rfl
    have i2 : Ints .i64 (h'.del m) p' (d :: ds) := rd_del (show rdL h' p' (intsV .i64 (d :: ds)) from rd) hp'
    have ok2 : okD (d :: ds) := fun v hv => by
      rcases List.mem_cons.1 hv with e2 | e2
      · rw [e2]; exact gd
      · exact x3 v e2
    have el : 1 + ds.length = (d :: ds).length := by simp; omega
    rw [el]
    refine CallA.off s2.am (S_trim i2 ok2 (by simp; omega) (by simp; omega) fun v1 g1 y1 bn1 => fun g1' z1 n1 k1 => ?_)
    have w1 := le_of_del (Heap.le_trans y1 z1) k1
    have bn1' := bn1.le (le_del z1 n1)
    obtain ⟨u1, q1, c1, ds1, rfl, r1', o1', v1, lc1, lb1, nz1⟩ := bn1'
    have s3 := s2.grow w1
    have x13 := (x1.le lh).le w1
    refine ⟨_, _, _, _, rfl, x13.canSt (by simp), ?_⟩
    have esg : sg false (d :: ds) = d + 10000 * R := by
      have : sg false (d :: ds) = d + 10000 * dig ds := rfl
      rw [this, x4]
    rw [esg] at v1
    have nn := dig_nonneg o1'
    have hu : u1 = false := by
      cases u1 with
      | false => rfl
      | true =>
        have : sg true ds1 = -dig ds1 := rfl
        have z : dig ds1 = 0 := by omega
        exact (nz1 z).2
    subst hu
    have v1 : d + 10000 * R = dig ds1 := v1
    have st : DivSt h0 a b t6 rest q m na nb pa pb ca cb da db (201 + 2 * (da.length - (n + 1))) qs (d + 10000 * R) (g1'.setN rest 0 [.bool false, slice q1 ds1.length c1]) := by
      refine ⟨le_setN s3.le hr0, s3.aa.set_ne e1, s3.ab.set_ne e2, s3.tt.set_ne e3, s3.aq.set_ne e4, s3.am.set_ne d5.symm, s3.len, s3.ok, q1, c1, ds1, x13.set, ?_, o1', v1.symm, lc1, ?_, fun z => ?_⟩
      · rw [del_setN d5]
        exact ints_set_box r1' (x13.del d5)
      · simp only [List.length_cons] at lb1; omega
      · exact (nz1 (by omega)).1
    refine div_row (up := up) rb ob lb lcb hm0 hr0 d1 d2 d3 d4 d5 e1 e2 e3 e4 (by omega) (by omega) hlt hda hB (by omega) (by omega) (hz n (by omega)) (fun low h2 g1 g2 g3 g4 s4 => ?_) st
    rw [Int.add_mul, Int.one_mul] at g4
    refine ih (qs.set n low) _ h2 (by omega) (s4.more (by omega)) (by omega) (by omega) (fun j hj => by rw [getD_set_ne (by omega)]; exact hz j (by omega)) ?_
    have hq : n < (qs.set n low).length := by rw [List.length_set, s.len]; exact hlt
    rw [List.drop_eq_getElem_cons hq, edrop, ← e]
    have e5 : (qs.set n low)[n] = low := by simp
    have e6 : (qs.set n low).drop (n + 1) = qs.drop (n + 1) := by rw [List.drop_set_of_lt (by omega)]
    rw [e5, e6]
    simp only [dig]
    rw [Int.add_mul, Int.mul_assoc]
    omega
theorem div_val {Q B R : Int} (hB : 0 < B) (r0 : 0 ≤ R) (r1 : R < B) : (Q * B + R) / B = Q ∧ (-(Q * B + R)) / B = (if R = 0 then -Q else -Q - 1) := by
  refine ⟨((Int.ediv_emod_unique hB).2 ⟨by rw [Int.mul_comm B Q]; omega, r0, r1⟩).1, ?_⟩
  by_cases h : R = 0
  · rw [if_pos h]
    exact ((Int.ediv_emod_unique (r := 0) hB).2 ⟨by rw [Int.mul_neg, Int.mul_comm B Q]; omega, by omega, hB⟩).1
  · rw [if_neg h]
    exact ((Int.ediv_emod_unique (r := B - R) hB).2 ⟨by rw [Int.mul_sub, Int.mul_neg, Int.mul_comm B Q]; omega, by omega, by omega⟩).1
/-- the answer: the quotient, or one beside it -/
theorem div_end (ht0 : h0 t6 = none) (hq0 : h0 q = none) (d4 : q ≠ m) (f1 : a ≠ q) (f2 : rest ≠ q) (f3 : t6 ≠ q) (hda : da.length ≤ 1000) {K : Value → Heap → Prop} (hB : 0 < dig db)
    (k : ∀ v h', h0.le h' → BigN h' v (dv (sg na da) (dig db) up) 1001 → K v h') {qs : List Int} {R : Int} {h : Heap} (s : DivSt h0 a b t6 rest q m na nb pa pb ca cb da db 10000 qs R h) (r0 : 0 ≤ R) (r1 : R < dig db)
    (e : dig qs * dig db + R = dig da) : L_ref01_Div_0 up a b t6 rest q (-1) h K := by
  refine L_ref01_Div_0r _ _ _ _ _ _ _ _ _ ?_
  unfold L_ref01_Div_0T
  have hlen := s.len
  have rq : Ints .i64 h (some ⟨m, 0, none⟩) qs := by
    have : At h m (intsV .i64 qs ++ []) := by rw [List.append_nil]; exact s.am
    exact this.toRd
  have aq := s.aq
  rw [← hlen] at aq
  refine Br.no (by decide) ⟨_, aq.cell rfl, _, _, _, aq.cell rfl, S_trim rq s.ok (Nat.le_refl _) (by omega) fun v1 g y bn => ?_⟩
  obtain ⟨u1, q1, c1, ds1, rfl, r1', o1, v1, lc1, lb1, nz1⟩ := bn
  have s1 := s.grow y
  obtain ⟨p, c, ds, x1, x2, x3, x4, x5, x6, x7⟩ := s1.rr
  have aq1 := s1.aq
  refine ⟨_, _, _, _, rfl, aq1.canSt (by simp), ?_⟩
  have G0 := le_setN (o := 0) (ws := [.bool u1, slice q1 ds1.length c1]) s1.le hq0
  have aq2 : At (g.setN q 0 [.bool u1, slice q1 ds1.length c1]) q [.bool u1, slice q1 ds1.length c1] := aq1.set
  have ar2 := x1.set_ne (o := 0) (ws := [.bool u1, slice q1 ds1.length c1]) f2
  have aa2 := s1.aa.set_ne (o := 0) (ws := [.bool u1, slice q1 ds1.length c1]) f1
  have at2 := s1.tt.set_ne (o := 0) (ws := [.bool u1, slice q1 ds1.length c1]) f3
  have i2 := ints_set_box (ws := [.bool u1, slice q1 ds1.length c1]) r1' aq1
  generalize g.setN q 0 [.bool u1, slice q1 ds1.length c1] = G at *
  have nrm : BigN G (agg #[.bool u1, slice q1 ds1.length c1]) (sg na qs) 1000 := ⟨u1, q1, c1, ds1, rfl, i2, o1, v1, lc1, by omega, nz1⟩
  have val := div_val (Q := dig qs) hB r0 r1
  rw [e] at val
  -- as it is
  have plain : dv (sg na da) (dig db) up = sg na qs → (∃ (b_2 : Bool), Heap.cell G q 0 = some (Value.bool b_2) ∧ ∃ (a : Option Addr), ∃ (n_3 : Nat), ∃ (m_3 : Nat), Heap.cell G q 1 = some (slice a n_3 m_3) ∧ Heap.canSt G t6 0 2 ∧
      ∃ (b_3 : Bool), Heap.cell (Heap.setN G t6 0 [Value.bool b_2, slice a n_3 m_3]) t6 0 = some (Value.bool b_3) ∧ ∃ (a_5 : Option Addr), ∃ (n_4 : Nat), ∃ (m_4 : Nat),
        Heap.cell (Heap.setN G t6 0 [Value.bool b_2, slice a n_3 m_3]) t6 1 = some (slice a_5 n_4 m_4) ∧ Ret (Heap.setN G t6 0 [Value.bool b_2, slice a n_3 m_3]) K (agg #[Value.bool b_3, slice a_5 n_4 m_4])) := by
    intro hv
    refine ⟨_, aq2.cell rfl, _, _, _, aq2.cell rfl, ret_out ht0 G0 at2 fun h' l' keep => k _ _ l' ?_⟩
    rw [hv]
    exact ⟨u1, q1, c1, ds1, rfl, keep _ _ i2, o1, v1, lc1, by omega, nz1⟩
  -- or one more, or less
  have beside : ∀ (one : Int), I64 one → dv (sg na da) (dig db) up = sg na qs + one → (∃ (b_2 : Bool), Heap.cell G q 0 = some (Value.bool b_2) ∧ ∃ (a : Option Addr), ∃ (n_2 : Nat), ∃ (m_2 : Nat), Heap.cell G q 1 = some (slice a n_2 m_2) ∧
      CallA Try.prog fn_ref01_Of [int IntKind.i64 one] G fun (v : Value) (h_1 : Heap) => ∃ (b_3 : Bool), ∃ (a_4 : Option Addr), ∃ (n_3 : Nat), ∃ (m_3 : Nat), v = agg #[Value.bool b_3, slice a_4 n_3 m_3] ∧ (Heap.le G h_1 ∨ Keeps [q] G h_1) ∧
        CallA Try.prog fn_ref01_Add [agg #[Value.bool b_2, slice a n_2 m_2], agg #[Value.bool b_3, slice a_4 n_3 m_3]] h_1 fun (v : Value) (h : Heap) => ∃ (b : Bool), ∃ (a : Option Addr), ∃ (n : Nat), ∃ (m : Nat), v = agg #[Value.bool b, slice a n m] ∧
          Heap.canSt h t6 0 2 ∧ ∃ (b_4 : Bool), Heap.cell (Heap.setN h t6 0 [Value.bool b, slice a n m]) t6 0 = some (Value.bool b_4) ∧ ∃ (a_5 : Option Addr), ∃ (n_4 : Nat), ∃ (m_4 : Nat),
            Heap.cell (Heap.setN h t6 0 [Value.bool b, slice a n m]) t6 1 = some (slice a_5 n_4 m_4) ∧ Ret (Heap.setN h t6 0 [Value.bool b, slice a n m]) K (agg #[Value.bool b_4, slice a_5 n_4 m_4])) := by
    intro one h1 hv
    refine ⟨_, aq2.cell rfl, _, _, _, aq2.cell rfl, S_Of h1 fun v2 g2 y2 bn2 => ?_⟩
    have br2 := bn2.raw
    obtain ⟨u2, q2, c2, ds2, rfl, _⟩ := bn2
    refine ⟨_, _, _, _, rfl, .inl y2, S_Add_Big (B := 1000) (nrm.raw.le y2) br2 (by omega) (by omega) (by omega) fun v3 g3 y3 bn3 => ?_⟩
    obtain ⟨u3, q3, c3, ds3, rfl, r3, o3, v3, lc3, lb3, nz3⟩ := bn3
    have y23 := Heap.le_trans y2 y3
    refine ⟨_, _, _, _, rfl, ret_out ht0 (Heap.le_trans G0 y23) (at2.le y23) fun h' l' keep => k _ _ l' ?_⟩
    rw [hv]
    exact ⟨u3, q3, c3, ds3, rfl, keep _ _ r3, o3, v3, lc3, by omega, nz3⟩
  refine ⟨_, _, _, ar2.cell rfl, ?_⟩
  by_cases hR : R = 0
  · have e0 : ds = [] := x7 hR
    subst e0
    rw [if_pos hR] at val
    refine Br.no (by decide) ⟨_, _, _, ar2.cell rfl, Br.no (by decide) (plain ?_)⟩
    unfold dv sg
    cases na <;> cases up <;> simp [val.1, val.2]
  · have e0 : 0 < ds.length := by
      refine List.length_pos_iff.2 fun z => ?_
      subst z
      exact hR x4.symm
    rw [if_neg hR] at val
    have yes : decide ((ds.length : Int) > 0) = true := decide_eq_true (by omega)
    refine Br.yes yes ⟨_, aa2.cell rfl, ?_⟩
    cases na with
    | false =>
      refine Br.yes rfl ?_
      cases up with
      | true => exact Br.yes rfl (beside 1 ⟨by decide, by decide⟩ (by unfold dv sg; simp [val.1, val.2]; omega))
      | false => exact Br.no rfl ⟨_, _, _, ar2.cell rfl, Br.yes yes ⟨_, aa2.cell rfl, Br.no rfl (plain (by unfold dv sg; simp [val.1, val.2]))⟩⟩
    | true =>
      refine Br.no rfl ⟨_, _, _, ar2.cell rfl, Br.yes yes ⟨_, aa2.cell rfl, Br.yes rfl ?_⟩⟩
      cases up with
      | true => exact Br.no rfl (plain (by unfold dv sg; simp [val.1, val.2]))
      | false => exact Br.yes rfl (beside (-1) ⟨by decide, by decide⟩ (by unfold dv sg; simp [val.1, val.2]; omega))
end
end Go.Proofs.Ytghdadniddoboaa

/- The reference's quotient and parted product. -/
namespace Go.Proofs.Ytghdadniddoboaa
open Go Go.Sy Go.Value
set_option linter.unusedVariables false
set_option linter.unusedSimpArgs false

theorem S_Div_Big {va vb : Value} {x y : Int} {na nb : Nat} {h : Heap} (ha : BigR h va x na) (hb : BigR h vb y nb) (la : na ≤ 1000) (lb : nb ≤ 100) (hy : 0 < y) {up : Bool} {K : Value → Heap → Prop}
    (k : ∀ v h', h.le h' → BigN h' v (dv x y up) 1001 → K v h') : CallA Try.prog fn_ref01_Div [va, vb, .bool up] h K := by
  obtain ⟨n1, p1, c1, d1, rfl, r1, o1, hx, lc1, lb1⟩ := ha
  obtain ⟨n2, p2, c2, d2, rfl, r2, o2, hy2, lc2, lb2⟩ := hb
  have dn := dig_nonneg o2
  have e2 : n2 = false := by
    cases n2 with
    | false => rfl
    | true =>
      have : sg true d2 = -dig d2 := rfl
      omega
  subst e2
  have hy3 : y = dig d2 := hy2
  refine F_ref01_Div _ _ _ _ _ _ _ _ _ _ _ ?_
  unfold F_ref01_DivT
  intro r hr s hs t ht u hu
  have aa := (((At.new h r [.bool n1, slice p1 d1.length c1] 102).ins (x := .cells [.bool false, slice p2 d2.length c2].toArray 102 (0, 0)) hs).ins (x := .cells [.bool false, slice none 0 0].toArray 102 (0, 0)) ht)
  have ab := (At.new (h.ins r (.cells [.bool n1, slice p1 d1.length c1].toArray 102 (0, 0))) s [.bool false, slice p2 d2.length c2] 102).ins (x := .cells [.bool false, slice none 0 0].toArray 102 (0, 0)) ht
  have tt := At.new ((h.ins r (.cells [.bool n1, slice p1 d1.length c1].toArray 102 (0, 0))).ins s (.cells [.bool false, slice p2 d2.length c2].toArray 102 (0, 0))) t [.bool false, slice none 0 0] 102
  have l1 := le_ins2 (x := .cells [.bool false, slice p2 d2.length c2].toArray 102 (0, 0)) (le_ins hr (o := .cells [.bool n1, slice p1 d1.length c1].toArray 102 (0, 0))) hs
  have l2 := le_ins2 (x := .cells [.bool false, slice none 0 0].toArray 102 (0, 0)) l1 ht
  have et := none_of_le l1 ht
  generalize ((h.ins r (.cells [.bool n1, slice p1 d1.length c1].toArray 102 (0, 0))).ins s (.cells [.bool false, slice p2 d2.length c2].toArray 102 (0, 0))).ins t (.cells [.bool false, slice none 0 0].toArray 102 (0, 0)) = g2 at *
  have rr := At.new g2 u [.bool false, slice none 0 0] 102
  have m1 := aa.ne hu
  have m2 := ab.ne hu
  have m3 := tt.ne hu
  have aa := (aa.ins (x := .cells [.bool false, slice none 0 0].toArray 102 (0, 0)) hu).set_ne (o := 0) (ws := [.bool false, slice none 0 0]) m1
  have ab := (ab.ins (x := .cells [.bool false, slice none 0 0].toArray 102 (0, 0)) hu).set_ne (o := 0) (ws := [.bool false, slice none 0 0]) m2
  have tt := (tt.ins (x := .cells [.bool false, slice none 0 0].toArray 102 (0, 0)) hu).set_ne (o := 0) (ws := [.bool false, slice none 0 0]) m3
  have eu := none_of_le l2 hu
  have l3 := le_setN (o := 0) (ws := [.bool false, slice none 0 0]) (le_ins2 (x := .cells [.bool false, slice none 0 0].toArray 102 (0, 0)) l2 hu) eu
  refine ⟨rr.canSt (by simp), ?_⟩
  have rr : At ((g2.ins u (.cells [.bool false, slice none 0 0].toArray 102 (0, 0))).setN u 0 [.bool false, slice none 0 0]) u [.bool false, slice none 0 0] := rr.set
  generalize (g2.ins u (.cells [.bool false, slice none 0 0].toArray 102 (0, 0))).setN u 0 [.bool false, slice none 0 0] = g3 at *
  refine ⟨_, aa.cell rfl, _, _, _, aa.cell rfl, by omega, Int.le_refl _, by omega, by omega, ?_⟩
  rw [Int.toNat_natCast, repL_zeros]
  intro m hm o ho
  have am := (At.new g3 m (intsV .i64 (List.replicate d1.length 0)) 3).ins (x := .cells [.bool false, slice none 0 0].toArray 102 (0, 0)) ho
  have q0 : m ≠ o := (At.new _ _ _ _).ne ho
  have k1 := aa.ne hm
  have k2 := ab.ne hm
  have k3 := tt.ne hm
  have k4 := rr.ne hm
  have aa := aa.ins (x := .cells (intsV .i64 (List.replicate d1.length 0)).toArray 3 (0, 0)) hm
  have ab := ab.ins (x := .cells (intsV .i64 (List.replicate d1.length 0)).toArray 3 (0, 0)) hm
  have tt := tt.ins (x := .cells (intsV .i64 (List.replicate d1.length 0)).toArray 3 (0, 0)) hm
  have rr := rr.ins (x := .cells (intsV .i64 (List.replicate d1.length 0)).toArray 3 (0, 0)) hm
  have q1 := aa.ne ho
  have q2 := ab.ne ho
  have q3 := tt.ne ho
  have q4 := rr.ne ho
  have em := none_of_le l3 hm
  have l4 := le_ins2 (x := .cells (intsV .i64 (List.replicate d1.length 0)).toArray 3 (0, 0)) l3 hm
  have eo := none_of_le l4 ho
  have l5 := le_setN (o := 0) (ws := [.bool n1, slice (some ⟨m, 0, none⟩) d1.length d1.length]) (le_ins2 (x := .cells [.bool false, slice none 0 0].toArray 102 (0, 0)) l4 ho) eo
  have oo := At.new (g3.ins m (.cells (intsV .i64 (List.replicate d1.length 0)).toArray 3 (0, 0))) o [.bool false, slice none 0 0] 102
  have aa := (aa.ins (x := .cells [.bool false, slice none 0 0].toArray 102 (0, 0)) ho).set_ne (o := 0) (ws := [.bool n1, slice (some ⟨m, 0, none⟩) d1.length d1.length]) q1
  have ab := (ab.ins (x := .cells [.bool false, slice none 0 0].toArray 102 (0, 0)) ho).set_ne (o := 0) (ws := [.bool n1, slice (some ⟨m, 0, none⟩) d1.length d1.length]) q2
  have tt := (tt.ins (x := .cells [.bool false, slice none 0 0].toArray 102 (0, 0)) ho).set_ne (o := 0) (ws := [.bool n1, slice (some ⟨m, 0, none⟩) d1.length d1.length]) q3
  have rr := (rr.ins (x := .cells [.bool false, slice none 0 0].toArray 102 (0, 0)) ho).set_ne (o := 0) (ws := [.bool n1, slice (some ⟨m, 0, none⟩) d1.length d1.length]) q4
  have am := am.set_ne (o := 0) (ws := [.bool n1, slice (some ⟨m, 0, none⟩) d1.length d1.length]) q0
  refine ⟨oo.canSt (by simp), _, _, _, aa.cell rfl, ?_⟩
  rw [wrap_i64_id (by omega) (by omega)]
  have st : DivSt h r s t u o m n1 false p1 p2 c1 c2 d1 d2 (200 + 2 * (d1.length - d1.length)) (List.replicate d1.length 0) 0 ((Heap.ins (g3.ins m (.cells (intsV .i64 (List.replicate d1.length 0)).toArray 3 (0, 0))) o (.cells [.bool false, slice none 0 0].toArray 102 (0, 0))).setN o 0 [.bool n1, slice (some ⟨m, 0, none⟩) d1.length d1.length]) :=
    ⟨l5, aa, ab, tt, oo.set, am, by simp, okD_zeros _, none, 0, [], rr, .inl rfl, fun d hd => (by cases hd), rfl, by simp, by simp, fun _ => rfl⟩
  have hB : 0 < dig d2 := by omega
  refine div_rows (up := up) r1 o1 r2 o2 (by omega) lc2 em eu k1 k2 k3 (fun e => q0 e.symm) k4 m1 m2 m3 (fun e => q4 e.symm) (by omega) hB (fun qs R g sg2 r0 rlt e => ?_) d1.length _ 0 _ (Nat.le_refl _) st (Int.le_refl _) hB (fun j hj => ?_) ?_
  · refine div_end (up := up) et eo (fun e => q0 e.symm) q1 q4 q3 (by omega) hB (fun v h' l bn => k v h' l ?_) sg2 r0 rlt e
    rw [hx, hy3]; exact bn
  · rw [List.getD_eq_getElem?_getD, List.getElem?_replicate, if_pos hj]; rfl
  · rw [List.drop_of_length_le (by simp), List.drop_of_length_le (Nat.le_refl _)]; simp [dig]
theorem S_RMulDiv {a b c : Int} (ha : I64 a) (hb : I64 b) (hc : I64 c) {up : Bool} {h : Heap} {K : Value → Heap → Prop} (k : ∀ h', h.le h' → K (tuple #[int .i64 (md a b c up).1, int .i64 (md a b c up).2]) h') :
    CallA Try.prog fn_ref01_MulDiv [int .i64 a, int .i64 b, int .i64 c, .bool up] h K := by
  refine F_ref01_MulDiv _ _ _ _ _ _ ?_
  unfold F_ref01_MulDivT
  refine Br.dec (fun lt => Ret.mk ?_) (fun nlt => ?_)
  · have := k h h.le_refl
    unfold md at this
    rw [if_pos lt] at this
    exact this
  refine S_Of ha fun v1 h1 l1 bn1 => ?_
  have br1 := bn1.raw
  obtain ⟨n1, p1, c1, d1, rfl, _⟩ := bn1
  refine ⟨_, _, _, _, rfl, ?_⟩
  refine S_Of hb fun v2 h2 l2 bn2 => ?_
  have br2 := bn2.raw
  obtain ⟨n2, p2, c2, d2, rfl, _⟩ := bn2
  refine ⟨_, _, _, _, rfl, ?_⟩
  refine S_Mul_Big (br1.le l2) br2 (by omega) fun v3 h3 l3 bn3 => ?_
  have br3 := bn3.raw
  obtain ⟨n3, p3, c3, d3, rfl, _⟩ := bn3
  refine ⟨_, _, _, _, rfl, ?_⟩
  refine S_Of hc fun v4 h4 l4 bn4 => ?_
  have br4 := bn4.raw
  obtain ⟨n4, p4, c4, d4, rfl, _⟩ := bn4
  refine ⟨_, _, _, _, rfl, ?_⟩
  refine S_Div_Big (br3.le l4) br4 (by omega) (by omega) (by omega) fun v5 h5 l5 bn5 => ?_
  have br5 := bn5.raw
  obtain ⟨n5, p5, c5, d5, rfl, _⟩ := bn5
  refine ⟨_, _, _, _, rfl, ?_⟩
  refine S_Fit br5 (by omega) fun h6 l6 => ⟨_, _, rfl, Ret.mk ?_⟩
  have := k h6 (Heap.le_trans l1 (Heap.le_trans l2 (Heap.le_trans l3 (Heap.le_trans l4 (Heap.le_trans l5 l6)))))
  unfold md at this
  rw [if_neg nlt] at this
  exact this
end Go.Proofs.Ytghdadniddoboaa
