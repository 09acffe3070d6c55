/- The reference's whole numbers of any size: a product. -/
import Derived.Test.YtkcogdmddhkldaaBigTot
import Derived.Test.YtkcogdmddhkldaaEqBigMul
namespace Go.Proofs.Ytkcogdmddhkldaa
open Go Go.Sy Go.Value
set_option linter.unusedVariables false
set_option linter.unusedSimpArgs false

theorem dig_set : ∀ (l : List Int) (j : Nat) (v : Int), j < l.length → dig (l.set j v) = dig l + 10000 ^ j * (v - l.getD j 0)
  | [], j, v, h => by simp at h
  | d :: l, 0, v, h => by simp [dig]; omega
  | d :: l, j + 1, v, h => by
    have e := dig_set l j v (by simpa using h)
    simp only [List.set_cons_succ, dig, e, List.getD_cons_succ, Int.pow_succ]
    rw [Int.mul_add, Int.mul_comm (10000 ^ j) 10000, Int.mul_assoc]
    omega
theorem intsV_set (ds : List Int) (j : Nat) (v : Int) : setL (intsV .i64 ds) j [int .i64 v] = intsV .i64 (ds.set j v) := by
  simp only [setL, setT_eq, intsV_map, List.map_set]
theorem okD_set {ds : List Int} (h : okD ds) (j : Nat) {v : Int} (h0 : 0 ≤ v) (h1 : v < 10000) : okD (ds.set j v) := fun d hd => by
  rcases List.mem_or_eq_of_mem_set hd with e | e
  · exact h d e
  · rw [e]; exact ⟨h0, h1⟩
theorem repL_zeros : ∀ n, repL n [int .i64 0] = intsV .i64 (List.replicate n 0)
  | 0 => rfl
  | n + 1 => by
    rw [List.replicate_succ, intsV, repL, repL_zeros n]; rfl
theorem dig_zeros : ∀ n, dig (List.replicate n 0) = 0
  | 0 => rfl
  | n + 1 => by rw [List.replicate_succ, dig, dig_zeros n]; omega
theorem okD_zeros (n : Nat) : okD (List.replicate n 0) := fun d hd => by
  have := (List.mem_replicate.1 hd).2
  omega
theorem mul_rows {na nb neg : Bool} {pa pb : Option Addr} {ca cb : Nat} {da db : List Int} {a b t4 out m : Nat} {h0 : Heap} (ra : Ints .i64 h0 pa da) (rb : Ints .i64 h0 pb db) (oa : okD da) (ob : okD db)
    (ht : h0 t4 = none) (ho : h0 out = none) (hm0 : h0 m = none) (d1 : a ≠ m) (d2 : b ≠ m) (d3 : t4 ≠ m) (d4 : out ≠ m) {M : Nat} (hM : M = da.length + db.length + 1) (hM2 : M ≤ 1048000)
    {K : Value → Heap → Prop} (k : ∀ v h', h0.le h' → BigN h' v (if neg then -(dig da * dig db) else dig da * dig db) M → K v h') :
    ∀ (e i : Nat) (ds : List Int) (h : Heap), i + e = da.length → ds.length = M → h0.le h → At h a [.bool na, slice pa da.length ca] → At h b [.bool nb, slice pb db.length cb] → At h t4 [.bool false, slice none 0 0] →
      At h out [.bool neg, slice (some ⟨m, 0, none⟩) M M] → At h m (intsV .i64 ds) → okD ds → dig ds = dig (da.take i) * dig db → L_ref01_Mul_0 a b t4 out (i : Int) h K := by
  intro e
  induction e with
  | zero =>
    intro i ds h hi hl l aa ab tt oo am ok hd
    refine L_ref01_Mul_0r _ _ _ _ _ _ _ ?_
    unfold L_ref01_Mul_0T
    refine ⟨_, _, _, aa.cell rfl, Br.no (decide_eq_false (by omega)) ?_⟩
    have rd : Ints .i64 h (some ⟨m, 0, none⟩) ds := by
      have : At h m (intsV .i64 ds ++ []) := by rw [List.append_nil]; exact am
      exact this.toRd
    rw [List.take_of_length_le (by omega)] at hd
    subst hl
    exact add_end l ht oo tt rd ok (Nat.le_refl _) (by omega) (B := ds.length) (Nat.le_refl _) (by unfold sg; rw [hd]) k
  | succ e ih =>
    intro i ds h hi hl l aa ab tt oo am ok hd
    refine L_ref01_Mul_0r _ _ _ _ _ _ _ ?_
    unfold L_ref01_Mul_0T
    have hlt : i < da.length := by omega
    refine ⟨_, _, _, aa.cell rfl, Br.yes (decide_eq_true (by omega)) ?_⟩
    have gx := oa _ (List.getElem_mem hlt)
    have tk := dig_take_succ (l := da) hlt
    -- one row
    have row : ∀ (f j : Nat) (carry : Int) (ds : List Int) (h : Heap), j + f = db.length + 1 → ds.length = M → h0.le h → At h a [.bool na, slice pa da.length ca] → At h b [.bool nb, slice pb db.length cb] → At h t4 [.bool false, slice none 0 0] →
        At h out [.bool neg, slice (some ⟨m, 0, none⟩) M M] → At h m (intsV .i64 ds) → okD ds → 0 ≤ carry → carry < 10000 →
        dig ds + 10000 ^ (i + j) * carry = dig (da.take i) * dig db + 10000 ^ i * (da[i] * dig (db.take j)) → L_ref01_Mul_1 a b t4 out (i : Int) carry (j : Int) h K := by
      intro f
      induction f with
      | zero =>
        intro j carry ds h hj hl l aa ab tt oo am ok c0 c1 hd
        refine L_ref01_Mul_1r _ _ _ _ _ _ _ _ _ ?_
        unfold L_ref01_Mul_1T
        refine ⟨_, _, _, ab.cell rfl, ?_⟩
        rw [wrap_i64_id (n := (db.length : Int) + 1) (by omega) (by omega)]
        refine Br.no (decide_eq_false (by omega)) ?_
        rw [wrap_i64_id (n := (i : Int) + 1) (by omega) (by omega)]
        rw [List.take_of_length_le (show db.length ≤ j by omega)] at hd
        have e1 : dig (da.take i) * dig db + 10000 ^ i * (da[i] * dig db) = dig (da.take (i + 1)) * dig db := by
          rw [tk, Int.add_mul, Int.mul_assoc]
        rw [e1] at hd
        have t1 := dig_take_lt oa (i + 1)
        have t2 := dig_lt ob
        have t3 := dig_nonneg ok
        have t4 := dig_nonneg ob
        have t5 := dig_nonneg (okD_take oa (i + 1))
        have hc : carry = 0 := by
          refine Classical.byContradiction fun hne => ?_
          have p1 : (10000 : Int) ^ (i + j) = 10000 ^ (i + 1) * 10000 ^ db.length := by
            rw [← Int.pow_add]; congr 1; omega
          have q1 : (0 : Int) < 10000 ^ (i + j) := Int.pow_pos (by decide)
          have q2 : (10000 : Int) ^ (i + j) * 1 ≤ 10000 ^ (i + j) * carry := Int.mul_le_mul_of_nonneg_left (by omega) (by omega)
          have q3 : (0 : Int) < 10000 ^ (i + 1) := Int.pow_pos (by decide)
          have q4 : dig (da.take (i + 1)) * dig db ≤ (10000 ^ (i + 1) - 1) * dig db := Int.mul_le_mul_of_nonneg_right (by omega) t4
          have q5 : (10000 ^ (i + 1) - 1 : Int) * dig db ≤ (10000 ^ (i + 1) - 1) * 10000 ^ db.length := Int.mul_le_mul_of_nonneg_left (by omega) (by omega)
          rw [Int.sub_mul, Int.sub_mul] at q5
          rw [Int.sub_mul] at q4
          have q6 : (0 : Int) < 10000 ^ db.length := Int.pow_pos (by decide)
          rw [← p1] at q5
          omega
        rw [hc, Int.mul_zero, Int.add_zero] at hd
        exact ih (i + 1) ds h (by omega) hl l aa ab tt oo am ok hd
      | succ f ihf =>
        intro j carry ds h hj hl l aa ab tt oo am ok c0 c1 hd
        refine L_ref01_Mul_1r _ _ _ _ _ _ _ _ _ ?_
        unfold L_ref01_Mul_1T
        refine ⟨_, _, _, ab.cell rfl, ?_⟩
        rw [wrap_i64_id (n := (db.length : Int) + 1) (by omega) (by omega), wrap_i64_id (n := (i : Int) + (j : Int)) (by omega) (by omega)]
        have hij : i + j < ds.length := by omega
        have eij : ((i : Int) + (j : Int)).toNat = i + j := by omega
        refine Br.yes (decide_eq_true (by omega)) ⟨_, _, _, oo.cell rfl, by omega, by omega, withAddr_intro rfl ⟨_, am.cell (by rw [eij, Nat.zero_add, intsV_map, List.getElem?_map, List.getElem?_eq_getElem hij]; rfl), ?_⟩⟩
        obtain ⟨b1, o1, ea, hca⟩ := (ra.le l).at hlt
        refine ⟨_, _, _, aa.cell rfl, by omega, by omega, withAddr_intro ea ⟨_, by rw [Int.toNat_natCast]; exact hca, ?_⟩⟩
        refine ⟨_, ab.cell rfl, _, _, _, ab.cell rfl, ?_⟩
        refine S_digit (rb.le l) fun h1 l1 => ⟨_, rfl, .inl l1, ?_⟩
        have l01 := Heap.le_trans l l1
        have am1 := am.le l1
        refine ⟨_, _, _, (oo.le l1).cell rfl, by omega, by omega, withAddr_intro rfl ⟨am1.canSt (by rw [intsV_length, eij]; simp; omega), ?_⟩⟩
        have gy := getD_ok ob j
        have gz := ok _ (List.getElem_mem hij)
        have ez : ds.getD (i + j) 0 = ds[i + j] := by rw [List.getD_eq_getElem?_getD, List.getElem?_eq_getElem hij]; rfl
        have tj := dig_take_any db j
        generalize hx : da[i] = x at *
        generalize hy : db.getD j 0 = y at *
        generalize hz : ds[i + j] = z at *
        have xy0 : 0 ≤ x * y := Int.mul_nonneg gx.1 gy.1
        have xy1 : x * y ≤ 9999 * y := Int.mul_le_mul_of_nonneg_right (by omega) gy.1
        have w1 : IntKind.wrap .i64 (IntKind.wrap .i64 (carry + z) + IntKind.wrap .i64 (x * y)) = carry + z + x * y := by
          rw [wrap_i64_id (n := carry + z) (by omega) (by omega), wrap_i64_id (n := x * y) (by omega) (by omega), wrap_i64_id (by omega) (by omega)]
        rw [w1, wrap_i64_id (n := (j : Int) + 1) (by omega) (by omega), eij, Nat.zero_add]
        rcases td (carry + z + x * y) with ⟨z0, z1, z2⟩ | ⟨z0, _⟩
        case inr => omega
        rw [z1, z2]
        have hs : carry + z + x * y = (carry + z + x * y) % 10000 + 10000 * ((carry + z + x * y) / 10000) := by omega
        generalize hv : (carry + z + x * y) % 10000 = v at *
        generalize hq : (carry + z + x * y) / 10000 = q at *
        rw [wrap_i64_id (n := q) (by omega) (by omega)]
        have am2 := am1.set (o := i + j) (ws := [int .i64 v])
        rw [intsV_set] at am2
        refine ihf (j + 1) q (ds.set (i + j) v) _ (by omega) (by rw [List.length_set]; exact hl) (le_setN l01 hm0) ((aa.le l1).set_ne d1) ((ab.le l1).set_ne d2) ((tt.le l1).set_ne d3) ((oo.le l1).set_ne d4) am2 (okD_set ok _ (by omega) (by omega)) (by omega) (by omega) ?_
        rw [dig_set _ _ _ hij, ez, tj, ← Nat.add_assoc, Int.pow_succ, Int.mul_assoc]
        have e1 : (10000 : Int) ^ i * (x * (dig (db.take j) + 10000 ^ j * y)) = 10000 ^ i * (x * dig (db.take j)) + 10000 ^ (i + j) * (x * y) := by
          rw [Int.mul_add, Int.mul_add, Int.pow_add, Int.mul_assoc, ← Int.mul_assoc x, Int.mul_comm x (10000 ^ j), Int.mul_assoc (10000 ^ j)]
        rw [e1]
        generalize (10000 : Int) ^ (i + j) = P at *
        have e2 : P * (v - z) + P * (10000 * q) = P * carry + P * (x * y) := by
          rw [← Int.mul_add, ← Int.mul_add]; congr 1; omega
        omega
    exact row (db.length + 1) 0 0 ds h (by omega) hl l aa ab tt oo am ok (by omega) (by omega) (by simp [dig, hd])
theorem S_Mul_Big {va vb : Value} {x y : Int} {na nb : Nat} {h : Heap} (ha : BigR h va x na) (hb : BigR h vb y nb) (hB : na + nb ≤ 1000000) {K : Value → Heap → Prop}
    (k : ∀ v h', h.le h' → BigN h' v (x * y) (na + nb + 1) → K v h') : CallA Try.prog fn_ref01_Mul [va, vb] h K := by
  obtain ⟨n1, p1, c1, d1, rfl, r1, o1, hx, lc1, lb1⟩ := ha
  obtain ⟨n2, p2, c2, d2, rfl, r2, o2, hy, lc2, lb2⟩ := hb
  refine F_ref01_Mul _ _ _ _ _ _ _ _ _ _ ?_
  unfold F_ref01_MulT
  intro r hr q hq t ht
  have aa := ((At.new h r [.bool n1, slice p1 d1.length c1] 118).ins (x := .cells [.bool n2, slice p2 d2.length c2].toArray 118 (0, 0)) hq).ins (x := .cells [.bool false, slice none 0 0].toArray 118 (0, 0)) ht
  have ab := (At.new (h.ins r (.cells [.bool n1, slice p1 d1.length c1].toArray 118 (0, 0))) q [.bool n2, slice p2 d2.length c2] 118).ins (x := .cells [.bool false, slice none 0 0].toArray 118 (0, 0)) ht
  have tt := At.new ((h.ins r (.cells [.bool n1, slice p1 d1.length c1].toArray 118 (0, 0))).ins q (.cells [.bool n2, slice p2 d2.length c2].toArray 118 (0, 0))) t [.bool false, slice none 0 0] 118
  have l1 := le_ins2 (x := .cells [.bool n2, slice p2 d2.length c2].toArray 118 (0, 0)) (le_ins hr (o := .cells [.bool n1, slice p1 d1.length c1].toArray 118 (0, 0))) hq
  have l2 := le_ins2 (x := .cells [.bool false, slice none 0 0].toArray 118 (0, 0)) l1 ht
  have e2 := none_of_le l1 ht
  generalize hh2 : ((h.ins r (.cells [.bool n1, slice p1 d1.length c1].toArray 118 (0, 0))).ins q (.cells [.bool n2, slice p2 d2.length c2].toArray 118 (0, 0))).ins t (.cells [.bool false, slice none 0 0].toArray 118 (0, 0)) = h2 at *
  refine ⟨_, aa.cell rfl, _, ab.cell rfl, _, _, _, aa.cell rfl, _, _, _, ab.cell rfl, ?_⟩
  have w : IntKind.wrap .i64 (IntKind.wrap .i64 ((d1.length : Int) + (d2.length : Int)) + 1) = ((d1.length + d2.length + 1 : Nat) : Int) := by
    rw [wrap_i64_id (n := (d1.length : Int) + (d2.length : Int)) (by omega) (by omega), wrap_i64_id (by omega) (by omega)]
    omega
  rw [w]
  refine ⟨by omega, Int.le_refl _, by omega, by omega, ?_⟩
  rw [Int.toNat_natCast, repL_zeros]
  intro m hm o ho
  have am := (At.new h2 m (intsV .i64 (List.replicate (d1.length + d2.length + 1) 0)) 3).ins (x := .cells [.bool false, slice none 0 0].toArray 118 (0, 0)) ho
  have m1 := aa.ne hm
  have m2 := ab.ne hm
  have m3 := tt.ne hm
  have aa := (aa.ins (x := .cells (intsV .i64 (List.replicate (d1.length + d2.length + 1) 0)).toArray 3 (0, 0)) hm)
  have ab := (ab.ins (x := .cells (intsV .i64 (List.replicate (d1.length + d2.length + 1) 0)).toArray 3 (0, 0)) hm)
  have tt := (tt.ins (x := .cells (intsV .i64 (List.replicate (d1.length + d2.length + 1) 0)).toArray 3 (0, 0)) hm)
  have l3 := le_ins2 (x := .cells (intsV .i64 (List.replicate (d1.length + d2.length + 1) 0)).toArray 3 (0, 0)) l2 hm
  have em := none_of_le l2 hm
  have q1 := aa.ne ho
  have q2 := ab.ne ho
  have q3 := tt.ne ho
  have q4 : m ≠ o := (At.new _ _ _ _).ne ho
  have eo := none_of_le l3 ho
  have oo := At.new (h2.ins m (.cells (intsV .i64 (List.replicate (d1.length + d2.length + 1) 0)).toArray 3 (0, 0))) o [.bool false, slice none 0 0] 118
  have aa := aa.ins (x := .cells [.bool false, slice none 0 0].toArray 118 (0, 0)) ho
  have ab := ab.ins (x := .cells [.bool false, slice none 0 0].toArray 118 (0, 0)) ho
  have tt := tt.ins (x := .cells [.bool false, slice none 0 0].toArray 118 (0, 0)) ho
  have l4 := le_ins2 (x := .cells [.bool false, slice none 0 0].toArray 118 (0, 0)) l3 ho
  refine ⟨oo.canSt (by simp), ?_⟩
  refine mul_rows (neg := !(n1 == n2)) (r1) (r2) o1 o2 e2 eo em m1 m2 m3 (fun e => q4 e.symm) rfl (by omega) (fun v h' l' bn => k v h' l' ?_) d1.length 0 (List.replicate (d1.length + d2.length + 1) 0) _ (by omega) (by simp) (le_setN l4 eo) (aa.set_ne q1) (ab.set_ne q2) (tt.set_ne q3) oo.set (am.set_ne q4) (okD_zeros _) (by rw [dig_zeros]; simp [dig])
  have ex : x * y = if (!(n1 == n2)) = true then -(dig d1 * dig d2) else dig d1 * dig d2 := by
    rw [hx, hy]; unfold sg
    cases n1 <;> cases n2 <;> simp [Int.neg_mul, Int.mul_neg]
  rw [ex]
  obtain ⟨neg, p, c, ds, a1, a2, a3, a4, a5, a6, a7⟩ := bn
  exact ⟨neg, p, c, ds, a1, a2, a3, a4, a5, by omega, a7⟩
end Go.Proofs.Ytkcogdmddhkldaa
