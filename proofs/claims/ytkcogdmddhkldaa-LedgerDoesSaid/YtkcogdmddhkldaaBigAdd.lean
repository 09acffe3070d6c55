/- The reference's whole numbers of any size: which is larger, and sums. -/
import Derived.Test.YtkcogdmddhkldaaBigTwo
import Derived.Test.YtkcogdmddhkldaaEqBigAdd
namespace Go.Proofs.Ytkcogdmddhkldaa
open Go Go.Sy Go.Value
set_option linter.unusedVariables false
set_option linter.unusedSimpArgs false

theorem dig_take_any (l : List Int) (n : Nat) : dig (l.take (n + 1)) = dig (l.take n) + 10000 ^ n * l.getD n 0 := by
  by_cases h : n < l.length
  · rw [dig_take_succ h, List.getD_eq_getElem?_getD, List.getElem?_eq_getElem h]; rfl
  · rw [List.take_of_length_le (by omega), List.take_of_length_le (by omega), List.getD_eq_getElem?_getD, List.getElem?_eq_none (by omega)]; simp
theorem dig_lt : ∀ {l : List Int}, okD l → dig l < 10000 ^ l.length
  | [], _ => by simp [dig]
  | d :: l, h => by
    have h1 := dig_lt (okD_cons h).2
    have h2 := (okD_cons h).1
    simp only [dig, List.length_cons, Int.pow_succ]
    omega
theorem pow_le {m n : Nat} (h : m ≤ n) : (10000 : Int) ^ m ≤ 10000 ^ n := by
  induction h with
  | refl => exact Int.le_refl _
  | step _ ih =>
    rw [Int.pow_succ]
    have := Int.pow_pos (n := 10000) (m := m) (by decide)
    omega
theorem dig_take_lt {l : List Int} (h : okD l) (n : Nat) : dig (l.take n) < 10000 ^ n := by
  have h1 := dig_lt (okD_take h n)
  have h2 : (10000 : Int) ^ (l.take n).length ≤ 10000 ^ n := pow_le (by rw [List.length_take]; omega)
  omega
theorem getD_ok {l : List Int} (h : okD l) (n : Nat) : 0 ≤ l.getD n 0 ∧ l.getD n 0 < 10000 := by
  rw [List.getD_eq_getElem?_getD]
  by_cases hn : n < l.length
  · rw [List.getElem?_eq_getElem hn]; exact h _ (List.getElem_mem hn)
  · rw [List.getElem?_eq_none (by omega)]; simp
def cmpI (x y : Int) : Int := if x > y then 1 else if x < y then -1 else 0
theorem larger_loop {na nb : Bool} {pa pb : Option Addr} {ca cb : Nat} {da db : List Int} {a b : Nat} {h0 : Heap} (ra : Ints .i64 h0 pa da) (rb : Ints .i64 h0 pb db) (oa : okD da) (ob : okD db) {K : Value → Heap → Prop}
    (k : ∀ h', h0.le h' → K (int .i64 (cmpI (dig da) (dig db))) h') : ∀ (n : Nat) (h : Heap), h0.le h → At h a [.bool na, slice pa da.length ca] → At h b [.bool nb, slice pb db.length cb] → n ≤ 1048577 →
      dig da - dig db = dig (da.take n) - dig (db.take n) → L_ref01_larger_0 a b ((n : Int) - 1) h K := by
  intro n
  induction n with
  | zero =>
    intro h l aa ab hn e
    refine L_ref01_larger_0r _ _ _ _ _ ?_
    unfold L_ref01_larger_0T
    refine Br.no (by decide) (Ret.mk ?_)
    have := k h l
    have e2 : cmpI (dig da) (dig db) = 0 := by
      simp [dig] at e
      unfold cmpI
      rw [if_neg (by omega), if_neg (by omega)]
    rw [e2] at this
    exact this
  | succ n ih =>
    intro h l aa ab hn e
    refine L_ref01_larger_0r _ _ _ _ _ ?_
    unfold L_ref01_larger_0T
    rw [show (((n + 1 : Nat) : Int) - 1) = (n : Int) from by omega]
    refine Br.yes (decide_eq_true (by omega)) ⟨_, aa.cell rfl, _, _, _, aa.cell rfl, _, ab.cell rfl, _, _, _, ab.cell rfl, ?_⟩
    refine S_digit (ra.le l) fun h1 l1 => ⟨_, rfl, .inl l1, ?_⟩
    have l1' := Heap.le_trans l l1
    refine S_digit (rb.le l1') fun h2 l2 => ⟨_, rfl, ?_⟩
    have l2' := Heap.le_trans l1' l2
    have aa2 := aa.le (Heap.le_trans l1 l2)
    have ab2 := ab.le (Heap.le_trans l1 l2)
    rw [dig_take_any, dig_take_any] at e
    have g1 := getD_ok oa n
    have g2 := getD_ok ob n
    have t1 := dig_take_lt oa n
    have t2 := dig_take_lt ob n
    have t3 := dig_nonneg (okD_take oa n)
    have t4 := dig_nonneg (okD_take ob n)
    have hP : (0 : Int) < 10000 ^ n := Int.pow_pos (by decide)
    generalize hxa : da.getD n 0 = x at *
    generalize hxb : db.getD n 0 = y at *
    generalize hPP : (10000 : Int) ^ n = P at *
    refine Br.dec (fun gt => Ret.mk ?_) (fun ngt => ?_)
    · have := k h2 l2'
      have m : P * (y + 1) ≤ P * x := Int.mul_le_mul_of_nonneg_left (by omega) (by omega)
      rw [Int.mul_add, Int.mul_one] at m
      have e2 : cmpI (dig da) (dig db) = 1 := by
        unfold cmpI
        rw [if_pos (by omega)]
      rw [e2] at this
      exact this
    · refine ⟨_, aa2.cell rfl, _, _, _, aa2.cell rfl, _, ab2.cell rfl, _, _, _, ab2.cell rfl, ?_⟩
      refine S_digit (ra.le l2') fun h3 l3 => ⟨_, rfl, .inl l3, ?_⟩
      have l3' := Heap.le_trans l2' l3
      refine S_digit (rb.le l3') fun h4 l4 => ⟨_, rfl, ?_⟩
      have l4' := Heap.le_trans l3' l4
      rw [hxa, hxb]
      refine Br.dec (fun lt => Ret.mk ?_) (fun nlt => ?_)
      · have := k h4 l4'
        have m : P * (x + 1) ≤ P * y := Int.mul_le_mul_of_nonneg_left (by omega) (by omega)
        rw [Int.mul_add, Int.mul_one] at m
        have e2 : cmpI (dig da) (dig db) = -1 := by
          unfold cmpI
          rw [if_neg (by omega), if_pos (by omega)]
        rw [e2] at this
        exact this
      · have exy : x = y := by omega
        rw [wrap_i64_id (by omega) (by omega)]
        refine ih h4 l4' (aa2.le (Heap.le_trans l3 l4)) (ab2.le (Heap.le_trans l3 l4)) (by omega) ?_
        rw [exy] at e
        omega
theorem S_larger {na nb : Bool} {pa pb : Option Addr} {ca cb : Nat} {da db : List Int} {h : Heap} (ra : Ints .i64 h pa da) (rb : Ints .i64 h pb db) (oa : okD da) (ob : okD db) (la : da.length ≤ 1048576) (lb : db.length ≤ 1048576)
    {K : Value → Heap → Prop} (k : ∀ h', h.le h' → K (int .i64 (cmpI (dig da) (dig db))) h') : CallA Try.prog fn_ref01_larger [agg #[.bool na, slice pa da.length ca], agg #[.bool nb, slice pb db.length cb]] h K := by
  refine F_ref01_larger _ _ _ _ _ _ _ _ _ _ ?_
  unfold F_ref01_largerT
  intro r hr r1 hr1
  have a0 := (At.new h r [.bool na, slice pa da.length ca] 118).ins (x := .cells [.bool nb, slice pb db.length cb].toArray 118 (0, 0)) hr1
  have b0 := At.new (h.ins r (.cells [.bool na, slice pa da.length ca].toArray 118 (0, 0))) r1 [.bool nb, slice pb db.length cb] 118
  have l := le_ins2 (x := .cells [.bool nb, slice pb db.length cb].toArray 118 (0, 0)) (le_ins hr (o := .cells [.bool na, slice pa da.length ca].toArray 118 (0, 0))) hr1
  refine ⟨_, _, _, a0.cell rfl, _, _, _, b0.cell rfl, ?_⟩
  have hm : ∃ m : Nat, (if (db.length : Int) > (da.length : Int) then (db.length : Int) else (da.length : Int)) = (m : Int) ∧ da.length ≤ m ∧ db.length ≤ m ∧ m ≤ 1048576 := by
    by_cases hh : (db.length : Int) > (da.length : Int)
    · exact ⟨db.length, by rw [if_pos hh], by omega, by omega, lb⟩
    · exact ⟨da.length, by rw [if_neg hh], by omega, by omega, la⟩
  obtain ⟨m, em, m1, m2, m3⟩ := hm
  rw [em, wrap_i64_id (by omega) (by omega)]
  exact larger_loop ra rb oa ob k m _ l a0 b0 (by omega) (by rw [List.take_of_length_le m1, List.take_of_length_le m2])

/-- the end of a sum: trimmed, and put into the box of the answer -/
theorem add_end {h0 h : Heap} {neg : Bool} {out t4 : Nat} {p : Option Addr} {c : Nat} {ds : List Int} {K : Value → Heap → Prop} {X : Int} {B : Nat} (l : h0.le h) (ht : h0 t4 = none) (oo : At h out [.bool neg, slice p ds.length c])
    (tt : At h t4 [.bool false, slice none 0 0]) (rd : Ints .i64 h p ds) (ok : okD ds) (hc : ds.length ≤ c) (hb : ds.length ≤ 1048576) (hB : ds.length ≤ B) (hX : sg neg ds = X) (k : ∀ v h', h0.le h' → BigN h' v X B → K v h') :
    ∃ (b : Bool), Heap.cell h out 0 = some (Value.bool b) ∧ ∃ (a : Option Addr), ∃ (n : Nat), ∃ (m : Nat), Heap.cell h out 1 = some (slice a n m) ∧
      CallA Try.prog fn_ref01_trim [agg #[Value.bool b, slice a n m]] h fun (v : Value) (h : Heap) =>
        ∃ (b : Bool), ∃ (a : Option Addr), ∃ (n : Nat), ∃ (m : Nat), v = agg #[Value.bool b, slice a n m] ∧ Heap.canSt h t4 0 2 ∧
          ∃ (b_1 : Bool), Heap.cell (Heap.setN h t4 0 [Value.bool b, slice a n m]) t4 0 = some (Value.bool b_1) ∧
          ∃ (a_3 : Option Addr), ∃ (n_2 : Nat), ∃ (m_1 : Nat), Heap.cell (Heap.setN h t4 0 [Value.bool b, slice a n m]) t4 1 = some (slice a_3 n_2 m_1) ∧
            Ret (Heap.setN h t4 0 [Value.bool b, slice a n m]) K (agg #[Value.bool b_1, slice a_3 n_2 m_1]) := by
  refine ⟨_, oo.cell rfl, _, _, _, oo.cell rfl, S_trim rd ok hc hb fun v h' l' nb => ?_⟩
  obtain ⟨neg2, p2, c2, ds2, rfl, r2, ok2, x2, c3, b2, nz⟩ := nb
  refine ⟨_, _, _, _, rfl, ret_out ht (Heap.le_trans l l') (tt.le l') fun h'' l'' rd => k _ _ l'' ?_⟩
  exact ⟨neg2, p2, c2, ds2, rfl, rd _ _ r2, ok2, by rw [← hX, x2], c3, by omega, nz⟩
theorem own_len {h0 h : Heap} {p : Option Addr} {c : Nat} {ds : List Int} (own : OwnL h0 h [int .i64 0] p c (intsV .i64 ds)) : ds.length ≤ c := by
  rcases own with ⟨e, _, _⟩ | ⟨r, sp, _, _, _, e⟩
  · have := congrArg List.length e; rw [intsV_length, List.length_nil] at this; omega
  · simp [intsV_length] at e; omega
theorem add_loop {na nb : Bool} {pa pb : Option Addr} {ca cb : Nat} {da db : List Int} {a b t4 out : Nat} {h0 : Heap} (ra : Ints .i64 h0 pa da) (rb : Ints .i64 h0 pb db) (oa : okD da) (ob : okD db)
    (ht : h0 t4 = none) (ho : h0 out = none) (n1 : a ≠ out) (n2 : b ≠ out) (n3 : t4 ≠ out) {m : Nat} (ma : da.length ≤ m) (mb : db.length ≤ m) (mm : (if (db.length : Int) > (da.length : Int) then (db.length : Int) else (da.length : Int)) = (m : Int)) (m3 : m ≤ 1048570)
    {K : Value → Heap → Prop} (k : ∀ v h', h0.le h' → BigN h' v (if na then -(dig da + dig db) else dig da + dig db) (m + 1) → K v h') :
    ∀ (d : Nat) (ds : List Int) (p : Option Addr) (c : Nat) (carry : Int) (h : Heap), ds.length + d = m + 1 → h0.le h → At h a [.bool na, slice pa da.length ca] → At h b [.bool nb, slice pb db.length cb] → At h t4 [.bool false, slice none 0 0] →
      At h out [.bool na, slice p ds.length c] → OwnL h0 h [int .i64 0] p c (intsV .i64 ds) → p ≠ some ⟨out, 0, none⟩ → p ≠ some ⟨a, 0, none⟩ → p ≠ some ⟨b, 0, none⟩ → p ≠ some ⟨t4, 0, none⟩ → okD ds → 0 ≤ carry → carry ≤ 1 →
      dig ds + 10000 ^ ds.length * carry = dig (da.take ds.length) + dig (db.take ds.length) → L_ref01_Add_0 a b t4 out carry (ds.length : Int) h K := by
  intro d
  induction d with
  | zero =>
    intro ds p c carry h hd l aa ab tt oo own hp1 hp2 hp3 hp4 ok c0 c1 e
    refine L_ref01_Add_0r _ _ _ _ _ _ _ _ ?_
    unfold L_ref01_Add_0T
    refine ⟨_, _, _, aa.cell rfl, _, _, _, ab.cell rfl, ?_⟩
    rw [mm, wrap_i64_id (by omega) (by omega)]
    refine Br.no (decide_eq_false (by omega)) ?_
    refine add_end l ht oo tt own.rd ok (own_len own) (by omega) (B := m + 1) (by omega) ?_ k
    have t1 := dig_take_lt oa m
    have t2 := dig_take_lt ob m
    rw [List.take_of_length_le ma] at t1
    rw [List.take_of_length_le mb] at t2
    have hl : ds.length = m + 1 := by omega
    rw [hl, List.take_of_length_le (by omega), List.take_of_length_le (by omega), Int.pow_succ] at e
    have hP : (0 : Int) < 10000 ^ m := Int.pow_pos (by decide)
    generalize (10000 : Int) ^ m = P at *
    have hc : carry = 0 := by
      rcases (show carry = 0 ∨ carry = 1 by omega) with h | h
      · exact h
      · rw [h] at e
        have := dig_nonneg ok
        omega
    rw [hc, Int.mul_zero, Int.add_zero] at e
    unfold sg
    rw [e]
  | succ d ih =>
    intro ds p c carry h hd l aa ab tt oo own hp1 hp2 hp3 hp4 ok c0 c1 e
    refine L_ref01_Add_0r _ _ _ _ _ _ _ _ ?_
    unfold L_ref01_Add_0T
    refine ⟨_, _, _, aa.cell rfl, _, _, _, ab.cell rfl, ?_⟩
    rw [mm, wrap_i64_id (n := (m : Int) + 1) (by omega) (by omega)]
    refine Br.yes (decide_eq_true (by omega)) ⟨_, aa.cell rfl, _, _, _, aa.cell rfl, _, ab.cell rfl, _, _, _, ab.cell rfl, ?_⟩
    refine S_digit (ra.le l) fun h1 l1 => ⟨_, rfl, .inl l1, ?_⟩
    have l1' := Heap.le_trans l l1
    refine S_digit (rb.le l1') fun h2 l2 => ⟨_, rfl, ?_⟩
    have l2' := Heap.le_trans l1' l2
    have l12 := Heap.le_trans l1 l2
    have g1 := getD_ok oa ds.length
    have g2 := getD_ok ob ds.length
    have e1 := dig_take_any da ds.length
    have e2 := dig_take_any db ds.length
    generalize hxa : da.getD ds.length 0 = x at *
    generalize hxb : db.getD ds.length 0 = y at *
    have w1 : IntKind.wrap .i64 (IntKind.wrap .i64 (carry + x) + y) = carry + x + y := by
      rw [wrap_i64_id (n := carry + x) (by omega) (by omega), wrap_i64_id (by omega) (by omega)]
    rw [w1]
    rcases td (carry + x + y) with ⟨z0, z1, z2⟩ | ⟨z0, _⟩
    case inr => omega
    rw [z1, z2]
    refine ⟨_, _, _, (oo.le l12).cell rfl, ?_⟩
    rw [wrap_i64_id (n := (carry + x + y) / 10000) (by omega) (by omega), wrap_i64_id (n := (ds.length : Int) + 1) (by omega) (by omega)]
    refine push_out (J := fun h => L_ref01_Add_0 a b t4 out ((carry + x + y) / 10000) ((ds.length : Int) + 1) h K) l2' (oo.le l12) (own.le l12) hp1 ho (by omega) fun p' c' h' l' o' w' hp' keep => ?_
    obtain ⟨aa', q1⟩ := keep _ _ (aa.le l12) n1 hp2
    obtain ⟨ab', q2⟩ := keep _ _ (ab.le l12) n2 hp3
    obtain ⟨tt', q3⟩ := keep _ _ (tt.le l12) n3 hp4
    have hlen : (ds ++ [(carry + x + y) % 10000]).length = ds.length + 1 := by simp
    have fin := ih (ds ++ [(carry + x + y) % 10000]) p' c' ((carry + x + y) / 10000) h' (by rw [hlen]; omega) l' aa' ab' tt' o' w' hp' q1 q2 q3 (okD_append ok (fun v hv => by simp at hv; omega)) (by omega) (by omega) (by
      have ed : dig (ds ++ [(carry + x + y) % 10000]) = dig ds + 10000 ^ ds.length * ((carry + x + y) % 10000) := by rw [dig_append]; simp [dig]
      rw [hlen, ed, e1, e2, Int.pow_succ, Int.mul_assoc]
      have m1 : (10000 : Int) ^ ds.length * ((carry + x + y) % 10000) + 10000 ^ ds.length * (10000 * ((carry + x + y) / 10000)) = 10000 ^ ds.length * (carry + x + y) := by
        rw [← Int.mul_add]; congr 1; omega
      rw [Int.mul_add, Int.mul_add] at m1
      omega)
    rw [hlen] at fin
    exact fin
theorem sub_loop {na nb : Bool} {pa pb : Option Addr} {ca cb : Nat} {da db : List Int} {a b t4 out : Nat} {h0 : Heap} (ra : Ints .i64 h0 pa da) (rb : Ints .i64 h0 pb db) (oa : okD da) (ob : okD db)
    (ht : h0 t4 = none) (ho : h0 out = none) (n1 : a ≠ out) (n2 : b ≠ out) (n3 : t4 ≠ out) (hge : dig db ≤ dig da) {B : Nat} (hB : da.length ≤ B) (m3 : da.length ≤ 1048570)
    {K : Value → Heap → Prop} (k : ∀ v h', h0.le h' → BigN h' v (if na then -(dig da - dig db) else dig da - dig db) B → K v h') :
    ∀ (d : Nat) (ds : List Int) (p : Option Addr) (c : Nat) (carry : Int) (h : Heap), ds.length + d = da.length → h0.le h → At h a [.bool na, slice pa da.length ca] → At h b [.bool nb, slice pb db.length cb] → At h t4 [.bool false, slice none 0 0] →
      At h out [.bool na, slice p ds.length c] → OwnL h0 h [int .i64 0] p c (intsV .i64 ds) → p ≠ some ⟨out, 0, none⟩ → p ≠ some ⟨a, 0, none⟩ → p ≠ some ⟨b, 0, none⟩ → p ≠ some ⟨t4, 0, none⟩ → okD ds → 0 ≤ carry → carry ≤ 1 →
      dig ds - 10000 ^ ds.length * carry = dig (da.take ds.length) - dig (db.take ds.length) → L_ref01_Add_1 a b t4 out carry (ds.length : Int) h K := by
  intro d
  induction d with
  | zero =>
    intro ds p c carry h hd l aa ab tt oo own hp1 hp2 hp3 hp4 ok c0 c1 e
    refine L_ref01_Add_1r _ _ _ _ _ _ _ _ ?_
    unfold L_ref01_Add_1T
    refine ⟨_, _, _, aa.cell rfl, ?_⟩
    refine Br.no (decide_eq_false (by omega)) ?_
    refine add_end l ht oo tt own.rd ok (own_len own) (by omega) (B := B) (by omega) ?_ k
    have t1 := dig_lt oa
    have t2 := dig_lt ok
    have hl : ds.length = da.length := by omega
    rw [hl, List.take_of_length_le (Nat.le_refl _)] at e
    rw [hl] at t2
    have eb : dig (db.take da.length) = dig db := by
      have s1 := dig_append (db.take da.length) (db.drop da.length)
      rw [List.take_append_drop] at s1
      have s2 := dig_nonneg (okD_take ob da.length)
      have s3 : okD (db.drop da.length) := fun v hv => ob v (List.mem_of_mem_drop hv)
      have s4 := dig_nonneg s3
      by_cases hlen : da.length ≤ db.length
      · rw [List.length_take, Nat.min_eq_left hlen] at s1
        have hP : (0 : Int) < 10000 ^ da.length := Int.pow_pos (by decide)
        rcases (show dig (db.drop da.length) = 0 ∨ 1 ≤ dig (db.drop da.length) by omega) with z | z
        · rw [z, Int.mul_zero] at s1; omega
        · have : (10000 : Int) ^ da.length * 1 ≤ 10000 ^ da.length * dig (db.drop da.length) := Int.mul_le_mul_of_nonneg_left z (by omega)
          omega
      · rw [List.take_of_length_le (by omega)]
    rw [eb] at e
    have hc : carry = 0 := by
      rcases (show carry = 0 ∨ carry = 1 by omega) with h | h
      · exact h
      · rw [h] at e
        omega
    rw [hc, Int.mul_zero, Int.sub_zero] at e
    unfold sg
    rw [e]
  | succ d ih =>
    intro ds p c carry h hd l aa ab tt oo own hp1 hp2 hp3 hp4 ok c0 c1 e
    refine L_ref01_Add_1r _ _ _ _ _ _ _ _ ?_
    unfold L_ref01_Add_1T
    refine ⟨_, _, _, aa.cell rfl, ?_⟩
    refine Br.yes (decide_eq_true (by omega)) ⟨_, aa.cell rfl, _, _, _, aa.cell rfl, _, ab.cell rfl, _, _, _, ab.cell rfl, ?_⟩
    refine S_digit (ra.le l) fun h1 l1 => ⟨_, rfl, .inl l1, ?_⟩
    have l1' := Heap.le_trans l l1
    refine S_digit (rb.le l1') fun h2 l2 => ⟨_, rfl, ?_⟩
    have l2' := Heap.le_trans l1' l2
    have l12 := Heap.le_trans l1 l2
    have g1 := getD_ok oa ds.length
    have g2 := getD_ok ob ds.length
    have e1 := dig_take_any da ds.length
    have e2 := dig_take_any db ds.length
    generalize hxa : da.getD ds.length 0 = x at *
    generalize hxb : db.getD ds.length 0 = y at *
    have w1 : IntKind.wrap .i64 (IntKind.wrap .i64 (x - y) - carry) = x - y - carry := by
      rw [wrap_i64_id (n := x - y) (by omega) (by omega), wrap_i64_id (by omega) (by omega)]
    rw [w1]
    -- whatever is borrowed
    have next : ∀ (v cr : Int), 0 ≤ v → v < 10000 → 0 ≤ cr → cr ≤ 1 → v - 10000 * cr = x - y - carry →
        newB h2 [int .i64 v] 3 fun (r : Nat) (h : Heap) => AppA [int .i64 0] 3 h p ds.length c 1 (some { block := r, off := 0 }) fun (ap : Option Addr) (cp : Nat) (h : Heap) =>
          Heap.canSt h out 1 1 ∧ L_ref01_Add_1 a b t4 out cr (IntKind.wrap .i64 ((ds.length : Int) + 1)) (Heap.setN h out 1 [slice ap (ds.length + 1) cp]) K := by
      intro v cr v0 v1 cr0 cr1 hv
      rw [wrap_i64_id (n := (ds.length : Int) + 1) (by omega) (by omega)]
      refine push_out (J := fun h => L_ref01_Add_1 a b t4 out cr ((ds.length : Int) + 1) h K) l2' (oo.le l12) (own.le l12) hp1 ho (by omega) fun p' c' h' l' o' w' hp' keep => ?_
      obtain ⟨aa', q1⟩ := keep _ _ (aa.le l12) n1 hp2
      obtain ⟨ab', q2⟩ := keep _ _ (ab.le l12) n2 hp3
      obtain ⟨tt', q3⟩ := keep _ _ (tt.le l12) n3 hp4
      have hlen : (ds ++ [v]).length = ds.length + 1 := by simp
      have fin := ih (ds ++ [v]) p' c' cr h' (by rw [hlen]; omega) l' aa' ab' tt' o' w' hp' q1 q2 q3 (okD_append ok (fun u hu => by simp at hu; omega)) cr0 cr1 (by
        have ed : dig (ds ++ [v]) = dig ds + 10000 ^ ds.length * v := by rw [dig_append]; simp [dig]
        rw [hlen, ed, e1, e2, Int.pow_succ, Int.mul_assoc]
        have m1 : (10000 : Int) ^ ds.length * v - 10000 ^ ds.length * (10000 * cr) = 10000 ^ ds.length * (x - y - carry) := by
          rw [← Int.mul_sub]; congr 1
        rw [Int.mul_sub, Int.mul_sub] at m1
        omega)
      rw [hlen] at fin
      exact fin
    refine Br.dec (fun lt => ?_) (fun ge => ?_)
    · refine ⟨_, _, _, (oo.le l12).cell rfl, ?_⟩
      rw [wrap_i64_id (n := x - y - carry + 10000) (by omega) (by omega)]
      exact next _ 1 (by omega) (by omega) (by omega) (by omega) (by omega)
    · exact ⟨_, _, _, (oo.le l12).cell rfl, next _ 0 (by omega) (by omega) (by omega) (by omega) (by omega)⟩
end Go.Proofs.Ytkcogdmddhkldaa
