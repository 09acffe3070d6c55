import Derived.Test.YtjihfieahkbohaaGreatM14
import Derived.Test.YtjihfieahkbohaaGreatM05
import Derived.Test.YtjihfieahkbohaaGreatM06
/- The reference's whole numbers of any size: which is larger, and sums. -/
namespace Go.Proofs.YtjihfieahkbohaaGreat
open Go Go.Sy Go.Value
set_option linter.unusedVariables false
set_option linter.unusedSimpArgs false

theorem qFo (l : List Int) (n : Nat) : dig (l.take (n + 1)) = dig (l.take n) + 10000 ^ n * l.getD n 0 := by
  by_cases h : n < l.length
  · rw [qHW h, List.getD_eq_getElem?_getD, List.getElem?_eq_getElem h]; rfl
  · rw [List.take_of_length_le (by omega), List.take_of_length_le (by omega), List.getD_eq_getElem?_getD, List.getElem?_eq_none (by omega)]; simp
theorem qPE : ∀ {l : List Int}, okD l → dig l < 10000 ^ l.length
  | [], _ => by simp [dig]
  | d :: l, h => by
    have h1 := qPE (qNv h).2
    have h2 := (qNv h).1
    simp only [dig, List.length_cons, Int.pow_succ]
    omega
theorem qZu {m n : Nat} (h : m ≤ n) : (10000 : Int) ^ m ≤ 10000 ^ n := by
  induction h with
  | refl => exact Int.le_refl _
  | step _ ih =>
    rw [Int.pow_succ]
    have := Int.pow_pos (n := 10000) (m := m) (by decide)
    omega
theorem qHf {l : List Int} (h : okD l) (n : Nat) : dig (l.take n) < 10000 ^ n := by
  have h1 := qPE (qIE h n)
  have h2 : (10000 : Int) ^ (l.take n).length ≤ 10000 ^ n := qZu (by rw [List.length_take]; omega)
  omega
theorem qKP {l : List Int} (h : okD l) (n : Nat) : 0 ≤ l.getD n 0 ∧ l.getD n 0 < 10000 := by
  rw [List.getD_eq_getElem?_getD]
  by_cases hn : n < l.length
  · rw [List.getElem?_eq_getElem hn]; exact h _ (List.getElem_mem hn)
  · rw [List.getElem?_eq_none (by omega)]; simp
def qDp (x y : Int) : Int := if x > y then 1 else if x < y then -1 else 0
theorem qTo {na nb : Bool} {pa pb : Option Addr} {ca cb : Nat} {da db : List Int} {a b : Nat} {h0 : Heap} (ra : Ints .i64 h0 pa da) (rb : Ints .i64 h0 pb db) (oa : okD da) (ob : okD db) {K : Value → Heap → Prop}
    (k : ∀ h', h0.le h' → K (int .i64 (qDp (dig da) (dig db))) h') : ∀ (n : Nat) (h : Heap), h0.le h → At h a [.bool na, slice pa da.length ca] → At h b [.bool nb, slice pb db.length cb] → n ≤ 1048577 →
      dig da - dig db = dig (da.take n) - dig (db.take n) → qHI a b ((n : Int) - 1) h K := by
  intro n
  induction n with
  | zero =>
    intro h l aa ab hn e
    refine qLj _ _ _ _ _ ?_
    unfold qIz
    refine Br.no (by decide) (Ret.mk ?_)
    have := k h l
    have e2 : qDp (dig da) (dig db) = 0 := by
      simp [dig] at e
      unfold qDp
      rw [if_neg (by omega), if_neg (by omega)]
    rw [e2] at this
    exact this
  | succ n ih =>
    intro h l aa ab hn e
    refine qLj _ _ _ _ _ ?_
    unfold qIz
    rw [show (((n + 1 : Nat) : Int) - 1) = (n : Int) from by omega]
    refine Br.yes (decide_eq_true (by omega)) ⟨_, aa.cell rfl, _, _, _, aa.cell rfl, _, ab.cell rfl, _, _, _, ab.cell rfl, ?_⟩
    refine qIZ (ra.le l) fun h1 l1 => ⟨_, rfl, .inl l1, ?_⟩
    have l1' := Heap.le_trans l l1
    refine qIZ (rb.le l1') fun h2 l2 => ⟨_, rfl, ?_⟩
    have l2' := Heap.le_trans l1' l2
    have aa2 := aa.le (Heap.le_trans l1 l2)
    have ab2 := ab.le (Heap.le_trans l1 l2)
    rw [qFo, qFo] at e
    have g1 := qKP oa n
    have g2 := qKP ob n
    have t1 := qHf oa n
    have t2 := qHf ob n
    have t3 := qBb (qIE oa n)
    have t4 := qBb (qIE ob n)
    have hP : (0 : Int) < 10000 ^ n := Int.pow_pos (by decide)
    generalize hxa : da.getD n 0 = x at *
    generalize hxb : db.getD n 0 = y at *
    generalize hPP : (10000 : Int) ^ n = P at *
    refine Br.dec (fun gt => Ret.mk ?_) (fun ngt => ?_)
    · have := k h2 l2'
      have m : P * (y + 1) ≤ P * x := Int.mul_le_mul_of_nonneg_left (by omega) (by omega)
      rw [Int.mul_add, Int.mul_one] at m
      have e2 : qDp (dig da) (dig db) = 1 := by
        unfold qDp
        rw [if_pos (by omega)]
      rw [e2] at this
      exact this
    · refine ⟨_, aa2.cell rfl, _, _, _, aa2.cell rfl, _, ab2.cell rfl, _, _, _, ab2.cell rfl, ?_⟩
      refine qIZ (ra.le l2') fun h3 l3 => ⟨_, rfl, .inl l3, ?_⟩
      have l3' := Heap.le_trans l2' l3
      refine qIZ (rb.le l3') fun h4 l4 => ⟨_, rfl, ?_⟩
      have l4' := Heap.le_trans l3' l4
      rw [hxa, hxb]
      refine Br.dec (fun lt => Ret.mk ?_) (fun nlt => ?_)
      · have := k h4 l4'
        have m : P * (x + 1) ≤ P * y := Int.mul_le_mul_of_nonneg_left (by omega) (by omega)
        rw [Int.mul_add, Int.mul_one] at m
        have e2 : qDp (dig da) (dig db) = -1 := by
          unfold qDp
          rw [if_neg (by omega), if_pos (by omega)]
        rw [e2] at this
        exact this
      · have exy : x = y := by omega
        rw [qH (by omega) (by omega)]
        refine ih h4 l4' (aa2.le (Heap.le_trans l3 l4)) (ab2.le (Heap.le_trans l3 l4)) (by omega) ?_
        rw [exy] at e
        omega
theorem qPw {na nb : Bool} {pa pb : Option Addr} {ca cb : Nat} {da db : List Int} {h : Heap} (ra : Ints .i64 h pa da) (rb : Ints .i64 h pb db) (oa : okD da) (ob : okD db) (la : da.length ≤ 1048576) (lb : db.length ≤ 1048576)
    {K : Value → Heap → Prop} (k : ∀ h', h.le h' → K (int .i64 (qDp (dig da) (dig db))) h') : CallA Tryz.prog qGS [agg #[.bool na, slice pa da.length ca], agg #[.bool nb, slice pb db.length cb]] h K := by
  refine qQz _ _ _ _ _ _ _ _ _ _ ?_
  unfold qMj
  intro r hr r1 hr1
  have a0 := (At.new h r [.bool na, slice pa da.length ca] 78).ins (x := .cells [.bool nb, slice pb db.length cb].toArray 78 (0, 0)) hr1
  have b0 := At.new (h.ins r (.cells [.bool na, slice pa da.length ca].toArray 78 (0, 0))) r1 [.bool nb, slice pb db.length cb] 78
  have l := qBs (x := .cells [.bool nb, slice pb db.length cb].toArray 78 (0, 0)) (qi hr (o := .cells [.bool na, slice pa da.length ca].toArray 78 (0, 0))) hr1
  refine ⟨_, _, _, a0.cell rfl, _, _, _, b0.cell rfl, ?_⟩
  have hm : ∃ m : Nat, (if (db.length : Int) > (da.length : Int) then (db.length : Int) else (da.length : Int)) = (m : Int) ∧ da.length ≤ m ∧ db.length ≤ m ∧ m ≤ 1048576 := by
    by_cases hh : (db.length : Int) > (da.length : Int)
    · exact ⟨db.length, by rw [if_pos hh], by omega, by omega, lb⟩
    · exact ⟨da.length, by rw [if_neg hh], by omega, by omega, la⟩
  obtain ⟨m, em, m1, m2, m3⟩ := hm
  rw [em, qH (by omega) (by omega)]
  exact qTo ra rb oa ob k m _ l a0 b0 (by omega) (by rw [List.take_of_length_le m1, List.take_of_length_le m2])

theorem qQ0 {h0 h : Heap} {neg : Bool} {out t4 : Nat} {p : Option Addr} {c : Nat} {ds : List Int} {K : Value → Heap → Prop} {X : Int} {B : Nat} (l : h0.le h) (ht : h0 t4 = none) (oo : At h out [.bool neg, slice p ds.length c])
    (tt : At h t4 [.bool false, slice none 0 0]) (rd : Ints .i64 h p ds) (ok : okD ds) (hc : ds.length ≤ c) (hb : ds.length ≤ 1048576) (hB : ds.length ≤ B) (hX : sg neg ds = X) (k : ∀ v h', h0.le h' → BigN h' v X B → K v h') :
    ∃ (b : Bool), Heap.cell h out 0 = some (Value.bool b) ∧ ∃ (a : Option Addr), ∃ (n : Nat), ∃ (m : Nat), Heap.cell h out 1 = some (slice a n m) ∧
      CallA Tryz.prog qDD [agg #[Value.bool b, slice a n m]] h fun (v : Value) (h : Heap) =>
        ∃ (b : Bool), ∃ (a : Option Addr), ∃ (n : Nat), ∃ (m : Nat), v = agg #[Value.bool b, slice a n m] ∧ Heap.canSt h t4 0 2 ∧
          ∃ (b_1 : Bool), Heap.cell (Heap.setN h t4 0 [Value.bool b, slice a n m]) t4 0 = some (Value.bool b_1) ∧
          ∃ (a_3 : Option Addr), ∃ (n_2 : Nat), ∃ (m_1 : Nat), Heap.cell (Heap.setN h t4 0 [Value.bool b, slice a n m]) t4 1 = some (slice a_3 n_2 m_1) ∧
            Ret (Heap.setN h t4 0 [Value.bool b, slice a n m]) K (agg #[Value.bool b_1, slice a_3 n_2 m_1]) := by
  refine ⟨_, oo.cell rfl, _, _, _, oo.cell rfl, qQW rd ok hc hb fun v h' l' nb => ?_⟩
  obtain ⟨neg2, p2, c2, ds2, rfl, r2, ok2, x2, c3, b2, nz⟩ := nb
  refine ⟨_, _, _, _, rfl, qKe ht (Heap.le_trans l l') (tt.le l') fun h'' l'' rd => k _ _ l'' ?_⟩
  exact ⟨neg2, p2, c2, ds2, rfl, rd _ _ r2, ok2, by rw [← hX, x2], c3, by omega, nz⟩
theorem qT6 {h0 h : Heap} {p : Option Addr} {c : Nat} {ds : List Int} (own : OwnL h0 h [int .i64 0] p c (qR .i64 ds)) : ds.length ≤ c := by
  rcases own with ⟨e, _, _⟩ | ⟨r, sp, _, _, _, e⟩
  · have := congrArg List.length e; rw [qd, List.length_nil] at this; omega
  · simp [qd] at e; omega
theorem qYA {na nb : Bool} {pa pb : Option Addr} {ca cb : Nat} {da db : List Int} {a b t4 out : Nat} {h0 : Heap} (ra : Ints .i64 h0 pa da) (rb : Ints .i64 h0 pb db) (oa : okD da) (ob : okD db)
    (ht : h0 t4 = none) (ho : h0 out = none) (n1 : a ≠ out) (n2 : b ≠ out) (n3 : t4 ≠ out) {m : Nat} (ma : da.length ≤ m) (mb : db.length ≤ m) (mm : (if (db.length : Int) > (da.length : Int) then (db.length : Int) else (da.length : Int)) = (m : Int)) (m3 : m ≤ 1048570)
    {K : Value → Heap → Prop} (k : ∀ v h', h0.le h' → BigN h' v (if na then -(dig da + dig db) else dig da + dig db) (m + 1) → K v h') :
    ∀ (d : Nat) (ds : List Int) (p : Option Addr) (c : Nat) (carry : Int) (h : Heap), ds.length + d = m + 1 → h0.le h → At h a [.bool na, slice pa da.length ca] → At h b [.bool nb, slice pb db.length cb] → At h t4 [.bool false, slice none 0 0] →
      At h out [.bool na, slice p ds.length c] → OwnL h0 h [int .i64 0] p c (qR .i64 ds) → p ≠ some ⟨out, 0, none⟩ → p ≠ some ⟨a, 0, none⟩ → p ≠ some ⟨b, 0, none⟩ → p ≠ some ⟨t4, 0, none⟩ → okD ds → 0 ≤ carry → carry ≤ 1 →
      dig ds + 10000 ^ ds.length * carry = dig (da.take ds.length) + dig (db.take ds.length) → qHa a b t4 out carry (ds.length : Int) h K := by
  intro d
  induction d with
  | zero =>
    intro ds p c carry h hd l aa ab tt oo own hp1 hp2 hp3 hp4 ok c0 c1 e
    refine qNC _ _ _ _ _ _ _ _ ?_
    unfold qKZ
    refine ⟨_, _, _, aa.cell rfl, _, _, _, ab.cell rfl, ?_⟩
    rw [mm, qH (by omega) (by omega)]
    refine Br.no (decide_eq_false (by omega)) ?_
    refine qQ0 l ht oo tt own.rd ok (qT6 own) (by omega) (B := m + 1) (by omega) ?_ k
    have t1 := qHf oa m
    have t2 := qHf ob m
    rw [List.take_of_length_le ma] at t1
    rw [List.take_of_length_le mb] at t2
    have hl : ds.length = m + 1 := by omega
    rw [hl, List.take_of_length_le (by omega), List.take_of_length_le (by omega), Int.pow_succ] at e
    have hP : (0 : Int) < 10000 ^ m := Int.pow_pos (by decide)
    generalize (10000 : Int) ^ m = P at *
    have hc : carry = 0 := by
      rcases (show carry = 0 ∨ carry = 1 by omega) with h | h
      · exact h
      · rw [h] at e
        have := qBb ok
        omega
    rw [hc, Int.mul_zero, Int.add_zero] at e
    unfold sg
    rw [e]
  | succ d ih =>
    intro ds p c carry h hd l aa ab tt oo own hp1 hp2 hp3 hp4 ok c0 c1 e
    refine qNC _ _ _ _ _ _ _ _ ?_
    unfold qKZ
    refine ⟨_, _, _, aa.cell rfl, _, _, _, ab.cell rfl, ?_⟩
    rw [mm, qH (n := (m : Int) + 1) (by omega) (by omega)]
    refine Br.yes (decide_eq_true (by omega)) ⟨_, aa.cell rfl, _, _, _, aa.cell rfl, _, ab.cell rfl, _, _, _, ab.cell rfl, ?_⟩
    refine qIZ (ra.le l) fun h1 l1 => ⟨_, rfl, .inl l1, ?_⟩
    have l1' := Heap.le_trans l l1
    refine qIZ (rb.le l1') fun h2 l2 => ⟨_, rfl, ?_⟩
    have l2' := Heap.le_trans l1' l2
    have l12 := Heap.le_trans l1 l2
    have g1 := qKP oa ds.length
    have g2 := qKP ob ds.length
    have e1 := qFo da ds.length
    have e2 := qFo db ds.length
    generalize hxa : da.getD ds.length 0 = x at *
    generalize hxb : db.getD ds.length 0 = y at *
    have w1 : IntKind.wrap .i64 (IntKind.wrap .i64 (carry + x) + y) = carry + x + y := by
      rw [qH (n := carry + x) (by omega) (by omega), qH (by omega) (by omega)]
    rw [w1]
    rcases td (carry + x + y) with ⟨z0, z1, z2⟩ | ⟨z0, _⟩
    case inr => omega
    rw [z1, z2]
    refine ⟨_, _, _, (oo.le l12).cell rfl, ?_⟩
    rw [qH (n := (carry + x + y) / 10000) (by omega) (by omega), qH (n := (ds.length : Int) + 1) (by omega) (by omega)]
    refine qP0 (J := fun h => qHa a b t4 out ((carry + x + y) / 10000) ((ds.length : Int) + 1) h K) l2' (oo.le l12) (own.le l12) hp1 ho (by omega) fun p' c' h' l' o' w' hp' keep => ?_
    obtain ⟨aa', q1⟩ := keep _ _ (aa.le l12) n1 hp2
    obtain ⟨ab', q2⟩ := keep _ _ (ab.le l12) n2 hp3
    obtain ⟨tt', q3⟩ := keep _ _ (tt.le l12) n3 hp4
    have hlen : (ds ++ [(carry + x + y) % 10000]).length = ds.length + 1 := by simp
    have fin := ih (ds ++ [(carry + x + y) % 10000]) p' c' ((carry + x + y) / 10000) h' (by rw [hlen]; omega) l' aa' ab' tt' o' w' hp' q1 q2 q3 (qNo ok (fun v hv => by simp at hv; omega)) (by omega) (by omega) (by
      have ed : dig (ds ++ [(carry + x + y) % 10000]) = dig ds + 10000 ^ ds.length * ((carry + x + y) % 10000) := by rw [qIM]; simp [dig]
      rw [hlen, ed, e1, e2, Int.pow_succ, Int.mul_assoc]
      have m1 : (10000 : Int) ^ ds.length * ((carry + x + y) % 10000) + 10000 ^ ds.length * (10000 * ((carry + x + y) / 10000)) = 10000 ^ ds.length * (carry + x + y) := by
        rw [← Int.mul_add]; congr 1; omega
      rw [Int.mul_add, Int.mul_add] at m1
      omega)
    rw [hlen] at fin
    exact fin
theorem qXT {na nb : Bool} {pa pb : Option Addr} {ca cb : Nat} {da db : List Int} {a b t4 out : Nat} {h0 : Heap} (ra : Ints .i64 h0 pa da) (rb : Ints .i64 h0 pb db) (oa : okD da) (ob : okD db)
    (ht : h0 t4 = none) (ho : h0 out = none) (n1 : a ≠ out) (n2 : b ≠ out) (n3 : t4 ≠ out) (hge : dig db ≤ dig da) {B : Nat} (hB : da.length ≤ B) (m3 : da.length ≤ 1048570)
    {K : Value → Heap → Prop} (k : ∀ v h', h0.le h' → BigN h' v (if na then -(dig da - dig db) else dig da - dig db) B → K v h') :
    ∀ (d : Nat) (ds : List Int) (p : Option Addr) (c : Nat) (carry : Int) (h : Heap), ds.length + d = da.length → h0.le h → At h a [.bool na, slice pa da.length ca] → At h b [.bool nb, slice pb db.length cb] → At h t4 [.bool false, slice none 0 0] →
      At h out [.bool na, slice p ds.length c] → OwnL h0 h [int .i64 0] p c (qR .i64 ds) → p ≠ some ⟨out, 0, none⟩ → p ≠ some ⟨a, 0, none⟩ → p ≠ some ⟨b, 0, none⟩ → p ≠ some ⟨t4, 0, none⟩ → okD ds → 0 ≤ carry → carry ≤ 1 →
      dig ds - 10000 ^ ds.length * carry = dig (da.take ds.length) - dig (db.take ds.length) → qFK a b t4 out carry (ds.length : Int) h K := by
  intro d
  induction d with
  | zero =>
    intro ds p c carry h hd l aa ab tt oo own hp1 hp2 hp3 hp4 ok c0 c1 e
    refine qNZ _ _ _ _ _ _ _ _ ?_
    unfold qKf
    refine ⟨_, _, _, aa.cell rfl, ?_⟩
    refine Br.no (decide_eq_false (by omega)) ?_
    refine qQ0 l ht oo tt own.rd ok (qT6 own) (by omega) (B := B) (by omega) ?_ k
    have t1 := qPE oa
    have t2 := qPE ok
    have hl : ds.length = da.length := by omega
    rw [hl, List.take_of_length_le (Nat.le_refl _)] at e
    rw [hl] at t2
    have eb : dig (db.take da.length) = dig db := by
      have s1 := qIM (db.take da.length) (db.drop da.length)
      rw [List.take_append_drop] at s1
      have s2 := qBb (qIE ob da.length)
      have s3 : okD (db.drop da.length) := fun v hv => ob v (List.mem_of_mem_drop hv)
      have s4 := qBb s3
      by_cases hlen : da.length ≤ db.length
      · rw [List.length_take, Nat.min_eq_left hlen] at s1
        have hP : (0 : Int) < 10000 ^ da.length := Int.pow_pos (by decide)
        rcases (show dig (db.drop da.length) = 0 ∨ 1 ≤ dig (db.drop da.length) by omega) with z | z
        · rw [z, Int.mul_zero] at s1; omega
        · have : (10000 : Int) ^ da.length * 1 ≤ 10000 ^ da.length * dig (db.drop da.length) := Int.mul_le_mul_of_nonneg_left z (by omega)
          omega
      · rw [List.take_of_length_le (by omega)]
    rw [eb] at e
    have hc : carry = 0 := by
      rcases (show carry = 0 ∨ carry = 1 by omega) with h | h
      · exact h
      · rw [h] at e
        omega
    rw [hc, Int.mul_zero, Int.sub_zero] at e
    unfold sg
    rw [e]
  | succ d ih =>
    intro ds p c carry h hd l aa ab tt oo own hp1 hp2 hp3 hp4 ok c0 c1 e
    refine qNZ _ _ _ _ _ _ _ _ ?_
    unfold qKf
    refine ⟨_, _, _, aa.cell rfl, ?_⟩
    refine Br.yes (decide_eq_true (by omega)) ⟨_, aa.cell rfl, _, _, _, aa.cell rfl, _, ab.cell rfl, _, _, _, ab.cell rfl, ?_⟩
    refine qIZ (ra.le l) fun h1 l1 => ⟨_, rfl, .inl l1, ?_⟩
    have l1' := Heap.le_trans l l1
    refine qIZ (rb.le l1') fun h2 l2 => ⟨_, rfl, ?_⟩
    have l2' := Heap.le_trans l1' l2
    have l12 := Heap.le_trans l1 l2
    have g1 := qKP oa ds.length
    have g2 := qKP ob ds.length
    have e1 := qFo da ds.length
    have e2 := qFo db ds.length
    generalize hxa : da.getD ds.length 0 = x at *
    generalize hxb : db.getD ds.length 0 = y at *
    have w1 : IntKind.wrap .i64 (IntKind.wrap .i64 (x - y) - carry) = x - y - carry := by
      rw [qH (n := x - y) (by omega) (by omega), qH (by omega) (by omega)]
    rw [w1]
    -- whatever is borrowed
    have next : ∀ (v cr : Int), 0 ≤ v → v < 10000 → 0 ≤ cr → cr ≤ 1 → v - 10000 * cr = x - y - carry →
        qL h2 [int .i64 v] 3 fun (r : Nat) (h : Heap) => AppA [int .i64 0] 3 h p ds.length c 1 (some { block := r, off := 0 }) fun (ap : Option Addr) (cp : Nat) (h : Heap) =>
          Heap.canSt h out 1 1 ∧ qFK a b t4 out cr (IntKind.wrap .i64 ((ds.length : Int) + 1)) (Heap.setN h out 1 [slice ap (ds.length + 1) cp]) K := by
      intro v cr v0 v1 cr0 cr1 hv
      rw [qH (n := (ds.length : Int) + 1) (by omega) (by omega)]
      refine qP0 (J := fun h => qFK a b t4 out cr ((ds.length : Int) + 1) h K) l2' (oo.le l12) (own.le l12) hp1 ho (by omega) fun p' c' h' l' o' w' hp' keep => ?_
      obtain ⟨aa', q1⟩ := keep _ _ (aa.le l12) n1 hp2
      obtain ⟨ab', q2⟩ := keep _ _ (ab.le l12) n2 hp3
      obtain ⟨tt', q3⟩ := keep _ _ (tt.le l12) n3 hp4
      have hlen : (ds ++ [v]).length = ds.length + 1 := by simp
      have fin := ih (ds ++ [v]) p' c' cr h' (by rw [hlen]; omega) l' aa' ab' tt' o' w' hp' q1 q2 q3 (qNo ok (fun u hu => by simp at hu; omega)) cr0 cr1 (by
        have ed : dig (ds ++ [v]) = dig ds + 10000 ^ ds.length * v := by rw [qIM]; simp [dig]
        rw [hlen, ed, e1, e2, Int.pow_succ, Int.mul_assoc]
        have m1 : (10000 : Int) ^ ds.length * v - 10000 ^ ds.length * (10000 * cr) = 10000 ^ ds.length * (x - y - carry) := by
          rw [← Int.mul_sub]; congr 1
        rw [Int.mul_sub, Int.mul_sub] at m1
        omega)
      rw [hlen] at fin
      exact fin
    refine Br.dec (fun lt => ?_) (fun ge => ?_)
    · refine ⟨_, _, _, (oo.le l12).cell rfl, ?_⟩
      rw [qH (n := x - y - carry + 10000) (by omega) (by omega)]
      exact next _ 1 (by omega) (by omega) (by omega) (by omega) (by omega)
    · exact ⟨_, _, _, (oo.le l12).cell rfl, next _ 0 (by omega) (by omega) (by omega) (by omega) (by omega)⟩
end Go.Proofs.YtjihfieahkbohaaGreat

/- The reference's whole numbers of any size: a sum; how two compare; whether one fits. -/
namespace Go.Proofs.YtjihfieahkbohaaGreat
open Go Go.Sy Go.Value
set_option linter.unusedVariables false
set_option linter.unusedSimpArgs false

theorem qRw {na nb : Bool} {pa pb : Option Addr} {ca cb : Nat} {da db : List Int} {h : Heap} (ra : Ints .i64 h pa da) (rb : Ints .i64 h pb db) (oa : okD da) (ob : okD db) (la : da.length ≤ 1048000) (lb : db.length ≤ 1048000)
    {m : Nat} (ma : da.length ≤ m) (mb : db.length ≤ m) (mm : (if (db.length : Int) > (da.length : Int) then (db.length : Int) else (da.length : Int)) = (m : Int)) {K : Value → Heap → Prop}
    (rec : na ≠ nb → dig da < dig db → ∀ h', h.le h' → ∀ K' : Value → Heap → Prop, (∀ v h'', h'.le h'' → BigN h'' v (sg na da + sg nb db) (m + 1) → K' v h'') →
      CallA Tryz.prog qAn [agg #[.bool nb, slice pb db.length cb], agg #[.bool na, slice pa da.length ca]] h' K')
    (k : ∀ v h', h.le h' → BigN h' v (sg na da + sg nb db) (m + 1) → K v h') : CallA Tryz.prog qAn [agg #[.bool na, slice pa da.length ca], agg #[.bool nb, slice pb db.length cb]] h K := by
  refine qTv _ _ _ _ _ _ _ _ _ _ ?_
  unfold qOb
  have hm : m ≤ 1048000 := by
    by_cases hh : (db.length : Int) > (da.length : Int)
    · rw [if_pos hh] at mm; omega
    · rw [if_neg hh] at mm; omega
  intro r hr r1 hr1 r2 hr2
  have aa := ((At.new h r [.bool na, slice pa da.length ca] 78).ins (x := .cells [.bool nb, slice pb db.length cb].toArray 78 (0, 0)) hr1).ins (x := .cells [.bool false, slice none 0 0].toArray 78 (0, 0)) hr2
  have ab := (At.new (h.ins r (.cells [.bool na, slice pa da.length ca].toArray 78 (0, 0))) r1 [.bool nb, slice pb db.length cb] 78).ins (x := .cells [.bool false, slice none 0 0].toArray 78 (0, 0)) hr2
  have tt := At.new ((h.ins r (.cells [.bool na, slice pa da.length ca].toArray 78 (0, 0))).ins r1 (.cells [.bool nb, slice pb db.length cb].toArray 78 (0, 0))) r2 [.bool false, slice none 0 0] 78
  have l1 := qBs (x := .cells [.bool nb, slice pb db.length cb].toArray 78 (0, 0)) (qi hr (o := .cells [.bool na, slice pa da.length ca].toArray 78 (0, 0))) hr1
  have l2 := qBs (x := .cells [.bool false, slice none 0 0].toArray 78 (0, 0)) l1 hr2
  have e2 := qm l1 hr2
  generalize hh2 : ((h.ins r (.cells [.bool na, slice pa da.length ca].toArray 78 (0, 0))).ins r1 (.cells [.bool nb, slice pb db.length cb].toArray 78 (0, 0))).ins r2 (.cells [.bool false, slice none 0 0].toArray 78 (0, 0)) = h2 at *
  refine ⟨_, aa.cell rfl, ?_⟩
  intro r3 hr3
  have n1 := aa.ne hr3
  have n2 := ab.ne hr3
  have n3 := tt.ne hr3
  have e3 := qm l2 hr3
  have o3 := At.new h2 r3 [.bool false, slice none 0 0] 78
  have a3 := aa.ins (x := .cells [.bool false, slice none 0 0].toArray 78 (0, 0)) hr3
  have b3 := ab.ins (x := .cells [.bool false, slice none 0 0].toArray 78 (0, 0)) hr3
  have t3 := tt.ins (x := .cells [.bool false, slice none 0 0].toArray 78 (0, 0)) hr3
  have l3 := qBs (x := .cells [.bool false, slice none 0 0].toArray 78 (0, 0)) l2 hr3
  refine ⟨o3.canSt (by simp), ?_⟩
  have oo := o3.set (o := 0) (ws := [.bool na, slice none 0 0])
  have aa := a3.set_ne (o := 0) (ws := [.bool na, slice none 0 0]) n1
  have ab := b3.set_ne (o := 0) (ws := [.bool na, slice none 0 0]) n2
  have tt := t3.set_ne (o := 0) (ws := [.bool na, slice none 0 0]) n3
  have l4 := qj (o := 0) (ws := [.bool na, slice none 0 0]) l3 e3
  generalize (h2.ins r3 (.cells [.bool false, slice none 0 0].toArray 78 (0, 0))).setN r3 0 [.bool na, slice none 0 0] = h4 at *
  refine ⟨_, aa.cell rfl, _, ab.cell rfl, ?_⟩
  refine Br.intro (fun same => ?_) (fun differ => ?_)
  · have same : na = nb := by simpa using same
    subst same
    refine qYA ra rb oa ob e2 e3 n1 n2 n3 ma mb mm (by omega) (fun v h' l' bn => k v h' l' ?_) (m + 1) [] none 0 0 h4 (by simp) l4 aa ab tt oo (OwnL.nil _ _ _) (by simp) (by simp) (by simp) (by simp) (fun d hd => (by cases hd)) (by omega) (by omega) (by simp [dig])
    have e : sg na da + sg na db = if na then -(dig da + dig db) else dig da + dig db := by unfold sg; cases na <;> simp <;> omega
    rw [e]; exact bn
  · have differ : na ≠ nb := by simpa using differ
    refine ⟨_, aa.cell rfl, _, _, _, aa.cell rfl, _, ab.cell rfl, _, _, _, ab.cell rfl, ?_⟩
    refine qPw (ra.le l4) (rb.le l4) oa ob (by omega) (by omega) fun h5 l5 => ⟨_, rfl, ?_⟩
    have l45 := Heap.le_trans l4 l5
    have aa := aa.le l5
    have ab := ab.le l5
    have tt := tt.le l5
    have oo := oo.le l5
    refine Br.dec (fun lt => ?_) (fun nlt => ?_)
    · have hlt : dig da < dig db := by
        unfold qDp at lt
        split at lt
        · omega
        · split at lt <;> omega
      refine ⟨_, ab.cell rfl, _, _, _, ab.cell rfl, _, aa.cell rfl, _, _, _, aa.cell rfl, ?_⟩
      refine rec differ hlt h5 l45 _ fun v h6 l6 bn => ?_
      obtain ⟨neg2, p2, c2, ds2, rfl, r2', ok2, x2, c3, b2, nz⟩ := bn
      refine ⟨_, _, _, _, rfl, qKe e2 (Heap.le_trans l45 l6) (tt.le l6) fun h'' l'' rd => k _ _ l'' ?_⟩
      exact ⟨neg2, p2, c2, ds2, rfl, rd _ _ r2', ok2, x2, c3, b2, nz⟩
    · have hge : dig db ≤ dig da := by
        unfold qDp at nlt
        split at nlt
        · omega
        · split at nlt <;> omega
      refine qXT ra rb oa ob e2 e3 n1 n2 n3 hge (B := m + 1) (by omega) (by omega) (fun v h' l' bn => k v h' l' ?_) da.length [] none 0 0 h5 (by simp) l45 aa ab tt oo (OwnL.nil _ _ _) (by simp) (by simp) (by simp) (by simp) (fun d hd => (by cases hd)) (by omega) (by omega) (by simp [dig])
      have e : sg na da + sg nb db = if na then -(dig da - dig db) else dig da - dig db := by unfold sg; cases na <;> cases nb <;> simp at differ ⊢ <;> omega
      rw [e]; exact bn
theorem qV7 (a b : Nat) : ∃ m : Nat, (if (b : Int) > (a : Int) then (b : Int) else (a : Int)) = (m : Int) ∧ a ≤ m ∧ b ≤ m ∧ (m = a ∨ m = b) := by
  by_cases hh : (b : Int) > (a : Int)
  · exact ⟨b, by rw [if_pos hh], by omega, by omega, .inr rfl⟩
  · exact ⟨a, by rw [if_neg hh], by omega, by omega, .inl rfl⟩
theorem qG5 {va vb : Value} {x y : Int} {na nb : Nat} {h : Heap} (ha : BigR h va x na) (hb : BigR h vb y nb) {B : Nat} (ba : na ≤ B) (bb : nb ≤ B) (hB : B ≤ 1048000) {K : Value → Heap → Prop}
    (k : ∀ v h', h.le h' → BigN h' v (x + y) (B + 1) → K v h') : CallA Tryz.prog qAn [va, vb] h K := by
  obtain ⟨n1, p1, c1, d1, rfl, r1, o1, rfl, lc1, lb1⟩ := ha
  obtain ⟨n2, p2, c2, d2, rfl, r2, o2, rfl, lc2, lb2⟩ := hb
  obtain ⟨m, em, m1, m2, mo⟩ := qV7 d1.length d2.length
  have more : ∀ {h' v x m'}, m' ≤ B → BigN h' v x (m' + 1) → BigN h' v x (B + 1) := by
    intro h' v x m' hm ⟨neg, p, c, ds, a1, a2, a3, a4, a5, a6, a7⟩
    exact ⟨neg, p, c, ds, a1, a2, a3, a4, a5, by omega, a7⟩
  refine qRw r1 r2 o1 o2 (by omega) (by omega) m1 m2 em (fun hne hlt h' l' K' k' => ?_) fun v h' l' bn => k v h' l' (more (by omega) bn)
  obtain ⟨m', em', m1', m2', mo'⟩ := qV7 d2.length d1.length
  have : m' = m := by omega
  subst this
  refine qRw (r2.le l') (r1.le l') o2 o1 (by omega) (by omega) m1' m2' em' (fun _ h3 => by omega) fun v h'' l'' bn => k' v h'' l'' ?_
  rw [Int.add_comm]; exact bn
theorem qQi {va vb : Value} {x y : Int} {na nb : Nat} {h : Heap} (ha : BigR h va x na) (hb : BigR h vb y nb) (la : na ≤ 1000000) (lb : nb ≤ 1000000) {K : Value → Heap → Prop}
    (k : ∀ h', h.le h' → K (int .i64 (qDp x y)) h') : CallA Tryz.prog qG1 [va, vb] h K := by
  obtain ⟨n1, p1, c1, d1, rfl, r1, o1, hx, lc1, lb1⟩ := ha
  obtain ⟨n2, p2, c2, d2, rfl, r2, o2, hy, lc2, lb2⟩ := hb
  refine qTk _ _ _ _ _ _ _ _ _ _ ?_
  unfold qOv
  intro r hr q hq
  have aa := (At.new h r [.bool n1, slice p1 d1.length c1] 78).ins (x := .cells [.bool n2, slice p2 d2.length c2].toArray 78 (0, 0)) hq
  have ab := At.new (h.ins r (.cells [.bool n1, slice p1 d1.length c1].toArray 78 (0, 0))) q [.bool n2, slice p2 d2.length c2] 78
  have l1 := qBs (x := .cells [.bool n2, slice p2 d2.length c2].toArray 78 (0, 0)) (qi hr (o := .cells [.bool n1, slice p1 d1.length c1].toArray 78 (0, 0))) hq
  refine ⟨_, aa.cell rfl, _, _, _, aa.cell rfl, _, ab.cell rfl, _, _, _, ab.cell rfl, ?_⟩
  refine qQJ (x := y) (b := nb) ⟨n2, p2, c2, d2, rfl, r2.le l1, o2, hy, lc2, lb2⟩ (by omega) fun v2 h2 l2 bn2 => ?_
  obtain ⟨n3, p3, c3, d3, rfl, r3, o3, hy3, lc3, lb3, _⟩ := bn2
  refine ⟨_, _, _, _, rfl, .inl l2, ?_⟩
  have l12 := Heap.le_trans l1 l2
  refine qG5 (x := x) (y := -y) (na := na) (nb := nb) (B := 1000000) ⟨n1, p1, c1, d1, rfl, r1.le l12, o1, hx, lc1, lb1⟩ ⟨n3, p3, c3, d3, rfl, r3, o3, hy3, lc3, lb3⟩ (by omega) (by omega) (by omega) fun v4 h4 l4 bn4 => ?_
  obtain ⟨n5, p5, c5, d5, rfl, r5, o5, hy5, lc5, lb5, nz5⟩ := bn4
  refine ⟨_, _, _, _, rfl, ?_⟩
  intro u hu
  have uu := At.new h4 u [.bool false, slice none 0 0] 78
  have l14 := Heap.le_trans l12 l4
  have l5 := qBs (x := .cells [.bool false, slice none 0 0].toArray 78 (0, 0)) l14 hu
  have e5 := qm l14 hu
  have u2 := uu.set (o := 0) (ws := [.bool n5, slice p5 d5.length c5])
  have kk := k _ (qj (o := 0) (ws := [.bool n5, slice p5 d5.length c5]) l5 e5)
  refine ⟨uu.canSt (by simp), _, _, _, u2.cell rfl, ?_⟩
  have dn := qBb o5
  refine Br.intro (fun e => Ret.mk ?_) (fun e => ⟨_, u2.cell rfl, Br.intro (fun e6 => Ret.mk ?_) (fun e6 => Ret.mk ?_)⟩)
  · have : d5 = [] := List.length_eq_zero_iff.1 (by simpa using e)
    subst this
    have e0 : sg n5 [] = 0 := by unfold sg; simp [dig]
    have : qDp x y = 0 := by unfold qDp; rw [if_neg (by omega), if_neg (by omega)]
    rw [this] at kk; exact kk
  · subst e6
    have hd : dig d5 ≠ 0 := fun z => by have := (nz5 z).2; cases this
    have e0 : sg true d5 = -dig d5 := rfl
    have : qDp x y = -1 := by unfold qDp; rw [if_neg (by omega), if_pos (by omega)]
    rw [this] at kk; exact kk
  · subst e6
    have hd : dig d5 ≠ 0 := fun z => by
      have := (nz5 z).1
      subst this
      simp at e
    have e0 : sg false d5 = dig d5 := rfl
    have : qDp x y = 1 := by unfold qDp; rw [if_pos (by omega)]
    rw [this] at kk; exact kk
theorem qUZ {va : Value} {x : Int} {na : Nat} {h : Heap} (ha : BigR h va x na) (la : na ≤ 1000000) {K : Value → Heap → Prop} (k : ∀ h', h.le h' → K (tuple #[int .i64 (fit x).1, int .i64 (fit x).2]) h') :
    CallA Tryz.prog qG0 [va] h K := by
  obtain ⟨n1, p1, c1, d1, rfl, r1, o1, hx, lc1, lb1⟩ := ha
  refine qTd _ _ _ _ _ _ ?_
  unfold qOz
  intro r hr
  have aa := At.new h r [.bool n1, slice p1 d1.length c1] 78
  have l1 := qi hr (o := .cells [.bool n1, slice p1 d1.length c1].toArray 78 (0, 0))
  refine ⟨_, aa.cell rfl, _, _, _, aa.cell rfl, ?_⟩
  refine qLP ⟨by decide, by decide⟩ fun v2 h2 l2 bn2 => ?_
  obtain ⟨n3, p3, c3, d3, rfl, r3, o3, hy3, lc3, lb3, _⟩ := bn2
  refine ⟨_, _, _, _, rfl, .inl l2, ?_⟩
  have l12 := Heap.le_trans l1 l2
  refine qQi (x := x) (na := na) ⟨n1, p1, c1, d1, rfl, r1.le l12, o1, hx, lc1, lb1⟩ ⟨n3, p3, c3, d3, rfl, r3, o3, hy3, lc3, lb3⟩ la (by omega) fun h3 l3 => ⟨_, rfl, ?_⟩
  have l13 := Heap.le_trans l12 l3
  refine Br.dec (fun lt => Ret.mk ?_) (fun nlt => ?_)
  · have : x < -9223372036854775808 := by
      unfold qDp at lt
      split at lt
      · omega
      · split at lt <;> omega
    have kk := k h3 l13
    rw [qFz (by unfold I64; omega)] at kk
    exact kk
  have ge : -9223372036854775808 ≤ x := by
    unfold qDp at nlt
    split at nlt
    · omega
    · split at nlt <;> omega
  have aa := (aa.le l2).le l3
  refine ⟨_, aa.cell rfl, _, _, _, aa.cell rfl, ?_⟩
  refine qLP ⟨by decide, by decide⟩ fun v4 h4 l4 bn4 => ?_
  obtain ⟨n5, p5, c5, d5, rfl, r5, o5, hy5, lc5, lb5, _⟩ := bn4
  refine ⟨_, _, _, _, rfl, .inl l4, ?_⟩
  have l14 := Heap.le_trans l13 l4
  refine qQi (x := x) (na := na) ⟨n1, p1, c1, d1, rfl, r1.le l14, o1, hx, lc1, lb1⟩ ⟨n5, p5, c5, d5, rfl, r5, o5, hy5, lc5, lb5⟩ la (by omega) fun h6 l6 => ⟨_, rfl, ?_⟩
  have l16 := Heap.le_trans l14 l6
  refine Br.dec (fun gt => Ret.mk ?_) (fun ngt => ?_)
  · have : x > 9223372036854775807 := by
      unfold qDp at gt
      split at gt
      · omega
      · split at gt <;> omega
    have kk := k h6 l16
    rw [qFz (by unfold I64; omega)] at kk
    exact kk
  have le : x ≤ 9223372036854775807 := by
    unfold qDp at ngt
    split at ngt
    · omega
    · omega
  have aa := (aa.le l4).le l6
  refine ⟨_, _, _, aa.cell rfl, ?_⟩
  have kk := k h6 l16
  rw [qHQ (by unfold I64; omega)] at kk
  have r6 := r1.le l16
  -- the digits, from the highest on
  have loop : ∀ (n : Nat) (acc : Int), n ≤ d1.length → sg n1 d1 = 10000 ^ n * acc + sg n1 (d1.take n) → (acc = 0 ∨ n1 = (decide (acc < 0))) → qHZ r acc ((n : Int) - 1) h6 K := by
    intro n
    induction n with
    | zero =>
      intro acc hn e _
      refine qNS _ _ _ _ _ ?_
      unfold qKd
      refine Br.no (by decide) (Ret.mk ?_)
      have : acc = x := by rw [hx, e]; unfold sg; simp [dig]
      rw [this]; exact kk
    | succ n ih =>
      intro acc hn e hs
      refine qNS _ _ _ _ _ ?_
      unfold qKd
      rw [show (((n + 1 : Nat) : Int) - 1) = (n : Int) from by omega]
      refine Br.yes (decide_eq_true (by omega)) ⟨_, aa.cell rfl, ?_⟩
      have hlt : n < d1.length := by omega
      obtain ⟨b, o, ea, hc⟩ := r6.at hlt
      have gd := o1 _ (List.getElem_mem hlt)
      have et := qHW (l := d1) hlt
      have tn := qBb (qIE o1 n)
      have hP : (0 : Int) < 10000 ^ n := Int.pow_pos (by decide)
      rw [Int.pow_succ, Int.mul_assoc] at e
      generalize hd : d1[n] = d at *
      generalize (10000 : Int) ^ n = P at *
      have hxs : x = sg n1 d1 := hx
      -- what is told stays within an amount's bounds
      refine Br.intro (fun e6 => ⟨_, _, _, aa.cell rfl, by omega, by omega, qD ea ⟨_, by rw [Int.toNat_natCast]; exact hc, ?_⟩⟩) (fun e6 => ⟨_, _, _, aa.cell rfl, by omega, by omega, qD ea ⟨_, by rw [Int.toNat_natCast]; exact hc, ?_⟩⟩)
      · subst e6
        have e7 : sg true (d1.take (n + 1)) = sg true (d1.take n) - P * d := by unfold sg; simp only [if_true]; omega
        rw [e7] at e
        have e8 : P * (10000 * acc - d) = P * (10000 * acc) - P * d := Int.mul_sub _ _ _
        have e9 : sg true d1 = P * (10000 * acc - d) + sg true (d1.take n) := by omega
        have e10 : sg true (d1.take n) = -dig (d1.take n) := rfl
        have tl := qHf o1 n
        have hacc : acc ≤ 0 := by
          rcases hs with h | h
          · omega
          · have : acc < 0 := by simpa using h.symm
            omega
        have hb1 : -9223372036854775808 ≤ 10000 * acc - d := by
          refine Classical.byContradiction fun hh => ?_
          have h2 : 10000 * acc - d ≤ -9223372036854775809 := by omega
          have h3 : P * (10000 * acc - d) ≤ 1 * (10000 * acc - d) := by
            have := Int.mul_le_mul_of_nonneg_right (show (1 : Int) ≤ P by omega) (show 0 ≤ -(10000 * acc - d) by omega)
            rw [Int.mul_neg, Int.mul_neg] at this
            omega
          omega
        have w1 : IntKind.wrap .i64 (IntKind.wrap .i64 (10000 * acc) - d) = 10000 * acc - d := by
          rw [qH (n := 10000 * acc) (by omega) (by omega), qH (by omega) (by omega)]
        rw [w1, qH (n := (n : Int) - 1) (by omega) (by omega)]
        refine ih _ (by omega) e9 ?_
        by_cases h0 : 10000 * acc - d = 0
        · exact .inl h0
        · exact .inr (by simp; omega)
      · subst e6
        have e7 : sg false (d1.take (n + 1)) = sg false (d1.take n) + P * d := by unfold sg; simp only [Bool.false_eq_true, if_false]; omega
        rw [e7] at e
        have e8 : P * (10000 * acc + d) = P * (10000 * acc) + P * d := Int.mul_add _ _ _
        have e9 : sg false d1 = P * (10000 * acc + d) + sg false (d1.take n) := by omega
        have e10 : sg false (d1.take n) = dig (d1.take n) := rfl
        have hacc : 0 ≤ acc := by
          rcases hs with h | h
          · omega
          · simpa using h.symm
        have hb1 : 10000 * acc + d ≤ 9223372036854775807 := by
          refine Classical.byContradiction fun hh => ?_
          have h3 : 1 * (10000 * acc + d) ≤ P * (10000 * acc + d) := Int.mul_le_mul_of_nonneg_right (by omega) (by omega)
          omega
        have w1 : IntKind.wrap .i64 (IntKind.wrap .i64 (10000 * acc) + d) = 10000 * acc + d := by
          rw [qH (n := 10000 * acc) (by omega) (by omega), qH (by omega) (by omega)]
        rw [w1, qH (n := (n : Int) - 1) (by omega) (by omega)]
        refine ih _ (by omega) e9 ?_
        by_cases h0 : 10000 * acc + d = 0
        · exact .inl h0
        · exact .inr (by simp; omega)
  have lb := lb1
  rw [qH (by omega) (by omega)]
  exact loop d1.length 0 (Nat.le_refl _) (by rw [List.take_length]; simp) (.inl rfl)
end Go.Proofs.YtjihfieahkbohaaGreat

/- The reference's sum of many amounts, all at once and step by step. -/
namespace Go.Proofs.YtjihfieahkbohaaGreat
open Go Go.Sy Go.Value
set_option linter.unusedVariables false
set_option linter.unusedSimpArgs false

theorem qH1 {h : Heap} {q : Option Addr} {l : List Int} {b : Nat} {x : Bool} {p : Option Addr} {n c : Nat} {ws : List Value} (r : Ints .i64 h q l) (a : At h b [.bool x, slice p n c]) : Ints .i64 (h.setN b 0 ws) q l := by
  by_cases hl : l = []
  · subst hl; exact .inl rfl
  have hq := qOr r a hl
  rcases r with r | ⟨b', o, e, r⟩
  · exact .inl r
  · refine .inr ⟨b', o, e, fun j hj => ?_⟩
    have := r j hj
    unfold Heap.cell at this ⊢
    rw [qCq (fun e2 => hq o (by rw [e, e2]))]
    exact this
theorem qUh {l : List Int} {Bd : Nat} (hBd : 5 + l.length ≤ Bd) (hl : l.length ≤ 100000) (hI : qAq l) {q : Option Addr} {lc t2 out : Nat} {h0 : Heap} (rl : Ints .i64 h0 q l) (ht : h0 t2 = none) (ho : h0 out = none) (hne : t2 ≠ out) {K : Value → Heap → Prop}
    (k : ∀ v h', h0.le h' → BigR h' v (qM l) Bd → K v h') : ∀ (d i : Nat) (h : Heap) (neg : Bool) (p : Option Addr) (c : Nat) (ds : List Int), i + d = l.length → h0.le h → At h t2 [.bool false, slice none 0 0] →
      At h out [.bool neg, slice p ds.length c] → Ints .i64 h p ds → okD ds → sg neg ds = qM (l.take i) → ds.length ≤ c → ds.length ≤ 5 + i → qHx q l.length lc t2 out (i : Int) h K := by
  intro d
  induction d with
  | zero =>
    intro i h neg p c ds hd lh tt oo rd ok e hc hb
    refine qMT _ _ _ _ _ _ _ _ ?_
    unfold qJS
    refine Br.no (decide_eq_false (by omega)) ⟨_, oo.cell rfl, _, _, _, oo.cell rfl, qKe ht lh tt fun h' l' keep => k _ _ l' ?_⟩
    rw [List.take_of_length_le (by omega)] at e
    exact ⟨_, _, _, ds, rfl, keep _ _ rd, ok, e.symm, hc, by omega⟩
  | succ d ih =>
    intro i h neg p c ds hd lh tt oo rd ok e hc hb
    refine qMT _ _ _ _ _ _ _ _ ?_
    unfold qJS
    have hlt : i < l.length := by omega
    obtain ⟨b, o, ea, hcell⟩ := (rl.le lh).at hlt
    refine Br.yes (decide_eq_true (by omega)) ⟨_, oo.cell rfl, _, _, _, oo.cell rfl, by omega, by omega, qD ea ⟨_, by rw [Int.toNat_natCast]; exact hcell, ?_⟩⟩
    refine qLP (hI _ (List.getElem_mem hlt)) fun v1 h1 l1 bn1 => ?_
    have br1 := bn1.raw
    obtain ⟨n1, p1, c1, d1, rfl, r1, o1, x1, lc1, lb1, _⟩ := bn1
    refine ⟨_, _, _, _, rfl, .inl l1, ?_⟩
    refine qG5 (x := sg neg ds) (na := 5 + i) (B := 5 + i) ⟨neg, p, c, ds, rfl, rd.le l1, ok, rfl, hc, hb⟩ br1 (by omega) (by omega) (by omega) fun v2 h2 l2 bn2 => ?_
    obtain ⟨n2, p2, c2, d2, rfl, r2, o2, x2, lc2, lb2, _⟩ := bn2
    have l02 := Heap.le_trans lh (Heap.le_trans l1 l2)
    have oo2 := oo.le (Heap.le_trans l1 l2)
    have tt2 := tt.le (Heap.le_trans l1 l2)
    refine ⟨_, _, _, _, rfl, oo2.canSt (by simp), ?_⟩
    rw [qH (n := (i : Int) + 1) (by omega) (by omega)]
    have oo3 := oo2.set (o := 0) (ws := [.bool n2, slice p2 d2.length c2])
    refine ih (i + 1) _ n2 p2 c2 d2 (by omega) (qj l02 ho) (tt2.set_ne hne) oo3 (qH1 r2 oo2) o2 ?_ lc2 (by omega)
    rw [← x2, e, qLT hlt]
theorem qXf {l : List Int} {Bd : Nat} (hBd : 5 + l.length ≤ Bd) (hl : l.length ≤ 100000) (hI : qAq l) {q : Option Addr} {lc : Nat} {h : Heap} (rl : Ints .i64 h q l) {K : Value → Heap → Prop} (k : ∀ v h', h.le h' → BigR h' v (qM l) Bd → K v h') :
    CallA Tryz.prog qIY [slice q l.length lc] h K := by
  refine qR9 _ _ _ _ _ ?_
  unfold qNE
  intro r hr r1 hr1
  have t0 := (At.new h r [.bool false, slice none 0 0] 78).ins (x := .cells [.bool false, slice none 0 0].toArray 78 (0, 0)) hr1
  have o0 := At.new (h.ins r (.cells [.bool false, slice none 0 0].toArray 78 (0, 0))) r1 [.bool false, slice none 0 0] 78
  have l1 := qBs (x := .cells [.bool false, slice none 0 0].toArray 78 (0, 0)) (qi hr (o := .cells [.bool false, slice none 0 0].toArray 78 (0, 0))) hr1
  have hne : r ≠ r1 := (At.new _ _ _ _).ne hr1
  have h1 : h r1 = none := qm (qi hr) hr1
  refine ⟨o0.canSt (by simp), ?_⟩
  have o1 := o0.set (o := 0) (ws := [.bool false, slice none 0 0])
  exact qUh hBd hl hI rl hr h1 hne k l.length 0 _ false none 0 [] (by omega) (qj l1 h1) (t0.set_ne hne) o1 (.inl rfl) (fun d hd => (by cases hd)) (by simp [sg, dig, qM]) (by simp) (by simp)
end Go.Proofs.YtjihfieahkbohaaGreat

/- The reference's whole numbers of any size: a product. -/
namespace Go.Proofs.YtjihfieahkbohaaGreat
open Go Go.Sy Go.Value
set_option linter.unusedVariables false
set_option linter.unusedSimpArgs false

theorem qUE : ∀ (l : List Int) (j : Nat) (v : Int), j < l.length → dig (l.set j v) = dig l + 10000 ^ j * (v - l.getD j 0)
  | [], j, v, h => by simp at h
  | d :: l, 0, v, h => by simp [dig]; omega
  | d :: l, j + 1, v, h => by
    have e := qUE l j v (by simpa using h)
    simp only [List.set_cons_succ, dig, e, List.getD_cons_succ, Int.pow_succ]
    rw [Int.mul_add, Int.mul_comm (10000 ^ j) 10000, Int.mul_assoc]
    omega
theorem qRx (ds : List Int) (j : Nat) (v : Int) : qBE (qR .i64 ds) j [int .i64 v] = qR .i64 (ds.set j v) := by
  simp only [qBE, qE8, qD5, List.map_set]
theorem qUJ {ds : List Int} (h : okD ds) (j : Nat) {v : Int} (h0 : 0 ≤ v) (h1 : v < 10000) : okD (ds.set j v) := fun d hd => by
  rcases List.mem_or_eq_of_mem_set hd with e | e
  · exact h d e
  · rw [e]; exact ⟨h0, h1⟩
theorem qNh : ∀ n, qAM n [int .i64 0] = qR .i64 (List.replicate n 0)
  | 0 => rfl
  | n + 1 => by
    rw [List.replicate_succ, qR, qAM, qNh n]; rfl
theorem qRb : ∀ n, dig (List.replicate n 0) = 0
  | 0 => rfl
  | n + 1 => by rw [List.replicate_succ, dig, qRb n]; omega
theorem qRv (n : Nat) : okD (List.replicate n 0) := fun d hd => by
  have := (List.mem_replicate.1 hd).2
  omega
theorem qXt {na nb neg : Bool} {pa pb : Option Addr} {ca cb : Nat} {da db : List Int} {a b t4 out m : Nat} {h0 : Heap} (ra : Ints .i64 h0 pa da) (rb : Ints .i64 h0 pb db) (oa : okD da) (ob : okD db)
    (ht : h0 t4 = none) (ho : h0 out = none) (hm0 : h0 m = none) (d1 : a ≠ m) (d2 : b ≠ m) (d3 : t4 ≠ m) (d4 : out ≠ m) {M : Nat} (hM : M = da.length + db.length + 1) (hM2 : M ≤ 1048000)
    {K : Value → Heap → Prop} (k : ∀ v h', h0.le h' → BigN h' v (if neg then -(dig da * dig db) else dig da * dig db) M → K v h') :
    ∀ (e i : Nat) (ds : List Int) (h : Heap), i + e = da.length → ds.length = M → h0.le h → At h a [.bool na, slice pa da.length ca] → At h b [.bool nb, slice pb db.length cb] → At h t4 [.bool false, slice none 0 0] →
      At h out [.bool neg, slice (some ⟨m, 0, none⟩) M M] → At h m (qR .i64 ds) → okD ds → dig ds = dig (da.take i) * dig db → qJL a b t4 out (i : Int) h K := by
  intro e
  induction e with
  | zero =>
    intro i ds h hi hl l aa ab tt oo am ok hd
    refine qNY _ _ _ _ _ _ _ ?_
    unfold qKQ
    refine ⟨_, _, _, aa.cell rfl, Br.no (decide_eq_false (by omega)) ?_⟩
    have rd : Ints .i64 h (some ⟨m, 0, none⟩) ds := by
      have : At h m (qR .i64 ds ++ []) := by rw [List.append_nil]; exact am
      exact this.toRd
    rw [List.take_of_length_le (by omega)] at hd
    subst hl
    exact qQ0 l ht oo tt rd ok (Nat.le_refl _) (by omega) (B := ds.length) (Nat.le_refl _) (by unfold sg; rw [hd]) k
  | succ e ih =>
    intro i ds h hi hl l aa ab tt oo am ok hd
    refine qNY _ _ _ _ _ _ _ ?_
    unfold qKQ
    have hlt : i < da.length := by omega
    refine ⟨_, _, _, aa.cell rfl, Br.yes (decide_eq_true (by omega)) ?_⟩
    have gx := oa _ (List.getElem_mem hlt)
    have tk := qHW (l := da) hlt
    -- one row
    have row : ∀ (f j : Nat) (carry : Int) (ds : List Int) (h : Heap), j + f = db.length + 1 → ds.length = M → h0.le h → At h a [.bool na, slice pa da.length ca] → At h b [.bool nb, slice pb db.length cb] → At h t4 [.bool false, slice none 0 0] →
        At h out [.bool neg, slice (some ⟨m, 0, none⟩) M M] → At h m (qR .i64 ds) → okD ds → 0 ≤ carry → carry < 10000 →
        dig ds + 10000 ^ (i + j) * carry = dig (da.take i) * dig db + 10000 ^ i * (da[i] * dig (db.take j)) → qJH a b t4 out (i : Int) carry (j : Int) h K := by
      intro f
      induction f with
      | zero =>
        intro j carry ds h hj hl l aa ab tt oo am ok c0 c1 hd
        refine qNX _ _ _ _ _ _ _ _ _ ?_
        unfold qKN
        refine ⟨_, _, _, ab.cell rfl, ?_⟩
        rw [qH (n := (db.length : Int) + 1) (by omega) (by omega)]
        refine Br.no (decide_eq_false (by omega)) ?_
        rw [qH (n := (i : Int) + 1) (by omega) (by omega)]
        rw [List.take_of_length_le (show db.length ≤ j by omega)] at hd
        have e1 : dig (da.take i) * dig db + 10000 ^ i * (da[i] * dig db) = dig (da.take (i + 1)) * dig db := by
          rw [tk, Int.add_mul, Int.mul_assoc]
        rw [e1] at hd
        have t1 := qHf oa (i + 1)
        have t2 := qPE ob
        have t3 := qBb ok
        have t4 := qBb ob
        have t5 := qBb (qIE oa (i + 1))
        have hc : carry = 0 := by
          refine Classical.byContradiction fun hne => ?_
          have p1 : (10000 : Int) ^ (i + j) = 10000 ^ (i + 1) * 10000 ^ db.length := by
            rw [← Int.pow_add]; congr 1; omega
          have q1 : (0 : Int) < 10000 ^ (i + j) := Int.pow_pos (by decide)
          have q2 : (10000 : Int) ^ (i + j) * 1 ≤ 10000 ^ (i + j) * carry := Int.mul_le_mul_of_nonneg_left (by omega) (by omega)
          have q3 : (0 : Int) < 10000 ^ (i + 1) := Int.pow_pos (by decide)
          have q4 : dig (da.take (i + 1)) * dig db ≤ (10000 ^ (i + 1) - 1) * dig db := Int.mul_le_mul_of_nonneg_right (by omega) t4
          have q5 : (10000 ^ (i + 1) - 1 : Int) * dig db ≤ (10000 ^ (i + 1) - 1) * 10000 ^ db.length := Int.mul_le_mul_of_nonneg_left (by omega) (by omega)
          rw [Int.sub_mul, Int.sub_mul] at q5
          rw [Int.sub_mul] at q4
          have q6 : (0 : Int) < 10000 ^ db.length := Int.pow_pos (by decide)
          rw [← p1] at q5
          omega
        rw [hc, Int.mul_zero, Int.add_zero] at hd
        exact ih (i + 1) ds h (by omega) hl l aa ab tt oo am ok hd
      | succ f ihf =>
        intro j carry ds h hj hl l aa ab tt oo am ok c0 c1 hd
        refine qNX _ _ _ _ _ _ _ _ _ ?_
        unfold qKN
        refine ⟨_, _, _, ab.cell rfl, ?_⟩
        rw [qH (n := (db.length : Int) + 1) (by omega) (by omega), qH (n := (i : Int) + (j : Int)) (by omega) (by omega)]
        have hij : i + j < ds.length := by omega
        have eij : ((i : Int) + (j : Int)).toNat = i + j := by omega
        refine Br.yes (decide_eq_true (by omega)) ⟨_, _, _, oo.cell rfl, by omega, by omega, qD rfl ⟨_, am.cell (by rw [eij, Nat.zero_add, qD5, List.getElem?_map, List.getElem?_eq_getElem hij]; rfl), ?_⟩⟩
        obtain ⟨b1, o1, ea, hca⟩ := (ra.le l).at hlt
        refine ⟨_, _, _, aa.cell rfl, by omega, by omega, qD ea ⟨_, by rw [Int.toNat_natCast]; exact hca, ?_⟩⟩
        refine ⟨_, ab.cell rfl, _, _, _, ab.cell rfl, ?_⟩
        refine qIZ (rb.le l) fun h1 l1 => ⟨_, rfl, .inl l1, ?_⟩
        have l01 := Heap.le_trans l l1
        have am1 := am.le l1
        refine ⟨_, _, _, (oo.le l1).cell rfl, by omega, by omega, qD rfl ⟨am1.canSt (by rw [qd, eij]; simp; omega), ?_⟩⟩
        have gy := qKP ob j
        have gz := ok _ (List.getElem_mem hij)
        have ez : ds.getD (i + j) 0 = ds[i + j] := by rw [List.getD_eq_getElem?_getD, List.getElem?_eq_getElem hij]; rfl
        have tj := qFo db j
        generalize hx : da[i] = x at *
        generalize hy : db.getD j 0 = y at *
        generalize hz : ds[i + j] = z at *
        have xy0 : 0 ≤ x * y := Int.mul_nonneg gx.1 gy.1
        have xy1 : x * y ≤ 9999 * y := Int.mul_le_mul_of_nonneg_right (by omega) gy.1
        have w1 : IntKind.wrap .i64 (IntKind.wrap .i64 (carry + z) + IntKind.wrap .i64 (x * y)) = carry + z + x * y := by
          rw [qH (n := carry + z) (by omega) (by omega), qH (n := x * y) (by omega) (by omega), qH (by omega) (by omega)]
        rw [w1, qH (n := (j : Int) + 1) (by omega) (by omega), eij, Nat.zero_add]
        rcases td (carry + z + x * y) with ⟨z0, z1, z2⟩ | ⟨z0, _⟩
        case inr => omega
        rw [z1, z2]
        have hs : carry + z + x * y = (carry + z + x * y) % 10000 + 10000 * ((carry + z + x * y) / 10000) := by omega
        generalize hv : (carry + z + x * y) % 10000 = v at *
        generalize hq : (carry + z + x * y) / 10000 = q at *
        rw [qH (n := q) (by omega) (by omega)]
        have am2 := am1.set (o := i + j) (ws := [int .i64 v])
        rw [qRx] at am2
        refine ihf (j + 1) q (ds.set (i + j) v) _ (by omega) (by rw [List.length_set]; exact hl) (qj l01 hm0) ((aa.le l1).set_ne d1) ((ab.le l1).set_ne d2) ((tt.le l1).set_ne d3) ((oo.le l1).set_ne d4) am2 (qUJ ok _ (by omega) (by omega)) (by omega) (by omega) ?_
        rw [qUE _ _ _ hij, ez, tj, ← Nat.add_assoc, Int.pow_succ, Int.mul_assoc]
        have e1 : (10000 : Int) ^ i * (x * (dig (db.take j) + 10000 ^ j * y)) = 10000 ^ i * (x * dig (db.take j)) + 10000 ^ (i + j) * (x * y) := by
          rw [Int.mul_add, Int.mul_add, Int.pow_add, Int.mul_assoc, ← Int.mul_assoc x, Int.mul_comm x (10000 ^ j), Int.mul_assoc (10000 ^ j)]
        rw [e1]
        generalize (10000 : Int) ^ (i + j) = P at *
        have e2 : P * (v - z) + P * (10000 * q) = P * carry + P * (x * y) := by
          rw [← Int.mul_add, ← Int.mul_add]; congr 1; omega
        omega
    exact row (db.length + 1) 0 0 ds h (by omega) hl l aa ab tt oo am ok (by omega) (by omega) (by simp [dig, hd])
theorem qMV {va vb : Value} {x y : Int} {na nb : Nat} {h : Heap} (ha : BigR h va x na) (hb : BigR h vb y nb) (hB : na + nb ≤ 1000000) {K : Value → Heap → Prop}
    (k : ∀ v h', h.le h' → BigN h' v (x * y) (na + nb + 1) → K v h') : CallA Tryz.prog qH2 [va, vb] h K := by
  obtain ⟨n1, p1, c1, d1, rfl, r1, o1, hx, lc1, lb1⟩ := ha
  obtain ⟨n2, p2, c2, d2, rfl, r2, o2, hy, lc2, lb2⟩ := hb
  refine qTg _ _ _ _ _ _ _ _ _ _ ?_
  unfold qPA
  intro r hr q hq t ht
  have aa := ((At.new h r [.bool n1, slice p1 d1.length c1] 78).ins (x := .cells [.bool n2, slice p2 d2.length c2].toArray 78 (0, 0)) hq).ins (x := .cells [.bool false, slice none 0 0].toArray 78 (0, 0)) ht
  have ab := (At.new (h.ins r (.cells [.bool n1, slice p1 d1.length c1].toArray 78 (0, 0))) q [.bool n2, slice p2 d2.length c2] 78).ins (x := .cells [.bool false, slice none 0 0].toArray 78 (0, 0)) ht
  have tt := At.new ((h.ins r (.cells [.bool n1, slice p1 d1.length c1].toArray 78 (0, 0))).ins q (.cells [.bool n2, slice p2 d2.length c2].toArray 78 (0, 0))) t [.bool false, slice none 0 0] 78
  have l1 := qBs (x := .cells [.bool n2, slice p2 d2.length c2].toArray 78 (0, 0)) (qi hr (o := .cells [.bool n1, slice p1 d1.length c1].toArray 78 (0, 0))) hq
  have l2 := qBs (x := .cells [.bool false, slice none 0 0].toArray 78 (0, 0)) l1 ht
  have e2 := qm l1 ht
  generalize hh2 : ((h.ins r (.cells [.bool n1, slice p1 d1.length c1].toArray 78 (0, 0))).ins q (.cells [.bool n2, slice p2 d2.length c2].toArray 78 (0, 0))).ins t (.cells [.bool false, slice none 0 0].toArray 78 (0, 0)) = h2 at *
  refine ⟨_, aa.cell rfl, _, ab.cell rfl, _, _, _, aa.cell rfl, _, _, _, ab.cell rfl, ?_⟩
  have w : IntKind.wrap .i64 (IntKind.wrap .i64 ((d1.length : Int) + (d2.length : Int)) + 1) = ((d1.length + d2.length + 1 : Nat) : Int) := by
    rw [qH (n := (d1.length : Int) + (d2.length : Int)) (by omega) (by omega), qH (by omega) (by omega)]
    omega
  rw [w]
  refine ⟨by omega, Int.le_refl _, by omega, by omega, ?_⟩
  rw [Int.toNat_natCast, qNh]
  intro m hm o ho
  have am := (At.new h2 m (qR .i64 (List.replicate (d1.length + d2.length + 1) 0)) 3).ins (x := .cells [.bool false, slice none 0 0].toArray 78 (0, 0)) ho
  have m1 := aa.ne hm
  have m2 := ab.ne hm
  have m3 := tt.ne hm
  have aa := (aa.ins (x := .cells (qR .i64 (List.replicate (d1.length + d2.length + 1) 0)).toArray 3 (0, 0)) hm)
  have ab := (ab.ins (x := .cells (qR .i64 (List.replicate (d1.length + d2.length + 1) 0)).toArray 3 (0, 0)) hm)
  have tt := (tt.ins (x := .cells (qR .i64 (List.replicate (d1.length + d2.length + 1) 0)).toArray 3 (0, 0)) hm)
  have l3 := qBs (x := .cells (qR .i64 (List.replicate (d1.length + d2.length + 1) 0)).toArray 3 (0, 0)) l2 hm
  have em := qm l2 hm
  have q1 := aa.ne ho
  have q2 := ab.ne ho
  have q3 := tt.ne ho
  have q4 : m ≠ o := (At.new _ _ _ _).ne ho
  have eo := qm l3 ho
  have oo := At.new (h2.ins m (.cells (qR .i64 (List.replicate (d1.length + d2.length + 1) 0)).toArray 3 (0, 0))) o [.bool false, slice none 0 0] 78
  have aa := aa.ins (x := .cells [.bool false, slice none 0 0].toArray 78 (0, 0)) ho
  have ab := ab.ins (x := .cells [.bool false, slice none 0 0].toArray 78 (0, 0)) ho
  have tt := tt.ins (x := .cells [.bool false, slice none 0 0].toArray 78 (0, 0)) ho
  have l4 := qBs (x := .cells [.bool false, slice none 0 0].toArray 78 (0, 0)) l3 ho
  refine ⟨oo.canSt (by simp), ?_⟩
  refine qXt (neg := !(n1 == n2)) (r1) (r2) o1 o2 e2 eo em m1 m2 m3 (fun e => q4 e.symm) rfl (by omega) (fun v h' l' bn => k v h' l' ?_) d1.length 0 (List.replicate (d1.length + d2.length + 1) 0) _ (by omega) (by simp) (qj l4 eo) (aa.set_ne q1) (ab.set_ne q2) (tt.set_ne q3) oo.set (am.set_ne q4) (qRv _) (by rw [qRb]; simp [dig])
  have ex : x * y = if (!(n1 == n2)) = true then -(dig d1 * dig d2) else dig d1 * dig d2 := by
    rw [hx, hy]; unfold sg
    cases n1 <;> cases n2 <;> simp [Int.neg_mul, Int.mul_neg]
  rw [ex]
  obtain ⟨neg, p, c, ds, a1, a2, a3, a4, a5, a6, a7⟩ := bn
  exact ⟨neg, p, c, ds, a1, a2, a3, a4, a5, by omega, a7⟩
end Go.Proofs.YtjihfieahkbohaaGreat
