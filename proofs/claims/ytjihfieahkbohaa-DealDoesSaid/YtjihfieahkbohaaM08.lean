import Derived.Test.YtjihfieahkbohaaM03
import Derived.Test.YtjihfieahkbohaaM01
/- What the program's amounts come to: sums, differences, products and parts, each by its law. -/
namespace Go.Proofs.Ytjihfieahkbohaa
open Go Go.Sy Go.Value
set_option linter.unusedVariables false
set_option linter.unusedSimpArgs false

theorem S_size {a : Int} (ha : I64 a) (h : Heap) (K : Value → Heap → Prop) (k : K (int .u64 (a.natAbs : Int)) h) : CallA Try.prog fn_money_size [int .i64 a] h K := by
  obtain ⟨h1, h2⟩ := ha
  refine F_money_size _ _ _ ?_
  unfold F_money_sizeT
  refine Br.dec (fun hn => Ret.mk ?_) (fun hn => Ret.mk ?_)
  · rw [wrap_u64, wrap_u64, show (0 - a % 18446744073709551616) % 18446744073709551616 = (a.natAbs : Int) from by omega]; exact k
  · rw [wrap_u64, show a % 18446744073709551616 = (a.natAbs : Int) from by omega]; exact k

/-- the amount of a size and a sign -/
def sgn (n : Int) (neg : Bool) : Int × Int := if neg then (if n ≤ 9223372036854775808 then (-n, 0) else (0, 3)) else (if n < 9223372036854775808 then (n, 0) else (0, 3))
theorem S_signed {n : Int} (hn : U64 n) (neg : Bool) (h : Heap) (K : Value → Heap → Prop) (k : K (tuple #[int .i64 (sgn n neg).1, int .i64 (sgn n neg).2]) h) :
    CallA Try.prog fn_money_signed [int .u64 n, .bool neg] h K := by
  obtain ⟨h1, h2⟩ := hn
  refine F_money_signed _ _ _ _ ?_
  unfold F_money_signedT
  cases neg
  · simp only [Br_f, Bool.not_false, Br_t, sgn, Bool.false_eq_true, if_false] at k ⊢
    refine Br.dec (fun hn => Ret.mk ?_) (fun hn => Ret.mk ?_)
    · rw [if_pos hn] at k; rw [wrap_i64_id (by omega) (by omega)]; exact k
    · rw [if_neg hn] at k; exact k
  · simp only [Br_f, Bool.not_true, Br_t, sgn, if_true] at k ⊢
    refine Br.dec (fun hn => Ret.mk ?_) (fun hn => Ret.mk ?_)
    · rw [if_pos hn] at k
      rw [show IntKind.wrap .i64 (0 - IntKind.wrap .i64 n) = -n from by rw [wrap_i64, wrap_i64]; omega]; exact k
    · rw [if_neg hn] at k; exact k

/-- Fits an amount? -/
def fit (n : Int) : Int × Int := if -9223372036854775808 ≤ n ∧ n ≤ 9223372036854775807 then (n, 0) else (0, 3)
theorem fit_ok {n : Int} (h : I64 n) : fit n = (n, 0) := if_pos h
theorem fit_over {n : Int} (h : ¬ I64 n) : fit n = (0, 3) := if_neg h
theorem S_Add {a b : Int} (ha : I64 a) (hb : I64 b) (h : Heap) (K : Value → Heap → Prop) (k : K (tuple #[int .i64 (fit (a + b)).1, int .i64 (fit (a + b)).2]) h) :
    CallA Try.prog fn_money_Add [int .i64 a, int .i64 b] h K := by
  obtain ⟨h1, h2⟩ := ha
  obtain ⟨h3, h4⟩ := hb
  refine F_money_Add _ _ _ _ ?_
  unfold F_money_AddT
  rw [wrap_i64]
  by_cases hr : I64 (a + b)
  · rw [fit_ok hr] at k
    obtain ⟨r1, r2⟩ := hr
    have e : (a + b + 9223372036854775808) % 18446744073709551616 - 9223372036854775808 = a + b := by omega
    rw [e]
    refine Br.intro (fun e1 => Br.no ?_ (Ret.mk k)) (fun _ => Ret.mk k)
    simp only [beq_iff_eq, decide_eq_decide] at e1
    by_cases x : a + b < 0 <;> by_cases y : a < 0 <;> simp [x, y] <;> omega
  · rw [fit_over hr] at k
    have hr' : a + b < -9223372036854775808 ∨ 9223372036854775807 < a + b := by unfold I64 at hr; omega
    refine Br.yes ?_ (Br.yes ?_ (Ret.mk k))
    · simp only [beq_iff_eq, decide_eq_decide]; omega
    · by_cases y : a < 0
      · have x : ¬ ((a + b + 9223372036854775808) % 18446744073709551616 - 9223372036854775808 < 0) := by omega
        simp [x, y]
      · have x : (a + b + 9223372036854775808) % 18446744073709551616 - 9223372036854775808 < 0 := by omega
        simp [x, y]
/-! ### products, of 128 bits -/
theorem prod_parts (a0 a1 b0 b1 : Int) : (a1 * 4294967296 + a0) * (b1 * 4294967296 + b0) = a1 * b1 * 18446744073709551616 + (a1 * b0 + a0 * b1) * 4294967296 + a0 * b0 := by grind
theorem mul_lt32 {x y : Int} (h1 : 0 ≤ x) (h2 : x < 4294967296) (h3 : 0 ≤ y) (h4 : y < 4294967296) : 0 ≤ x * y ∧ x * y ≤ 18446744065119617025 := by
  refine ⟨Int.mul_nonneg h1 h3, ?_⟩
  have := Int.mul_le_mul (show x ≤ 4294967295 by omega) (show y ≤ 4294967295 by omega) h3 (by omega : (0 : Int) ≤ 4294967295)
  omega
theorem S_product {a b : Int} (ha : U64 a) (hb : U64 b) (h : Heap) (K : Value → Heap → Prop)
    (k : K (tuple #[int .u64 (a * b / 18446744073709551616), int .u64 (a * b % 18446744073709551616)]) h) : CallA Try.prog fn_money_product [int .u64 a, int .u64 b] h K := by
  obtain ⟨h1, h2⟩ := ha
  obtain ⟨h3, h4⟩ := hb
  refine F_money_product _ _ _ _ ?_
  unfold F_money_productT
  intro r hr
  simp only [setN_ins, setL, setT, cell_ins_same, fdiv_pos _ (show (0 : Int) ≤ 4294967296 by omega), and_low h1, and_low h3]
  refine ⟨canSt_ins _ _ _ _ _ _ (by simp), ?_⟩
  have ea : a % 4294967296 % 18446744073709551616 = a % 4294967296 := by omega
  have eb : b % 4294967296 % 18446744073709551616 = b % 4294967296 := by omega
  simp only [wrap_u64, ea, eb]
  obtain ⟨p1, p2⟩ := mul_lt32 (x := a % 4294967296) (y := b % 4294967296) (by omega) (by omega) (by omega) (by omega)
  obtain ⟨p3, p4⟩ := mul_lt32 (x := a % 4294967296) (y := b / 4294967296) (by omega) (by omega) (by omega) (by omega)
  obtain ⟨p5, p6⟩ := mul_lt32 (x := a / 4294967296) (y := b % 4294967296) (by omega) (by omega) (by omega) (by omega)
  obtain ⟨p7, p8⟩ := mul_lt32 (x := a / 4294967296) (y := b / 4294967296) (by omega) (by omega) (by omega) (by omega)
  have key := prod_parts (a % 4294967296) (a / 4294967296) (b % 4294967296) (b / 4294967296)
  rw [show a / 4294967296 * 4294967296 + a % 4294967296 = a from by omega, show b / 4294967296 * 4294967296 + b % 4294967296 = b from by omega] at key
  generalize a % 4294967296 * (b % 4294967296) = x0 at *
  generalize a % 4294967296 * (b / 4294967296) = x1 at *
  generalize a / 4294967296 * (b % 4294967296) = x2 at *
  generalize a / 4294967296 * (b / 4294967296) = x3 at *
  generalize a * b = ab at *
  clear ea eb h1 h2 h3 h4
  have w0 : x0 % 18446744073709551616 = x0 := by omega
  have w1 : x1 % 18446744073709551616 = x1 := by omega
  have w2 : x2 % 18446744073709551616 = x2 := by omega
  have w3 : x3 % 18446744073709551616 = x3 := by omega
  simp only [w0, w1, w2, w3]
  refine ⟨_, rfl, _, rfl, _, rfl, _, rfl, _, rfl, _, rfl, _, rfl, ⟨_, le_ins hr, ?_⟩⟩
  rw [and_low p1, and_low p3, and_low p5]
  have m : (x0 / 4294967296 + x1 % 4294967296 % 18446744073709551616) % 18446744073709551616 = x0 / 4294967296 + x1 % 4294967296 := by omega
  rw [m]
  have m2 : (x0 / 4294967296 + x1 % 4294967296 + x2 % 4294967296 % 18446744073709551616) % 18446744073709551616 = x0 / 4294967296 + x1 % 4294967296 + x2 % 4294967296 := by omega
  rw [m2]
  have hi : (((x3 + x1 / 4294967296) % 18446744073709551616 + x2 / 4294967296) % 18446744073709551616 + (x0 / 4294967296 + x1 % 4294967296 + x2 % 4294967296) / 4294967296) % 18446744073709551616 = ab / 18446744073709551616 := by omega
  rw [hi]
  generalize hs : x0 / 4294967296 + x1 % 4294967296 + x2 % 4294967296 = s at *
  have e5 : s * 4294967296 % 18446744073709551616 = (s % 4294967296) * 4294967296 := by omega
  have e6 : x0 % 4294967296 % 18446744073709551616 = x0 % 4294967296 := by omega
  rw [e5, e6, or_half (by omega) (by omega) (by omega) (by omega)]
  have lo : (s % 4294967296 * 4294967296 + x0 % 4294967296) % 18446744073709551616 = ab % 18446744073709551616 := by omega
  rw [lo]
  exact k

/-! ### a division, bit by bit -/
theorem div_step {by' p x m : Int} (h0 : 0 < by') (h : by' ≤ x) : (x * p + m) / by' = p + ((x - by') * p + m) / by' ∧ (x * p + m) % by' = ((x - by') * p + m) % by' := by
  have e : x * p + m = ((x - by') * p + m) + by' * p := by grind
  rw [e]
  constructor
  · rw [Int.add_mul_ediv_left _ _ (by omega)]; omega
  · rw [Int.add_mul_emod_self_left]
theorem quot_loop {by' : Int} (hb : 0 < by') (hb2 : by' ≤ 18446744073709551615) (h : Heap) (K : Value → Heap → Prop) : ∀ (n : Nat), n ≤ 64 → ∀ (m q rest : Int), 0 ≤ m → m < 2 ^ n → 0 ≤ q → q < 2 ^ (64 - n) → 0 ≤ rest → rest < by' →
    K (tuple #[int .u64 (q * 2 ^ n + (rest * 2 ^ n + m) / by'), .bool ((rest * 2 ^ n + m) % by' != 0), .bool true]) h →
    L_money_quotient_0 (m * 2 ^ (64 - n)) by' q rest ((64 - n : Nat) : Int) h K := by
  intro n
  induction n with
  | zero =>
    intro _ m q rest m1 m2 q1 q2 r1 r2 k
    refine L_money_quotient_0r _ _ _ _ _ _ _ ?_
    unfold L_money_quotient_0T
    refine Br.no (by decide) (Ret.mk ?_)
    have m0 : m = 0 := by simp at m2; omega
    subst m0
    simp only [Int.pow_zero, Int.mul_one, Int.add_zero] at k
    rw [Int.ediv_eq_zero_of_lt r1 r2, Int.emod_eq_of_lt r1 r2, Int.add_zero] at k
    exact k
  | succ n ih =>
    intro hn m q rest m1 m2 q1 q2 r1 r2 k
    -- the parts
    have pw : (2 : Int) ^ (n + 1) = 2 ^ n * 2 := Int.pow_succ 2 n
    have e64 : 64 - n = (64 - (n + 1)) + 1 := by omega
    have pv : (2 : Int) ^ (64 - n) = 2 ^ (64 - (n + 1)) * 2 := by rw [e64, Int.pow_succ]
    have pp : (2 : Int) ^ n * 2 ^ (64 - n) = 18446744073709551616 := by
      rw [← Int.pow_add, show n + (64 - n) = 64 from by omega]; decide
    have pn : (0 : Int) < 2 ^ n := Int.pow_pos (by decide)
    have pq : (0 : Int) < 2 ^ (64 - (n + 1)) := Int.pow_pos (by decide)
    rw [pw] at m2
    generalize hP : (2 : Int) ^ n = p at *
    generalize hQ : (2 : Int) ^ (64 - (n + 1)) = s at *
    -- the top bit and what is below
    have hc : m / p = 0 ∨ m / p = 1 := by
      have : m / p < 2 := Int.ediv_lt_of_lt_mul pn (by omega)
      have : 0 ≤ m / p := Int.ediv_nonneg m1 (by omega)
      omega
    have hm : m = (m / p) * p + m % p := by have := Int.mul_ediv_add_emod m p; rw [Int.mul_comm] at this; omega
    have hm1 : 0 ≤ m % p := Int.emod_nonneg _ (by omega)
    have hm2 : m % p < p := Int.emod_lt_of_pos _ pn
    generalize hcc : m / p = c at *
    generalize hmm : m % p = m' at *
    have ps : p * s * 2 = 18446744073709551616 := by rw [← pp, pv]; grind
    have hms : 0 ≤ m' * s ∧ m' * s < p * s := ⟨Int.mul_nonneg hm1 (by omega), Int.mul_lt_mul_of_pos_right hm2 pq⟩
    have low : m * s = c * 9223372036854775808 + m' * s := by
      rw [hm]
      have : p * s = 9223372036854775808 := by omega
      rw [Int.add_mul, Int.mul_assoc, this]
    have hlow : m' * s < 9223372036854775808 := by omega
    have topbit : Int.fdiv (m * s) 9223372036854775808 = c := by
      rw [fdiv_pos _ (by omega), low]
      omega
    have next : IntKind.wrap .u64 (m * s * 2) = m' * 2 ^ (64 - n) := by
      rw [wrap_u64, pv, low]
      have : m' * (s * 2) = m' * s * 2 := by grind
      rw [this]
      rcases hc with e | e <;> subst e <;> omega
    have cnt : IntKind.wrap .i64 (((64 - (n + 1) : Nat) : Int) + 1) = ((64 - n : Nat) : Int) := by
      rw [wrap_i64_id (by omega) (by omega)]; omega
    have hq2 : q * 2 + 1 < s * 2 := by omega
    have hs64 : s * 2 ≤ 18446744073709551616 := by
      have : s * 1 ≤ s * p := Int.mul_le_mul_of_nonneg_left (by omega) (by omega)
      have e : s * p = p * s := Int.mul_comm _ _
      omega
    have wq : IntKind.wrap .u64 (q * 2) = q * 2 := wrap_u64_id (by omega) (by omega)
    have qbit : IntKind.wrap .u64 ((BitVec.ofInt 64 (q * 2) ||| BitVec.ofInt 64 1).toNat : Int) = q * 2 + 1 := by
      rw [or_bit (by omega) (by omega) (by omega) (by omega) (by omega), wrap_u64_id (by omega) (by omega)]
    refine L_money_quotient_0r _ _ _ _ _ _ _ ?_
    unfold L_money_quotient_0T
    have eb : IntKind.bits IntKind.u64 = 64 := rfl
    have e1 : min (Int.toNat 1) 64 = 1 := by decide
    have e63 : min (Int.toNat 63) 64 = 63 := by decide
    have e2 : (2 : Int) ^ 63 = 9223372036854775808 := by decide
    have e3 : (2 : Int) ^ 1 = 2 := by decide
    simp only [eb, e1, e63, e2, e3, topbit, next, cnt, wq, qbit]
    have hc0 : 0 ≤ c ∧ c < 2 := by omega
    have rbit : IntKind.wrap .u64 ((BitVec.ofInt 64 (IntKind.wrap .u64 (rest * 2)) ||| BitVec.ofInt 64 c).toNat : Int) = (rest * 2 + c) % 18446744073709551616 := by
      rw [wrap_u64 (rest * 2), or_bit (by omega) (by omega) (by omega) (by omega) (by omega), wrap_u64]
      omega
    simp only [rbit]
    have big : q * (p * 2) + (rest * (p * 2) + m) / by' = q * 2 * p + ((rest * 2 + c) * p + m') / by' ∧ (rest * (p * 2) + m) % by' = ((rest * 2 + c) * p + m') % by' := by
      have : rest * (p * 2) + m = (rest * 2 + c) * p + m' := by rw [hm]; grind
      rw [this]
      exact ⟨by grind, rfl⟩
    rw [pw, big.1, big.2] at k
    refine Br.yes (decide_eq_true (by omega)) ?_
    have step1 : by' ≤ rest * 2 + c → L_money_quotient_0 (m' * 2 ^ (64 - n)) by' (q * 2 + 1) (rest * 2 + c - by') ((64 - n : Nat) : Int) h K := by
      intro hge
      obtain ⟨d1, d2⟩ := div_step (p := p) (m := m') hb hge
      refine ih (by omega) m' (q * 2 + 1) (rest * 2 + c - by') hm1 hm2 (by omega) (by rw [pv]; omega) (by omega) (by omega) ?_
      rw [d1, d2] at k
      have : q * 2 * p + (p + ((rest * 2 + c - by') * p + m') / by') = (q * 2 + 1) * p + ((rest * 2 + c - by') * p + m') / by' := by grind
      rw [← this]; exact k
    refine Br.dec (fun ho => ?_) (fun ho => Br.dec (fun hge => ?_) (fun hlt => ?_))
    · have e : IntKind.wrap .u64 ((rest * 2 + c) % 18446744073709551616 - by') = rest * 2 + c - by' := by rw [wrap_u64]; omega
      rw [e]; exact step1 (by omega)
    · have e : IntKind.wrap .u64 ((rest * 2 + c) % 18446744073709551616 - by') = rest * 2 + c - by' := by rw [wrap_u64]; omega
      rw [e]; exact step1 (by omega)
    · have e : (rest * 2 + c) % 18446744073709551616 = rest * 2 + c := by omega
      rw [e] at hlt ⊢
      exact ih (by omega) m' (q * 2) (rest * 2 + c) hm1 hm2 (by omega) (by rw [pv]; omega) (by omega) (by omega) k
/-- the whole quotient, and whether something is left -/
theorem S_quotient {high lower by' : Int} (hh : U64 high) (hl : U64 lower) (hb : U64 by') (h : Heap) (K : Value → Heap → Prop)
    (k1 : high ≥ by' → K (tuple #[int .u64 0, .bool false, .bool false]) h)
    (k2 : high < by' → K (tuple #[int .u64 ((high * 18446744073709551616 + lower) / by'), .bool ((high * 18446744073709551616 + lower) % by' != 0), .bool true]) h) :
    CallA Try.prog fn_money_quotient [int .u64 high, int .u64 lower, int .u64 by'] h K := by
  refine F_money_quotient _ _ _ _ _ ?_
  unfold F_money_quotientT
  refine Br.dec (fun hg => Ret.mk (k1 hg)) (fun hg => ?_)
  have hlt : high < by' := by omega
  have e64 : (2 : Int) ^ 64 = 18446744073709551616 := by decide
  have e := quot_loop (by' := by') (by unfold U64 at *; omega) hb.2 h K 64 (by omega) lower 0 high hl.1 (by rw [e64]; have := hl.2; omega) (by omega) (by decide) hh.1 hlt
  rw [e64] at e
  simp only [Nat.sub_self, Int.pow_zero, Int.mul_one, Int.zero_mul, Int.zero_add] at e
  exact e (k2 hlt)

/-! ### a product, parted -/
/-- the whole number below, or above, a quotient -/
def dv (n c : Int) (up : Bool) : Int := if up then -((-n) / c) else n / c
def md (a b c : Int) (up : Bool) : Int × Int := if c < 1 then (0, 1) else fit (dv (a * b) c up)
theorem natAbs_mul (a b : Int) : (a.natAbs : Int) * b.natAbs = ((a * b).natAbs : Int) := by rw [Int.natAbs_mul]; simp
theorem ediv_neg_of {n c : Int} (hc : 0 < c) (h : n % c ≠ 0) : (-n) / c = -(n / c) - 1 := by
  have h1 := Int.mul_ediv_add_emod n c
  have h2 := Int.emod_nonneg n (show c ≠ 0 by omega)
  have h3 := Int.emod_lt_of_pos n hc
  have : -n = (c - n % c) + c * (-(n / c) - 1) := by
    have : c * (-(n / c) - 1) = -(c * (n / c)) - c := by grind
    omega
  rw [this, Int.add_mul_ediv_left _ _ (by omega), Int.ediv_eq_zero_of_lt (by omega) (by omega)]
  omega
theorem ediv_neg_of0 {n c : Int} (hc : 0 < c) (h : n % c = 0) : (-n) / c = -(n / c) := by
  have h1 := Int.mul_ediv_add_emod n c
  have : -n = c * (-(n / c)) := by
    have : c * (-(n / c)) = -(c * (n / c)) := by grind
    omega
  rw [this, Int.mul_ediv_cancel_left _ (by omega)]
theorem mul_sign {a b : Int} : (a * b < 0 → (a < 0 ∧ 0 < b) ∨ (0 < a ∧ b < 0)) ∧ (0 < a * b → (a < 0 ∧ b < 0) ∨ (0 < a ∧ 0 < b)) := by
  constructor
  · intro h
    rcases Int.lt_trichotomy a 0 with h1 | h1 | h1 <;> rcases Int.lt_trichotomy b 0 with h2 | h2 | h2
    · have := Int.mul_pos_of_neg_of_neg h1 h2; omega
    · subst h2; simp at h
    · exact .inl ⟨h1, h2⟩
    · subst h1; simp at h
    · subst h1; simp at h
    · subst h1; simp at h
    · exact .inr ⟨h1, h2⟩
    · subst h2; simp at h
    · have := Int.mul_pos h1 h2; omega
  · intro h
    rcases Int.lt_trichotomy a 0 with h1 | h1 | h1 <;> rcases Int.lt_trichotomy b 0 with h2 | h2 | h2
    · exact .inl ⟨h1, h2⟩
    · subst h2; simp at h
    · have := Int.mul_neg_of_neg_of_pos h1 h2; omega
    · subst h1; simp at h
    · subst h1; simp at h
    · subst h1; simp at h
    · have := Int.mul_neg_of_pos_of_neg h1 h2; omega
    · subst h2; simp at h
    · exact .inr ⟨h1, h2⟩
/-- the quotient of sizes, put right -/
theorem dv_of_size {n c : Int} {neg up : Bool} (hc : 0 < c) (h1 : neg = true → n ≤ 0) (h2 : neg = false → 0 ≤ n) :
    dv n c up = (if neg then -1 else 1) * ((n.natAbs : Int) / c + (if ((n.natAbs : Int) % c != 0) && (neg != up) then 1 else 0)) := by
  unfold dv
  cases neg
  · have hn := h2 rfl
    have e : (n.natAbs : Int) = n := by omega
    rw [e]
    cases up
    · simp
    · by_cases hz : n % c = 0
      · simp [hz, ediv_neg_of0 hc hz]
      · simp [hz, ediv_neg_of hc hz]; omega
  · have hn := h1 rfl
    have e : (n.natAbs : Int) = -n := by omega
    rw [e]
    have hd : n % c = 0 ↔ (-n) % c = 0 := by
      rw [← Int.dvd_iff_emod_eq_zero, ← Int.dvd_iff_emod_eq_zero, Int.dvd_neg]
    cases up
    · by_cases hz : (-n) % c = 0
      · have := ediv_neg_of0 hc hz
        rw [Int.neg_neg] at this
        simp [hz]; omega
      · have := ediv_neg_of hc hz
        rw [Int.neg_neg] at this
        simp [hz]; omega
    · simp
theorem S_MulDiv {a b c : Int} (ha : I64 a) (hb : I64 b) (hcc : I64 c) (up : Bool) (h : Heap) (K : Value → Heap → Prop)
    (k : K (tuple #[int .i64 (md a b c up).1, int .i64 (md a b c up).2]) h) : CallA Try.prog fn_money_MulDiv [int .i64 a, int .i64 b, int .i64 c, .bool up] h K := by
  refine F_money_MulDiv _ _ _ _ _ _ ?_
  unfold F_money_MulDivT
  refine Br.dec (fun hc => Ret.mk ?_) (fun hc => ?_)
  · unfold md at k; rw [if_pos hc] at k; exact k
  refine S_size ha h _ ⟨_, rfl, S_size hb h _ ⟨_, rfl, ?_⟩⟩
  have wa : U64 (a.natAbs : Int) := by unfold I64 U64 at *; omega
  have wb : U64 (b.natAbs : Int) := by unfold I64 U64 at *; omega
  refine S_product wa wb h _ ⟨_, _, rfl, ?_⟩
  rw [natAbs_mul]
  have hc1 : 1 ≤ c := by omega
  have hc2 : c ≤ 9223372036854775807 := hcc.2
  have wc : IntKind.wrap .u64 c = c := wrap_u64_id (by omega) (by omega)
  rw [wc]
  -- the size of the product
  have hbd : ((a * b).natAbs : Int) ≤ 85070591730234615865843651857942052864 := by
    rw [← natAbs_mul]
    have h1 : (a.natAbs : Int) ≤ 9223372036854775808 := by unfold I64 at ha; omega
    have h2 : (b.natAbs : Int) ≤ 9223372036854775808 := by unfold I64 at hb; omega
    have := Int.mul_le_mul h1 h2 (by omega) (by omega)
    omega
  have hsgn := mul_sign (a := a) (b := b)
  have hneg : ∀ neg, (!decide (a < 0) == decide (b < 0)) = neg → (neg = true → a * b ≤ 0) ∧ (neg = false → 0 ≤ a * b) := by
    intro neg e
    constructor
    · intro e2; subst e2
      simp at e
      by_cases x : a < 0 <;> by_cases y : b < 0 <;> simp [x, y] at e <;> rcases Int.lt_trichotomy (a * b) 0 with z | z | z <;> omega
    · intro e2; subst e2
      simp at e
      by_cases x : a < 0 <;> by_cases y : b < 0 <;> simp [x, y] at e <;> rcases Int.lt_trichotomy (a * b) 0 with z | z | z <;> omega
  generalize hN : ((a * b).natAbs : Int) = N at *
  have hN0 : 0 ≤ N := by omega
  have hmd : md a b c up = fit (dv (a * b) c up) := by unfold md; rw [if_neg hc]
  rw [hmd] at k
  generalize hng : (!decide (a < 0) == decide (b < 0)) = neg at *
  obtain ⟨n1, n2⟩ := hneg neg rfl
  have hdv := dv_of_size (n := a * b) (c := c) (neg := neg) (up := up) (by omega) n1 n2
  rw [hN] at hdv
  have hq0 : 0 ≤ N / c := Int.ediv_nonneg hN0 (by omega)
  refine S_quotient (by unfold U64; omega) (by unfold U64; omega) (by unfold U64; omega) h _ (fun hg => ⟨_, _, _, rfl, ?_⟩) (fun hg => ⟨_, _, _, rfl, ?_⟩)
  · -- it doesn't fit
    refine Br.yes rfl (Ret.mk ?_)
    have hq : 18446744073709551616 ≤ N / c := by
      refine (Int.le_ediv_iff_mul_le (by omega)).2 ?_
      have := Int.mul_ediv_add_emod N 18446744073709551616
      have h5 := Int.emod_nonneg N (show (18446744073709551616 : Int) ≠ 0 by omega)
      omega
    rw [fit_over (by
      unfold I64
      rw [hdv]
      cases neg <;> simp <;> split <;> omega)] at k
    exact k
  · refine Br.no rfl ?_
    have eN : N / 18446744073709551616 * 18446744073709551616 + N % 18446744073709551616 = N := by omega
    rw [eN]
    have hq1 : N / c ≤ 18446744073709551615 := by
      have : N / c < 18446744073709551616 := by
        refine Int.ediv_lt_of_lt_mul (by omega) ?_
        have := Int.mul_ediv_add_emod N 18446744073709551616
        have h5 := Int.emod_lt_of_pos N (show (0 : Int) < 18446744073709551616 by omega)
        have h6 : N / 18446744073709551616 ≤ c - 1 := by omega
        omega
      omega
    have plain : ((N % c != 0) && (neg != up)) = false → K (tuple #[int .i64 (sgn (N / c) neg).1, int .i64 (sgn (N / c) neg).2]) h := by
      intro e
      rw [e] at hdv
      have : sgn (N / c) neg = fit (dv (a * b) c up) := by
        rw [hdv]
        unfold sgn fit
        cases neg <;> simp <;> split <;> split <;> simp <;> omega
      rw [this]; exact k
    have more : ((N % c != 0) && (neg != up)) = true → (N / c = 18446744073709551615 → K (tuple #[int .i64 0, int .i64 3]) h) ∧ K (tuple #[int .i64 (sgn (N / c + 1) neg).1, int .i64 (sgn (N / c + 1) neg).2]) h := by
      intro e
      rw [e] at hdv
      constructor
      · intro e2
        rw [fit_over (by unfold I64; rw [hdv, e2]; cases neg <;> simp)] at k
        exact k
      · have : sgn (N / c + 1) neg = fit (dv (a * b) c up) := by
          rw [hdv]
          unfold sgn fit
          cases neg <;> simp <;> split <;> split <;> simp <;> omega
        rw [this]; exact k
    refine Br.intro (fun e1 => Br.intro (fun e2 => ?_) (fun e2 => ?_)) (fun e1 => ?_)
    · obtain ⟨m1, m2⟩ := more (by rw [e1]; cases neg <;> cases up <;> simp at e2 ⊢)
      refine Br.intro (fun e3 => Ret.mk (m1 ?_)) (fun e3 => ?_)
      · simp only [beq_iff_eq, wrap_u64] at e3; omega
      · simp only [beq_eq_false_iff_ne, ne_eq, wrap_u64] at e3
        rw [wrap_u64_id (by omega) (by omega)]
        exact S_signed ⟨by omega, by omega⟩ neg h _ ⟨_, _, rfl, Ret.mk m2⟩
    · exact S_signed ⟨hq0, hq1⟩ neg h _ ⟨_, _, rfl, Ret.mk (plain (by rw [e1]; cases neg <;> cases up <;> simp at e2 ⊢))⟩
    · exact S_signed ⟨hq0, hq1⟩ neg h _ ⟨_, _, rfl, Ret.mk (plain (by rw [e1]; rfl))⟩
end Go.Proofs.Ytjihfieahkbohaa

/- What many amounts come to, all together and step by step; and that the calls of the awake test answer as they must. -/
namespace Go.Proofs.Ytjihfieahkbohaa
open Go Go.Sy Go.Value
set_option linter.unusedVariables false
set_option linter.unusedSimpArgs false

def sumL : List Int → Int
  | [] => 0
  | n :: l => n + sumL l
theorem sumL_append : ∀ l m, sumL (l ++ m) = sumL l + sumL m
  | [], m => by simp [sumL]
  | n :: l, m => by simp only [List.cons_append, sumL, sumL_append l m]; omega
def allI64 (l : List Int) : Prop := ∀ n ∈ l, I64 n
theorem sum_take_succ {l : List Int} {i : Nat} (h : i < l.length) : sumL (l.take (i + 1)) = sumL (l.take i) + l[i] := by
  rw [List.take_add_one, sumL_append, List.getElem?_eq_getElem h]
  simp [sumL]
theorem sum_bound {l : List Int} (h : allI64 l) : ∀ i, i ≤ l.length → -(i : Int) * 9223372036854775808 ≤ sumL (l.take i) ∧ sumL (l.take i) ≤ (i : Int) * 9223372036854775808
  | 0, _ => by simp [sumL]
  | i + 1, hi => by
    obtain ⟨h1, h2⟩ := sum_bound h i (by omega)
    rw [sum_take_succ (by omega)]
    have := h _ (List.getElem_mem (show i < l.length by omega))
    unfold I64 at this
    omega
/-- the rest of a sum, from a place on -/
theorem sum_loop {l : List Int} (hl : l.length ≤ 1048576) (hI : allI64 l) {a : Option Addr} {c : Nat} (h : Heap) (hr : Ints .i64 h a l) (K : Value → Heap → Prop)
    (k : K (tuple #[int .i64 (fit (sumL l)).1, int .i64 (fit (sumL l)).2]) h) : ∀ (d i : Nat), i + d = l.length →
    L_money_Sum_0 (sumL (l.take i) / 18446744073709551616) (sumL (l.take i) % 18446744073709551616) a l.length c (l.length : Int) (i : Int) h K := by
  intro d
  induction d with
  | zero =>
    intro i hi
    refine L_money_Sum_0r _ _ _ _ _ _ _ _ _ ?_
    unfold L_money_Sum_0T
    have hb := sum_bound hI i (by omega)
    have e : l.take i = l := List.take_of_length_le (by omega)
    rw [e] at hb ⊢
    refine Br.no (decide_eq_false (by omega)) ?_
    have f : ∀ x : Int, Int.fdiv x 9223372036854775808 = x / 9223372036854775808 := fun x => fdiv_pos x (by omega)
    rw [f, wrap_i64]
    generalize sumL l = s at *
    refine Br.intro (fun e1 => Ret.mk ?_) (fun e1 => Ret.mk ?_)
    · rw [fit_over] at k
      · exact k
      · simp only [bne_iff_ne, ne_eq] at e1
        unfold I64
        omega
    · simp only [bne_eq_false_iff_eq] at e1
      rw [fit_ok (by unfold I64; omega)] at k
      rw [show (s % 18446744073709551616 + 9223372036854775808) % 18446744073709551616 - 9223372036854775808 = s from by omega]
      exact k
  | succ d ih =>
    intro i hi
    refine L_money_Sum_0r _ _ _ _ _ _ _ _ _ ?_
    unfold L_money_Sum_0T
    have hlt : i < l.length := by omega
    have hb := sum_bound hI i (by omega)
    have nx := ih (i + 1) (by omega)
    rw [sum_take_succ hlt] at nx
    have hn := hI _ (List.getElem_mem hlt)
    obtain ⟨b, o, ea, hc⟩ := hr.at hlt
    refine Br.yes (decide_eq_true (by omega)) ⟨by omega, by omega, withAddr_intro ea ⟨_, by rw [Int.toNat_natCast]; exact hc, ?_⟩⟩
    have f : ∀ x : Int, Int.fdiv x 9223372036854775808 = x / 9223372036854775808 := fun x => fdiv_pos x (by omega)
    simp only [f, wrap_u64, wrap_i64]
    unfold I64 at hn
    generalize l[i] = x at *
    generalize hS : sumL (l.take i) = s at *
    have cnt : ((i : Int) + 1 + 9223372036854775808) % 18446744073709551616 - 9223372036854775808 = ((i + 1 : Nat) : Int) := by omega
    have lo : (s % 18446744073709551616 + x % 18446744073709551616) % 18446744073709551616 = (s + x) % 18446744073709551616 := by omega
    simp only [cnt, lo]
    refine Br.dec (fun hlt2 => ?_) (fun hge => ?_)
    · have hi2 : (((s / 18446744073709551616 + 1 + 9223372036854775808) % 18446744073709551616 - 9223372036854775808) + x / 9223372036854775808 + 9223372036854775808) % 18446744073709551616 - 9223372036854775808 = (s + x) / 18446744073709551616 := by omega
      rw [hi2]; exact nx
    · have hi2 : (s / 18446744073709551616 + x / 9223372036854775808 + 9223372036854775808) % 18446744073709551616 - 9223372036854775808 = (s + x) / 18446744073709551616 := by omega
      rw [hi2]; exact nx
theorem S_Sum {l : List Int} (hl : l.length ≤ 1048576) (hI : allI64 l) {a : Option Addr} {c : Nat} (h : Heap) (hr : Ints .i64 h a l) (K : Value → Heap → Prop)
    (k : K (tuple #[int .i64 (fit (sumL l)).1, int .i64 (fit (sumL l)).2]) h) : CallA Try.prog fn_money_Sum [slice a l.length c] h K := by
  refine F_money_Sum _ _ _ _ _ ?_
  unfold F_money_SumT
  have := sum_loop hl hI (c := c) h hr K k l.length 0 (by omega)
  simpa [sumL] using this

/-- step by step -/
def chainL : Int → List Int → Int × Int
  | a, [] => (a, 0)
  | a, b :: l => if -9223372036854775808 ≤ a + b ∧ a + b ≤ 9223372036854775807 then chainL (a + b) l else (0, 3)
end Go.Proofs.Ytjihfieahkbohaa

/- Bytes: a number by eight bytes, and back; texts and their bytes; and a Builder, that is told bytes and then the text. -/

namespace Go.Proofs.Ytjihfieahkbohaa
open Go Go.Sy Go.Value
set_option linter.unusedVariables false
set_option linter.unusedSimpArgs false

def byteAt (n : Int) (i : Nat) : Int := n / 2 ^ (8 * i) % 256
def beF (n : Int) : Nat → List Int
  | 0 => []
  | j + 1 => byteAt n j :: beF n j
def be8 (n : Int) : List Int := beF n 8
theorem byteAt_r (n : Int) (i : Nat) : 0 ≤ byteAt n i ∧ byteAt n i < 256 := by unfold byteAt; omega
theorem beF_length (n : Int) : ∀ j, (beF n j).length = j
  | 0 => rfl
  | j + 1 => by rw [beF, List.length_cons, beF_length n j]
theorem be8_length (n : Int) : (be8 n).length = 8 := beF_length n 8
def bytes (l : List Int) : Prop := ∀ b ∈ l, 0 ≤ b ∧ b < 256
theorem bytes_nil : bytes [] := fun _ h => by cases h
theorem bytes_app {a b : List Int} (x : bytes a) (y : bytes b) : bytes (a ++ b) := fun n h => (List.mem_append.1 h).elim (x n) (y n)
theorem beF_r (n : Int) : ∀ j, bytes (beF n j)
  | 0 => bytes_nil
  | j + 1 => fun b h => by
    rcases List.mem_cons.1 h with rfl | h
    · exact byteAt_r n j
    · exact beF_r n j b h
theorem be8_r (n : Int) : bytes (be8 n) := beF_r n 8
theorem shift_byte (n : Int) (j : Nat) (hj : j ≤ 7) : IntKind.wrap IntKind.u8 (Int.fdiv n (2 ^ min (Int.toNat (IntKind.wrap IntKind.i64 (8 * (j : Int)))) 64)) = byteAt n j := by
  rw [wrap_i64_id (by omega) (by omega), wrap_u8, show min (Int.toNat (8 * (j : Int))) 64 = 8 * j by omega, fdiv_pos _ (Int.le_of_lt (Int.pow_pos (by decide)))]
  rfl
theorem wrap_cong {x y k : Int} (h : x = y + k * 18446744073709551616) : IntKind.wrap IntKind.i64 x = IntKind.wrap IntKind.i64 y := by
  rw [wrap_i64, wrap_i64]; omega
theorem wrap_u64c (x : Int) : ∃ k, IntKind.wrap IntKind.i64 x = x + k * 18446744073709551616 := ⟨-((x + 9223372036854775808) / 18446744073709551616), by rw [wrap_i64]; omega⟩
theorem dec_step {a b : Int} (hb : 0 ≤ b ∧ b < 256) :
    IntKind.wrap IntKind.i64 ((BitVec.toNat (BitVec.ofInt 64 (IntKind.wrap IntKind.i64 (a * 256)) ||| BitVec.ofInt 64 (IntKind.wrap IntKind.i64 b)) : Nat) : Int) = IntKind.wrap IntKind.i64 (a * 256 + b) := by
  obtain ⟨k, hk⟩ := wrap_u64c (a * 256)
  rw [hk, wrap_i64_id (n := b) (by omega) (by omega), BitVec.toNat_or, BitVec.toNat_ofInt, BitVec.toNat_ofInt]
  have e2 : (b % (2 ^ 64 : Nat)).toNat = b.toNat := by
    rw [Int.emod_eq_of_lt hb.1 (by have : ((2 ^ 64 : Nat) : Int) = 18446744073709551616 := by decide
                                   omega)]
  obtain ⟨y, hy⟩ : ∃ y : Nat, ((a * 256 + k * 18446744073709551616) % (2 ^ 64 : Nat)).toNat = 2 ^ 8 * y ∧ (2 ^ 8 * y : Int) = (a * 256) % 18446744073709551616 := by
    have e : ((2 ^ 64 : Nat) : Int) = 18446744073709551616 := by decide
    rw [e]
    refine ⟨((a * 256) % 18446744073709551616 / 256).toNat, ?_, ?_⟩
    · have : (a * 256 + k * 18446744073709551616) % 18446744073709551616 = (a * 256) % 18446744073709551616 := by omega
      rw [this]; omega
    · omega
  rw [e2, hy.1]
  have hlt : b.toNat < 2 ^ 8 := by omega
  rw [← Nat.two_pow_add_eq_or_of_lt hlt]
  have h2 := hy.2
  refine wrap_cong (k := -((a * 256) / 18446744073709551616)) ?_
  have : ((2 ^ 8 * y + b.toNat : Nat) : Int) = (2 ^ 8 * y : Int) + b := by
    rw [Int.natCast_add]
    have : ((2 ^ 8 * y : Nat) : Int) = (2 ^ 8 * y : Int) := by simp
    omega
  rw [this, h2]; omega
/-- bytes, added up -/
def decL : Int → List Int → Int
  | a, [] => a
  | a, b :: l => decL (IntKind.wrap IntKind.i64 (a * 256 + b)) l
theorem emod_mul256 (n p : Int) (hp : 0 < p) : n % (p * 256) = n % p + p * (n / p % 256) := by
  have h1 := Int.mul_ediv_add_emod n p
  have h2 := Int.mul_ediv_add_emod (n / p) 256
  have h3 := Int.emod_nonneg n (Int.ne_of_gt hp)
  have h4 := Int.emod_lt_of_pos n hp
  have h5 : 0 ≤ n / p % 256 ∧ n / p % 256 < 256 := by omega
  have e : n = (n % p + p * (n / p % 256)) + (p * 256) * (n / p / 256) := by
    have : p * (256 * (n / p / 256) + n / p % 256) + n % p = n := by rw [h2, h1]
    rw [Int.mul_add, ← Int.mul_assoc] at this
    omega
  have h6 : 0 ≤ p * (n / p % 256) := Int.mul_nonneg (by omega) h5.1
  have h7 : p * (n / p % 256) ≤ p * 255 := Int.mul_le_mul_of_nonneg_left (by omega) (by omega)
  have key : (n % p + p * (n / p % 256)) % (p * 256) = n % p + p * (n / p % 256) := Int.emod_eq_of_lt (by omega) (by omega)
  have e2 : n % (p * 256) = ((n % p + p * (n / p % 256)) + (p * 256) * (n / p / 256)) % (p * 256) := by rw [← e]
  rw [e2, Int.add_mul_emod_self_left, key]
theorem dec_beF (n : Int) : ∀ (j : Nat) (a : Int), decL (IntKind.wrap IntKind.i64 a) (beF n j) = IntKind.wrap IntKind.i64 (a * 256 ^ j + n % 256 ^ j)
  | 0, a => by
    show IntKind.wrap IntKind.i64 a = IntKind.wrap IntKind.i64 (a * 1 + n % 1)
    rw [Int.mul_one, Int.emod_one, Int.add_zero]
  | j + 1, a => by
    rw [beF, decL]
    have e1 : IntKind.wrap IntKind.i64 (IntKind.wrap IntKind.i64 a * 256 + byteAt n j) = IntKind.wrap IntKind.i64 (a * 256 + byteAt n j) := by
      obtain ⟨k, hk⟩ := wrap_u64c a
      rw [hk]
      exact wrap_cong (k := k * 256) (by rw [Int.add_mul]; omega)
    rw [e1, dec_beF n j]
    have hp : (0 : Int) < 256 ^ j := Int.pow_pos (by decide)
    have e2 : byteAt n j = n / 256 ^ j % 256 := by
      unfold byteAt
      rw [show (2 : Int) ^ (8 * j) = 256 ^ j from by rw [Int.pow_mul]; rfl]
    rw [Int.pow_succ, emod_mul256 n _ hp, ← e2, Int.add_mul]
    congr 1
    rw [Int.mul_comm (256 ^ j) (byteAt n j), Int.mul_comm (256 ^ j) 256, ← Int.mul_assoc]
    omega
theorem dec_be8 {n : Int} (h : I64 n) : decL 0 (be8 n) = n := by
  have := dec_beF n 8 0
  rw [show IntKind.wrap IntKind.i64 0 = 0 from rfl] at this
  unfold be8
  rw [this, Int.zero_mul, Int.zero_add, show (256 : Int) ^ 8 = 18446744073709551616 from rfl]
  obtain ⟨h1, h2⟩ := h
  rw [wrap_i64]; omega
/-! texts and their bytes -/
theorem strOf_data : ∀ (l : List Int) (s : ByteArray), (l.foldl (fun s n => s.push (UInt8.ofNat n.toNat)) s).data.toList = s.data.toList ++ l.map fun n => UInt8.ofNat n.toNat
  | [], s => by simp
  | n :: l, s => by
    rw [List.foldl_cons, strOf_data l]
    simp
theorem bytesI_strOf {l : List Int} (h : bytes l) : bytesI (strOf l) = l := by
  unfold bytesI strOf
  rw [strOf_data]
  simp only [List.map_append, List.map_map]
  show [] ++ _ = l
  rw [List.nil_append]
  have : ∀ n ∈ l, ((fun b : UInt8 => (b.toNat : Int)) ∘ fun n : Int => UInt8.ofNat n.toNat) n = n := fun n hn => by
    obtain ⟨h1, h2⟩ := h n hn
    show ((UInt8.ofNat n.toNat).toNat : Int) = n
    rw [UInt8.toNat_ofNat', Nat.mod_eq_of_lt (by omega)]; omega
  rw [List.map_congr_left this, List.map_id'']
  exact fun _ => rfl
theorem bytesI_length (s : ByteArray) : (bytesI s).length = s.size := by unfold bytesI; rw [List.length_map]; rfl
theorem bytesI_r (s : ByteArray) : bytes (bytesI s) := fun b hb => by
  unfold bytesI at hb
  obtain ⟨c, _, rfl⟩ := List.mem_map.1 hb
  have := c.toNat_lt
  omega
theorem strOf_size {l : List Int} (h : bytes l) : (strOf l).size = l.length := by rw [← bytesI_length, bytesI_strOf h]
theorem bytesI_get (s : ByteArray) (i : Nat) (c : UInt8) (h : s[i]? = some c) : (bytesI s)[i]? = some (c.toNat : Int) := by
  unfold bytesI
  rw [List.getElem?_map]
  have : s.data.toList[i]? = some c := by
    rw [Array.getElem?_toList]
    have h2 : i < s.size := by
      rcases Nat.lt_or_ge i s.size with h3 | h3
      · exact h3
      · rw [getElem?_neg s i (by omega)] at h; cases h
    rw [getElem?_pos s i h2] at h
    have h3 : i < s.data.size := h2
    rw [Array.getElem?_eq_getElem h3]
    exact h
  rw [this]; rfl
theorem str_get (s : ByteArray) {i : Nat} (h : i < s.size) : ∃ c : UInt8, s[i]? = some c ∧ (bytesI s)[i]? = some (c.toNat : Int) := ⟨s[i], getElem?_pos s i h, bytesI_get s i _ (getElem?_pos s i h)⟩
theorem bytesI_extract (s : ByteArray) (a b : Nat) : bytesI (s.extract a b) = ((bytesI s).take b).drop a := by
  unfold bytesI
  rw [ByteArray.data_extract, Array.toList_extract, List.extract_eq_take_drop, ← List.map_take, ← List.map_drop, List.take_drop]
  by_cases h : a ≤ b
  · rw [show a + (b - a) = b by omega]
  · rw [show a + (b - a) = a by omega]
    rw [List.drop_eq_nil_of_le (by rw [List.length_take]; omega), List.drop_eq_nil_of_le (by rw [List.length_take]; omega)]
theorem strOf_bytesI (s : ByteArray) : strOf (bytesI s) = s := by
  have e : (strOf (bytesI s)).data.toList = s.data.toList := by
    unfold strOf
    rw [strOf_data]
    unfold bytesI
    show [] ++ _ = _
    rw [List.nil_append, List.map_map]
    have : ∀ b ∈ s.data.toList, ((fun n : Int => UInt8.ofNat n.toNat) ∘ fun b : UInt8 => (b.toNat : Int)) b = b := fun b _ => by
      show UInt8.ofNat ((b.toNat : Int)).toNat = b
      rw [Int.toNat_natCast, UInt8.ofNat_toNat]
    rw [List.map_congr_left this, List.map_id'']
    exact fun _ => rfl
  have e2 : (strOf (bytesI s)).data = s.data := Array.toList_inj.1 e
  cases h : strOf (bytesI s) with
  | mk d =>
    rw [h] at e2
    cases s with
    | mk d2 => dsimp only at e2; rw [e2]
theorem bytesI_append (a b : ByteArray) : bytesI (a ++ b) = bytesI a ++ bytesI b := by
  unfold bytesI
  rw [ByteArray.data_append, Array.toList_append, List.map_append]
theorem byte_mod (n : Int) (i : Nat) (hi : i < 8) : byteAt (n % 18446744073709551616) i = byteAt n i := by
  unfold byteAt
  match i, hi with
  | 0, _ => rw [show (2 : Int) ^ (8 * 0) = 1 from rfl]; omega
  | 1, _ => rw [show (2 : Int) ^ (8 * 1) = 256 from rfl]; omega
  | 2, _ => rw [show (2 : Int) ^ (8 * 2) = 65536 from rfl]; omega
  | 3, _ => rw [show (2 : Int) ^ (8 * 3) = 16777216 from rfl]; omega
  | 4, _ => rw [show (2 : Int) ^ (8 * 4) = 4294967296 from rfl]; omega
  | 5, _ => rw [show (2 : Int) ^ (8 * 5) = 1099511627776 from rfl]; omega
  | 6, _ => rw [show (2 : Int) ^ (8 * 6) = 281474976710656 from rfl]; omega
  | 7, _ => rw [show (2 : Int) ^ (8 * 7) = 72057594037927936 from rfl]; omega
theorem div_next (u : Int) (i : Nat) : u / 2 ^ (8 * i) / 256 = u / 2 ^ (8 * (i + 1)) := by
  rw [Int.ediv_ediv_of_nonneg (Int.le_of_lt (Int.pow_pos (by decide))), show (2 : Int) ^ (8 * (i + 1)) = 2 ^ (8 * i) * 256 from by rw [show 8 * (i + 1) = 8 * i + 8 by omega, Int.pow_add]; rfl]
end Go.Proofs.Ytjihfieahkbohaa

/- Instructions: what a book knows, plainly. -/
namespace Go.Proofs.Ytjihfieahkbohaa
open Go Go.Sy Go.Value
set_option linter.unusedVariables false
set_option linter.unusedSimpArgs false

structure Dl where
  id : Int
  a : Int
  b : Int
  sc : Int
  bc : Int
  sell : Int
  buy : Int
structure En where
  d : Dl
  st : Int
  ask : Int
  ord : Int
structure Bk where
  mem : Int
  cur : Int
  L : List En
  mat : Nat
def eqD (d e : Dl) : Bool := (d.id == e.id) && ((d.a == e.a) && ((d.b == e.b) && ((d.sc == e.sc) && ((d.bc == e.bc) && ((d.sell == e.sell) && ((d.buy == e.buy) && true))))))
theorem eqD_iff {d e : Dl} : eqD d e = true ↔ d = e := by
  cases d; cases e
  simp [eqD]
def twoB (a b m : Int) : Bool := decide (0 ≤ a ∧ 0 ≤ b ∧ a < m ∧ b < m ∧ a ≠ b)
def mayD (mem cur : Int) (d : Dl) : Prop := 1 ≤ d.id ∧ d.id ≤ 2147483647 ∧ twoB d.a d.b mem = true ∧ twoB d.sc d.bc cur = true ∧ 1 ≤ d.sell ∧ 1 ≤ d.buy
instance (mem cur : Int) (d : Dl) : Decidable (mayD mem cur d) := by unfold mayD; infer_instance
def mirD (d : Dl) : Dl := ⟨d.id, d.b, d.a, d.bc, d.sc, d.buy, d.sell⟩
theorem mirD_mirD (d : Dl) : mirD (mirD d) = d := rfl
theorem twoB_comm (a b m : Int) : twoB a b m = twoB b a m := by
  unfold twoB
  rw [decide_eq_decide]; omega
theorem mayD_mir {mem cur : Int} {d : Dl} : mayD mem cur (mirD d) ↔ mayD mem cur d := by
  unfold mayD mirD
  dsimp only
  rw [twoB_comm d.b, twoB_comm d.bc]
  constructor <;> (rintro ⟨h1, h2, h3, h4, h5, h6⟩; exact ⟨h1, h2, h3, h4, h6, h5⟩)
def posE (id : Int) : List En → Option Nat
  | [] => none
  | x :: l => if x.d.id = id then some 0 else (posE id l).map (· + 1)
theorem posE_some {id : Int} : ∀ {l : List En} {i : Nat}, posE id l = some i → ∃ x, l[i]? = some x ∧ x.d.id = id
  | [], i, h => by cases h
  | x :: l, i, h => by
    rw [posE] at h
    split at h
    · rename_i g; cases h; exact ⟨x, rfl, g⟩
    · cases hp : posE id l with
      | none => rw [hp] at h; cases h
      | some j =>
        rw [hp] at h; cases h
        obtain ⟨y, e, g⟩ := posE_some hp
        exact ⟨y, e, g⟩
theorem posE_none {id : Int} : ∀ {l : List En}, posE id l = none → ∀ x ∈ l, x.d.id ≠ id
  | [], _, x, hx => by cases hx
  | y :: l, h, x, hx => by
    rw [posE] at h
    split at h
    · cases h
    · rename_i g
      have hp : posE id l = none := by
        cases hp : posE id l with
        | none => rfl
        | some j => rw [hp] at h; cases h
      rcases List.mem_cons.1 hx with rfl | hx
      · exact g
      · exact posE_none hp x hx
theorem posE_app {id : Int} : ∀ (l l' : List En), posE id (l ++ l') = match posE id l with
    | some i => some i
    | none => (posE id l').map (· + l.length)
  | [], l' => by
    show posE id l' = (posE id l').map (· + 0)
    cases posE id l' <;> rfl
  | x :: l, l' => by
    rw [List.cons_append, posE, posE]
    split
    · rfl
    · rw [posE_app l l']
      cases hp : posE id l with
      | some i => rfl
      | none =>
        cases hq : posE id l' with
        | none => rfl
        | some j => show some (j + l.length + 1) = some (j + (l.length + 1)); rfl
theorem posE_snoc {id : Int} (l : List En) (y : En) (h : posE y.d.id l = none) : posE id (l ++ [y]) = if id = y.d.id then some l.length else posE id l := by
  rw [posE_app]
  by_cases g : id = y.d.id
  · subst g
    rw [h, if_pos rfl]
    show (if y.d.id = y.d.id then some 0 else _ : Option Nat).map _ = _
    rw [if_pos rfl]
    show some (0 + l.length) = _
    rw [Nat.zero_add]
  · rw [if_neg g]
    cases hp : posE id l with
    | some i => rfl
    | none =>
      show (if y.d.id = id then some 0 else (posE id []).map (· + 1) : Option Nat).map _ = _
      rw [if_neg (fun e => g e.symm)]; rfl
/-- the Ids stay: so does where they are -/
theorem posE_map {id : Int} : ∀ {l l' : List En}, l.map (fun x => x.d.id) = l'.map (fun x => x.d.id) → posE id l = posE id l'
  | [], [], _ => rfl
  | [], _ :: _, h => by cases h
  | _ :: _, [], h => by cases h
  | x :: l, y :: l', h => by
    simp only [List.map_cons, List.cons.injEq] at h
    rw [posE, posE, h.1, posE_map h.2]
theorem map_set {β : Type} (f : En → β) {l : List En} {i : Nat} {x y : En} (hx : l[i]? = some x) (e : f y = f x) : (l.set i y).map f = l.map f := by
  refine List.ext_getElem? fun j => ?_
  rw [List.getElem?_map, List.getElem?_map, List.getElem?_set]
  split
  · rename_i g
    subst g
    have hi := (List.getElem?_eq_some_iff.1 hx).1
    rw [if_pos hi, hx]
    simp [e]
  · rfl
theorem posE_set {id : Int} {l : List En} {i : Nat} {x y : En} (hx : l[i]? = some x) (e : y.d = x.d) : posE id (l.set i y) = posE id l := posE_map (map_set (fun z => z.d.id) hx (by rw [e]))

/-! what is asked of it -/
def submitM (S : Bk) (d : Dl) : Bool × Int × Bk :=
  if mayD S.mem S.cur d then
    match posE d.id S.L with
    | none => if S.L.length = 200 then (false, 4, S) else (false, 0, { S with L := S.L ++ [⟨d, 1, 0, 0⟩] })
    | some i => match S.L[i]? with
      | none => (false, 0, S)
      | some x => if x.st ≠ 1 ∨ x.d.a = d.a then (false, 6, S) else if eqD x.d (mirD d) = false then (false, 12, S)
        else (true, 0, { S with L := S.L.set i { x with st := 2, ord := (S.mat : Int) + 1 }, mat := S.mat + 1 })
  else (false, 1, S)
def whoE (x : En) (m : Int) : Int := if m = x.d.a then 1 else if m = x.d.b ∧ x.st ≠ 1 then 2 else 0
def rescindM (S : Bk) (m id : Int) : Int × Int × Bk :=
  match posE id S.L with
  | none => (0, 5, S)
  | some i => match S.L[i]? with
    | none => (0, 5, S)
    | some x => if whoE x m = 0 then (0, 5, S) else if 3 ≤ x.st then (0, 7, S)
      else if x.st = 1 then (4, 0, { S with L := S.L.set i { x with st := 4 } })
      else if x.ask / whoE x m % 2 = 1 then (0, 6, S)
      else if x.ask + whoE x m = 3 then (4, 0, { S with L := S.L.set i { x with st := 4, ask := 3 } })
      else (x.st, 0, { S with L := S.L.set i { x with ask := x.ask + whoE x m } })
def settleM (S : Bk) (id : Int) : Int × Bk :=
  match posE id S.L with
  | none => (5, S)
  | some i => match S.L[i]? with
    | none => (5, S)
    | some x => if x.st ≠ 2 then (7, S) else (0, { S with L := S.L.set i { x with st := 3 } })
def hitE (m : Int) (x : En) : Bool := decide (x.st < 3 ∧ (x.d.a = m ∨ x.d.b = m))
def goneE (m : Int) (x : En) : En := if hitE m x then { x with st := 4 } else x
def remL (m : Int) (L : List En) : List En := L.map (goneE m)
def remO (m : Int) (L : List En) : List Int := (L.filter (hitE m)).map fun x => x.d.id
def removeM (S : Bk) (m : Int) : List Int × Bk := (remO m S.L, { S with L := remL m S.L })
def getE (S : Bk) (id : Int) : Option En := (posE id S.L).bind fun i => S.L[i]?
def stateM (S : Bk) (id : Int) : Int := match getE S id with
  | some x => x.st
  | none => 0
def allM (S : Bk) (s : Int) : List Int :=
  if s = 2 then ((List.range S.mat).flatMap fun (n : Nat) => S.L.filter fun x => decide (x.ord = (n : Int) + 1 ∧ x.st = 2)).map fun x => x.d.id
  else (S.L.filter fun x => decide (x.st = s)).map fun x => x.d.id

/-! what always holds -/
def couldE (x : En) : Prop := (x.st = 1 ∧ x.ask = 0 ∧ x.ord = 0) ∨ ((x.st = 2 ∨ x.st = 3) ∧ 0 ≤ x.ask ∧ x.ask < 3 ∧ 0 < x.ord) ∨ (x.st = 4 ∧ 0 ≤ x.ask ∧ x.ask ≤ 3 ∧ 0 ≤ x.ord ∧ (0 < x.ord ∨ x.ask = 0))
instance (x : En) : Decidable (couldE x) := by unfold couldE; infer_instance
def ordsL (L : List En) : List Int := (L.map fun x => x.ord).filter fun n => decide (0 < n)
def oneTo (n : Nat) : List Int := (List.range n).map fun (k : Nat) => (k : Int) + 1
structure Bk.Ok (S : Bk) : Prop where
  m1 : 1 ≤ S.mem ∧ S.mem ≤ 16
  c1 : 1 ≤ S.cur ∧ S.cur ≤ 8
  n : S.L.length ≤ 200
  may : ∀ x ∈ S.L, mayD S.mem S.cur x.d
  i64 : ∀ x ∈ S.L, x.d.sell ≤ 9223372036854775807 ∧ x.d.buy ≤ 9223372036854775807
  nd : ∀ i x, S.L[i]? = some x → posE x.d.id S.L = some i
  could : ∀ x ∈ S.L, couldE x
  ords : (ordsL S.L).Perm (oneTo S.mat)
theorem oneTo_length (n : Nat) : (oneTo n).length = n := by unfold oneTo; rw [List.length_map, List.length_range]
theorem mem_oneTo {n : Nat} {x : Int} : x ∈ oneTo n ↔ 1 ≤ x ∧ x ≤ (n : Int) := by
  unfold oneTo
  rw [List.mem_map]
  constructor
  · rintro ⟨m, hm, rfl⟩
    rw [List.mem_range] at hm; omega
  · intro h
    exact ⟨(x - 1).toNat, by rw [List.mem_range]; omega, by omega⟩
theorem oneTo_nodup (n : Nat) : (oneTo n).Nodup := by
  unfold oneTo
  rw [List.Nodup, List.pairwise_map]
  exact List.Pairwise.imp (fun h e => h (by omega)) List.nodup_range
theorem oneTo_succ (n : Nat) : oneTo (n + 1) = oneTo n ++ [(n : Int) + 1] := by
  unfold oneTo
  rw [List.range_succ, List.map_append]; rfl
theorem mem_ordsL {L : List En} {v : Int} : v ∈ ordsL L ↔ ∃ x ∈ L, x.ord = v ∧ 0 < v := by
  unfold ordsL
  rw [List.mem_filter, List.mem_map]
  simp only [decide_eq_true_eq]
  constructor
  · rintro ⟨⟨x, hx, rfl⟩, h⟩; exact ⟨x, hx, rfl, h⟩
  · rintro ⟨x, hx, rfl, h⟩; exact ⟨⟨x, hx, rfl⟩, h⟩
theorem ordsL_app (a b : List En) : ordsL (a ++ b) = ordsL a ++ ordsL b := by
  unfold ordsL
  rw [List.map_append, List.filter_append]
theorem ordsL_len (L : List En) : (ordsL L).length ≤ L.length := by
  unfold ordsL
  have := List.length_filter_le (fun n : Int => decide (0 < n)) (L.map fun x => x.ord)
  rwa [List.length_map] at this
section
variable {S : Bk}
theorem Bk.Ok.mat (o : S.Ok) : S.mat ≤ 200 := by
  have := o.ords.length_eq
  rw [oneTo_length] at this
  have := ordsL_len S.L
  have := o.n
  omega
theorem couldE.st {x : En} (c : couldE x) : 1 ≤ x.st ∧ x.st ≤ 4 := by unfold couldE at c; omega
theorem couldE.ask {x : En} (c : couldE x) : 0 ≤ x.ask ∧ x.ask ≤ 3 := by unfold couldE at c; omega
theorem couldE.ord {x : En} (c : couldE x) : 0 ≤ x.ord := by unfold couldE at c; omega
theorem Bk.Ok.ord (o : S.Ok) {x : En} (hx : x ∈ S.L) : 0 ≤ x.ord ∧ x.ord ≤ (S.mat : Int) := by
  refine ⟨(o.could x hx).ord, ?_⟩
  by_cases h : 0 < x.ord
  · exact (mem_oneTo.1 (o.ords.mem_iff.1 (mem_ordsL.2 ⟨x, hx, rfl, h⟩))).2
  · omega
theorem Bk.Ok.get (o : S.Ok) {id : Int} {i : Nat} (h : posE id S.L = some i) : ∃ x, S.L[i]? = some x ∧ x.d.id = id ∧ x ∈ S.L := by
  obtain ⟨x, e, g⟩ := posE_some h
  exact ⟨x, e, g, List.mem_of_getElem? e⟩
/-- one more -/
theorem Bk.Ok.snoc (o : S.Ok) {d : Dl} (h : mayD S.mem S.cur d) (hi : d.sell ≤ 9223372036854775807 ∧ d.buy ≤ 9223372036854775807) (hn : S.L.length < 200) (hp : posE d.id S.L = none) : ({ S with L := S.L ++ [⟨d, 1, 0, 0⟩] } : Bk).Ok := by
  refine { m1 := o.m1, c1 := o.c1, n := by simp; omega, may := fun x hx => ?_, i64 := fun x hx => ?_, nd := fun i x hx => ?_, could := fun x hx => ?_, ords := ?_ }
  · rcases List.mem_append.1 hx with hx | hx
    · exact o.may x hx
    · rw [List.mem_singleton] at hx; subst hx; exact h
  · rcases List.mem_append.1 hx with hx | hx
    · exact o.i64 x hx
    · rw [List.mem_singleton] at hx; subst hx; exact hi
  · dsimp only at hx ⊢
    rw [posE_snoc S.L ⟨d, 1, 0, 0⟩ hp]
    by_cases g : i < S.L.length
    · rw [List.getElem?_append_left g] at hx
      have hm := List.mem_of_getElem? hx
      rw [if_neg (fun e => posE_none hp x hm e), o.nd i x hx]
    · have hl := (List.getElem?_eq_some_iff.1 hx).1
      rw [List.length_append, List.length_singleton] at hl
      have : i = S.L.length := by omega
      subst this
      rw [List.getElem?_append_right (Nat.le_refl _), Nat.sub_self] at hx
      have hx : (⟨d, 1, 0, 0⟩ : En) = x := by simpa using hx
      subst hx
      rw [if_pos rfl]
  · rcases List.mem_append.1 hx with hx | hx
    · exact o.could x hx
    · rw [List.mem_singleton] at hx; subst hx; exact .inl ⟨rfl, rfl, rfl⟩
  · show (ordsL (S.L ++ [⟨d, 1, 0, 0⟩])).Perm _
    rw [ordsL_app]
    show (ordsL S.L ++ []).Perm _
    rw [List.append_nil]; exact o.ords
/-- one is another one, of the same order -/
theorem Bk.Ok.chg (o : S.Ok) {i : Nat} {x y : En} (hx : S.L[i]? = some x) (hd : y.d = x.d) (ho : y.ord = x.ord) (hc : couldE y) : ({ S with L := S.L.set i y } : Bk).Ok := by
  have hm := List.mem_of_getElem? hx
  have mem : ∀ z ∈ S.L.set i y, z = y ∨ z ∈ S.L := fun z hz => (List.mem_or_eq_of_mem_set hz).symm
  refine { m1 := o.m1, c1 := o.c1, n := by simpa using o.n, may := fun z hz => ?_, i64 := fun z hz => ?_, nd := fun j z hz => ?_, could := fun z hz => ?_, ords := ?_ }
  · rcases mem z hz with rfl | hz
    · rw [hd]; exact o.may x hm
    · exact o.may z hz
  · rcases mem z hz with rfl | hz
    · rw [hd]; exact o.i64 x hm
    · exact o.i64 z hz
  · dsimp only at hz ⊢
    rw [posE_set hx hd]
    rw [List.getElem?_set] at hz
    split at hz
    · rename_i g
      subst g
      split at hz
      · cases hz
        rw [hd]
        exact o.nd _ x hx
      · cases hz
    · exact o.nd j z hz
  · rcases mem z hz with rfl | hz
    · exact hc
    · exact o.could z hz
  · show (ordsL (S.L.set i y)).Perm _
    unfold ordsL
    rw [map_set (fun z => z.ord) hx ho]
    exact o.ords
/-- one is matched -/
theorem Bk.Ok.match (o : S.Ok) {i : Nat} {x : En} (hx : S.L[i]? = some x) (hs : x.st = 1) : ({ S with L := S.L.set i { x with st := 2, ord := (S.mat : Int) + 1 }, mat := S.mat + 1 } : Bk).Ok := by
  have hm := List.mem_of_getElem? hx
  have hc := o.could x hm
  have ho : x.ord = 0 ∧ x.ask = 0 := by unfold couldE at hc; omega
  have mem : ∀ z ∈ S.L.set i { x with st := 2, ord := (S.mat : Int) + 1 }, z = { x with st := 2, ord := (S.mat : Int) + 1 } ∨ z ∈ S.L := fun z hz => (List.mem_or_eq_of_mem_set hz).symm
  refine { m1 := o.m1, c1 := o.c1, n := by simpa using o.n, may := fun z hz => ?_, i64 := fun z hz => ?_, nd := fun j z hz => ?_, could := fun z hz => ?_, ords := ?_ }
  · rcases mem z hz with rfl | hz
    · exact o.may x hm
    · exact o.may z hz
  · rcases mem z hz with rfl | hz
    · exact o.i64 x hm
    · exact o.i64 z hz
  · dsimp only at hz ⊢
    rw [posE_set (y := { x with st := 2, ord := (S.mat : Int) + 1 }) hx rfl]
    rw [List.getElem?_set] at hz
    split at hz
    · rename_i g
      subst g
      split at hz
      · cases hz
        exact o.nd _ x hx
      · cases hz
    · exact o.nd j z hz
  · rcases mem z hz with rfl | hz
    · exact .inr (.inl ⟨.inl rfl, by dsimp only; omega, by dsimp only; omega, by dsimp only; omega⟩)
    · exact o.could z hz
  · show (ordsL (S.L.set i { x with st := 2, ord := (S.mat : Int) + 1 })).Perm (oneTo (S.mat + 1))
    have hi := (List.getElem?_eq_some_iff.1 hx).1
    have hxi := (List.getElem?_eq_some_iff.1 hx).2
    have e0 := o.ords
    have es : S.L = S.L.take i ++ x :: S.L.drop (i + 1) := by
      rw [← hxi, ← List.drop_eq_getElem_cons hi, List.take_append_drop]
    have e1 : ordsL S.L = ordsL (S.L.take i) ++ ordsL (S.L.drop (i + 1)) := by
      conv => lhs; rw [es]
      rw [ordsL_app]
      congr 1
      unfold ordsL
      rw [List.map_cons, List.filter_cons_of_neg (by simp [ho.1])]
    rw [List.set_eq_take_append_cons_drop, if_pos hi, ordsL_app]
    have e2 : ordsL ({ x with st := 2, ord := (S.mat : Int) + 1 } :: S.L.drop (i + 1)) = ((S.mat : Int) + 1) :: ordsL (S.L.drop (i + 1)) := by
      unfold ordsL
      rw [List.map_cons]
      exact List.filter_cons_of_pos (decide_eq_true (show (0 : Int) < (S.mat : Int) + 1 by omega))
    rw [e2, oneTo_succ]
    rw [e1] at e0
    exact List.perm_middle.trans ((List.Perm.cons _ e0).trans (List.perm_append_singleton _ _).symm)
end
end Go.Proofs.Ytjihfieahkbohaa
