/- What the program's amounts come to: sums, differences, products and parts, each by its law. -/
import Derived.Test.YtghdadniddoboaaEqMoney
import Derived.Test.YtghdadniddoboaaFwLib
namespace Go.Proofs.Ytghdadniddoboaa
open Go Go.Sy Go.Value
set_option linter.unusedVariables false
set_option linter.unusedSimpArgs false

theorem S_size {a : Int} (ha : I64 a) (h : Heap) (K : Value → Heap → Prop) (k : K (int .u64 (a.natAbs : Int)) h) : CallA Try.prog fn_money_size [int .i64 a] h K := by
  obtain ⟨h1, h2⟩ := ha
  refine F_money_size _ _ _ ?_
  unfold F_money_sizeT
  refine Br.dec (fun hn => Ret.mk ?_) (fun hn => Ret.mk ?_)
  · rw [wrap_u64, wrap_u64, show (0 - a % 18446744073709551616) % 18446744073709551616 = (a.natAbs : Int) from by omega]; exact k
  · rw [wrap_u64, show a % 18446744073709551616 = (a.natAbs : Int) from by omega]; exact k

/-- the amount of a size and a sign -/
def sgn (n : Int) (neg : Bool) : Int × Int := if neg then (if n ≤ 9223372036854775808 then (-n, 0) else (0, 3)) else (if n < 9223372036854775808 then (n, 0) else (0, 3))
theorem S_signed {n : Int} (hn : U64 n) (neg : Bool) (h : Heap) (K : Value → Heap → Prop) (k : K (tuple #[int .i64 (sgn n neg).1, int .i64 (sgn n neg).2]) h) :
    CallA Try.prog fn_money_signed [int .u64 n, .bool neg] h K := by
  obtain ⟨h1, h2⟩ := hn
  refine F_money_signed _ _ _ _ ?_
  unfold F_money_signedT
  cases neg
  · simp only [Br_f, Bool.not_false, Br_t, sgn, Bool.false_eq_true, if_false] at k ⊢
    refine Br.dec (fun hn => Ret.mk ?_) (fun hn => Ret.mk ?_)
    · rw [if_pos hn] at k; rw [wrap_i64_id (by omega) (by omega)]; exact k
    · rw [if_neg hn] at k; exact k
  · simp only [Br_f, Bool.not_true, Br_t, sgn, if_true] at k ⊢
    refine Br.dec (fun hn => Ret.mk ?_) (fun hn => Ret.mk ?_)
    · rw [if_pos hn] at k
      rw [show IntKind.wrap .i64 (0 - IntKind.wrap .i64 n) = -n from by rw [wrap_i64, wrap_i64]; omega]; exact k
    · rw [if_neg hn] at k; exact k

/-- Fits an amount? -/
def fit (n : Int) : Int × Int := if -9223372036854775808 ≤ n ∧ n ≤ 9223372036854775807 then (n, 0) else (0, 3)
theorem fit_ok {n : Int} (h : I64 n) : fit n = (n, 0) := if_pos h
theorem fit_over {n : Int} (h : ¬ I64 n) : fit n = (0, 3) := if_neg h
theorem S_Add {a b : Int} (ha : I64 a) (hb : I64 b) (h : Heap) (K : Value → Heap → Prop) (k : K (tuple #[int .i64 (fit (a + b)).1, int .i64 (fit (a + b)).2]) h) :
    CallA Try.prog fn_money_Add [int .i64 a, int .i64 b] h K := by
  obtain ⟨h1, h2⟩ := ha
  obtain ⟨h3, h4⟩ := hb
  refine F_money_Add _ _ _ _ ?_
  unfold F_money_AddT
  rw [wrap_i64]
  by_cases hr : I64 (a + b)
  · rw [fit_ok hr] at k
    obtain ⟨r1, r2⟩ := hr
    have e : (a + b + 9223372036854775808) % 18446744073709551616 - 9223372036854775808 = a + b := by omega
    rw [e]
    refine Br.intro (fun e1 => Br.no ?_ (Ret.mk k)) (fun _ => Ret.mk k)
    simp only [beq_iff_eq, decide_eq_decide] at e1
    by_cases x : a + b < 0 <;> by_cases y : a < 0 <;> simp [x, y] <;> omega
  · rw [fit_over hr] at k
    have hr' : a + b < -9223372036854775808 ∨ 9223372036854775807 < a + b := by unfold I64 at hr; omega
    refine Br.yes ?_ (Br.yes ?_ (Ret.mk k))
    · simp only [beq_iff_eq, decide_eq_decide]; omega
    · by_cases y : a < 0
      · have x : ¬ ((a + b + 9223372036854775808) % 18446744073709551616 - 9223372036854775808 < 0) := by omega
        simp [x, y]
      · have x : (a + b + 9223372036854775808) % 18446744073709551616 - 9223372036854775808 < 0 := by omega
        simp [x, y]
theorem S_Sub {a b : Int} (ha : I64 a) (hb : I64 b) (h : Heap) (K : Value → Heap → Prop) (k : K (tuple #[int .i64 (fit (a - b)).1, int .i64 (fit (a - b)).2]) h) :
    CallA Try.prog fn_money_Sub [int .i64 a, int .i64 b] h K := by
  obtain ⟨h1, h2⟩ := ha
  obtain ⟨h3, h4⟩ := hb
  refine F_money_Sub _ _ _ _ ?_
  unfold F_money_SubT
  rw [wrap_i64]
  by_cases hr : I64 (a - b)
  · rw [fit_ok hr] at k
    obtain ⟨r1, r2⟩ := hr
    have e : (a - b + 9223372036854775808) % 18446744073709551616 - 9223372036854775808 = a - b := by omega
    rw [e]
    refine Br.intro (fun e1 => Br.no ?_ (Ret.mk k)) (fun _ => Ret.mk k)
    by_cases x : a - b < 0 <;> by_cases y : a < 0 <;> by_cases z : b < 0 <;> simp [x, y, z] at e1 ⊢ <;> omega
  · rw [fit_over hr] at k
    have hr' : a - b < -9223372036854775808 ∨ 9223372036854775807 < a - b := by unfold I64 at hr; omega
    refine Br.yes ?_ (Br.yes ?_ (Ret.mk k))
    · by_cases y : a < 0 <;> by_cases z : b < 0 <;> simp [y, z] <;> omega
    · by_cases y : a < 0
      · have x : ¬ ((a - b + 9223372036854775808) % 18446744073709551616 - 9223372036854775808 < 0) := by omega
        simp [x, y]
      · have x : (a - b + 9223372036854775808) % 18446744073709551616 - 9223372036854775808 < 0 := by omega
        simp [x, y]
/-! ### products, of 128 bits -/
theorem prod_parts (a0 a1 b0 b1 : Int) : (a1 * 4294967296 + a0) * (b1 * 4294967296 + b0) = a1 * b1 * 18446744073709551616 + (a1 * b0 + a0 * b1) * 4294967296 + a0 * b0 := by grind
theorem mul_lt32 {x y : Int} (h1 : 0 ≤ x) (h2 : x < 4294967296) (h3 : 0 ≤ y) (h4 : y < 4294967296) : 0 ≤ x * y ∧ x * y ≤ 18446744065119617025 := by
  refine ⟨Int.mul_nonneg h1 h3, ?_⟩
  have := Int.mul_le_mul (show x ≤ 4294967295 by omega) (show y ≤ 4294967295 by omega) h3 (by omega : (0 : Int) ≤ 4294967295)
  omega
theorem S_product {a b : Int} (ha : U64 a) (hb : U64 b) (h : Heap) (K : Value → Heap → Prop)
    (k : K (tuple #[int .u64 (a * b / 18446744073709551616), int .u64 (a * b % 18446744073709551616)]) h) : CallA Try.prog fn_money_product [int .u64 a, int .u64 b] h K := by
  obtain ⟨h1, h2⟩ := ha
  obtain ⟨h3, h4⟩ := hb
  refine F_money_product _ _ _ _ ?_
  unfold F_money_productT
  intro r hr
  simp only [setN_ins, setL, setT, cell_ins_same, fdiv_pos _ (show (0 : Int) ≤ 4294967296 by omega), and_low h1, and_low h3]
  refine ⟨canSt_ins _ _ _ _ _ _ (by simp), ?_⟩
  have ea : a % 4294967296 % 18446744073709551616 = a % 4294967296 := by omega
  have eb : b % 4294967296 % 18446744073709551616 = b % 4294967296 := by omega
  simp only [wrap_u64, ea, eb]
  obtain ⟨p1, p2⟩ := mul_lt32 (x := a % 4294967296) (y := b % 4294967296) (by omega) (by omega) (by omega) (by omega)
  obtain ⟨p3, p4⟩ := mul_lt32 (x := a % 4294967296) (y := b / 4294967296) (by omega) (by omega) (by omega) (by omega)
  obtain ⟨p5, p6⟩ := mul_lt32 (x := a / 4294967296) (y := b % 4294967296) (by omega) (by omega) (by omega) (by omega)
  obtain ⟨p7, p8⟩ := mul_lt32 (x := a / 4294967296) (y := b / 4294967296) (by omega) (by omega) (by omega) (by omega)
  have key := prod_parts (a % 4294967296) (a / 4294967296) (b % 4294967296) (b / 4294967296)
  rw [show a / 4294967296 * 4294967296 + a % 4294967296 = a from by omega, show b / 4294967296 * 4294967296 + b % 4294967296 = b from by omega] at key
  generalize a % 4294967296 * (b % 4294967296) = x0 at *
  generalize a % 4294967296 * (b / 4294967296) = x1 at *
  generalize a / 4294967296 * (b % 4294967296) = x2 at *
  generalize a / 4294967296 * (b / 4294967296) = x3 at *
  generalize a * b = ab at *
  clear ea eb h1 h2 h3 h4
  have w0 : x0 % 18446744073709551616 = x0 := by omega
  have w1 : x1 % 18446744073709551616 = x1 := by omega
  have w2 : x2 % 18446744073709551616 = x2 := by omega
  have w3 : x3 % 18446744073709551616 = x3 := by omega
  simp only [w0, w1, w2, w3]
  refine ⟨_, rfl, _, rfl, _, rfl, _, rfl, _, rfl, _, rfl, _, rfl, ⟨_, le_ins hr, ?_⟩⟩
  rw [and_low p1, and_low p3, and_low p5]
  have m : (x0 / 4294967296 + x1 % 4294967296 % 18446744073709551616) % 18446744073709551616 = x0 / 4294967296 + x1 % 4294967296 := by omega
  rw [m]
  have m2 : (x0 / 4294967296 + x1 % 4294967296 + x2 % 4294967296 % 18446744073709551616) % 18446744073709551616 = x0 / 4294967296 + x1 % 4294967296 + x2 % 4294967296 := by omega
  rw [m2]
  have hi : (((x3 + x1 / 4294967296) % 18446744073709551616 + x2 / 4294967296) % 18446744073709551616 + (x0 / 4294967296 + x1 % 4294967296 + x2 % 4294967296) / 4294967296) % 18446744073709551616 = ab / 18446744073709551616 := by omega
  rw [hi]
  generalize hs : x0 / 4294967296 + x1 % 4294967296 + x2 % 4294967296 = s at *
  have e5 : s * 4294967296 % 18446744073709551616 = (s % 4294967296) * 4294967296 := by omega
  have e6 : x0 % 4294967296 % 18446744073709551616 = x0 % 4294967296 := by omega
  rw [e5, e6, or_half (by omega) (by omega) (by omega) (by omega)]
  have lo : (s % 4294967296 * 4294967296 + x0 % 4294967296) % 18446744073709551616 = ab % 18446744073709551616 := by omega
  rw [lo]
  exact k

/-! ### a division, bit by bit -/
theorem div_step {by' p x m : Int} (h0 : 0 < by') (h : by' ≤ x) : (x * p + m) / by' = p + ((x - by') * p + m) / by' ∧ (x * p + m) % by' = ((x - by') * p + m) % by' := by
  have e : x * p + m = ((x - by') * p + m) + by' * p := by grind
  rw [e]
  constructor
  · rw [Int.add_mul_ediv_left _ _ (by omega)]; omega
  · rw [Int.add_mul_emod_self_left]
theorem quot_loop {by' : Int} (hb : 0 < by') (hb2 : by' ≤ 18446744073709551615) (h : Heap) (K : Value → Heap → Prop) : ∀ (n : Nat), n ≤ 64 → ∀ (m q rest : Int), 0 ≤ m → m < 2 ^ n → 0 ≤ q → q < 2 ^ (64 - n) → 0 ≤ rest → rest < by' →
    K (tuple #[int .u64 (q * 2 ^ n + (rest * 2 ^ n + m) / by'), .bool ((rest * 2 ^ n + m) % by' != 0), .bool true]) h →
    L_money_quotient_0 (m * 2 ^ (64 - n)) by' q rest ((64 - n : Nat) : Int) h K := by
  intro n
  induction n with
  | zero =>
    intro _ m q rest m1 m2 q1 q2 r1 r2 k
    refine L_money_quotient_0r _ _ _ _ _ _ _ ?_
    unfold L_money_quotient_0T
    refine Br.no (by decide) (Ret.mk ?_)
    have m0 : m = 0 := by simp at m2; omega
    subst m0
    simp only [Int.pow_zero, Int.mul_one, Int.add_zero] at k
    rw [Int.ediv_eq_zero_of_lt r1 r2, Int.emod_eq_of_lt r1 r2, Int.add_zero] at k
    exact k
  | succ n ih =>
    intro hn m q rest m1 m2 q1 q2 r1 r2 k
    -- the parts
    have pw : (2 : Int) ^ (n + 1) = 2 ^ n * 2 := Int.pow_succ 2 n
    have e64 : 64 - n = (64 - (n + 1)) + 1 := by omega
    have pv : (2 : Int) ^ (64 - n) = 2 ^ (64 - (n + 1)) * 2 := by rw [e64, Int.pow_succ]
    have pp : (2 : Int) ^ n * 2 ^ (64 - n) = 18446744073709551616 := by
      rw [← Int.pow_add, show n + (64 - n) = 64 from by omega]; decide
    have pn : (0 : Int) < 2 ^ n := Int.pow_pos (by decide)
    have pq : (0 : Int) < 2 ^ (64 - (n + 1)) := Int.pow_pos (by decide)
    rw [pw] at m2
    generalize hP : (2 : Int) ^ n = p at *
    generalize hQ : (2 : Int) ^ (64 - (n + 1)) = s at *
    -- the top bit and what is below
    have hc : m / p = 0 ∨ m / p = 1 := by
      have : m / p < 2 := Int.ediv_lt_of_lt_mul pn (by omega)
      have : 0 ≤ m / p := Int.ediv_nonneg m1 (by omega)
      omega
    have hm : m = (m / p) * p + m % p := by have := Int.mul_ediv_add_emod m p; rw [Int.mul_comm] at this; omega
    have hm1 : 0 ≤ m % p := Int.emod_nonneg _ (by omega)
    have hm2 : m % p < p := Int.emod_lt_of_pos _ pn
    generalize hcc : m / p = c at *
    generalize hmm : m % p = m' at *
    have ps : p * s * 2 = 18446744073709551616 := by rw [← pp, pv]; grind
    have hms : 0 ≤ m' * s ∧ m' * s < p * s := ⟨Int.mul_nonneg hm1 (by omega), Int.mul_lt_mul_of_pos_right hm2 pq⟩
    have low : m * s = c * 9223372036854775808 + m' * s := by
      rw [hm]
      have : p * s = 9223372036854775808 := by omega
      rw [Int.add_mul, Int.mul_assoc, this]
    have hlow : m' * s < 9223372036854775808 := by omega
    have topbit : Int.fdiv (m * s) 9223372036854775808 = c := by
      rw [fdiv_pos _ (by omega), low]
      omega
    have next : IntKind.wrap .u64 (m * s * 2) = m' * 2 ^ (64 - n) := by
      rw [wrap_u64, pv, low]
      have : m' * (s * 2) = m' * s * 2 := by grind
      rw [this]
      rcases hc with e | e <;> subst e <;> omega
    have cnt : IntKind.wrap .i64 (((64 - (n + 1) : Nat) : Int) + 1) = ((64 - n : Nat) : Int) := by
      rw [wrap_i64_id (by omega) (by omega)]; omega
    have hq2 : q * 2 + 1 < s * 2 := by omega
    have hs64 : s * 2 ≤ 18446744073709551616 := by
      have : s * 1 ≤ s * p := Int.mul_le_mul_of_nonneg_left (by omega) (by omega)
      have e : s * p = p * s := Int.mul_comm _ _
      omega
    have wq : IntKind.wrap .u64 (q * 2) = q * 2 := wrap_u64_id (by omega) (by omega)
    have qbit : IntKind.wrap .u64 ((BitVec.ofInt 64 (q * 2) ||| BitVec.ofInt 64 1).toNat : Int) = q * 2 + 1 := by
      rw [or_bit (by omega) (by omega) (by omega) (by omega) (by omega), wrap_u64_id (by omega) (by omega)]
    refine L_money_quotient_0r _ _ _ _ _ _ _ ?_
    unfold L_money_quotient_0T
    have eb : IntKind.bits IntKind.u64 = 64 := rfl
    have e1 : min (Int.toNat 1) 64 = 1 := by decide
    have e63 : min (Int.toNat 63) 64 = 63 := by decide
    have e2 : (2 : Int) ^ 63 = 9223372036854775808 := by decide
    have e3 : (2 : Int) ^ 1 = 2 := by decide
    simp only [eb, e1, e63, e2, e3, topbit, next, cnt, wq, qbit]
    have hc0 : 0 ≤ c ∧ c < 2 := by omega
    have rbit : IntKind.wrap .u64 ((BitVec.ofInt 64 (IntKind.wrap .u64 (rest * 2)) ||| BitVec.ofInt 64 c).toNat : Int) = (rest * 2 + c) % 18446744073709551616 := by
      rw [wrap_u64 (rest * 2), or_bit (by omega) (by omega) (by omega) (by omega) (by omega), wrap_u64]
      omega
    simp only [rbit]
    have big : q * (p * 2) + (rest * (p * 2) + m) / by' = q * 2 * p + ((rest * 2 + c) * p + m') / by' ∧ (rest * (p * 2) + m) % by' = ((rest * 2 + c) * p + m') % by' := by
      have : rest * (p * 2) + m = (rest * 2 + c) * p + m' := by rw [hm]; grind
      rw [this]
      exact ⟨by grind, rfl⟩
    rw [pw, big.1, big.2] at k
    refine Br.yes (decide_eq_true (by omega)) ?_
    have step1 : by' ≤ rest * 2 + c → L_money_quotient_0 (m' * 2 ^ (64 - n)) by' (q * 2 + 1) (rest * 2 + c - by') ((64 - n : Nat) : Int) h K := by
      intro hge
      obtain ⟨d1, d2⟩ := div_step (p := p) (m := m') hb hge
      refine ih (by omega) m' (q * 2 + 1) (rest * 2 + c - by') hm1 hm2 (by omega) (by rw [pv]; omega) (by omega) (by omega) ?_
      rw [d1, d2] at k
      have : q * 2 * p + (p + ((rest * 2 + c - by') * p + m') / by') = (q * 2 + 1) * p + ((rest * 2 + c - by') * p + m') / by' := by grind
      rw [← this]; exact k
    refine Br.dec (fun ho => ?_) (fun ho => Br.dec (fun hge => ?_) (fun hlt => ?_))
    · have e : IntKind.wrap .u64 ((rest * 2 + c) % 18446744073709551616 - by') = rest * 2 + c - by' := by rw [wrap_u64]; omega
      rw [e]; exact step1 (by omega)
    · have e : IntKind.wrap .u64 ((rest * 2 + c) % 18446744073709551616 - by') = rest * 2 + c - by' := by rw [wrap_u64]; omega
      rw [e]; exact step1 (by omega)
    · have e : (rest * 2 + c) % 18446744073709551616 = rest * 2 + c := by omega
      rw [e] at hlt ⊢
      exact ih (by omega) m' (q * 2) (rest * 2 + c) hm1 hm2 (by omega) (by rw [pv]; omega) (by omega) (by omega) k
/-- the whole quotient, and whether something is left -/
theorem S_quotient {high lower by' : Int} (hh : U64 high) (hl : U64 lower) (hb : U64 by') (h : Heap) (K : Value → Heap → Prop)
    (k1 : high ≥ by' → K (tuple #[int .u64 0, .bool false, .bool false]) h)
    (k2 : high < by' → K (tuple #[int .u64 ((high * 18446744073709551616 + lower) / by'), .bool ((high * 18446744073709551616 + lower) % by' != 0), .bool true]) h) :
    CallA Try.prog fn_money_quotient [int .u64 high, int .u64 lower, int .u64 by'] h K := by
  refine F_money_quotient _ _ _ _ _ ?_
  unfold F_money_quotientT
  refine Br.dec (fun hg => Ret.mk (k1 hg)) (fun hg => ?_)
  have hlt : high < by' := by omega
  have e64 : (2 : Int) ^ 64 = 18446744073709551616 := by decide
  have e := quot_loop (by' := by') (by unfold U64 at *; omega) hb.2 h K 64 (by omega) lower 0 high hl.1 (by rw [e64]; have := hl.2; omega) (by omega) (by decide) hh.1 hlt
  rw [e64] at e
  simp only [Nat.sub_self, Int.pow_zero, Int.mul_one, Int.zero_mul, Int.zero_add] at e
  exact e (k2 hlt)

/-! ### a product, parted -/
/-- the whole number below, or above, a quotient -/
def dv (n c : Int) (up : Bool) : Int := if up then -((-n) / c) else n / c
def md (a b c : Int) (up : Bool) : Int × Int := if c < 1 then (0, 1) else fit (dv (a * b) c up)
theorem natAbs_mul (a b : Int) : (a.natAbs : Int) * b.natAbs = ((a * b).natAbs : Int) := by rw [Int.natAbs_mul]; simp
theorem ediv_neg_of {n c : Int} (hc : 0 < c) (h : n % c ≠ 0) : (-n) / c = -(n / c) - 1 := by
  have h1 := Int.mul_ediv_add_emod n c
  have h2 := Int.emod_nonneg n (show c ≠ 0 by omega)
  have h3 := Int.emod_lt_of_pos n hc
  have : -n = (c - n % c) + c * (-(n / c) - 1) := by
    have : c * (-(n / c) - 1) = -(c * (n / c)) - c := by grind
    omega
  rw [this, Int.add_mul_ediv_left _ _ (by omega), Int.ediv_eq_zero_of_lt (by omega) (by omega)]
  omega
theorem ediv_neg_of0 {n c : Int} (hc : 0 < c) (h : n % c = 0) : (-n) / c = -(n / c) := by
  have h1 := Int.mul_ediv_add_emod n c
  have : -n = c * (-(n / c)) := by
    have : c * (-(n / c)) = -(c * (n / c)) := by grind
    omega
  rw [this, Int.mul_ediv_cancel_left _ (by omega)]
theorem mul_sign {a b : Int} : (a * b < 0 → (a < 0 ∧ 0 < b) ∨ (0 < a ∧ b < 0)) ∧ (0 < a * b → (a < 0 ∧ b < 0) ∨ (0 < a ∧ 0 < b)) := by
  constructor
  · intro h
    rcases Int.lt_trichotomy a 0 with h1 | h1 | h1 <;> rcases Int.lt_trichotomy b 0 with h2 | h2 | h2
    · have := Int.mul_pos_of_neg_of_neg h1 h2; omega
    · subst h2; simp at h
    · exact .inl ⟨h1, h2⟩
    · subst h1; simp at h
    · subst h1; simp at h
    · subst h1; simp at h
    · exact .inr ⟨h1, h2⟩
    · subst h2; simp at h
    · have := Int.mul_pos h1 h2; omega
  · intro h
    rcases Int.lt_trichotomy a 0 with h1 | h1 | h1 <;> rcases Int.lt_trichotomy b 0 with h2 | h2 | h2
    · exact .inl ⟨h1, h2⟩
    · subst h2; simp at h
    · have := Int.mul_neg_of_neg_of_pos h1 h2; omega
    · subst h1; simp at h
    · subst h1; simp at h
    · subst h1; simp at h
    · have := Int.mul_neg_of_pos_of_neg h1 h2; omega
    · subst h2; simp at h
    · exact .inr ⟨h1, h2⟩
/-- the quotient of sizes, put right -/
theorem dv_of_size {n c : Int} {neg up : Bool} (hc : 0 < c) (h1 : neg = true → n ≤ 0) (h2 : neg = false → 0 ≤ n) :
    dv n c up = (if neg then -1 else 1) * ((n.natAbs : Int) / c + (if ((n.natAbs : Int) % c != 0) && (neg != up) then 1 else 0)) := by
  unfold dv
  cases neg
  · have hn := h2 rfl
    have e : (n.natAbs : Int) = n := by omega
    rw [e]
    cases up
    · simp
    · by_cases hz : n % c = 0
      · simp [hz, ediv_neg_of0 hc hz]
      · simp [hz, ediv_neg_of hc hz]; omega
  · have hn := h1 rfl
    have e : (n.natAbs : Int) = -n := by omega
    rw [e]
    have hd : n % c = 0 ↔ (-n) % c = 0 := by
      rw [← Int.dvd_iff_emod_eq_zero, ← Int.dvd_iff_emod_eq_zero, Int.dvd_neg]
    cases up
    · by_cases hz : (-n) % c = 0
      · have := ediv_neg_of0 hc hz
        rw [Int.neg_neg] at this
        simp [hz]; omega
      · have := ediv_neg_of hc hz
        rw [Int.neg_neg] at this
        simp [hz]; omega
    · simp
theorem S_MulDiv {a b c : Int} (ha : I64 a) (hb : I64 b) (hcc : I64 c) (up : Bool) (h : Heap) (K : Value → Heap → Prop)
    (k : K (tuple #[int .i64 (md a b c up).1, int .i64 (md a b c up).2]) h) : CallA Try.prog fn_money_MulDiv [int .i64 a, int .i64 b, int .i64 c, .bool up] h K := by
  refine F_money_MulDiv _ _ _ _ _ _ ?_
  unfold F_money_MulDivT
  refine Br.dec (fun hc => Ret.mk ?_) (fun hc => ?_)
  · unfold md at k; rw [if_pos hc] at k; exact k
  refine S_size ha h _ ⟨_, rfl, S_size hb h _ ⟨_, rfl, ?_⟩⟩
  have wa : U64 (a.natAbs : Int) := by unfold I64 U64 at *; omega
  have wb : U64 (b.natAbs : Int) := by unfold I64 U64 at *; omega
  refine S_product wa wb h _ ⟨_, _, rfl, ?_⟩
  rw [natAbs_mul]
  have hc1 : 1 ≤ c := by omega
  have hc2 : c ≤ 9223372036854775807 := hcc.2
  have wc : IntKind.wrap .u64 c = c := wrap_u64_id (by omega) (by omega)
  rw [wc]
  -- the size of the product
  have hbd : ((a * b).natAbs : Int) ≤ 85070591730234615865843651857942052864 := by
    rw [← natAbs_mul]
    have h1 : (a.natAbs : Int) ≤ 9223372036854775808 := by unfold I64 at ha; omega
    have h2 : (b.natAbs : Int) ≤ 9223372036854775808 := by unfold I64 at hb; omega
    have := Int.mul_le_mul h1 h2 (by omega) (by omega)
    omega
  have hsgn := mul_sign (a := a) (b := b)
  have hneg : ∀ neg, (!decide (a < 0) == decide (b < 0)) = neg → (neg = true → a * b ≤ 0) ∧ (neg = false → 0 ≤ a * b) := by
    intro neg e
    constructor
    · intro e2; subst e2
      simp at e
      by_cases x : a < 0 <;> by_cases y : b < 0 <;> simp [x, y] at e <;> rcases Int.lt_trichotomy (a * b) 0 with z | z | z <;> omega
    · intro e2; subst e2
      simp at e
      by_cases x : a < 0 <;> by_cases y : b < 0 <;> simp [x, y] at e <;> rcases Int.lt_trichotomy (a * b) 0 with z | z | z <;> omega
  generalize hN : ((a * b).natAbs : Int) = N at *
  have hN0 : 0 ≤ N := by omega
  have hmd : md a b c up = fit (dv (a * b) c up) := by unfold md; rw [if_neg hc]
  rw [hmd] at k
  generalize hng : (!decide (a < 0) == decide (b < 0)) = neg at *
  obtain ⟨n1, n2⟩ := hneg neg rfl
  have hdv := dv_of_size (n := a * b) (c := c) (neg := neg) (up := up) (by omega) n1 n2
  rw [hN] at hdv
  have hq0 : 0 ≤ N / c := Int.ediv_nonneg hN0 (by omega)
  refine S_quotient (by unfold U64; omega) (by unfold U64; omega) (by unfold U64; omega) h _ (fun hg => ⟨_, _, _, rfl, ?_⟩) (fun hg => ⟨_, _, _, rfl, ?_⟩)
  · -- it doesn't fit
    refine Br.yes rfl (Ret.mk ?_)
    have hq : 18446744073709551616 ≤ N / c := by
      refine (Int.le_ediv_iff_mul_le (by omega)).2 ?_
      have := Int.mul_ediv_add_emod N 18446744073709551616
      have h5 := Int.emod_nonneg N (show (18446744073709551616 : Int) ≠ 0 by omega)
      omega
    rw [fit_over (by
      unfold I64
      rw [hdv]
      cases neg <;> simp <;> split <;> omega)] at k
    exact k
  · refine Br.no rfl ?_
    have eN : N / 18446744073709551616 * 18446744073709551616 + N % 18446744073709551616 = N := by omega
    rw [eN]
    have hq1 : N / c ≤ 18446744073709551615 := by
      have : N / c < 18446744073709551616 := by
        refine Int.ediv_lt_of_lt_mul (by omega) ?_
        have := Int.mul_ediv_add_emod N 18446744073709551616
        have h5 := Int.emod_lt_of_pos N (show (0 : Int) < 18446744073709551616 by omega)
        have h6 : N / 18446744073709551616 ≤ c - 1 := by omega
        omega
      omega
    have plain : ((N % c != 0) && (neg != up)) = false → K (tuple #[int .i64 (sgn (N / c) neg).1, int .i64 (sgn (N / c) neg).2]) h := by
      intro e
      rw [e] at hdv
      have : sgn (N / c) neg = fit (dv (a * b) c up) := by
        rw [hdv]
        unfold sgn fit
        cases neg <;> simp <;> split <;> split <;> simp <;> omega
      rw [this]; exact k
    have more : ((N % c != 0) && (neg != up)) = true → (N / c = 18446744073709551615 → K (tuple #[int .i64 0, int .i64 3]) h) ∧ K (tuple #[int .i64 (sgn (N / c + 1) neg).1, int .i64 (sgn (N / c + 1) neg).2]) h := by
      intro e
      rw [e] at hdv
      constructor
      · intro e2
        rw [fit_over (by unfold I64; rw [hdv, e2]; cases neg <;> simp)] at k
        exact k
      · have : sgn (N / c + 1) neg = fit (dv (a * b) c up) := by
          rw [hdv]
          unfold sgn fit
          cases neg <;> simp <;> split <;> split <;> simp <;> omega
        rw [this]; exact k
    refine Br.intro (fun e1 => Br.intro (fun e2 => ?_) (fun e2 => ?_)) (fun e1 => ?_)
    · obtain ⟨m1, m2⟩ := more (by rw [e1]; cases neg <;> cases up <;> simp at e2 ⊢)
      refine Br.intro (fun e3 => Ret.mk (m1 ?_)) (fun e3 => ?_)
      · simp only [beq_iff_eq, wrap_u64] at e3; omega
      · simp only [beq_eq_false_iff_ne, ne_eq, wrap_u64] at e3
        rw [wrap_u64_id (by omega) (by omega)]
        exact S_signed ⟨by omega, by omega⟩ neg h _ ⟨_, _, rfl, Ret.mk m2⟩
    · exact S_signed ⟨hq0, hq1⟩ neg h _ ⟨_, _, rfl, Ret.mk (plain (by rw [e1]; cases neg <;> cases up <;> simp at e2 ⊢))⟩
    · exact S_signed ⟨hq0, hq1⟩ neg h _ ⟨_, _, rfl, Ret.mk (plain (by rw [e1]; rfl))⟩
end Go.Proofs.Ytghdadniddoboaa
