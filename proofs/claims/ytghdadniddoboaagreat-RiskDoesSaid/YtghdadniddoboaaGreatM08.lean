import Derived.Test.YtghdadniddoboaaGreatM03
import Derived.Test.YtghdadniddoboaaGreatM01
import Derived.Test.YtghdadniddoboaaGreatM07
/- What the program's amounts come to: sums, differences, products and parts, each by its law. -/
namespace Go.Proofs.YtghdadniddoboaaGreat
open Go Go.Sy Go.Value
set_option linter.unusedVariables false
set_option linter.unusedSimpArgs false

theorem S_size {a : Int} (ha : I64 a) (h : Heap) (K : Value → Heap → Prop) (k : K (int .u64 (a.natAbs : Int)) h) : CallA Tryz.prog fn_money_size [int .i64 a] h K := by
  obtain ⟨h1, h2⟩ := ha
  refine F_money_size _ _ _ ?_
  unfold F_money_sizeT
  refine Br.dec (fun hn => Ret.mk ?_) (fun hn => Ret.mk ?_)
  · rw [wrap_u64, wrap_u64, show (0 - a % 18446744073709551616) % 18446744073709551616 = (a.natAbs : Int) from by omega]; exact k
  · rw [wrap_u64, show a % 18446744073709551616 = (a.natAbs : Int) from by omega]; exact k

def sgn (n : Int) (neg : Bool) : Int × Int := if neg then (if n ≤ 9223372036854775808 then (-n, 0) else (0, 3)) else (if n < 9223372036854775808 then (n, 0) else (0, 3))
theorem S_signed {n : Int} (hn : U64 n) (neg : Bool) (h : Heap) (K : Value → Heap → Prop) (k : K (tuple #[int .i64 (sgn n neg).1, int .i64 (sgn n neg).2]) h) :
    CallA Tryz.prog fn_money_signed [int .u64 n, .bool neg] h K := by
  obtain ⟨h1, h2⟩ := hn
  refine F_money_signed _ _ _ _ ?_
  unfold F_money_signedT
  cases neg
  · simp only [Br_f, Bool.not_false, Br_t, sgn, Bool.false_eq_true, if_false] at k ⊢
    refine Br.dec (fun hn => Ret.mk ?_) (fun hn => Ret.mk ?_)
    · rw [if_pos hn] at k; rw [wrap_i64_id (by omega) (by omega)]; exact k
    · rw [if_neg hn] at k; exact k
  · simp only [Br_f, Bool.not_true, Br_t, sgn, if_true] at k ⊢
    refine Br.dec (fun hn => Ret.mk ?_) (fun hn => Ret.mk ?_)
    · rw [if_pos hn] at k
      rw [show IntKind.wrap .i64 (0 - IntKind.wrap .i64 n) = -n from by rw [wrap_i64, wrap_i64]; omega]; exact k
    · rw [if_neg hn] at k; exact k

def fit (n : Int) : Int × Int := if -9223372036854775808 ≤ n ∧ n ≤ 9223372036854775807 then (n, 0) else (0, 3)
theorem fit_ok {n : Int} (h : I64 n) : fit n = (n, 0) := if_pos h
theorem fit_over {n : Int} (h : ¬ I64 n) : fit n = (0, 3) := if_neg h
theorem S_Add {a b : Int} (ha : I64 a) (hb : I64 b) (h : Heap) (K : Value → Heap → Prop) (k : K (tuple #[int .i64 (fit (a + b)).1, int .i64 (fit (a + b)).2]) h) :
    CallA Tryz.prog fn_money_Add [int .i64 a, int .i64 b] h K := by
  obtain ⟨h1, h2⟩ := ha
  obtain ⟨h3, h4⟩ := hb
  refine F_money_Add _ _ _ _ ?_
  unfold F_money_AddT
  rw [wrap_i64]
  by_cases hr : I64 (a + b)
  · rw [fit_ok hr] at k
    obtain ⟨r1, r2⟩ := hr
    have e : (a + b + 9223372036854775808) % 18446744073709551616 - 9223372036854775808 = a + b := by omega
    rw [e]
    refine Br.intro (fun e1 => Br.no ?_ (Ret.mk k)) (fun _ => Ret.mk k)
    simp only [beq_iff_eq, decide_eq_decide] at e1
    by_cases x : a + b < 0 <;> by_cases y : a < 0 <;> simp [x, y] <;> omega
  · rw [fit_over hr] at k
    have hr' : a + b < -9223372036854775808 ∨ 9223372036854775807 < a + b := by unfold I64 at hr; omega
    refine Br.yes ?_ (Br.yes ?_ (Ret.mk k))
    · simp only [beq_iff_eq, decide_eq_decide]; omega
    · by_cases y : a < 0
      · have x : ¬ ((a + b + 9223372036854775808) % 18446744073709551616 - 9223372036854775808 < 0) := by omega
        simp [x, y]
      · have x : (a + b + 9223372036854775808) % 18446744073709551616 - 9223372036854775808 < 0 := by omega
        simp [x, y]
theorem S_Sub {a b : Int} (ha : I64 a) (hb : I64 b) (h : Heap) (K : Value → Heap → Prop) (k : K (tuple #[int .i64 (fit (a - b)).1, int .i64 (fit (a - b)).2]) h) :
    CallA Tryz.prog fn_money_Sub [int .i64 a, int .i64 b] h K := by
  obtain ⟨h1, h2⟩ := ha
  obtain ⟨h3, h4⟩ := hb
  refine F_money_Sub _ _ _ _ ?_
  unfold F_money_SubT
  rw [wrap_i64]
  by_cases hr : I64 (a - b)
  · rw [fit_ok hr] at k
    obtain ⟨r1, r2⟩ := hr
    have e : (a - b + 9223372036854775808) % 18446744073709551616 - 9223372036854775808 = a - b := by omega
    rw [e]
    refine Br.intro (fun e1 => Br.no ?_ (Ret.mk k)) (fun _ => Ret.mk k)
    by_cases x : a - b < 0 <;> by_cases y : a < 0 <;> by_cases z : b < 0 <;> simp [x, y, z] at e1 ⊢ <;> omega
  · rw [fit_over hr] at k
    have hr' : a - b < -9223372036854775808 ∨ 9223372036854775807 < a - b := by unfold I64 at hr; omega
    refine Br.yes ?_ (Br.yes ?_ (Ret.mk k))
    · by_cases y : a < 0 <;> by_cases z : b < 0 <;> simp [y, z] <;> omega
    · by_cases y : a < 0
      · have x : ¬ ((a - b + 9223372036854775808) % 18446744073709551616 - 9223372036854775808 < 0) := by omega
        simp [x, y]
      · have x : (a - b + 9223372036854775808) % 18446744073709551616 - 9223372036854775808 < 0 := by omega
        simp [x, y]
/-! ### products, of 128 bits -/
theorem prod_parts (a0 a1 b0 b1 : Int) : (a1 * 4294967296 + a0) * (b1 * 4294967296 + b0) = a1 * b1 * 18446744073709551616 + (a1 * b0 + a0 * b1) * 4294967296 + a0 * b0 := by grind
theorem mul_lt32 {x y : Int} (h1 : 0 ≤ x) (h2 : x < 4294967296) (h3 : 0 ≤ y) (h4 : y < 4294967296) : 0 ≤ x * y ∧ x * y ≤ 18446744065119617025 := by
  refine ⟨Int.mul_nonneg h1 h3, ?_⟩
  have := Int.mul_le_mul (show x ≤ 4294967295 by omega) (show y ≤ 4294967295 by omega) h3 (by omega : (0 : Int) ≤ 4294967295)
  omega
theorem S_product {a b : Int} (ha : U64 a) (hb : U64 b) (h : Heap) (K : Value → Heap → Prop)
    (k : K (tuple #[int .u64 (a * b / 18446744073709551616), int .u64 (a * b % 18446744073709551616)]) h) : CallA Tryz.prog fn_money_product [int .u64 a, int .u64 b] h K := by
  obtain ⟨h1, h2⟩ := ha
  obtain ⟨h3, h4⟩ := hb
  refine F_money_product _ _ _ _ ?_
  unfold F_money_productT
  intro r hr
  simp only [setN_ins, setL, setT, cell_ins_same, fdiv_pos _ (show (0 : Int) ≤ 4294967296 by omega), and_low h1, and_low h3]
  refine ⟨canSt_ins _ _ _ _ _ _ (by simp), ?_⟩
  have ea : a % 4294967296 % 18446744073709551616 = a % 4294967296 := by omega
  have eb : b % 4294967296 % 18446744073709551616 = b % 4294967296 := by omega
  simp only [wrap_u64, ea, eb]
  obtain ⟨p1, p2⟩ := mul_lt32 (x := a % 4294967296) (y := b % 4294967296) (by omega) (by omega) (by omega) (by omega)
  obtain ⟨p3, p4⟩ := mul_lt32 (x := a % 4294967296) (y := b / 4294967296) (by omega) (by omega) (by omega) (by omega)
  obtain ⟨p5, p6⟩ := mul_lt32 (x := a / 4294967296) (y := b % 4294967296) (by omega) (by omega) (by omega) (by omega)
  obtain ⟨p7, p8⟩ := mul_lt32 (x := a / 4294967296) (y := b / 4294967296) (by omega) (by omega) (by omega) (by omega)
  have key := prod_parts (a % 4294967296) (a / 4294967296) (b % 4294967296) (b / 4294967296)
  rw [show a / 4294967296 * 4294967296 + a % 4294967296 = a from by omega, show b / 4294967296 * 4294967296 + b % 4294967296 = b from by omega] at key
  generalize a % 4294967296 * (b % 4294967296) = x0 at *
  generalize a % 4294967296 * (b / 4294967296) = x1 at *
  generalize a / 4294967296 * (b % 4294967296) = x2 at *
  generalize a / 4294967296 * (b / 4294967296) = x3 at *
  generalize a * b = ab at *
  clear ea eb h1 h2 h3 h4
  have w0 : x0 % 18446744073709551616 = x0 := by omega
  have w1 : x1 % 18446744073709551616 = x1 := by omega
  have w2 : x2 % 18446744073709551616 = x2 := by omega
  have w3 : x3 % 18446744073709551616 = x3 := by omega
  simp only [w0, w1, w2, w3]
  refine ⟨_, rfl, _, rfl, _, rfl, _, rfl, _, rfl, _, rfl, _, rfl, ⟨_, le_ins hr, ?_⟩⟩
  rw [and_low p1, and_low p3, and_low p5]
  have m : (x0 / 4294967296 + x1 % 4294967296 % 18446744073709551616) % 18446744073709551616 = x0 / 4294967296 + x1 % 4294967296 := by omega
  rw [m]
  have m2 : (x0 / 4294967296 + x1 % 4294967296 + x2 % 4294967296 % 18446744073709551616) % 18446744073709551616 = x0 / 4294967296 + x1 % 4294967296 + x2 % 4294967296 := by omega
  rw [m2]
  have hi : (((x3 + x1 / 4294967296) % 18446744073709551616 + x2 / 4294967296) % 18446744073709551616 + (x0 / 4294967296 + x1 % 4294967296 + x2 % 4294967296) / 4294967296) % 18446744073709551616 = ab / 18446744073709551616 := by omega
  rw [hi]
  generalize hs : x0 / 4294967296 + x1 % 4294967296 + x2 % 4294967296 = s at *
  have e5 : s * 4294967296 % 18446744073709551616 = (s % 4294967296) * 4294967296 := by omega
  have e6 : x0 % 4294967296 % 18446744073709551616 = x0 % 4294967296 := by omega
  rw [e5, e6, or_half (by omega) (by omega) (by omega) (by omega)]
  have lo : (s % 4294967296 * 4294967296 + x0 % 4294967296) % 18446744073709551616 = ab % 18446744073709551616 := by omega
  rw [lo]
  exact k

/-! ### a division, bit by bit -/
theorem div_step {by' p x m : Int} (h0 : 0 < by') (h : by' ≤ x) : (x * p + m) / by' = p + ((x - by') * p + m) / by' ∧ (x * p + m) % by' = ((x - by') * p + m) % by' := by
  have e : x * p + m = ((x - by') * p + m) + by' * p := by grind
  rw [e]
  constructor
  · rw [Int.add_mul_ediv_left _ _ (by omega)]; omega
  · rw [Int.add_mul_emod_self_left]
theorem quot_loop {by' : Int} (hb : 0 < by') (hb2 : by' ≤ 18446744073709551615) (h : Heap) (K : Value → Heap → Prop) : ∀ (n : Nat), n ≤ 64 → ∀ (m q rest : Int), 0 ≤ m → m < 2 ^ n → 0 ≤ q → q < 2 ^ (64 - n) → 0 ≤ rest → rest < by' →
    K (tuple #[int .u64 (q * 2 ^ n + (rest * 2 ^ n + m) / by'), .bool ((rest * 2 ^ n + m) % by' != 0), .bool true]) h →
    L_money_quotient_0 (m * 2 ^ (64 - n)) by' q rest ((64 - n : Nat) : Int) h K := by
  intro n
  induction n with
  | zero =>
    intro _ m q rest m1 m2 q1 q2 r1 r2 k
    refine L_money_quotient_0r _ _ _ _ _ _ _ ?_
    unfold L_money_quotient_0T
    refine Br.no (by decide) (Ret.mk ?_)
    have m0 : m = 0 := by simp at m2; omega
    subst m0
    simp only [Int.pow_zero, Int.mul_one, Int.add_zero] at k
    rw [Int.ediv_eq_zero_of_lt r1 r2, Int.emod_eq_of_lt r1 r2, Int.add_zero] at k
    exact k
  | succ n ih =>
    intro hn m q rest m1 m2 q1 q2 r1 r2 k
    -- the parts
    have pw : (2 : Int) ^ (n + 1) = 2 ^ n * 2 := Int.pow_succ 2 n
    have e64 : 64 - n = (64 - (n + 1)) + 1 := by omega
    have pv : (2 : Int) ^ (64 - n) = 2 ^ (64 - (n + 1)) * 2 := by rw [e64, Int.pow_succ]
    have pp : (2 : Int) ^ n * 2 ^ (64 - n) = 18446744073709551616 := by
      rw [← Int.pow_add, show n + (64 - n) = 64 from by omega]; decide
    have pn : (0 : Int) < 2 ^ n := Int.pow_pos (by decide)
    have pq : (0 : Int) < 2 ^ (64 - (n + 1)) := Int.pow_pos (by decide)
    rw [pw] at m2
    generalize hP : (2 : Int) ^ n = p at *
    generalize hQ : (2 : Int) ^ (64 - (n + 1)) = s at *
    -- the top bit and what is below
    have hc : m / p = 0 ∨ m / p = 1 := by
      have : m / p < 2 := Int.ediv_lt_of_lt_mul pn (by omega)
      have : 0 ≤ m / p := Int.ediv_nonneg m1 (by omega)
      omega
    have hm : m = (m / p) * p + m % p := by have := Int.mul_ediv_add_emod m p; rw [Int.mul_comm] at this; omega
    have hm1 : 0 ≤ m % p := Int.emod_nonneg _ (by omega)
    have hm2 : m % p < p := Int.emod_lt_of_pos _ pn
    generalize hcc : m / p = c at *
    generalize hmm : m % p = m' at *
    have ps : p * s * 2 = 18446744073709551616 := by rw [← pp, pv]; grind
    have hms : 0 ≤ m' * s ∧ m' * s < p * s := ⟨Int.mul_nonneg hm1 (by omega), Int.mul_lt_mul_of_pos_right hm2 pq⟩
    have low : m * s = c * 9223372036854775808 + m' * s := by
      rw [hm]
      have : p * s = 9223372036854775808 := by omega
      rw [Int.add_mul, Int.mul_assoc, this]
    have hlow : m' * s < 9223372036854775808 := by omega
    have topbit : Int.fdiv (m * s) 9223372036854775808 = c := by
      rw [fdiv_pos _ (by omega), low]
      omega
    have next : IntKind.wrap .u64 (m * s * 2) = m' * 2 ^ (64 - n) := by
      rw [wrap_u64, pv, low]
      have : m' * (s * 2) = m' * s * 2 := by grind
      rw [this]
      rcases hc with e | e <;> subst e <;> omega
    have cnt : IntKind.wrap .i64 (((64 - (n + 1) : Nat) : Int) + 1) = ((64 - n : Nat) : Int) := by
      rw [wrap_i64_id (by omega) (by omega)]; omega
    have hq2 : q * 2 + 1 < s * 2 := by omega
    have hs64 : s * 2 ≤ 18446744073709551616 := by
      have : s * 1 ≤ s * p := Int.mul_le_mul_of_nonneg_left (by omega) (by omega)
      have e : s * p = p * s := Int.mul_comm _ _
      omega
    have wq : IntKind.wrap .u64 (q * 2) = q * 2 := wrap_u64_id (by omega) (by omega)
    have qbit : IntKind.wrap .u64 ((BitVec.ofInt 64 (q * 2) ||| BitVec.ofInt 64 1).toNat : Int) = q * 2 + 1 := by
      rw [or_bit (by omega) (by omega) (by omega) (by omega) (by omega), wrap_u64_id (by omega) (by omega)]
    refine L_money_quotient_0r _ _ _ _ _ _ _ ?_
    unfold L_money_quotient_0T
    have eb : IntKind.bits IntKind.u64 = 64 := rfl
    have e1 : min (Int.toNat 1) 64 = 1 := by decide
    have e63 : min (Int.toNat 63) 64 = 63 := by decide
    have e2 : (2 : Int) ^ 63 = 9223372036854775808 := by decide
    have e3 : (2 : Int) ^ 1 = 2 := by decide
    simp only [eb, e1, e63, e2, e3, topbit, next, cnt, wq, qbit]
    have hc0 : 0 ≤ c ∧ c < 2 := by omega
    have rbit : IntKind.wrap .u64 ((BitVec.ofInt 64 (IntKind.wrap .u64 (rest * 2)) ||| BitVec.ofInt 64 c).toNat : Int) = (rest * 2 + c) % 18446744073709551616 := by
      rw [wrap_u64 (rest * 2), or_bit (by omega) (by omega) (by omega) (by omega) (by omega), wrap_u64]
      omega
    simp only [rbit]
    have big : q * (p * 2) + (rest * (p * 2) + m) / by' = q * 2 * p + ((rest * 2 + c) * p + m') / by' ∧ (rest * (p * 2) + m) % by' = ((rest * 2 + c) * p + m') % by' := by
      have : rest * (p * 2) + m = (rest * 2 + c) * p + m' := by rw [hm]; grind
      rw [this]
      exact ⟨by grind, rfl⟩
    rw [pw, big.1, big.2] at k
    refine Br.yes (decide_eq_true (by omega)) ?_
    have step1 : by' ≤ rest * 2 + c → L_money_quotient_0 (m' * 2 ^ (64 - n)) by' (q * 2 + 1) (rest * 2 + c - by') ((64 - n : Nat) : Int) h K := by
      intro hge
      obtain ⟨d1, d2⟩ := div_step (p := p) (m := m') hb hge
      refine ih (by omega) m' (q * 2 + 1) (rest * 2 + c - by') hm1 hm2 (by omega) (by rw [pv]; omega) (by omega) (by omega) ?_
      rw [d1, d2] at k
      have : q * 2 * p + (p + ((rest * 2 + c - by') * p + m') / by') = (q * 2 + 1) * p + ((rest * 2 + c - by') * p + m') / by' := by grind
      rw [← this]; exact k
    refine Br.dec (fun ho => ?_) (fun ho => Br.dec (fun hge => ?_) (fun hlt => ?_))
    · have e : IntKind.wrap .u64 ((rest * 2 + c) % 18446744073709551616 - by') = rest * 2 + c - by' := by rw [wrap_u64]; omega
      rw [e]; exact step1 (by omega)
    · have e : IntKind.wrap .u64 ((rest * 2 + c) % 18446744073709551616 - by') = rest * 2 + c - by' := by rw [wrap_u64]; omega
      rw [e]; exact step1 (by omega)
    · have e : (rest * 2 + c) % 18446744073709551616 = rest * 2 + c := by omega
      rw [e] at hlt ⊢
      exact ih (by omega) m' (q * 2) (rest * 2 + c) hm1 hm2 (by omega) (by rw [pv]; omega) (by omega) (by omega) k
theorem S_quotient {high lower by' : Int} (hh : U64 high) (hl : U64 lower) (hb : U64 by') (h : Heap) (K : Value → Heap → Prop)
    (k1 : high ≥ by' → K (tuple #[int .u64 0, .bool false, .bool false]) h)
    (k2 : high < by' → K (tuple #[int .u64 ((high * 18446744073709551616 + lower) / by'), .bool ((high * 18446744073709551616 + lower) % by' != 0), .bool true]) h) :
    CallA Tryz.prog fn_money_quotient [int .u64 high, int .u64 lower, int .u64 by'] h K := by
  refine F_money_quotient _ _ _ _ _ ?_
  unfold F_money_quotientT
  refine Br.dec (fun hg => Ret.mk (k1 hg)) (fun hg => ?_)
  have hlt : high < by' := by omega
  have e64 : (2 : Int) ^ 64 = 18446744073709551616 := by decide
  have e := quot_loop (by' := by') (by unfold U64 at *; omega) hb.2 h K 64 (by omega) lower 0 high hl.1 (by rw [e64]; have := hl.2; omega) (by omega) (by decide) hh.1 hlt
  rw [e64] at e
  simp only [Nat.sub_self, Int.pow_zero, Int.mul_one, Int.zero_mul, Int.zero_add] at e
  exact e (k2 hlt)

/-! ### a product, parted -/
def dv (n c : Int) (up : Bool) : Int := if up then -((-n) / c) else n / c
def md (a b c : Int) (up : Bool) : Int × Int := if c < 1 then (0, 1) else fit (dv (a * b) c up)
theorem natAbs_mul (a b : Int) : (a.natAbs : Int) * b.natAbs = ((a * b).natAbs : Int) := by rw [Int.natAbs_mul]; simp
theorem ediv_neg_of {n c : Int} (hc : 0 < c) (h : n % c ≠ 0) : (-n) / c = -(n / c) - 1 := by
  have h1 := Int.mul_ediv_add_emod n c
  have h2 := Int.emod_nonneg n (show c ≠ 0 by omega)
  have h3 := Int.emod_lt_of_pos n hc
  have : -n = (c - n % c) + c * (-(n / c) - 1) := by
    have : c * (-(n / c) - 1) = -(c * (n / c)) - c := by grind
    omega
  rw [this, Int.add_mul_ediv_left _ _ (by omega), Int.ediv_eq_zero_of_lt (by omega) (by omega)]
  omega
theorem ediv_neg_of0 {n c : Int} (hc : 0 < c) (h : n % c = 0) : (-n) / c = -(n / c) := by
  have h1 := Int.mul_ediv_add_emod n c
  have : -n = c * (-(n / c)) := by
    have : c * (-(n / c)) = -(c * (n / c)) := by grind
    omega
  rw [this, Int.mul_ediv_cancel_left _ (by omega)]
theorem mul_sign {a b : Int} : (a * b < 0 → (a < 0 ∧ 0 < b) ∨ (0 < a ∧ b < 0)) ∧ (0 < a * b → (a < 0 ∧ b < 0) ∨ (0 < a ∧ 0 < b)) := by
  constructor
  · intro h
    rcases Int.lt_trichotomy a 0 with h1 | h1 | h1 <;> rcases Int.lt_trichotomy b 0 with h2 | h2 | h2
    · have := Int.mul_pos_of_neg_of_neg h1 h2; omega
    · subst h2; simp at h
    · exact .inl ⟨h1, h2⟩
    · subst h1; simp at h
    · subst h1; simp at h
    · subst h1; simp at h
    · exact .inr ⟨h1, h2⟩
    · subst h2; simp at h
    · have := Int.mul_pos h1 h2; omega
  · intro h
    rcases Int.lt_trichotomy a 0 with h1 | h1 | h1 <;> rcases Int.lt_trichotomy b 0 with h2 | h2 | h2
    · exact .inl ⟨h1, h2⟩
    · subst h2; simp at h
    · have := Int.mul_neg_of_neg_of_pos h1 h2; omega
    · subst h1; simp at h
    · subst h1; simp at h
    · subst h1; simp at h
    · have := Int.mul_neg_of_pos_of_neg h1 h2; omega
    · subst h2; simp at h
    · exact .inr ⟨h1, h2⟩
theorem dv_of_size {n c : Int} {neg up : Bool} (hc : 0 < c) (h1 : neg = true → n ≤ 0) (h2 : neg = false → 0 ≤ n) :
    dv n c up = (if neg then -1 else 1) * ((n.natAbs : Int) / c + (if ((n.natAbs : Int) % c != 0) && (neg != up) then 1 else 0)) := by
  unfold dv
  cases neg
  · have hn := h2 rfl
    have e : (n.natAbs : Int) = n := by omega
    rw [e]
    cases up
    · simp
    · by_cases hz : n % c = 0
      · simp [hz, ediv_neg_of0 hc hz]
      · simp [hz, ediv_neg_of hc hz]; omega
  · have hn := h1 rfl
    have e : (n.natAbs : Int) = -n := by omega
    rw [e]
    have hd : n % c = 0 ↔ (-n) % c = 0 := by
      rw [← Int.dvd_iff_emod_eq_zero, ← Int.dvd_iff_emod_eq_zero, Int.dvd_neg]
    cases up
    · by_cases hz : (-n) % c = 0
      · have := ediv_neg_of0 hc hz
        rw [Int.neg_neg] at this
        simp [hz]; omega
      · have := ediv_neg_of hc hz
        rw [Int.neg_neg] at this
        simp [hz]; omega
    · simp
theorem S_MulDiv {a b c : Int} (ha : I64 a) (hb : I64 b) (hcc : I64 c) (up : Bool) (h : Heap) (K : Value → Heap → Prop)
    (k : K (tuple #[int .i64 (md a b c up).1, int .i64 (md a b c up).2]) h) : CallA Tryz.prog fn_money_MulDiv [int .i64 a, int .i64 b, int .i64 c, .bool up] h K := by
  refine F_money_MulDiv _ _ _ _ _ _ ?_
  unfold F_money_MulDivT
  refine Br.dec (fun hc => Ret.mk ?_) (fun hc => ?_)
  · unfold md at k; rw [if_pos hc] at k; exact k
  refine S_size ha h _ ⟨_, rfl, S_size hb h _ ⟨_, rfl, ?_⟩⟩
  have wa : U64 (a.natAbs : Int) := by unfold I64 U64 at *; omega
  have wb : U64 (b.natAbs : Int) := by unfold I64 U64 at *; omega
  refine S_product wa wb h _ ⟨_, _, rfl, ?_⟩
  rw [natAbs_mul]
  have hc1 : 1 ≤ c := by omega
  have hc2 : c ≤ 9223372036854775807 := hcc.2
  have wc : IntKind.wrap .u64 c = c := wrap_u64_id (by omega) (by omega)
  rw [wc]
  -- the size of the product
  have hbd : ((a * b).natAbs : Int) ≤ 85070591730234615865843651857942052864 := by
    rw [← natAbs_mul]
    have h1 : (a.natAbs : Int) ≤ 9223372036854775808 := by unfold I64 at ha; omega
    have h2 : (b.natAbs : Int) ≤ 9223372036854775808 := by unfold I64 at hb; omega
    have := Int.mul_le_mul h1 h2 (by omega) (by omega)
    omega
  have hsgn := mul_sign (a := a) (b := b)
  have hneg : ∀ neg, (!decide (a < 0) == decide (b < 0)) = neg → (neg = true → a * b ≤ 0) ∧ (neg = false → 0 ≤ a * b) := by
    intro neg e
    constructor
    · intro e2; subst e2
      simp at e
      by_cases x : a < 0 <;> by_cases y : b < 0 <;> simp [x, y] at e <;> rcases Int.lt_trichotomy (a * b) 0 with z | z | z <;> omega
    · intro e2; subst e2
      simp at e
      by_cases x : a < 0 <;> by_cases y : b < 0 <;> simp [x, y] at e <;> rcases Int.lt_trichotomy (a * b) 0 with z | z | z <;> omega
  generalize hN : ((a * b).natAbs : Int) = N at *
  have hN0 : 0 ≤ N := by omega
  have hmd : md a b c up = fit (dv (a * b) c up) := by unfold md; rw [if_neg hc]
  rw [hmd] at k
  generalize hng : (!decide (a < 0) == decide (b < 0)) = neg at *
  obtain ⟨n1, n2⟩ := hneg neg rfl
  have hdv := dv_of_size (n := a * b) (c := c) (neg := neg) (up := up) (by omega) n1 n2
  rw [hN] at hdv
  have hq0 : 0 ≤ N / c := Int.ediv_nonneg hN0 (by omega)
  refine S_quotient (by unfold U64; omega) (by unfold U64; omega) (by unfold U64; omega) h _ (fun hg => ⟨_, _, _, rfl, ?_⟩) (fun hg => ⟨_, _, _, rfl, ?_⟩)
  · -- it doesn't fit
    refine Br.yes rfl (Ret.mk ?_)
    have hq : 18446744073709551616 ≤ N / c := by
      refine (Int.le_ediv_iff_mul_le (by omega)).2 ?_
      have := Int.mul_ediv_add_emod N 18446744073709551616
      have h5 := Int.emod_nonneg N (show (18446744073709551616 : Int) ≠ 0 by omega)
      omega
    rw [fit_over (by
      unfold I64
      rw [hdv]
      cases neg <;> simp <;> split <;> omega)] at k
    exact k
  · refine Br.no rfl ?_
    have eN : N / 18446744073709551616 * 18446744073709551616 + N % 18446744073709551616 = N := by omega
    rw [eN]
    have hq1 : N / c ≤ 18446744073709551615 := by
      have : N / c < 18446744073709551616 := by
        refine Int.ediv_lt_of_lt_mul (by omega) ?_
        have := Int.mul_ediv_add_emod N 18446744073709551616
        have h5 := Int.emod_lt_of_pos N (show (0 : Int) < 18446744073709551616 by omega)
        have h6 : N / 18446744073709551616 ≤ c - 1 := by omega
        omega
      omega
    have plain : ((N % c != 0) && (neg != up)) = false → K (tuple #[int .i64 (sgn (N / c) neg).1, int .i64 (sgn (N / c) neg).2]) h := by
      intro e
      rw [e] at hdv
      have : sgn (N / c) neg = fit (dv (a * b) c up) := by
        rw [hdv]
        unfold sgn fit
        cases neg <;> simp <;> split <;> split <;> simp <;> omega
      rw [this]; exact k
    have more : ((N % c != 0) && (neg != up)) = true → (N / c = 18446744073709551615 → K (tuple #[int .i64 0, int .i64 3]) h) ∧ K (tuple #[int .i64 (sgn (N / c + 1) neg).1, int .i64 (sgn (N / c + 1) neg).2]) h := by
      intro e
      rw [e] at hdv
      constructor
      · intro e2
        rw [fit_over (by unfold I64; rw [hdv, e2]; cases neg <;> simp)] at k
        exact k
      · have : sgn (N / c + 1) neg = fit (dv (a * b) c up) := by
          rw [hdv]
          unfold sgn fit
          cases neg <;> simp <;> split <;> split <;> simp <;> omega
        rw [this]; exact k
    refine Br.intro (fun e1 => Br.intro (fun e2 => ?_) (fun e2 => ?_)) (fun e1 => ?_)
    · obtain ⟨m1, m2⟩ := more (by rw [e1]; cases neg <;> cases up <;> simp at e2 ⊢)
      refine Br.intro (fun e3 => Ret.mk (m1 ?_)) (fun e3 => ?_)
      · simp only [beq_iff_eq, wrap_u64] at e3; omega
      · simp only [beq_eq_false_iff_ne, ne_eq, wrap_u64] at e3
        rw [wrap_u64_id (by omega) (by omega)]
        exact S_signed ⟨by omega, by omega⟩ neg h _ ⟨_, _, rfl, Ret.mk m2⟩
    · exact S_signed ⟨hq0, hq1⟩ neg h _ ⟨_, _, rfl, Ret.mk (plain (by rw [e1]; cases neg <;> cases up <;> simp at e2 ⊢))⟩
    · exact S_signed ⟨hq0, hq1⟩ neg h _ ⟨_, _, rfl, Ret.mk (plain (by rw [e1]; rfl))⟩
end Go.Proofs.YtghdadniddoboaaGreat

/- What many amounts come to, all together and step by step; and that the calls of the awake test answer as they must. -/
namespace Go.Proofs.YtghdadniddoboaaGreat
open Go Go.Sy Go.Value
set_option linter.unusedVariables false
set_option linter.unusedSimpArgs false

def sumL : List Int → Int
  | [] => 0
  | n :: l => n + sumL l
theorem sumL_append : ∀ l m, sumL (l ++ m) = sumL l + sumL m
  | [], m => by simp [sumL]
  | n :: l, m => by simp only [List.cons_append, sumL, sumL_append l m]; omega
def allI64 (l : List Int) : Prop := ∀ n ∈ l, I64 n
theorem sum_take_succ {l : List Int} {i : Nat} (h : i < l.length) : sumL (l.take (i + 1)) = sumL (l.take i) + l[i] := by
  rw [List.take_add_one, sumL_append, List.getElem?_eq_getElem h]
  simp [sumL]
theorem sum_bound {l : List Int} (h : allI64 l) : ∀ i, i ≤ l.length → -(i : Int) * 9223372036854775808 ≤ sumL (l.take i) ∧ sumL (l.take i) ≤ (i : Int) * 9223372036854775808
  | 0, _ => by simp [sumL]
  | i + 1, hi => by
    obtain ⟨h1, h2⟩ := sum_bound h i (by omega)
    rw [sum_take_succ (by omega)]
    have := h _ (List.getElem_mem (show i < l.length by omega))
    unfold I64 at this
    omega
theorem sum_loop {l : List Int} (hl : l.length ≤ 1048576) (hI : allI64 l) {a : Option Addr} {c : Nat} (h : Heap) (hr : Ints .i64 h a l) (K : Value → Heap → Prop)
    (k : K (tuple #[int .i64 (fit (sumL l)).1, int .i64 (fit (sumL l)).2]) h) : ∀ (d i : Nat), i + d = l.length →
    L_money_Sum_0 (sumL (l.take i) / 18446744073709551616) (sumL (l.take i) % 18446744073709551616) a l.length c (l.length : Int) (i : Int) h K := by
  intro d
  induction d with
  | zero =>
    intro i hi
    refine L_money_Sum_0r _ _ _ _ _ _ _ _ _ ?_
    unfold L_money_Sum_0T
    have hb := sum_bound hI i (by omega)
    have e : l.take i = l := List.take_of_length_le (by omega)
    rw [e] at hb ⊢
    refine Br.no (decide_eq_false (by omega)) ?_
    have f : ∀ x : Int, Int.fdiv x 9223372036854775808 = x / 9223372036854775808 := fun x => fdiv_pos x (by omega)
    rw [f, wrap_i64]
    generalize sumL l = s at *
    refine Br.intro (fun e1 => Ret.mk ?_) (fun e1 => Ret.mk ?_)
    · rw [fit_over] at k
      · exact k
      · simp only [bne_iff_ne, ne_eq] at e1
        unfold I64
        omega
    · simp only [bne_eq_false_iff_eq] at e1
      rw [fit_ok (by unfold I64; omega)] at k
      rw [show (s % 18446744073709551616 + 9223372036854775808) % 18446744073709551616 - 9223372036854775808 = s from by omega]
      exact k
  | succ d ih =>
    intro i hi
    refine L_money_Sum_0r _ _ _ _ _ _ _ _ _ ?_
    unfold L_money_Sum_0T
    have hlt : i < l.length := by omega
    have hb := sum_bound hI i (by omega)
    have nx := ih (i + 1) (by omega)
    rw [sum_take_succ hlt] at nx
    have hn := hI _ (List.getElem_mem hlt)
    obtain ⟨b, o, ea, hc⟩ := hr.at hlt
    refine Br.yes (decide_eq_true (by omega)) ⟨by omega, by omega, withAddr_intro ea ⟨_, by rw [Int.toNat_natCast]; exact hc, ?_⟩⟩
    have f : ∀ x : Int, Int.fdiv x 9223372036854775808 = x / 9223372036854775808 := fun x => fdiv_pos x (by omega)
    simp only [f, wrap_u64, wrap_i64]
    unfold I64 at hn
    generalize l[i] = x at *
    generalize hS : sumL (l.take i) = s at *
    have cnt : ((i : Int) + 1 + 9223372036854775808) % 18446744073709551616 - 9223372036854775808 = ((i + 1 : Nat) : Int) := by omega
    have lo : (s % 18446744073709551616 + x % 18446744073709551616) % 18446744073709551616 = (s + x) % 18446744073709551616 := by omega
    simp only [cnt, lo]
    refine Br.dec (fun hlt2 => ?_) (fun hge => ?_)
    · have hi2 : (((s / 18446744073709551616 + 1 + 9223372036854775808) % 18446744073709551616 - 9223372036854775808) + x / 9223372036854775808 + 9223372036854775808) % 18446744073709551616 - 9223372036854775808 = (s + x) / 18446744073709551616 := by omega
      rw [hi2]; exact nx
    · have hi2 : (s / 18446744073709551616 + x / 9223372036854775808 + 9223372036854775808) % 18446744073709551616 - 9223372036854775808 = (s + x) / 18446744073709551616 := by omega
      rw [hi2]; exact nx
theorem S_Sum {l : List Int} (hl : l.length ≤ 1048576) (hI : allI64 l) {a : Option Addr} {c : Nat} (h : Heap) (hr : Ints .i64 h a l) (K : Value → Heap → Prop)
    (k : K (tuple #[int .i64 (fit (sumL l)).1, int .i64 (fit (sumL l)).2]) h) : CallA Tryz.prog fn_money_Sum [slice a l.length c] h K := by
  refine F_money_Sum _ _ _ _ _ ?_
  unfold F_money_SumT
  have := sum_loop hl hI (c := c) h hr K k l.length 0 (by omega)
  simpa [sumL] using this

def chainL : Int → List Int → Int × Int
  | a, [] => (a, 0)
  | a, b :: l => if -9223372036854775808 ≤ a + b ∧ a + b ≤ 9223372036854775807 then chainL (a + b) l else (0, 3)
end Go.Proofs.YtghdadniddoboaaGreat

/- The reference's whole numbers of any size: a sum; how two compare; whether one fits. -/
namespace Go.Proofs.YtghdadniddoboaaGreat
open Go Go.Sy Go.Value
set_option linter.unusedVariables false
set_option linter.unusedSimpArgs false

theorem S_Add_aux {na nb : Bool} {pa pb : Option Addr} {ca cb : Nat} {da db : List Int} {h : Heap} (ra : Ints .i64 h pa da) (rb : Ints .i64 h pb db) (oa : okD da) (ob : okD db) (la : da.length ≤ 1048000) (lb : db.length ≤ 1048000)
    {m : Nat} (ma : da.length ≤ m) (mb : db.length ≤ m) (mm : (if (db.length : Int) > (da.length : Int) then (db.length : Int) else (da.length : Int)) = (m : Int)) {K : Value → Heap → Prop}
    (rec : na ≠ nb → dig da < dig db → ∀ h', h.le h' → ∀ K' : Value → Heap → Prop, (∀ v h'', h'.le h'' → BigN h'' v (sg na da + sg nb db) (m + 1) → K' v h'') →
      CallA Tryz.prog fn_ref01_Add [agg #[.bool nb, slice pb db.length cb], agg #[.bool na, slice pa da.length ca]] h' K')
    (k : ∀ v h', h.le h' → BigN h' v (sg na da + sg nb db) (m + 1) → K v h') : CallA Tryz.prog fn_ref01_Add [agg #[.bool na, slice pa da.length ca], agg #[.bool nb, slice pb db.length cb]] h K := by
  refine F_ref01_Add _ _ _ _ _ _ _ _ _ _ ?_
  unfold F_ref01_AddT
  have hm : m ≤ 1048000 := by
    by_cases hh : (db.length : Int) > (da.length : Int)
    · rw [if_pos hh] at mm; omega
    · rw [if_neg hh] at mm; omega
  intro r hr r1 hr1 r2 hr2
  have aa := ((At.new h r [.bool na, slice pa da.length ca] 126).ins (x := .cells [.bool nb, slice pb db.length cb].toArray 126 (0, 0)) hr1).ins (x := .cells [.bool false, slice none 0 0].toArray 126 (0, 0)) hr2
  have ab := (At.new (h.ins r (.cells [.bool na, slice pa da.length ca].toArray 126 (0, 0))) r1 [.bool nb, slice pb db.length cb] 126).ins (x := .cells [.bool false, slice none 0 0].toArray 126 (0, 0)) hr2
  have tt := At.new ((h.ins r (.cells [.bool na, slice pa da.length ca].toArray 126 (0, 0))).ins r1 (.cells [.bool nb, slice pb db.length cb].toArray 126 (0, 0))) r2 [.bool false, slice none 0 0] 126
  have l1 := le_ins2 (x := .cells [.bool nb, slice pb db.length cb].toArray 126 (0, 0)) (le_ins hr (o := .cells [.bool na, slice pa da.length ca].toArray 126 (0, 0))) hr1
  have l2 := le_ins2 (x := .cells [.bool false, slice none 0 0].toArray 126 (0, 0)) l1 hr2
  have e2 := none_of_le l1 hr2
  generalize hh2 : ((h.ins r (.cells [.bool na, slice pa da.length ca].toArray 126 (0, 0))).ins r1 (.cells [.bool nb, slice pb db.length cb].toArray 126 (0, 0))).ins r2 (.cells [.bool false, slice none 0 0].toArray 126 (0, 0)) = h2 at *
  refine ⟨_, aa.cell rfl, ?_⟩
  intro r3 hr3
  have n1 := aa.ne hr3
  have n2 := ab.ne hr3
  have n3 := tt.ne hr3
  have e3 := none_of_le l2 hr3
  have o3 := At.new h2 r3 [.bool false, slice none 0 0] 126
  have a3 := aa.ins (x := .cells [.bool false, slice none 0 0].toArray 126 (0, 0)) hr3
  have b3 := ab.ins (x := .cells [.bool false, slice none 0 0].toArray 126 (0, 0)) hr3
  have t3 := tt.ins (x := .cells [.bool false, slice none 0 0].toArray 126 (0, 0)) hr3
  have l3 := le_ins2 (x := .cells [.bool false, slice none 0 0].toArray 126 (0, 0)) l2 hr3
  refine ⟨o3.canSt (by simp), ?_⟩
  have oo := o3.set (o := 0) (ws := [.bool na, slice none 0 0])
  have aa := a3.set_ne (o := 0) (ws := [.bool na, slice none 0 0]) n1
  have ab := b3.set_ne (o := 0) (ws := [.bool na, slice none 0 0]) n2
  have tt := t3.set_ne (o := 0) (ws := [.bool na, slice none 0 0]) n3
  have l4 := le_setN (o := 0) (ws := [.bool na, slice none 0 0]) l3 e3
  generalize (h2.ins r3 (.cells [.bool false, slice none 0 0].toArray 126 (0, 0))).setN r3 0 [.bool na, slice none 0 0] = h4 at *
  refine ⟨_, aa.cell rfl, _, ab.cell rfl, ?_⟩
  refine Br.intro (fun same => ?_) (fun differ => ?_)
  · have same : na = nb := by simpa using same
    subst same
    refine add_loop ra rb oa ob e2 e3 n1 n2 n3 ma mb mm (by omega) (fun v h' l' bn => k v h' l' ?_) (m + 1) [] none 0 0 h4 (by simp) l4 aa ab tt oo (OwnL.nil _ _ _) (by simp) (by simp) (by simp) (by simp) (fun d hd => (by cases hd)) (by omega) (by omega) (by simp [dig])
    have e : sg na da + sg na db = if na then -(dig da + dig db) else dig da + dig db := by unfold sg; cases na <;> simp <;> omega
    rw [e]; exact bn
  · have differ : na ≠ nb := by simpa using differ
    refine ⟨_, aa.cell rfl, _, _, _, aa.cell rfl, _, ab.cell rfl, _, _, _, ab.cell rfl, ?_⟩
    refine S_larger (ra.le l4) (rb.le l4) oa ob (by omega) (by omega) fun h5 l5 => ⟨_, rfl, ?_⟩
    have l45 := Heap.le_trans l4 l5
    have aa := aa.le l5
    have ab := ab.le l5
    have tt := tt.le l5
    have oo := oo.le l5
    refine Br.dec (fun lt => ?_) (fun nlt => ?_)
    · have hlt : dig da < dig db := by
        unfold cmpI at lt
        split at lt
        · omega
        · split at lt <;> omega
      refine ⟨_, ab.cell rfl, _, _, _, ab.cell rfl, _, aa.cell rfl, _, _, _, aa.cell rfl, ?_⟩
      refine rec differ hlt h5 l45 _ fun v h6 l6 bn => ?_
      obtain ⟨neg2, p2, c2, ds2, rfl, r2', ok2, x2, c3, b2, nz⟩ := bn
      refine ⟨_, _, _, _, rfl, ret_out e2 (Heap.le_trans l45 l6) (tt.le l6) fun h'' l'' rd => k _ _ l'' ?_⟩
      exact ⟨neg2, p2, c2, ds2, rfl, rd _ _ r2', ok2, x2, c3, b2, nz⟩
    · have hge : dig db ≤ dig da := by
        unfold cmpI at nlt
        split at nlt
        · omega
        · split at nlt <;> omega
      refine sub_loop ra rb oa ob e2 e3 n1 n2 n3 hge (B := m + 1) (by omega) (by omega) (fun v h' l' bn => k v h' l' ?_) da.length [] none 0 0 h5 (by simp) l45 aa ab tt oo (OwnL.nil _ _ _) (by simp) (by simp) (by simp) (by simp) (fun d hd => (by cases hd)) (by omega) (by omega) (by simp [dig])
      have e : sg na da + sg nb db = if na then -(dig da - dig db) else dig da - dig db := by unfold sg; cases na <;> cases nb <;> simp at differ ⊢ <;> omega
      rw [e]; exact bn
theorem max_of (a b : Nat) : ∃ m : Nat, (if (b : Int) > (a : Int) then (b : Int) else (a : Int)) = (m : Int) ∧ a ≤ m ∧ b ≤ m ∧ (m = a ∨ m = b) := by
  by_cases hh : (b : Int) > (a : Int)
  · exact ⟨b, by rw [if_pos hh], by omega, by omega, .inr rfl⟩
  · exact ⟨a, by rw [if_neg hh], by omega, by omega, .inl rfl⟩
theorem S_Add_Big {va vb : Value} {x y : Int} {na nb : Nat} {h : Heap} (ha : BigR h va x na) (hb : BigR h vb y nb) {B : Nat} (ba : na ≤ B) (bb : nb ≤ B) (hB : B ≤ 1048000) {K : Value → Heap → Prop}
    (k : ∀ v h', h.le h' → BigN h' v (x + y) (B + 1) → K v h') : CallA Tryz.prog fn_ref01_Add [va, vb] h K := by
  obtain ⟨n1, p1, c1, d1, rfl, r1, o1, rfl, lc1, lb1⟩ := ha
  obtain ⟨n2, p2, c2, d2, rfl, r2, o2, rfl, lc2, lb2⟩ := hb
  obtain ⟨m, em, m1, m2, mo⟩ := max_of d1.length d2.length
  have more : ∀ {h' v x m'}, m' ≤ B → BigN h' v x (m' + 1) → BigN h' v x (B + 1) := by
    intro h' v x m' hm ⟨neg, p, c, ds, a1, a2, a3, a4, a5, a6, a7⟩
    exact ⟨neg, p, c, ds, a1, a2, a3, a4, a5, by omega, a7⟩
  refine S_Add_aux r1 r2 o1 o2 (by omega) (by omega) m1 m2 em (fun hne hlt h' l' K' k' => ?_) fun v h' l' bn => k v h' l' (more (by omega) bn)
  obtain ⟨m', em', m1', m2', mo'⟩ := max_of d2.length d1.length
  have : m' = m := by omega
  subst this
  refine S_Add_aux (r2.le l') (r1.le l') o2 o1 (by omega) (by omega) m1' m2' em' (fun _ h3 => by omega) fun v h'' l'' bn => k' v h'' l'' ?_
  rw [Int.add_comm]; exact bn
theorem S_Cmp {va vb : Value} {x y : Int} {na nb : Nat} {h : Heap} (ha : BigR h va x na) (hb : BigR h vb y nb) (la : na ≤ 1000000) (lb : nb ≤ 1000000) {K : Value → Heap → Prop}
    (k : ∀ h', h.le h' → K (int .i64 (cmpI x y)) h') : CallA Tryz.prog fn_ref01_Cmp [va, vb] h K := by
  obtain ⟨n1, p1, c1, d1, rfl, r1, o1, hx, lc1, lb1⟩ := ha
  obtain ⟨n2, p2, c2, d2, rfl, r2, o2, hy, lc2, lb2⟩ := hb
  refine F_ref01_Cmp _ _ _ _ _ _ _ _ _ _ ?_
  unfold F_ref01_CmpT
  intro r hr q hq
  have aa := (At.new h r [.bool n1, slice p1 d1.length c1] 126).ins (x := .cells [.bool n2, slice p2 d2.length c2].toArray 126 (0, 0)) hq
  have ab := At.new (h.ins r (.cells [.bool n1, slice p1 d1.length c1].toArray 126 (0, 0))) q [.bool n2, slice p2 d2.length c2] 126
  have l1 := le_ins2 (x := .cells [.bool n2, slice p2 d2.length c2].toArray 126 (0, 0)) (le_ins hr (o := .cells [.bool n1, slice p1 d1.length c1].toArray 126 (0, 0))) hq
  refine ⟨_, aa.cell rfl, _, _, _, aa.cell rfl, _, ab.cell rfl, _, _, _, ab.cell rfl, ?_⟩
  refine S_Turned (x := y) (b := nb) ⟨n2, p2, c2, d2, rfl, r2.le l1, o2, hy, lc2, lb2⟩ (by omega) fun v2 h2 l2 bn2 => ?_
  obtain ⟨n3, p3, c3, d3, rfl, r3, o3, hy3, lc3, lb3, _⟩ := bn2
  refine ⟨_, _, _, _, rfl, .inl l2, ?_⟩
  have l12 := Heap.le_trans l1 l2
  refine S_Add_Big (x := x) (y := -y) (na := na) (nb := nb) (B := 1000000) ⟨n1, p1, c1, d1, rfl, r1.le l12, o1, hx, lc1, lb1⟩ ⟨n3, p3, c3, d3, rfl, r3, o3, hy3, lc3, lb3⟩ (by omega) (by omega) (by omega) fun v4 h4 l4 bn4 => ?_
  obtain ⟨n5, p5, c5, d5, rfl, r5, o5, hy5, lc5, lb5, nz5⟩ := bn4
  refine ⟨_, _, _, _, rfl, ?_⟩
  intro u hu
  have uu := At.new h4 u [.bool false, slice none 0 0] 126
  have l14 := Heap.le_trans l12 l4
  have l5 := le_ins2 (x := .cells [.bool false, slice none 0 0].toArray 126 (0, 0)) l14 hu
  have e5 := none_of_le l14 hu
  have u2 := uu.set (o := 0) (ws := [.bool n5, slice p5 d5.length c5])
  have kk := k _ (le_setN (o := 0) (ws := [.bool n5, slice p5 d5.length c5]) l5 e5)
  refine ⟨uu.canSt (by simp), _, _, _, u2.cell rfl, ?_⟩
  have dn := dig_nonneg o5
  refine Br.intro (fun e => Ret.mk ?_) (fun e => ⟨_, u2.cell rfl, Br.intro (fun e6 => Ret.mk ?_) (fun e6 => Ret.mk ?_)⟩)
  · have : d5 = [] := List.length_eq_zero_iff.1 (by simpa using e)
    subst this
    have e0 : sg n5 [] = 0 := by unfold sg; simp [dig]
    have : cmpI x y = 0 := by unfold cmpI; rw [if_neg (by omega), if_neg (by omega)]
    rw [this] at kk; exact kk
  · subst e6
    have hd : dig d5 ≠ 0 := fun z => by have := (nz5 z).2; cases this
    have e0 : sg true d5 = -dig d5 := rfl
    have : cmpI x y = -1 := by unfold cmpI; rw [if_neg (by omega), if_pos (by omega)]
    rw [this] at kk; exact kk
  · subst e6
    have hd : dig d5 ≠ 0 := fun z => by
      have := (nz5 z).1
      subst this
      simp at e
    have e0 : sg false d5 = dig d5 := rfl
    have : cmpI x y = 1 := by unfold cmpI; rw [if_pos (by omega)]
    rw [this] at kk; exact kk
theorem S_Fit {va : Value} {x : Int} {na : Nat} {h : Heap} (ha : BigR h va x na) (la : na ≤ 1000000) {K : Value → Heap → Prop} (k : ∀ h', h.le h' → K (tuple #[int .i64 (fit x).1, int .i64 (fit x).2]) h') :
    CallA Tryz.prog fn_ref01_Fit [va] h K := by
  obtain ⟨n1, p1, c1, d1, rfl, r1, o1, hx, lc1, lb1⟩ := ha
  refine F_ref01_Fit _ _ _ _ _ _ ?_
  unfold F_ref01_FitT
  intro r hr
  have aa := At.new h r [.bool n1, slice p1 d1.length c1] 126
  have l1 := le_ins hr (o := .cells [.bool n1, slice p1 d1.length c1].toArray 126 (0, 0))
  refine ⟨_, aa.cell rfl, _, _, _, aa.cell rfl, ?_⟩
  refine S_Of ⟨by decide, by decide⟩ fun v2 h2 l2 bn2 => ?_
  obtain ⟨n3, p3, c3, d3, rfl, r3, o3, hy3, lc3, lb3, _⟩ := bn2
  refine ⟨_, _, _, _, rfl, .inl l2, ?_⟩
  have l12 := Heap.le_trans l1 l2
  refine S_Cmp (x := x) (na := na) ⟨n1, p1, c1, d1, rfl, r1.le l12, o1, hx, lc1, lb1⟩ ⟨n3, p3, c3, d3, rfl, r3, o3, hy3, lc3, lb3⟩ la (by omega) fun h3 l3 => ⟨_, rfl, ?_⟩
  have l13 := Heap.le_trans l12 l3
  refine Br.dec (fun lt => Ret.mk ?_) (fun nlt => ?_)
  · have : x < -9223372036854775808 := by
      unfold cmpI at lt
      split at lt
      · omega
      · split at lt <;> omega
    have kk := k h3 l13
    rw [fit_over (by unfold I64; omega)] at kk
    exact kk
  have ge : -9223372036854775808 ≤ x := by
    unfold cmpI at nlt
    split at nlt
    · omega
    · split at nlt <;> omega
  have aa := (aa.le l2).le l3
  refine ⟨_, aa.cell rfl, _, _, _, aa.cell rfl, ?_⟩
  refine S_Of ⟨by decide, by decide⟩ fun v4 h4 l4 bn4 => ?_
  obtain ⟨n5, p5, c5, d5, rfl, r5, o5, hy5, lc5, lb5, _⟩ := bn4
  refine ⟨_, _, _, _, rfl, .inl l4, ?_⟩
  have l14 := Heap.le_trans l13 l4
  refine S_Cmp (x := x) (na := na) ⟨n1, p1, c1, d1, rfl, r1.le l14, o1, hx, lc1, lb1⟩ ⟨n5, p5, c5, d5, rfl, r5, o5, hy5, lc5, lb5⟩ la (by omega) fun h6 l6 => ⟨_, rfl, ?_⟩
  have l16 := Heap.le_trans l14 l6
  refine Br.dec (fun gt => Ret.mk ?_) (fun ngt => ?_)
  · have : x > 9223372036854775807 := by
      unfold cmpI at gt
      split at gt
      · omega
      · split at gt <;> omega
    have kk := k h6 l16
    rw [fit_over (by unfold I64; omega)] at kk
    exact kk
  have le : x ≤ 9223372036854775807 := by
    unfold cmpI at ngt
    split at ngt
    · omega
    · omega
  have aa := (aa.le l4).le l6
  refine ⟨_, _, _, aa.cell rfl, ?_⟩
  have kk := k h6 l16
  rw [fit_ok (by unfold I64; omega)] at kk
  have r6 := r1.le l16
  -- the digits, from the highest on
  have loop : ∀ (n : Nat) (acc : Int), n ≤ d1.length → sg n1 d1 = 10000 ^ n * acc + sg n1 (d1.take n) → (acc = 0 ∨ n1 = (decide (acc < 0))) → L_ref01_Fit_0 r acc ((n : Int) - 1) h6 K := by
    intro n
    induction n with
    | zero =>
      intro acc hn e _
      refine L_ref01_Fit_0r _ _ _ _ _ ?_
      unfold L_ref01_Fit_0T
      refine Br.no (by decide) (Ret.mk ?_)
      have : acc = x := by rw [hx, e]; unfold sg; simp [dig]
      rw [this]; exact kk
    | succ n ih =>
      intro acc hn e hs
      refine L_ref01_Fit_0r _ _ _ _ _ ?_
      unfold L_ref01_Fit_0T
      rw [show (((n + 1 : Nat) : Int) - 1) = (n : Int) from by omega]
      refine Br.yes (decide_eq_true (by omega)) ⟨_, aa.cell rfl, ?_⟩
      have hlt : n < d1.length := by omega
      obtain ⟨b, o, ea, hc⟩ := r6.at hlt
      have gd := o1 _ (List.getElem_mem hlt)
      have et := dig_take_succ (l := d1) hlt
      have tn := dig_nonneg (okD_take o1 n)
      have hP : (0 : Int) < 10000 ^ n := Int.pow_pos (by decide)
      rw [Int.pow_succ, Int.mul_assoc] at e
      generalize hd : d1[n] = d at *
      generalize (10000 : Int) ^ n = P at *
      have hxs : x = sg n1 d1 := hx
      -- what is told stays within an amount's bounds
      refine Br.intro (fun e6 => ⟨_, _, _, aa.cell rfl, by omega, by omega, withAddr_intro ea ⟨_, by rw [Int.toNat_natCast]; exact hc, ?_⟩⟩) (fun e6 => ⟨_, _, _, aa.cell rfl, by omega, by omega, withAddr_intro ea ⟨_, by rw [Int.toNat_natCast]; exact hc, ?_⟩⟩)
      · subst e6
        have e7 : sg true (d1.take (n + 1)) = sg true (d1.take n) - P * d := by unfold sg; simp only [if_true]; omega
        rw [e7] at e
        have e8 : P * (10000 * acc - d) = P * (10000 * acc) - P * d := Int.mul_sub _ _ _
        have e9 : sg true d1 = P * (10000 * acc - d) + sg true (d1.take n) := by omega
        have e10 : sg true (d1.take n) = -dig (d1.take n) := rfl
        have tl := dig_take_lt o1 n
        have hacc : acc ≤ 0 := by
          rcases hs with h | h
          · omega
          · have : acc < 0 := by simpa using h.symm
            omega
        have hb1 : -9223372036854775808 ≤ 10000 * acc - d := by
          refine Classical.byContradiction fun hh => ?_
          have h2 : 10000 * acc - d ≤ -9223372036854775809 := by omega
          have h3 : P * (10000 * acc - d) ≤ 1 * (10000 * acc - d) := by
            have := Int.mul_le_mul_of_nonneg_right (show (1 : Int) ≤ P by omega) (show 0 ≤ -(10000 * acc - d) by omega)
            rw [Int.mul_neg, Int.mul_neg] at this
            omega
          omega
        have w1 : IntKind.wrap .i64 (IntKind.wrap .i64 (10000 * acc) - d) = 10000 * acc - d := by
          rw [wrap_i64_id (n := 10000 * acc) (by omega) (by omega), wrap_i64_id (by omega) (by omega)]
        rw [w1, wrap_i64_id (n := (n : Int) - 1) (by omega) (by omega)]
        refine ih _ (by omega) e9 ?_
        by_cases h0 : 10000 * acc - d = 0
        · exact .inl h0
        · exact .inr (by simp; omega)
      · subst e6
        have e7 : sg false (d1.take (n + 1)) = sg false (d1.take n) + P * d := by unfold sg; simp only [Bool.false_eq_true, if_false]; omega
        rw [e7] at e
        have e8 : P * (10000 * acc + d) = P * (10000 * acc) + P * d := Int.mul_add _ _ _
        have e9 : sg false d1 = P * (10000 * acc + d) + sg false (d1.take n) := by omega
        have e10 : sg false (d1.take n) = dig (d1.take n) := rfl
        have hacc : 0 ≤ acc := by
          rcases hs with h | h
          · omega
          · simpa using h.symm
        have hb1 : 10000 * acc + d ≤ 9223372036854775807 := by
          refine Classical.byContradiction fun hh => ?_
          have h3 : 1 * (10000 * acc + d) ≤ P * (10000 * acc + d) := Int.mul_le_mul_of_nonneg_right (by omega) (by omega)
          omega
        have w1 : IntKind.wrap .i64 (IntKind.wrap .i64 (10000 * acc) + d) = 10000 * acc + d := by
          rw [wrap_i64_id (n := 10000 * acc) (by omega) (by omega), wrap_i64_id (by omega) (by omega)]
        rw [w1, wrap_i64_id (n := (n : Int) - 1) (by omega) (by omega)]
        refine ih _ (by omega) e9 ?_
        by_cases h0 : 10000 * acc + d = 0
        · exact .inl h0
        · exact .inr (by simp; omega)
  have lb := lb1
  rw [wrap_i64_id (by omega) (by omega)]
  exact loop d1.length 0 (Nat.le_refl _) (by rw [List.take_length]; simp) (.inl rfl)
end Go.Proofs.YtghdadniddoboaaGreat

/- The reference's sum of many amounts, all at once and step by step. -/
namespace Go.Proofs.YtghdadniddoboaaGreat
open Go Go.Sy Go.Value
set_option linter.unusedVariables false
set_option linter.unusedSimpArgs false

theorem ints_set_box {h : Heap} {q : Option Addr} {l : List Int} {b : Nat} {x : Bool} {p : Option Addr} {n c : Nat} {ws : List Value} (r : Ints .i64 h q l) (a : At h b [.bool x, slice p n c]) : Ints .i64 (h.setN b 0 ws) q l := by
  by_cases hl : l = []
  · subst hl; exact .inl rfl
  have hq := ints_not_box r a hl
  rcases r with r | ⟨b', o, e, r⟩
  · exact .inl r
  · refine .inr ⟨b', o, e, fun j hj => ?_⟩
    have := r j hj
    unfold Heap.cell at this ⊢
    rw [setN_other (fun e2 => hq o (by rw [e, e2]))]
    exact this
theorem rchain_loop {l : List Int} (hl : l.length ≤ 100000) (hI : allI64 l) {q : Option Addr} {lc : Nat} {h0 : Heap} (rl : Ints .i64 h0 q l) {K : Value → Heap → Prop} {R : Int × Int} (k : ∀ h', h0.le h' → K (tuple #[int .i64 R.1, int .i64 R.2]) h') :
    ∀ (d i : Nat) (a : Int) (h : Heap), i + d = l.length → h0.le h → I64 a → chainL a (l.drop i) = R → L_ref01_Chain_0 a q l.length lc (i : Int) h K := by
  intro d
  induction d with
  | zero =>
    intro i a h hd lh ha e
    refine L_ref01_Chain_0r _ _ _ _ _ _ _ ?_
    unfold L_ref01_Chain_0T
    rw [List.drop_of_length_le (by omega)] at e
    have kk := k h lh
    rw [← e] at kk
    exact Br.no (decide_eq_false (by omega)) (Ret.mk kk)
  | succ d ih =>
    intro i a h hd lh ha e
    refine L_ref01_Chain_0r _ _ _ _ _ _ _ ?_
    unfold L_ref01_Chain_0T
    have hlt : i < l.length := by omega
    obtain ⟨b, o, ea, hcell⟩ := (rl.le lh).at hlt
    refine Br.yes (decide_eq_true (by omega)) ⟨by omega, by omega, withAddr_intro ea ⟨_, by rw [Int.toNat_natCast]; exact hcell, ?_⟩⟩
    refine S_Of ha fun v1 h1 l1 bn1 => ?_
    have br1 := bn1.raw
    obtain ⟨n1, p1, c1, d1, rfl, _⟩ := bn1
    refine ⟨_, _, _, _, rfl, .inl l1, ?_⟩
    refine S_Of (hI _ (List.getElem_mem hlt)) fun v2 h2 l2 bn2 => ?_
    have br2 := bn2.raw
    obtain ⟨n2, p2, c2, d2, rfl, _⟩ := bn2
    refine ⟨_, _, _, _, rfl, ?_⟩
    refine S_Add_Big (B := 5) (br1.le l2) br2 (by omega) (by omega) (by omega) fun v3 h3 l3 bn3 => ?_
    have br3 := bn3.raw
    obtain ⟨n3, p3, c3, d3, rfl, _⟩ := bn3
    refine ⟨_, _, _, _, rfl, ?_⟩
    refine S_Fit br3 (by omega) fun h4 l4 => ⟨_, _, rfl, ?_⟩
    have l04 := Heap.le_trans lh (Heap.le_trans l1 (Heap.le_trans l2 (Heap.le_trans l3 l4)))
    rw [List.drop_eq_getElem_cons hlt] at e
    unfold chainL at e
    by_cases hf : I64 (a + l[i])
    · rw [fit_ok hf]
      rw [if_pos (show -9223372036854775808 ≤ a + l[i] ∧ a + l[i] ≤ 9223372036854775807 from hf)] at e
      refine Br.no rfl ?_
      rw [wrap_i64_id (n := (i : Int) + 1) (by omega) (by omega)]
      exact ih (i + 1) _ h4 (by omega) l04 hf e
    · rw [fit_over hf]
      rw [if_neg (show ¬ (-9223372036854775808 ≤ a + l[i] ∧ a + l[i] ≤ 9223372036854775807) from hf)] at e
      have kk := k h4 l04
      rw [← e] at kk
      exact Br.yes rfl (Ret.mk kk)
theorem S_RChain {l : List Int} (hl : l.length ≤ 100000) (hI : allI64 l) {q : Option Addr} {lc : Nat} {h : Heap} (rl : Ints .i64 h q l) {a : Int} (ha : I64 a) {K : Value → Heap → Prop}
    (k : ∀ h', h.le h' → K (tuple #[int .i64 (chainL a l).1, int .i64 (chainL a l).2]) h') : CallA Tryz.prog fn_ref01_Chain [int .i64 a, slice q l.length lc] h K := by
  refine F_ref01_Chain _ _ _ _ _ _ ?_
  unfold F_ref01_ChainT
  exact rchain_loop hl hI rl k l.length 0 a h (by omega) h.le_refl ha (by rw [List.drop_zero])
end Go.Proofs.YtghdadniddoboaaGreat
