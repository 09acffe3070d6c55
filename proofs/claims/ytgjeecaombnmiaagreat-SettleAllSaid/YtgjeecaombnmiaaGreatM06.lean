import Derived.Test.YtgjeecaombnmiaaGreatM03
import Derived.Test.YtgjeecaombnmiaaGreatM01
import Derived.Test.YtgjeecaombnmiaaGreatM02
/- What the program's amounts come to: sums, differences, products and parts, each by its law. -/
namespace Go.Proofs.YtgjeecaombnmiaaGreat
open Go Go.Sy Go.Value
set_option linter.unusedVariables false
set_option linter.unusedSimpArgs false

theorem qTe {a : Int} (ha : I64 a) (h : Heap) (K : Value → Heap → Prop) (k : K (int .u64 (a.natAbs : Int)) h) : CallA Tryz.prog qGa [int .i64 a] h K := by
  obtain ⟨h1, h2⟩ := ha
  refine qQJ _ _ _ ?_
  unfold qLW
  refine Br.dec (fun hn => Ret.mk ?_) (fun hn => Ret.mk ?_)
  · rw [qC7, qC7, show (0 - a % 18446744073709551616) % 18446744073709551616 = (a.natAbs : Int) from by omega]; exact k
  · rw [qC7, show a % 18446744073709551616 = (a.natAbs : Int) from by omega]; exact k

def sgn (n : Int) (neg : Bool) : Int × Int := if neg then (if n ≤ 9223372036854775808 then (-n, 0) else (0, 3)) else (if n < 9223372036854775808 then (n, 0) else (0, 3))
theorem qNa {n : Int} (hn : U64 n) (neg : Bool) (h : Heap) (K : Value → Heap → Prop) (k : K (tuple #[int .i64 (sgn n neg).1, int .i64 (sgn n neg).2]) h) :
    CallA Tryz.prog qEJ [int .u64 n, .bool neg] h K := by
  obtain ⟨h1, h2⟩ := hn
  refine qOs _ _ _ _ ?_
  unfold qJr
  cases neg
  · simp only [qXo, Bool.not_false, qXW, sgn, Bool.false_eq_true, if_false] at k ⊢
    refine Br.dec (fun hn => Ret.mk ?_) (fun hn => Ret.mk ?_)
    · rw [if_pos hn] at k; rw [qO (by omega) (by omega)]; exact k
    · rw [if_neg hn] at k; exact k
  · simp only [qXo, Bool.not_true, qXW, sgn, if_true] at k ⊢
    refine Br.dec (fun hn => Ret.mk ?_) (fun hn => Ret.mk ?_)
    · rw [if_pos hn] at k
      rw [show IntKind.wrap .i64 (0 - IntKind.wrap .i64 n) = -n from by rw [qD3, qD3]; omega]; exact k
    · rw [if_neg hn] at k; exact k

def fit (n : Int) : Int × Int := if -9223372036854775808 ≤ n ∧ n ≤ 9223372036854775807 then (n, 0) else (0, 3)
theorem qDb {n : Int} (h : I64 n) : fit n = (n, 0) := if_pos h
theorem qGk {n : Int} (h : ¬ I64 n) : fit n = (0, 3) := if_neg h
theorem qMw {a b : Int} (ha : I64 a) (hb : I64 b) (h : Heap) (K : Value → Heap → Prop) (k : K (tuple #[int .i64 (fit (a + b)).1, int .i64 (fit (a + b)).2]) h) :
    CallA Tryz.prog qDD [int .i64 a, int .i64 b] h K := by
  obtain ⟨h1, h2⟩ := ha
  obtain ⟨h3, h4⟩ := hb
  refine qRh _ _ _ _ ?_
  unfold qL9
  rw [qD3]
  by_cases hr : I64 (a + b)
  · rw [qDb hr] at k
    obtain ⟨r1, r2⟩ := hr
    have e : (a + b + 9223372036854775808) % 18446744073709551616 - 9223372036854775808 = a + b := by omega
    rw [e]
    refine Br.intro (fun e1 => Br.no ?_ (Ret.mk k)) (fun _ => Ret.mk k)
    simp only [beq_iff_eq, decide_eq_decide] at e1
    by_cases x : a + b < 0 <;> by_cases y : a < 0 <;> simp [x, y] <;> omega
  · rw [qGk hr] at k
    have hr' : a + b < -9223372036854775808 ∨ 9223372036854775807 < a + b := by unfold I64 at hr; omega
    refine Br.yes ?_ (Br.yes ?_ (Ret.mk k))
    · simp only [beq_iff_eq, decide_eq_decide]; omega
    · by_cases y : a < 0
      · have x : ¬ ((a + b + 9223372036854775808) % 18446744073709551616 - 9223372036854775808 < 0) := by omega
        simp [x, y]
      · have x : (a + b + 9223372036854775808) % 18446744073709551616 - 9223372036854775808 < 0 := by omega
        simp [x, y]
theorem qYn {a b : Int} (ha : I64 a) (hb : I64 b) (h : Heap) (K : Value → Heap → Prop) (k : K (tuple #[int .i64 (fit (a - b)).1, int .i64 (fit (a - b)).2]) h) :
    CallA Tryz.prog qJB [int .i64 a, int .i64 b] h K := by
  obtain ⟨h1, h2⟩ := ha
  obtain ⟨h3, h4⟩ := hb
  refine qRZ _ _ _ _ ?_
  unfold qMg
  rw [qD3]
  by_cases hr : I64 (a - b)
  · rw [qDb hr] at k
    obtain ⟨r1, r2⟩ := hr
    have e : (a - b + 9223372036854775808) % 18446744073709551616 - 9223372036854775808 = a - b := by omega
    rw [e]
    refine Br.intro (fun e1 => Br.no ?_ (Ret.mk k)) (fun _ => Ret.mk k)
    by_cases x : a - b < 0 <;> by_cases y : a < 0 <;> by_cases z : b < 0 <;> simp [x, y, z] at e1 ⊢ <;> omega
  · rw [qGk hr] at k
    have hr' : a - b < -9223372036854775808 ∨ 9223372036854775807 < a - b := by unfold I64 at hr; omega
    refine Br.yes ?_ (Br.yes ?_ (Ret.mk k))
    · by_cases y : a < 0 <;> by_cases z : b < 0 <;> simp [y, z] <;> omega
    · by_cases y : a < 0
      · have x : ¬ ((a - b + 9223372036854775808) % 18446744073709551616 - 9223372036854775808 < 0) := by omega
        simp [x, y]
      · have x : (a - b + 9223372036854775808) % 18446744073709551616 - 9223372036854775808 < 0 := by omega
        simp [x, y]
/-! ### products, of 128 bits -/
theorem qSz (a0 a1 b0 b1 : Int) : (a1 * 4294967296 + a0) * (b1 * 4294967296 + b0) = a1 * b1 * 18446744073709551616 + (a1 * b0 + a0 * b1) * 4294967296 + a0 * b0 := by grind
theorem qKu {x y : Int} (h1 : 0 ≤ x) (h2 : x < 4294967296) (h3 : 0 ≤ y) (h4 : y < 4294967296) : 0 ≤ x * y ∧ x * y ≤ 18446744065119617025 := by
  refine ⟨Int.mul_nonneg h1 h3, ?_⟩
  have := Int.mul_le_mul (show x ≤ 4294967295 by omega) (show y ≤ 4294967295 by omega) h3 (by omega : (0 : Int) ≤ 4294967295)
  omega
theorem qTc {a b : Int} (ha : U64 a) (hb : U64 b) (h : Heap) (K : Value → Heap → Prop)
    (k : K (tuple #[int .u64 (a * b / 18446744073709551616), int .u64 (a * b % 18446744073709551616)]) h) : CallA Tryz.prog qGh [int .u64 a, int .u64 b] h K := by
  obtain ⟨h1, h2⟩ := ha
  obtain ⟨h3, h4⟩ := hb
  refine qNu _ _ _ _ ?_
  unfold qJK
  intro r hr
  simp only [qQA, qh, setT, qLT, qJT _ (show (0 : Int) ≤ 4294967296 by omega), qKY h1, qKY h3]
  refine ⟨qIC _ _ _ _ _ _ (by simp), ?_⟩
  have ea : a % 4294967296 % 18446744073709551616 = a % 4294967296 := by omega
  have eb : b % 4294967296 % 18446744073709551616 = b % 4294967296 := by omega
  simp only [qC7, ea, eb]
  obtain ⟨p1, p2⟩ := qKu (x := a % 4294967296) (y := b % 4294967296) (by omega) (by omega) (by omega) (by omega)
  obtain ⟨p3, p4⟩ := qKu (x := a % 4294967296) (y := b / 4294967296) (by omega) (by omega) (by omega) (by omega)
  obtain ⟨p5, p6⟩ := qKu (x := a / 4294967296) (y := b % 4294967296) (by omega) (by omega) (by omega) (by omega)
  obtain ⟨p7, p8⟩ := qKu (x := a / 4294967296) (y := b / 4294967296) (by omega) (by omega) (by omega) (by omega)
  have key := qSz (a % 4294967296) (a / 4294967296) (b % 4294967296) (b / 4294967296)
  rw [show a / 4294967296 * 4294967296 + a % 4294967296 = a from by omega, show b / 4294967296 * 4294967296 + b % 4294967296 = b from by omega] at key
  generalize a % 4294967296 * (b % 4294967296) = x0 at *
  generalize a % 4294967296 * (b / 4294967296) = x1 at *
  generalize a / 4294967296 * (b % 4294967296) = x2 at *
  generalize a / 4294967296 * (b / 4294967296) = x3 at *
  generalize a * b = ab at *
  clear ea eb h1 h2 h3 h4
  have w0 : x0 % 18446744073709551616 = x0 := by omega
  have w1 : x1 % 18446744073709551616 = x1 := by omega
  have w2 : x2 % 18446744073709551616 = x2 := by omega
  have w3 : x3 % 18446744073709551616 = x3 := by omega
  simp only [w0, w1, w2, w3]
  refine ⟨_, rfl, _, rfl, _, rfl, _, rfl, _, rfl, _, rfl, _, rfl, ⟨_, qb hr, ?_⟩⟩
  rw [qKY p1, qKY p3, qKY p5]
  have m : (x0 / 4294967296 + x1 % 4294967296 % 18446744073709551616) % 18446744073709551616 = x0 / 4294967296 + x1 % 4294967296 := by omega
  rw [m]
  have m2 : (x0 / 4294967296 + x1 % 4294967296 + x2 % 4294967296 % 18446744073709551616) % 18446744073709551616 = x0 / 4294967296 + x1 % 4294967296 + x2 % 4294967296 := by omega
  rw [m2]
  have hi : (((x3 + x1 / 4294967296) % 18446744073709551616 + x2 / 4294967296) % 18446744073709551616 + (x0 / 4294967296 + x1 % 4294967296 + x2 % 4294967296) / 4294967296) % 18446744073709551616 = ab / 18446744073709551616 := by omega
  rw [hi]
  generalize hs : x0 / 4294967296 + x1 % 4294967296 + x2 % 4294967296 = s at *
  have e5 : s * 4294967296 % 18446744073709551616 = (s % 4294967296) * 4294967296 := by omega
  have e6 : x0 % 4294967296 % 18446744073709551616 = x0 % 4294967296 := by omega
  rw [e5, e6, qWb (by omega) (by omega) (by omega) (by omega)]
  have lo : (s % 4294967296 * 4294967296 + x0 % 4294967296) % 18446744073709551616 = ab % 18446744073709551616 := by omega
  rw [lo]
  exact k

/-! ### a division, bit by bit -/
theorem qUu {by' p x m : Int} (h0 : 0 < by') (h : by' ≤ x) : (x * p + m) / by' = p + ((x - by') * p + m) / by' ∧ (x * p + m) % by' = ((x - by') * p + m) % by' := by
  have e : x * p + m = ((x - by') * p + m) + by' * p := by grind
  rw [e]
  constructor
  · rw [Int.add_mul_ediv_left _ _ (by omega)]; omega
  · rw [Int.add_mul_emod_self_left]
theorem qUc {by' : Int} (hb : 0 < by') (hb2 : by' ≤ 18446744073709551615) (h : Heap) (K : Value → Heap → Prop) : ∀ (n : Nat), n ≤ 64 → ∀ (m q rest : Int), 0 ≤ m → m < 2 ^ n → 0 ≤ q → q < 2 ^ (64 - n) → 0 ≤ rest → rest < by' →
    K (tuple #[int .u64 (q * 2 ^ n + (rest * 2 ^ n + m) / by'), .bool ((rest * 2 ^ n + m) % by' != 0), .bool true]) h →
    qBY (m * 2 ^ (64 - n)) by' q rest ((64 - n : Nat) : Int) h K := by
  intro n
  induction n with
  | zero =>
    intro _ m q rest m1 m2 q1 q2 r1 r2 k
    refine qHe _ _ _ _ _ _ _ ?_
    unfold qFS
    refine Br.no (by decide) (Ret.mk ?_)
    have m0 : m = 0 := by simp at m2; omega
    subst m0
    simp only [Int.pow_zero, Int.mul_one, Int.add_zero] at k
    rw [Int.ediv_eq_zero_of_lt r1 r2, Int.emod_eq_of_lt r1 r2, Int.add_zero] at k
    exact k
  | succ n ih =>
    intro hn m q rest m1 m2 q1 q2 r1 r2 k
    -- the parts
    have pw : (2 : Int) ^ (n + 1) = 2 ^ n * 2 := Int.pow_succ 2 n
    have e64 : 64 - n = (64 - (n + 1)) + 1 := by omega
    have pv : (2 : Int) ^ (64 - n) = 2 ^ (64 - (n + 1)) * 2 := by rw [e64, Int.pow_succ]
    have pp : (2 : Int) ^ n * 2 ^ (64 - n) = 18446744073709551616 := by
      rw [← Int.pow_add, show n + (64 - n) = 64 from by omega]; decide
    have pn : (0 : Int) < 2 ^ n := Int.pow_pos (by decide)
    have pq : (0 : Int) < 2 ^ (64 - (n + 1)) := Int.pow_pos (by decide)
    rw [pw] at m2
    generalize hP : (2 : Int) ^ n = p at *
    generalize hQ : (2 : Int) ^ (64 - (n + 1)) = s at *
    -- the top bit and what is below
    have hc : m / p = 0 ∨ m / p = 1 := by
      have : m / p < 2 := Int.ediv_lt_of_lt_mul pn (by omega)
      have : 0 ≤ m / p := Int.ediv_nonneg m1 (by omega)
      omega
    have hm : m = (m / p) * p + m % p := by have := Int.mul_ediv_add_emod m p; rw [Int.mul_comm] at this; omega
    have hm1 : 0 ≤ m % p := Int.emod_nonneg _ (by omega)
    have hm2 : m % p < p := Int.emod_lt_of_pos _ pn
    generalize hcc : m / p = c at *
    generalize hmm : m % p = m' at *
    have ps : p * s * 2 = 18446744073709551616 := by rw [← pp, pv]; grind
    have hms : 0 ≤ m' * s ∧ m' * s < p * s := ⟨Int.mul_nonneg hm1 (by omega), Int.mul_lt_mul_of_pos_right hm2 pq⟩
    have low : m * s = c * 9223372036854775808 + m' * s := by
      rw [hm]
      have : p * s = 9223372036854775808 := by omega
      rw [Int.add_mul, Int.mul_assoc, this]
    have hlow : m' * s < 9223372036854775808 := by omega
    have topbit : Int.fdiv (m * s) 9223372036854775808 = c := by
      rw [qJT _ (by omega), low]
      omega
    have next : IntKind.wrap .u64 (m * s * 2) = m' * 2 ^ (64 - n) := by
      rw [qC7, pv, low]
      have : m' * (s * 2) = m' * s * 2 := by grind
      rw [this]
      rcases hc with e | e <;> subst e <;> omega
    have cnt : IntKind.wrap .i64 (((64 - (n + 1) : Nat) : Int) + 1) = ((64 - n : Nat) : Int) := by
      rw [qO (by omega) (by omega)]; omega
    have hq2 : q * 2 + 1 < s * 2 := by omega
    have hs64 : s * 2 ≤ 18446744073709551616 := by
      have : s * 1 ≤ s * p := Int.mul_le_mul_of_nonneg_left (by omega) (by omega)
      have e : s * p = p * s := Int.mul_comm _ _
      omega
    have wq : IntKind.wrap .u64 (q * 2) = q * 2 := qCR (by omega) (by omega)
    have qbit : IntKind.wrap .u64 ((BitVec.ofInt 64 (q * 2) ||| BitVec.ofInt 64 1).toNat : Int) = q * 2 + 1 := by
      rw [qTz (by omega) (by omega) (by omega) (by omega) (by omega), qCR (by omega) (by omega)]
    refine qHe _ _ _ _ _ _ _ ?_
    unfold qFS
    have eb : IntKind.bits IntKind.u64 = 64 := rfl
    have e1 : min (Int.toNat 1) 64 = 1 := by decide
    have e63 : min (Int.toNat 63) 64 = 63 := by decide
    have e2 : (2 : Int) ^ 63 = 9223372036854775808 := by decide
    have e3 : (2 : Int) ^ 1 = 2 := by decide
    simp only [eb, e1, e63, e2, e3, topbit, next, cnt, wq, qbit]
    have hc0 : 0 ≤ c ∧ c < 2 := by omega
    have rbit : IntKind.wrap .u64 ((BitVec.ofInt 64 (IntKind.wrap .u64 (rest * 2)) ||| BitVec.ofInt 64 c).toNat : Int) = (rest * 2 + c) % 18446744073709551616 := by
      rw [qC7 (rest * 2), qTz (by omega) (by omega) (by omega) (by omega) (by omega), qC7]
      omega
    simp only [rbit]
    have big : q * (p * 2) + (rest * (p * 2) + m) / by' = q * 2 * p + ((rest * 2 + c) * p + m') / by' ∧ (rest * (p * 2) + m) % by' = ((rest * 2 + c) * p + m') % by' := by
      have : rest * (p * 2) + m = (rest * 2 + c) * p + m' := by rw [hm]; grind
      rw [this]
      exact ⟨by grind, rfl⟩
    rw [pw, big.1, big.2] at k
    refine Br.yes (decide_eq_true (by omega)) ?_
    have step1 : by' ≤ rest * 2 + c → qBY (m' * 2 ^ (64 - n)) by' (q * 2 + 1) (rest * 2 + c - by') ((64 - n : Nat) : Int) h K := by
      intro hge
      obtain ⟨d1, d2⟩ := qUu (p := p) (m := m') hb hge
      refine ih (by omega) m' (q * 2 + 1) (rest * 2 + c - by') hm1 hm2 (by omega) (by rw [pv]; omega) (by omega) (by omega) ?_
      rw [d1, d2] at k
      have : q * 2 * p + (p + ((rest * 2 + c - by') * p + m') / by') = (q * 2 + 1) * p + ((rest * 2 + c - by') * p + m') / by' := by grind
      rw [← this]; exact k
    refine Br.dec (fun ho => ?_) (fun ho => Br.dec (fun hge => ?_) (fun hlt => ?_))
    · have e : IntKind.wrap .u64 ((rest * 2 + c) % 18446744073709551616 - by') = rest * 2 + c - by' := by rw [qC7]; omega
      rw [e]; exact step1 (by omega)
    · have e : IntKind.wrap .u64 ((rest * 2 + c) % 18446744073709551616 - by') = rest * 2 + c - by' := by rw [qC7]; omega
      rw [e]; exact step1 (by omega)
    · have e : (rest * 2 + c) % 18446744073709551616 = rest * 2 + c := by omega
      rw [e] at hlt ⊢
      exact ih (by omega) m' (q * 2) (rest * 2 + c) hm1 hm2 (by omega) (by rw [pv]; omega) (by omega) (by omega) k
theorem qSV {high lower by' : Int} (hh : U64 high) (hl : U64 lower) (hb : U64 by') (h : Heap) (K : Value → Heap → Prop)
    (k1 : high ≥ by' → K (tuple #[int .u64 0, .bool false, .bool false]) h)
    (k2 : high < by' → K (tuple #[int .u64 ((high * 18446744073709551616 + lower) / by'), .bool ((high * 18446744073709551616 + lower) % by' != 0), .bool true]) h) :
    CallA Tryz.prog qGJ [int .u64 high, int .u64 lower, int .u64 by'] h K := by
  refine qNW _ _ _ _ _ ?_
  unfold qIk
  refine Br.dec (fun hg => Ret.mk (k1 hg)) (fun hg => ?_)
  have hlt : high < by' := by omega
  have e64 : (2 : Int) ^ 64 = 18446744073709551616 := by decide
  have e := qUc (by' := by') (by unfold U64 at *; omega) hb.2 h K 64 (by omega) lower 0 high hl.1 (by rw [e64]; have := hl.2; omega) (by omega) (by decide) hh.1 hlt
  rw [e64] at e
  simp only [Nat.sub_self, Int.pow_zero, Int.mul_one, Int.zero_mul, Int.zero_add] at e
  exact e (k2 hlt)

/-! ### a product, parted -/
def dv (n c : Int) (up : Bool) : Int := if up then -((-n) / c) else n / c
def md (a b c : Int) (up : Bool) : Int × Int := if c < 1 then (0, 1) else fit (dv (a * b) c up)
theorem natAbs_mul (a b : Int) : (a.natAbs : Int) * b.natAbs = ((a * b).natAbs : Int) := by rw [Int.natAbs_mul]; simp
theorem qNI {n c : Int} (hc : 0 < c) (h : n % c ≠ 0) : (-n) / c = -(n / c) - 1 := by
  have h1 := Int.mul_ediv_add_emod n c
  have h2 := Int.emod_nonneg n (show c ≠ 0 by omega)
  have h3 := Int.emod_lt_of_pos n hc
  have : -n = (c - n % c) + c * (-(n / c) - 1) := by
    have : c * (-(n / c) - 1) = -(c * (n / c)) - c := by grind
    omega
  rw [this, Int.add_mul_ediv_left _ _ (by omega), Int.ediv_eq_zero_of_lt (by omega) (by omega)]
  omega
theorem qMK {n c : Int} (hc : 0 < c) (h : n % c = 0) : (-n) / c = -(n / c) := by
  have h1 := Int.mul_ediv_add_emod n c
  have : -n = c * (-(n / c)) := by
    have : c * (-(n / c)) = -(c * (n / c)) := by grind
    omega
  rw [this, Int.mul_ediv_cancel_left _ (by omega)]
theorem qVd {a b : Int} : (a * b < 0 → (a < 0 ∧ 0 < b) ∨ (0 < a ∧ b < 0)) ∧ (0 < a * b → (a < 0 ∧ b < 0) ∨ (0 < a ∧ 0 < b)) := by
  constructor
  · intro h
    rcases Int.lt_trichotomy a 0 with h1 | h1 | h1 <;> rcases Int.lt_trichotomy b 0 with h2 | h2 | h2
    · have := Int.mul_pos_of_neg_of_neg h1 h2; omega
    · subst h2; simp at h
    · exact .inl ⟨h1, h2⟩
    · subst h1; simp at h
    · subst h1; simp at h
    · subst h1; simp at h
    · exact .inr ⟨h1, h2⟩
    · subst h2; simp at h
    · have := Int.mul_pos h1 h2; omega
  · intro h
    rcases Int.lt_trichotomy a 0 with h1 | h1 | h1 <;> rcases Int.lt_trichotomy b 0 with h2 | h2 | h2
    · exact .inl ⟨h1, h2⟩
    · subst h2; simp at h
    · have := Int.mul_neg_of_neg_of_pos h1 h2; omega
    · subst h1; simp at h
    · subst h1; simp at h
    · subst h1; simp at h
    · have := Int.mul_neg_of_pos_of_neg h1 h2; omega
    · subst h2; simp at h
    · exact .inr ⟨h1, h2⟩
theorem qTK {n c : Int} {neg up : Bool} (hc : 0 < c) (h1 : neg = true → n ≤ 0) (h2 : neg = false → 0 ≤ n) :
    dv n c up = (if neg then -1 else 1) * ((n.natAbs : Int) / c + (if ((n.natAbs : Int) % c != 0) && (neg != up) then 1 else 0)) := by
  unfold dv
  cases neg
  · have hn := h2 rfl
    have e : (n.natAbs : Int) = n := by omega
    rw [e]
    cases up
    · simp
    · by_cases hz : n % c = 0
      · simp [hz, qMK hc hz]
      · simp [hz, qNI hc hz]; omega
  · have hn := h1 rfl
    have e : (n.natAbs : Int) = -n := by omega
    rw [e]
    have hd : n % c = 0 ↔ (-n) % c = 0 := by
      rw [← Int.dvd_iff_emod_eq_zero, ← Int.dvd_iff_emod_eq_zero, Int.dvd_neg]
    cases up
    · by_cases hz : (-n) % c = 0
      · have := qMK hc hz
        rw [Int.neg_neg] at this
        simp [hz]; omega
      · have := qNI hc hz
        rw [Int.neg_neg] at this
        simp [hz]; omega
    · simp
theorem qNO {a b c : Int} (ha : I64 a) (hb : I64 b) (hcc : I64 c) (up : Bool) (h : Heap) (K : Value → Heap → Prop)
    (k : K (tuple #[int .i64 (md a b c up).1, int .i64 (md a b c up).2]) h) : CallA Tryz.prog qFd [int .i64 a, int .i64 b, int .i64 c, .bool up] h K := by
  refine qO4 _ _ _ _ _ _ ?_
  unfold qJh
  refine Br.dec (fun hc => Ret.mk ?_) (fun hc => ?_)
  · unfold md at k; rw [if_pos hc] at k; exact k
  refine qTe ha h _ ⟨_, rfl, qTe hb h _ ⟨_, rfl, ?_⟩⟩
  have wa : U64 (a.natAbs : Int) := by unfold I64 U64 at *; omega
  have wb : U64 (b.natAbs : Int) := by unfold I64 U64 at *; omega
  refine qTc wa wb h _ ⟨_, _, rfl, ?_⟩
  rw [natAbs_mul]
  have hc1 : 1 ≤ c := by omega
  have hc2 : c ≤ 9223372036854775807 := hcc.2
  have wc : IntKind.wrap .u64 c = c := qCR (by omega) (by omega)
  rw [wc]
  -- the size of the product
  have hbd : ((a * b).natAbs : Int) ≤ 85070591730234615865843651857942052864 := by
    rw [← natAbs_mul]
    have h1 : (a.natAbs : Int) ≤ 9223372036854775808 := by unfold I64 at ha; omega
    have h2 : (b.natAbs : Int) ≤ 9223372036854775808 := by unfold I64 at hb; omega
    have := Int.mul_le_mul h1 h2 (by omega) (by omega)
    omega
  have hsgn := qVd (a := a) (b := b)
  have hneg : ∀ neg, (!decide (a < 0) == decide (b < 0)) = neg → (neg = true → a * b ≤ 0) ∧ (neg = false → 0 ≤ a * b) := by
    intro neg e
    constructor
    · intro e2; subst e2
      simp at e
      by_cases x : a < 0 <;> by_cases y : b < 0 <;> simp [x, y] at e <;> rcases Int.lt_trichotomy (a * b) 0 with z | z | z <;> omega
    · intro e2; subst e2
      simp at e
      by_cases x : a < 0 <;> by_cases y : b < 0 <;> simp [x, y] at e <;> rcases Int.lt_trichotomy (a * b) 0 with z | z | z <;> omega
  generalize hN : ((a * b).natAbs : Int) = N at *
  have hN0 : 0 ≤ N := by omega
  have hmd : md a b c up = fit (dv (a * b) c up) := by unfold md; rw [if_neg hc]
  rw [hmd] at k
  generalize hng : (!decide (a < 0) == decide (b < 0)) = neg at *
  obtain ⟨n1, n2⟩ := hneg neg rfl
  have hdv := qTK (n := a * b) (c := c) (neg := neg) (up := up) (by omega) n1 n2
  rw [hN] at hdv
  have hq0 : 0 ≤ N / c := Int.ediv_nonneg hN0 (by omega)
  refine qSV (by unfold U64; omega) (by unfold U64; omega) (by unfold U64; omega) h _ (fun hg => ⟨_, _, _, rfl, ?_⟩) (fun hg => ⟨_, _, _, rfl, ?_⟩)
  · -- it doesn't fit
    refine Br.yes rfl (Ret.mk ?_)
    have hq : 18446744073709551616 ≤ N / c := by
      refine (Int.le_ediv_iff_mul_le (by omega)).2 ?_
      have := Int.mul_ediv_add_emod N 18446744073709551616
      have h5 := Int.emod_nonneg N (show (18446744073709551616 : Int) ≠ 0 by omega)
      omega
    rw [qGk (by
      unfold I64
      rw [hdv]
      cases neg <;> simp <;> split <;> omega)] at k
    exact k
  · refine Br.no rfl ?_
    have eN : N / 18446744073709551616 * 18446744073709551616 + N % 18446744073709551616 = N := by omega
    rw [eN]
    have hq1 : N / c ≤ 18446744073709551615 := by
      have : N / c < 18446744073709551616 := by
        refine Int.ediv_lt_of_lt_mul (by omega) ?_
        have := Int.mul_ediv_add_emod N 18446744073709551616
        have h5 := Int.emod_lt_of_pos N (show (0 : Int) < 18446744073709551616 by omega)
        have h6 : N / 18446744073709551616 ≤ c - 1 := by omega
        omega
      omega
    have plain : ((N % c != 0) && (neg != up)) = false → K (tuple #[int .i64 (sgn (N / c) neg).1, int .i64 (sgn (N / c) neg).2]) h := by
      intro e
      rw [e] at hdv
      have : sgn (N / c) neg = fit (dv (a * b) c up) := by
        rw [hdv]
        unfold sgn fit
        cases neg <;> simp <;> split <;> split <;> simp <;> omega
      rw [this]; exact k
    have more : ((N % c != 0) && (neg != up)) = true → (N / c = 18446744073709551615 → K (tuple #[int .i64 0, int .i64 3]) h) ∧ K (tuple #[int .i64 (sgn (N / c + 1) neg).1, int .i64 (sgn (N / c + 1) neg).2]) h := by
      intro e
      rw [e] at hdv
      constructor
      · intro e2
        rw [qGk (by unfold I64; rw [hdv, e2]; cases neg <;> simp)] at k
        exact k
      · have : sgn (N / c + 1) neg = fit (dv (a * b) c up) := by
          rw [hdv]
          unfold sgn fit
          cases neg <;> simp <;> split <;> split <;> simp <;> omega
        rw [this]; exact k
    refine Br.intro (fun e1 => Br.intro (fun e2 => ?_) (fun e2 => ?_)) (fun e1 => ?_)
    · obtain ⟨m1, m2⟩ := more (by rw [e1]; cases neg <;> cases up <;> simp at e2 ⊢)
      refine Br.intro (fun e3 => Ret.mk (m1 ?_)) (fun e3 => ?_)
      · simp only [beq_iff_eq, qC7] at e3; omega
      · simp only [beq_eq_false_iff_ne, ne_eq, qC7] at e3
        rw [qCR (by omega) (by omega)]
        exact qNa ⟨by omega, by omega⟩ neg h _ ⟨_, _, rfl, Ret.mk m2⟩
    · exact qNa ⟨hq0, hq1⟩ neg h _ ⟨_, _, rfl, Ret.mk (plain (by rw [e1]; cases neg <;> cases up <;> simp at e2 ⊢))⟩
    · exact qNa ⟨hq0, hq1⟩ neg h _ ⟨_, _, rfl, Ret.mk (plain (by rw [e1]; rfl))⟩
end Go.Proofs.YtgjeecaombnmiaaGreat

/- What many amounts come to, all together and step by step; and that the calls of the awake test answer as they must. -/
namespace Go.Proofs.YtgjeecaombnmiaaGreat
open Go Go.Sy Go.Value
set_option linter.unusedVariables false
set_option linter.unusedSimpArgs false

def q5 : List Int → Int
  | [] => 0
  | n :: l => n + q5 l
theorem qNF : ∀ l m, q5 (l ++ m) = q5 l + q5 m
  | [], m => by simp [q5]
  | n :: l, m => by simp only [List.cons_append, q5, qNF l m]; omega
def qLk (l : List Int) : Prop := ∀ n ∈ l, I64 n
theorem qLO {l : List Int} {i : Nat} (h : i < l.length) : q5 (l.take (i + 1)) = q5 (l.take i) + l[i] := by
  rw [List.take_add_one, qNF, List.getElem?_eq_getElem h]
  simp [q5]
theorem qMR {l : List Int} (h : qLk l) : ∀ i, i ≤ l.length → -(i : Int) * 9223372036854775808 ≤ q5 (l.take i) ∧ q5 (l.take i) ≤ (i : Int) * 9223372036854775808
  | 0, _ => by simp [q5]
  | i + 1, hi => by
    obtain ⟨h1, h2⟩ := qMR h i (by omega)
    rw [qLO (by omega)]
    have := h _ (List.getElem_mem (show i < l.length by omega))
    unfold I64 at this
    omega
theorem qU0 {l : List Int} (hl : l.length ≤ 1048576) (hI : qLk l) {a : Option Addr} {c : Nat} (h : Heap) (hr : Ints .i64 h a l) (K : Value → Heap → Prop)
    (k : K (tuple #[int .i64 (fit (q5 l)).1, int .i64 (fit (q5 l)).2]) h) : ∀ (d i : Nat), i + d = l.length →
    qFL (q5 (l.take i) / 18446744073709551616) (q5 (l.take i) % 18446744073709551616) a l.length c (l.length : Int) (i : Int) h K := by
  intro d
  induction d with
  | zero =>
    intro i hi
    refine qKh _ _ _ _ _ _ _ _ _ ?_
    unfold qHy
    have hb := qMR hI i (by omega)
    have e : l.take i = l := List.take_of_length_le (by omega)
    rw [e] at hb ⊢
    refine Br.no (decide_eq_false (by omega)) ?_
    have f : ∀ x : Int, Int.fdiv x 9223372036854775808 = x / 9223372036854775808 := fun x => qJT x (by omega)
    rw [f, qD3]
    generalize q5 l = s at *
    refine Br.intro (fun e1 => Ret.mk ?_) (fun e1 => Ret.mk ?_)
    · rw [qGk] at k
      · exact k
      · simp only [bne_iff_ne, ne_eq] at e1
        unfold I64
        omega
    · simp only [bne_eq_false_iff_eq] at e1
      rw [qDb (by unfold I64; omega)] at k
      rw [show (s % 18446744073709551616 + 9223372036854775808) % 18446744073709551616 - 9223372036854775808 = s from by omega]
      exact k
  | succ d ih =>
    intro i hi
    refine qKh _ _ _ _ _ _ _ _ _ ?_
    unfold qHy
    have hlt : i < l.length := by omega
    have hb := qMR hI i (by omega)
    have nx := ih (i + 1) (by omega)
    rw [qLO hlt] at nx
    have hn := hI _ (List.getElem_mem hlt)
    obtain ⟨b, o, ea, hc⟩ := hr.at hlt
    refine Br.yes (decide_eq_true (by omega)) ⟨by omega, by omega, qB ea ⟨_, by rw [Int.toNat_natCast]; exact hc, ?_⟩⟩
    have f : ∀ x : Int, Int.fdiv x 9223372036854775808 = x / 9223372036854775808 := fun x => qJT x (by omega)
    simp only [f, qC7, qD3]
    unfold I64 at hn
    generalize l[i] = x at *
    generalize hS : q5 (l.take i) = s at *
    have cnt : ((i : Int) + 1 + 9223372036854775808) % 18446744073709551616 - 9223372036854775808 = ((i + 1 : Nat) : Int) := by omega
    have lo : (s % 18446744073709551616 + x % 18446744073709551616) % 18446744073709551616 = (s + x) % 18446744073709551616 := by omega
    simp only [cnt, lo]
    refine Br.dec (fun hlt2 => ?_) (fun hge => ?_)
    · have hi2 : (((s / 18446744073709551616 + 1 + 9223372036854775808) % 18446744073709551616 - 9223372036854775808) + x / 9223372036854775808 + 9223372036854775808) % 18446744073709551616 - 9223372036854775808 = (s + x) / 18446744073709551616 := by omega
      rw [hi2]; exact nx
    · have hi2 : (s / 18446744073709551616 + x / 9223372036854775808 + 9223372036854775808) % 18446744073709551616 - 9223372036854775808 = (s + x) / 18446744073709551616 := by omega
      rw [hi2]; exact nx
theorem qWM {l : List Int} (hl : l.length ≤ 1048576) (hI : qLk l) {a : Option Addr} {c : Nat} (h : Heap) (hr : Ints .i64 h a l) (K : Value → Heap → Prop)
    (k : K (tuple #[int .i64 (fit (q5 l)).1, int .i64 (fit (q5 l)).2]) h) : CallA Tryz.prog qHF [slice a l.length c] h K := by
  refine qRd _ _ _ _ _ ?_
  unfold qLl
  have := qU0 hl hI (c := c) h hr K k l.length 0 (by omega)
  simpa [q5] using this

end Go.Proofs.YtgjeecaombnmiaaGreat

/- Bytes: a number by eight bytes, and back; texts and their bytes; and a Builder, that is told bytes and then the text. -/
namespace Go.Proofs.YtgjeecaombnmiaaGreat
open Go Go.Sy Go.Value
set_option linter.unusedVariables false
set_option linter.unusedSimpArgs false

def qFO (n : Int) (i : Nat) : Int := n / 2 ^ (8 * i) % 256
def beF (n : Int) : Nat → List Int
  | 0 => []
  | j + 1 => qFO n j :: beF n j
def be8 (n : Int) : List Int := beF n 8
theorem qUk (n : Int) (i : Nat) : 0 ≤ qFO n i ∧ qFO n i < 256 := by unfold qFO; omega
theorem qN3 (n : Int) : ∀ j, (beF n j).length = j
  | 0 => rfl
  | j + 1 => by rw [beF, List.length_cons, qN3 n j]
theorem qF0 (n : Int) : (be8 n).length = 8 := qN3 n 8
def bytes (l : List Int) : Prop := ∀ b ∈ l, 0 ≤ b ∧ b < 256
theorem qPW : bytes [] := fun _ h => by cases h
theorem qUV {a b : List Int} (x : bytes a) (y : bytes b) : bytes (a ++ b) := fun n h => (List.mem_append.1 h).elim (x n) (y n)
theorem qV6 (n : Int) : ∀ j, bytes (beF n j)
  | 0 => qPW
  | j + 1 => fun b h => by
    rcases List.mem_cons.1 h with rfl | h
    · exact qUk n j
    · exact qV6 n j b h
theorem qWD (n : Int) : bytes (be8 n) := qV6 n 8
theorem qS2 (n : Int) (j : Nat) (hj : j ≤ 7) : IntKind.wrap IntKind.u8 (Int.fdiv n (2 ^ min (Int.toNat (IntKind.wrap IntKind.i64 (8 * (j : Int)))) 64)) = qFO n j := by
  rw [qO (by omega) (by omega), qOe, show min (Int.toNat (8 * (j : Int))) 64 = 8 * j by omega, qJT _ (Int.le_of_lt (Int.pow_pos (by decide)))]
  rfl
theorem qPD {x y k : Int} (h : x = y + k * 18446744073709551616) : IntKind.wrap IntKind.i64 x = IntKind.wrap IntKind.i64 y := by
  rw [qD3, qD3]; omega
theorem qPP (x : Int) : ∃ k, IntKind.wrap IntKind.i64 x = x + k * 18446744073709551616 := ⟨-((x + 9223372036854775808) / 18446744073709551616), by rw [qD3]; omega⟩
theorem qVN {a b : Int} (hb : 0 ≤ b ∧ b < 256) :
    IntKind.wrap IntKind.i64 ((BitVec.toNat (BitVec.ofInt 64 (IntKind.wrap IntKind.i64 (a * 256)) ||| BitVec.ofInt 64 (IntKind.wrap IntKind.i64 b)) : Nat) : Int) = IntKind.wrap IntKind.i64 (a * 256 + b) := by
  obtain ⟨k, hk⟩ := qPP (a * 256)
  rw [hk, qO (n := b) (by omega) (by omega), BitVec.toNat_or, BitVec.toNat_ofInt, BitVec.toNat_ofInt]
  have e2 : (b % (2 ^ 64 : Nat)).toNat = b.toNat := by
    rw [Int.emod_eq_of_lt hb.1 (by have : ((2 ^ 64 : Nat) : Int) = 18446744073709551616 := by decide
                                   omega)]
  obtain ⟨y, hy⟩ : ∃ y : Nat, ((a * 256 + k * 18446744073709551616) % (2 ^ 64 : Nat)).toNat = 2 ^ 8 * y ∧ (2 ^ 8 * y : Int) = (a * 256) % 18446744073709551616 := by
    have e : ((2 ^ 64 : Nat) : Int) = 18446744073709551616 := by decide
    rw [e]
    refine ⟨((a * 256) % 18446744073709551616 / 256).toNat, ?_, ?_⟩
    · have : (a * 256 + k * 18446744073709551616) % 18446744073709551616 = (a * 256) % 18446744073709551616 := by omega
      rw [this]; omega
    · omega
  rw [e2, hy.1]
  have hlt : b.toNat < 2 ^ 8 := by omega
  rw [← Nat.two_pow_add_eq_or_of_lt hlt]
  have h2 := hy.2
  refine qPD (k := -((a * 256) / 18446744073709551616)) ?_
  have : ((2 ^ 8 * y + b.toNat : Nat) : Int) = (2 ^ 8 * y : Int) + b := by
    rw [Int.natCast_add]
    have : ((2 ^ 8 * y : Nat) : Int) = (2 ^ 8 * y : Int) := by simp
    omega
  rw [this, h2]; omega
def qOt : Int → List Int → Int
  | a, [] => a
  | a, b :: l => qOt (IntKind.wrap IntKind.i64 (a * 256 + b)) l
theorem qRb (n p : Int) (hp : 0 < p) : n % (p * 256) = n % p + p * (n / p % 256) := by
  have h1 := Int.mul_ediv_add_emod n p
  have h2 := Int.mul_ediv_add_emod (n / p) 256
  have h3 := Int.emod_nonneg n (Int.ne_of_gt hp)
  have h4 := Int.emod_lt_of_pos n hp
  have h5 : 0 ≤ n / p % 256 ∧ n / p % 256 < 256 := by omega
  have e : n = (n % p + p * (n / p % 256)) + (p * 256) * (n / p / 256) := by
    have : p * (256 * (n / p / 256) + n / p % 256) + n % p = n := by rw [h2, h1]
    rw [Int.mul_add, ← Int.mul_assoc] at this
    omega
  have h6 : 0 ≤ p * (n / p % 256) := Int.mul_nonneg (by omega) h5.1
  have h7 : p * (n / p % 256) ≤ p * 255 := Int.mul_le_mul_of_nonneg_left (by omega) (by omega)
  have key : (n % p + p * (n / p % 256)) % (p * 256) = n % p + p * (n / p % 256) := Int.emod_eq_of_lt (by omega) (by omega)
  have e2 : n % (p * 256) = ((n % p + p * (n / p % 256)) + (p * 256) * (n / p / 256)) % (p * 256) := by rw [← e]
  rw [e2, Int.add_mul_emod_self_left, key]
theorem qRt (n : Int) : ∀ (j : Nat) (a : Int), qOt (IntKind.wrap IntKind.i64 a) (beF n j) = IntKind.wrap IntKind.i64 (a * 256 ^ j + n % 256 ^ j)
  | 0, a => by
    show IntKind.wrap IntKind.i64 a = IntKind.wrap IntKind.i64 (a * 1 + n % 1)
    rw [Int.mul_one, Int.emod_one, Int.add_zero]
  | j + 1, a => by
    rw [beF, qOt]
    have e1 : IntKind.wrap IntKind.i64 (IntKind.wrap IntKind.i64 a * 256 + qFO n j) = IntKind.wrap IntKind.i64 (a * 256 + qFO n j) := by
      obtain ⟨k, hk⟩ := qPP a
      rw [hk]
      exact qPD (k := k * 256) (by rw [Int.add_mul]; omega)
    rw [e1, qRt n j]
    have hp : (0 : Int) < 256 ^ j := Int.pow_pos (by decide)
    have e2 : qFO n j = n / 256 ^ j % 256 := by
      unfold qFO
      rw [show (2 : Int) ^ (8 * j) = 256 ^ j from by rw [Int.pow_mul]; rfl]
    rw [Int.pow_succ, qRb n _ hp, ← e2, Int.add_mul]
    congr 1
    rw [Int.mul_comm (256 ^ j) (qFO n j), Int.mul_comm (256 ^ j) 256, ← Int.mul_assoc]
    omega
theorem qWh {n : Int} (h : I64 n) : qOt 0 (be8 n) = n := by
  have := qRt n 8 0
  rw [show IntKind.wrap IntKind.i64 0 = 0 from rfl] at this
  unfold be8
  rw [this, Int.zero_mul, Int.zero_add, show (256 : Int) ^ 8 = 18446744073709551616 from rfl]
  obtain ⟨h1, h2⟩ := h
  rw [qD3]; omega
/-! texts and their bytes -/
theorem qOL : ∀ (l : List Int) (s : ByteArray), (l.foldl (fun s n => s.push (UInt8.ofNat n.toNat)) s).data.toList = s.data.toList ++ l.map fun n => UInt8.ofNat n.toNat
  | [], s => by simp
  | n :: l, s => by
    rw [List.foldl_cons, qOL l]
    simp
theorem qQK {l : List Int} (h : bytes l) : qA8 (qH7 l) = l := by
  unfold qA8 qH7
  rw [qOL]
  simp only [List.map_append, List.map_map]
  show [] ++ _ = l
  rw [List.nil_append]
  have : ∀ n ∈ l, ((fun b : UInt8 => (b.toNat : Int)) ∘ fun n : Int => UInt8.ofNat n.toNat) n = n := fun n hn => by
    obtain ⟨h1, h2⟩ := h n hn
    show ((UInt8.ofNat n.toNat).toNat : Int) = n
    rw [UInt8.toNat_ofNat', Nat.mod_eq_of_lt (by omega)]; omega
  rw [List.map_congr_left this, List.map_id'']
  exact fun _ => rfl
theorem qGb (s : ByteArray) : (qA8 s).length = s.size := by unfold qA8; rw [List.length_map]; rfl
theorem qTI (s : ByteArray) (i : Nat) (c : UInt8) (h : s[i]? = some c) : (qA8 s)[i]? = some (c.toNat : Int) := by
  unfold qA8
  rw [List.getElem?_map]
  have : s.data.toList[i]? = some c := by
    rw [Array.getElem?_toList]
    have h2 : i < s.size := by
      rcases Nat.lt_or_ge i s.size with h3 | h3
      · exact h3
      · rw [getElem?_neg s i (by omega)] at h; cases h
    rw [getElem?_pos s i h2] at h
    have h3 : i < s.data.size := h2
    rw [Array.getElem?_eq_getElem h3]
    exact h
  rw [this]; rfl
theorem qSL (s : ByteArray) {i : Nat} (h : i < s.size) : ∃ c : UInt8, s[i]? = some c ∧ (qA8 s)[i]? = some (c.toNat : Int) := ⟨s[i], getElem?_pos s i h, qTI s i _ (getElem?_pos s i h)⟩
theorem qHv (s : ByteArray) (a b : Nat) : qA8 (s.extract a b) = ((qA8 s).take b).drop a := by
  unfold qA8
  rw [ByteArray.data_extract, Array.toList_extract, List.extract_eq_take_drop, ← List.map_take, ← List.map_drop, List.take_drop]
  by_cases h : a ≤ b
  · rw [show a + (b - a) = b by omega]
  · rw [show a + (b - a) = a by omega]
    rw [List.drop_eq_nil_of_le (by rw [List.length_take]; omega), List.drop_eq_nil_of_le (by rw [List.length_take]; omega)]
end Go.Proofs.YtgjeecaombnmiaaGreat

/- Instructions: what a book knows, plainly. -/
namespace Go.Proofs.YtgjeecaombnmiaaGreat
open Go Go.Sy Go.Value
set_option linter.unusedVariables false
set_option linter.unusedSimpArgs false

structure Dl where
  id : Int
  a : Int
  b : Int
  sc : Int
  bc : Int
  sell : Int
  buy : Int
structure En where
  d : Dl
  st : Int
  ask : Int
  ord : Int
structure Bk where
  mem : Int
  cur : Int
  L : List En
  mat : Nat
def eqD (d e : Dl) : Bool := (d.id == e.id) && ((d.a == e.a) && ((d.b == e.b) && ((d.sc == e.sc) && ((d.bc == e.bc) && ((d.sell == e.sell) && ((d.buy == e.buy) && true))))))
def qKE (a b m : Int) : Bool := decide (0 ≤ a ∧ 0 ≤ b ∧ a < m ∧ b < m ∧ a ≠ b)
def qJF (mem cur : Int) (d : Dl) : Prop := 1 ≤ d.id ∧ d.id ≤ 2147483647 ∧ qKE d.a d.b mem = true ∧ qKE d.sc d.bc cur = true ∧ 1 ≤ d.sell ∧ 1 ≤ d.buy
instance (mem cur : Int) (d : Dl) : Decidable (qJF mem cur d) := by unfold qJF; infer_instance
def qJ8 (d : Dl) : Dl := ⟨d.id, d.b, d.a, d.bc, d.sc, d.buy, d.sell⟩
def qAf (id : Int) : List En → Option Nat
  | [] => none
  | x :: l => if x.d.id = id then some 0 else (qAf id l).map (· + 1)
theorem qGt {id : Int} : ∀ {l : List En} {i : Nat}, qAf id l = some i → ∃ x, l[i]? = some x ∧ x.d.id = id
  | [], i, h => by cases h
  | x :: l, i, h => by
    rw [qAf] at h
    split at h
    · rename_i g; cases h; exact ⟨x, rfl, g⟩
    · cases hp : qAf id l with
      | none => rw [hp] at h; cases h
      | some j =>
        rw [hp] at h; cases h
        obtain ⟨y, e, g⟩ := qGt hp
        exact ⟨y, e, g⟩
theorem qPJ {id : Int} : ∀ {l : List En}, qAf id l = none → ∀ x ∈ l, x.d.id ≠ id
  | [], _, x, hx => by cases hx
  | y :: l, h, x, hx => by
    rw [qAf] at h
    split at h
    · cases h
    · rename_i g
      have hp : qAf id l = none := by
        cases hp : qAf id l with
        | none => rfl
        | some j => rw [hp] at h; cases h
      rcases List.mem_cons.1 hx with rfl | hx
      · exact g
      · exact qPJ hp x hx
theorem qRL {id : Int} : ∀ (l l' : List En), qAf id (l ++ l') = match qAf id l with
    | some i => some i
    | none => (qAf id l').map (· + l.length)
  | [], l' => by
    show qAf id l' = (qAf id l').map (· + 0)
    cases qAf id l' <;> rfl
  | x :: l, l' => by
    rw [List.cons_append, qAf, qAf]
    split
    · rfl
    · rw [qRL l l']
      cases hp : qAf id l with
      | some i => rfl
      | none =>
        cases hq : qAf id l' with
        | none => rfl
        | some j => show some (j + l.length + 1) = some (j + (l.length + 1)); rfl
theorem qPB {id : Int} (l : List En) (y : En) (h : qAf y.d.id l = none) : qAf id (l ++ [y]) = if id = y.d.id then some l.length else qAf id l := by
  rw [qRL]
  by_cases g : id = y.d.id
  · subst g
    rw [h, if_pos rfl]
    show (if y.d.id = y.d.id then some 0 else _ : Option Nat).map _ = _
    rw [if_pos rfl]
    show some (0 + l.length) = _
    rw [Nat.zero_add]
  · rw [if_neg g]
    cases hp : qAf id l with
    | some i => rfl
    | none =>
      show (if y.d.id = id then some 0 else (qAf id []).map (· + 1) : Option Nat).map _ = _
      rw [if_neg (fun e => g e.symm)]; rfl
theorem qP1 {id : Int} : ∀ {l l' : List En}, l.map (fun x => x.d.id) = l'.map (fun x => x.d.id) → qAf id l = qAf id l'
  | [], [], _ => rfl
  | [], _ :: _, h => by cases h
  | _ :: _, [], h => by cases h
  | x :: l, y :: l', h => by
    simp only [List.map_cons, List.cons.injEq] at h
    rw [qAf, qAf, h.1, qP1 h.2]
theorem map_set {β : Type} (f : En → β) {l : List En} {i : Nat} {x y : En} (hx : l[i]? = some x) (e : f y = f x) : (l.set i y).map f = l.map f := by
  refine List.ext_getElem? fun j => ?_
  rw [List.getElem?_map, List.getElem?_map, List.getElem?_set]
  split
  · rename_i g
    subst g
    have hi := (List.getElem?_eq_some_iff.1 hx).1
    rw [if_pos hi, hx]
    simp [e]
  · rfl
theorem qKo {id : Int} {l : List En} {i : Nat} {x y : En} (hx : l[i]? = some x) (e : y.d = x.d) : qAf id (l.set i y) = qAf id l := qP1 (map_set (fun z => z.d.id) hx (by rw [e]))

/-! what is asked of it -/
def qC6 (S : Bk) (d : Dl) : Bool × Int × Bk :=
  if qJF S.mem S.cur d then
    match qAf d.id S.L with
    | none => if S.L.length = 200 then (false, 4, S) else (false, 0, { S with L := S.L ++ [⟨d, 1, 0, 0⟩] })
    | some i => match S.L[i]? with
      | none => (false, 0, S)
      | some x => if x.st ≠ 1 ∨ x.d.a = d.a then (false, 6, S) else if eqD x.d (qJ8 d) = false then (false, 12, S)
        else (true, 0, { S with L := S.L.set i { x with st := 2, ord := (S.mat : Int) + 1 }, mat := S.mat + 1 })
  else (false, 1, S)
def qBd (S : Bk) (id : Int) : Int × Bk :=
  match qAf id S.L with
  | none => (5, S)
  | some i => match S.L[i]? with
    | none => (5, S)
    | some x => if x.st ≠ 2 then (7, S) else (0, { S with L := S.L.set i { x with st := 3 } })
def qZF (m : Int) (x : En) : Bool := decide (x.st < 3 ∧ (x.d.a = m ∨ x.d.b = m))
def qK9 (m : Int) (x : En) : En := if qZF m x then { x with st := 4 } else x
def qV0 (m : Int) (L : List En) : List En := L.map (qK9 m)
def qGL (S : Bk) (id : Int) : Option En := (qAf id S.L).bind fun i => S.L[i]?
def qBX (S : Bk) (id : Int) : Int := match qGL S id with
  | some x => x.st
  | none => 0
def qf (S : Bk) (s : Int) : List Int :=
  if s = 2 then ((List.range S.mat).flatMap fun (n : Nat) => S.L.filter fun x => decide (x.ord = (n : Int) + 1 ∧ x.st = 2)).map fun x => x.d.id
  else (S.L.filter fun x => decide (x.st = s)).map fun x => x.d.id

/-! what always holds -/
def couldE (x : En) : Prop := (x.st = 1 ∧ x.ask = 0 ∧ x.ord = 0) ∨ ((x.st = 2 ∨ x.st = 3) ∧ 0 ≤ x.ask ∧ x.ask < 3 ∧ 0 < x.ord) ∨ (x.st = 4 ∧ 0 ≤ x.ask ∧ x.ask ≤ 3 ∧ 0 ≤ x.ord ∧ (0 < x.ord ∨ x.ask = 0))
instance (x : En) : Decidable (couldE x) := by unfold couldE; infer_instance
def qBV (L : List En) : List Int := (L.map fun x => x.ord).filter fun n => decide (0 < n)
def qG5 (n : Nat) : List Int := (List.range n).map fun (k : Nat) => (k : Int) + 1
structure Bk.Ok (S : Bk) : Prop where
  m1 : 1 ≤ S.mem ∧ S.mem ≤ 16
  c1 : 1 ≤ S.cur ∧ S.cur ≤ 8
  n : S.L.length ≤ 200
  may : ∀ x ∈ S.L, qJF S.mem S.cur x.d
  i64 : ∀ x ∈ S.L, x.d.sell ≤ 9223372036854775807 ∧ x.d.buy ≤ 9223372036854775807
  nd : ∀ i x, S.L[i]? = some x → qAf x.d.id S.L = some i
  could : ∀ x ∈ S.L, couldE x
  ords : (qBV S.L).Perm (qG5 S.mat)
theorem qP7 (n : Nat) : (qG5 n).length = n := by unfold qG5; rw [List.length_map, List.length_range]
theorem qT9 {n : Nat} {x : Int} : x ∈ qG5 n ↔ 1 ≤ x ∧ x ≤ (n : Int) := by
  unfold qG5
  rw [List.mem_map]
  constructor
  · rintro ⟨m, hm, rfl⟩
    rw [List.mem_range] at hm; omega
  · intro h
    exact ⟨(x - 1).toNat, by rw [List.mem_range]; omega, by omega⟩
theorem qRi (n : Nat) : (qG5 n).Nodup := by
  unfold qG5
  rw [List.Nodup, List.pairwise_map]
  exact List.Pairwise.imp (fun h e => h (by omega)) List.nodup_range
theorem qTT (n : Nat) : qG5 (n + 1) = qG5 n ++ [(n : Int) + 1] := by
  unfold qG5
  rw [List.range_succ, List.map_append]; rfl
theorem qPT {L : List En} {v : Int} : v ∈ qBV L ↔ ∃ x ∈ L, x.ord = v ∧ 0 < v := by
  unfold qBV
  rw [List.mem_filter, List.mem_map]
  simp only [decide_eq_true_eq]
  constructor
  · rintro ⟨⟨x, hx, rfl⟩, h⟩; exact ⟨x, hx, rfl, h⟩
  · rintro ⟨x, hx, rfl, h⟩; exact ⟨⟨x, hx, rfl⟩, h⟩
theorem qMW (a b : List En) : qBV (a ++ b) = qBV a ++ qBV b := by
  unfold qBV
  rw [List.map_append, List.filter_append]
theorem qUJ (L : List En) : (qBV L).length ≤ L.length := by
  unfold qBV
  have := List.length_filter_le (fun n : Int => decide (0 < n)) (L.map fun x => x.ord)
  rwa [List.length_map] at this
section
variable {S : Bk}
theorem Bk.Ok.mat (o : S.Ok) : S.mat ≤ 200 := by
  have := o.ords.length_eq
  rw [qP7] at this
  have := qUJ S.L
  have := o.n
  omega
theorem couldE.st {x : En} (c : couldE x) : 1 ≤ x.st ∧ x.st ≤ 4 := by unfold couldE at c; omega
theorem couldE.ask {x : En} (c : couldE x) : 0 ≤ x.ask ∧ x.ask ≤ 3 := by unfold couldE at c; omega
theorem couldE.ord {x : En} (c : couldE x) : 0 ≤ x.ord := by unfold couldE at c; omega
theorem Bk.Ok.ord (o : S.Ok) {x : En} (hx : x ∈ S.L) : 0 ≤ x.ord ∧ x.ord ≤ (S.mat : Int) := by
  refine ⟨(o.could x hx).ord, ?_⟩
  by_cases h : 0 < x.ord
  · exact (qT9.1 (o.ords.mem_iff.1 (qPT.2 ⟨x, hx, rfl, h⟩))).2
  · omega
theorem Bk.Ok.get (o : S.Ok) {id : Int} {i : Nat} (h : qAf id S.L = some i) : ∃ x, S.L[i]? = some x ∧ x.d.id = id ∧ x ∈ S.L := by
  obtain ⟨x, e, g⟩ := qGt h
  exact ⟨x, e, g, List.mem_of_getElem? e⟩
theorem Bk.Ok.snoc (o : S.Ok) {d : Dl} (h : qJF S.mem S.cur d) (hi : d.sell ≤ 9223372036854775807 ∧ d.buy ≤ 9223372036854775807) (hn : S.L.length < 200) (hp : qAf d.id S.L = none) : ({ S with L := S.L ++ [⟨d, 1, 0, 0⟩] } : Bk).Ok := by
  refine { m1 := o.m1, c1 := o.c1, n := by simp; omega, may := fun x hx => ?_, i64 := fun x hx => ?_, nd := fun i x hx => ?_, could := fun x hx => ?_, ords := ?_ }
  · rcases List.mem_append.1 hx with hx | hx
    · exact o.may x hx
    · rw [List.mem_singleton] at hx; subst hx; exact h
  · rcases List.mem_append.1 hx with hx | hx
    · exact o.i64 x hx
    · rw [List.mem_singleton] at hx; subst hx; exact hi
  · dsimp only at hx ⊢
    rw [qPB S.L ⟨d, 1, 0, 0⟩ hp]
    by_cases g : i < S.L.length
    · rw [List.getElem?_append_left g] at hx
      have hm := List.mem_of_getElem? hx
      rw [if_neg (fun e => qPJ hp x hm e), o.nd i x hx]
    · have hl := (List.getElem?_eq_some_iff.1 hx).1
      rw [List.length_append, List.length_singleton] at hl
      have : i = S.L.length := by omega
      subst this
      rw [List.getElem?_append_right (Nat.le_refl _), Nat.sub_self] at hx
      have hx : (⟨d, 1, 0, 0⟩ : En) = x := by simpa using hx
      subst hx
      rw [if_pos rfl]
  · rcases List.mem_append.1 hx with hx | hx
    · exact o.could x hx
    · rw [List.mem_singleton] at hx; subst hx; exact .inl ⟨rfl, rfl, rfl⟩
  · show (qBV (S.L ++ [⟨d, 1, 0, 0⟩])).Perm _
    rw [qMW]
    show (qBV S.L ++ []).Perm _
    rw [List.append_nil]; exact o.ords
theorem Bk.Ok.chg (o : S.Ok) {i : Nat} {x y : En} (hx : S.L[i]? = some x) (hd : y.d = x.d) (ho : y.ord = x.ord) (hc : couldE y) : ({ S with L := S.L.set i y } : Bk).Ok := by
  have hm := List.mem_of_getElem? hx
  have mem : ∀ z ∈ S.L.set i y, z = y ∨ z ∈ S.L := fun z hz => (List.mem_or_eq_of_mem_set hz).symm
  refine { m1 := o.m1, c1 := o.c1, n := by simpa using o.n, may := fun z hz => ?_, i64 := fun z hz => ?_, nd := fun j z hz => ?_, could := fun z hz => ?_, ords := ?_ }
  · rcases mem z hz with rfl | hz
    · rw [hd]; exact o.may x hm
    · exact o.may z hz
  · rcases mem z hz with rfl | hz
    · rw [hd]; exact o.i64 x hm
    · exact o.i64 z hz
  · dsimp only at hz ⊢
    rw [qKo hx hd]
    rw [List.getElem?_set] at hz
    split at hz
    · rename_i g
      subst g
      split at hz
      · cases hz
        rw [hd]
        exact o.nd _ x hx
      · cases hz
    · exact o.nd j z hz
  · rcases mem z hz with rfl | hz
    · exact hc
    · exact o.could z hz
  · show (qBV (S.L.set i y)).Perm _
    unfold qBV
    rw [map_set (fun z => z.ord) hx ho]
    exact o.ords
theorem Bk.Ok.match (o : S.Ok) {i : Nat} {x : En} (hx : S.L[i]? = some x) (hs : x.st = 1) : ({ S with L := S.L.set i { x with st := 2, ord := (S.mat : Int) + 1 }, mat := S.mat + 1 } : Bk).Ok := by
  have hm := List.mem_of_getElem? hx
  have hc := o.could x hm
  have ho : x.ord = 0 ∧ x.ask = 0 := by unfold couldE at hc; omega
  have mem : ∀ z ∈ S.L.set i { x with st := 2, ord := (S.mat : Int) + 1 }, z = { x with st := 2, ord := (S.mat : Int) + 1 } ∨ z ∈ S.L := fun z hz => (List.mem_or_eq_of_mem_set hz).symm
  refine { m1 := o.m1, c1 := o.c1, n := by simpa using o.n, may := fun z hz => ?_, i64 := fun z hz => ?_, nd := fun j z hz => ?_, could := fun z hz => ?_, ords := ?_ }
  · rcases mem z hz with rfl | hz
    · exact o.may x hm
    · exact o.may z hz
  · rcases mem z hz with rfl | hz
    · exact o.i64 x hm
    · exact o.i64 z hz
  · dsimp only at hz ⊢
    rw [qKo (y := { x with st := 2, ord := (S.mat : Int) + 1 }) hx rfl]
    rw [List.getElem?_set] at hz
    split at hz
    · rename_i g
      subst g
      split at hz
      · cases hz
        exact o.nd _ x hx
      · cases hz
    · exact o.nd j z hz
  · rcases mem z hz with rfl | hz
    · exact .inr (.inl ⟨.inl rfl, by dsimp only; omega, by dsimp only; omega, by dsimp only; omega⟩)
    · exact o.could z hz
  · show (qBV (S.L.set i { x with st := 2, ord := (S.mat : Int) + 1 })).Perm (qG5 (S.mat + 1))
    have hi := (List.getElem?_eq_some_iff.1 hx).1
    have hxi := (List.getElem?_eq_some_iff.1 hx).2
    have e0 := o.ords
    have es : S.L = S.L.take i ++ x :: S.L.drop (i + 1) := by
      rw [← hxi, ← List.drop_eq_getElem_cons hi, List.take_append_drop]
    have e1 : qBV S.L = qBV (S.L.take i) ++ qBV (S.L.drop (i + 1)) := by
      conv => lhs; rw [es]
      rw [qMW]
      congr 1
      unfold qBV
      rw [List.map_cons, List.filter_cons_of_neg (by simp [ho.1])]
    rw [List.set_eq_take_append_cons_drop, if_pos hi, qMW]
    have e2 : qBV ({ x with st := 2, ord := (S.mat : Int) + 1 } :: S.L.drop (i + 1)) = ((S.mat : Int) + 1) :: qBV (S.L.drop (i + 1)) := by
      unfold qBV
      rw [List.map_cons]
      exact List.filter_cons_of_pos (decide_eq_true (show (0 : Int) < (S.mat : Int) + 1 by omega))
    rw [e2, qTT]
    rw [e1] at e0
    exact List.perm_middle.trans ((List.Perm.cons _ e0).trans (List.perm_append_singleton _ _).symm)
end
end Go.Proofs.YtgjeecaombnmiaaGreat

/- Instructions: as bytes, and read from them; and those of a state in order. -/
namespace Go.Proofs.YtgjeecaombnmiaaGreat
open Go Go.Sy Go.Value
set_option linter.unusedVariables false
set_option linter.unusedSimpArgs false

/-! a number by so many bytes -/
/-! an instruction's -/
structure FitE (x : En) : Prop where
  id : 0 ≤ x.d.id ∧ x.d.id < 4294967296
  a : 0 ≤ x.d.a ∧ x.d.a < 256
  b : 0 ≤ x.d.b ∧ x.d.b < 256
  sc : 0 ≤ x.d.sc ∧ x.d.sc < 256
  bc : 0 ≤ x.d.bc ∧ x.d.bc < 256
  sell : 0 ≤ x.d.sell ∧ x.d.sell ≤ 9223372036854775807
  buy : 0 ≤ x.d.buy ∧ x.d.buy ≤ 9223372036854775807
  st : 0 ≤ x.st ∧ x.st < 256
  ask : 0 ≤ x.ask ∧ x.ask < 256
  ord : 0 ≤ x.ord ∧ x.ord < 65536
/-! a book's -/
theorem Bk.Ok.fit {S : Bk} (o : S.Ok) {x : En} (hx : x ∈ S.L) : FitE x := by
  obtain ⟨h1, h2, h3, h4, h5, h6⟩ := o.may x hx
  have h7 := o.i64 x hx
  have h8 := (o.could x hx).st
  have h9 := (o.could x hx).ask
  have h10 := o.ord hx
  have h11 := o.mat
  have h12 := o.m1
  have h13 := o.c1
  unfold qKE at h3 h4
  have h3 := of_decide_eq_true h3
  have h4 := of_decide_eq_true h4
  exact ⟨by omega, by omega, by omega, by omega, by omega, by omega, by omega, by omega, by omega, by omega⟩
/-! those of a state -/
theorem qOw : ∀ {L : List En}, (qBV L).Nodup → L.Pairwise fun x y => 0 < x.ord → x.ord ≠ y.ord
  | [], _ => .nil
  | x :: L, h => by
    by_cases g : 0 < x.ord
    · have e : qBV (x :: L) = x.ord :: qBV L := by
        unfold qBV
        rw [List.map_cons, List.filter_cons_of_pos (by simpa using g)]
      rw [e, List.nodup_cons] at h
      refine .cons (fun y hy _ he => h.1 (qPT.2 ⟨y, hy, he.symm, g⟩)) (qOw h.2)
    · have e : qBV (x :: L) = qBV L := by
        unfold qBV
        rw [List.map_cons, List.filter_cons_of_neg (by simpa using g)]
      rw [e] at h
      exact .cons (fun y hy g2 => absurd g2 g) (qOw h)
theorem qPF : ∀ {a b : List En}, a.Pairwise (fun x y => x.ord < y.ord) → b.Pairwise (fun x y => x.ord < y.ord) → (∀ x, x ∈ a ↔ x ∈ b) → a = b
  | [], [], _, _, _ => rfl
  | [], y :: b, _, _, h => by have := (h y).2 (List.mem_cons_self ..); cases this
  | x :: a, [], _, _, h => by have := (h x).1 (List.mem_cons_self ..); cases this
  | x :: a, y :: b, ha, hb, h => by
    obtain ⟨a1, a2⟩ := List.pairwise_cons.1 ha
    obtain ⟨b1, b2⟩ := List.pairwise_cons.1 hb
    have exy : x = y := by
      rcases List.mem_cons.1 ((h x).1 (List.mem_cons_self ..)) with e | hx
      · exact e
      · rcases List.mem_cons.1 ((h y).2 (List.mem_cons_self ..)) with e | hy
        · exact e.symm
        · have := b1 x hx
          have := a1 y hy
          omega
    subst exy
    congr 1
    refine qPF a2 b2 fun z => ⟨fun hz => ?_, fun hz => ?_⟩
    · rcases List.mem_cons.1 ((h z).1 (List.mem_cons_of_mem _ hz)) with e | hz2
      · subst e
        have := a1 z hz; omega
      · exact hz2
    · rcases List.mem_cons.1 ((h z).2 (List.mem_cons_of_mem _ hz)) with e | hz2
      · subst e
        have := b1 z hz; omega
      · exact hz2
theorem qLE {S : Bk} (o : S.Ok) {d : List En} (p : d.Perm (S.L.filter fun x => decide (x.st = 2))) (s : d.Pairwise fun x y => x.ord ≤ y.ord) : d.map (fun x => x.d.id) = qf S 2 := by
  unfold qf
  rw [if_pos rfl]
  congr 1
  have pw : S.L.Pairwise fun x y => 0 < x.ord → x.ord ≠ y.ord := qOw (o.ords.nodup_iff.2 (qRi _))
  have pos : ∀ x ∈ S.L, x.st = 2 → 0 < x.ord := fun x hx e => by
    have := o.could x hx
    unfold couldE at this; omega
  refine qPF ?_ ?_ fun x => ?_
  · have f : (S.L.filter fun x => decide (x.st = 2)).Pairwise fun x y => x.ord ≠ y.ord := by
      refine List.Pairwise.imp_of_mem ?_ (pw.filter _)
      intro x y hx hy h
      have hx := List.mem_filter.1 hx
      exact h (pos x hx.1 (of_decide_eq_true hx.2))
    have g : d.Pairwise fun x y => x.ord ≠ y.ord := (p.pairwise_iff (fun h => fun e => h e.symm)).2 f
    refine List.Pairwise.imp (fun {a b} (h : a.ord ≤ b.ord ∧ a.ord ≠ b.ord) => by omega) (List.Pairwise.and s g)
  · rw [List.pairwise_flatMap]
    refine ⟨fun n hn => ?_, ?_⟩
    · refine List.Pairwise.imp_of_mem ?_ (pw.filter _)
      intro x y hx hy h
      have hx := of_decide_eq_true (List.mem_filter.1 hx).2
      have hy := of_decide_eq_true (List.mem_filter.1 hy).2
      exact absurd (hx.1.trans hy.1.symm) (h (by omega))
    · refine List.Pairwise.imp ?_ List.pairwise_lt_range
      intro n m hnm x hx y hy
      have hx := of_decide_eq_true (List.mem_filter.1 hx).2
      have hy := of_decide_eq_true (List.mem_filter.1 hy).2
      omega
  · rw [p.mem_iff, List.mem_flatMap, List.mem_filter]
    constructor
    · rintro ⟨hx, e⟩
      have e := of_decide_eq_true e
      have h1 := pos x hx e
      have h2 := o.ord hx
      exact ⟨(x.ord - 1).toNat, by rw [List.mem_range]; omega, List.mem_filter.2 ⟨hx, decide_eq_true ⟨by omega, e⟩⟩⟩
    · rintro ⟨n, hn, hx⟩
      have hx := List.mem_filter.1 hx
      exact ⟨hx.1, decide_eq_true (of_decide_eq_true hx.2).2⟩
end Go.Proofs.YtgjeecaombnmiaaGreat

/- Lists in memory, read by number; new lists; errors as numbers. -/
namespace Go.Proofs.YtgjeecaombnmiaaGreat
open Go Go.Sy Go.Value
set_option linter.unusedVariables false

theorem ix {k : IntKind} {h : Heap} {a : Option Addr} {l : List Int} {N : Nat} (I : Ints k h a l) (hn : l.length = N) {j : Nat} {i : Int} (hi : i = (j : Int)) {x : Int} (hx : l[j]? = some x) {Q : Int → Prop} (kk : Q x) :
    0 ≤ i ∧ i < (N : Int) ∧ qA a fun b o => ∃ n, h.cell b (o + i.toNat) = some (.int k n) ∧ Q n := by
  subst hi hn
  have hj : j < l.length := (List.getElem?_eq_some_iff.1 hx).1
  obtain ⟨b, o, e, hc⟩ := I.at hj
  refine ⟨by omega, by omega, qB e ⟨x, ?_, kk⟩⟩
  have : l[j] = x := by rw [List.getElem?_eq_getElem hj] at hx; exact Option.some.inj hx
  rw [Int.toNat_natCast, hc, this]
theorem ix0 {k : IntKind} {h : Heap} {a : Option Addr} {l : List Int} {N : Nat} (I : Ints k h a l) (hn : l.length = N) {x : Int} (hx : l[0]? = some x) {Q : Int → Prop} (kk : Q x) :
    (0 : Int) ≤ 0 ∧ (0 : Int) < (N : Int) ∧ qA a fun b o => ∃ n, h.cell b o = some (.int k n) ∧ Q n := by
  have := ix I hn (i := 0) (j := 0) rfl hx kk
  exact this

def qY8 (b : Bool) : Int := if b then 0 else 1
theorem qSB {h : Heap} {r : Nat} {T : TypeId} {z : List Value} (hr : h r = none) : OwnL h (h.ins r (.cells [].toArray T (0, 0))) z (some ⟨r, 0, none⟩) 0 [] :=
  .inr ⟨r, [], rfl, hr, At.new h r [] T, by simp⟩
/-! rows of structs -/
def Arr {α : Type} (enc : α → List Value) (h : Heap) (p : Option Addr) (l : List α) : Prop := rdL h p (l.flatMap enc)
theorem Arr.le {α : Type} {enc : α → List Value} {h h' : Heap} {p : Option Addr} {l : List α} (a : Arr enc h p l) (e : h.le h') : Arr enc h' p l := qAV e a
theorem qBh {α : Type} {enc : α → List Value} {w : Nat} (hw : ∀ x, (enc x).length = w) (l : List α) : (l.flatMap enc).length = l.length * w := by
  induction l with
  | nil => simp
  | cons a l ih => rw [List.flatMap_cons, List.length_append, ih, hw, List.length_cons, Nat.succ_mul]; omega
theorem qKg {α : Type} {enc : α → List Value} {w : Nat} (hw : ∀ x, (enc x).length = w) : ∀ (l : List α) (j i : Nat) (x : α), l[j]? = some x → i < w → (l.flatMap enc)[j * w + i]? = (enc x)[i]?
  | [], j, _, x, h, _ => by simp at h
  | y :: l, 0, i, x, h, hi => by
    simp at h
    subst h
    rw [Nat.zero_mul, Nat.zero_add, List.flatMap_cons, List.getElem?_append_left (by rw [hw]; exact hi)]
  | y :: l, j + 1, i, x, h, hi => by
    rw [List.flatMap_cons, List.getElem?_append_right (by rw [hw, Nat.succ_mul]; omega), hw, show (j + 1) * w + i - w = j * w + i by rw [Nat.succ_mul]; omega]
    exact qKg hw l j i x (by simpa using h) hi
theorem ax {α : Type} {enc : α → List Value} {w : Nat} (hw : ∀ x, (enc x).length = w) {h : Heap} {p : Option Addr} {l : List α} {N : Nat} (C : Arr enc h p l) (hn : l.length = N) {j : Nat} {i : Int} (hi : i = (j : Int)) {x : α} (hx : l[j]? = some x) (w0 : 0 < w) {Q : Nat → Nat → Prop}
    (kk : ∀ b o, p = some ⟨b, o, none⟩ → (∀ i, i < w → h.cell b (o + (j : Int).toNat * w + i) = (enc x)[i]?) → Q b o) : 0 ≤ i ∧ i < (N : Int) ∧ qA p Q := by
  subst hi hn
  have hj : j < l.length := (List.getElem?_eq_some_iff.1 hx).1
  have hjw : (j + 1) * w ≤ l.length * w := Nat.mul_le_mul_right _ hj
  rw [Nat.succ_mul] at hjw
  rcases C with e | ⟨b, o, e, r⟩
  · have := congrArg List.length e
    rw [qBh hw, List.length_nil] at this
    omega
  · exact ⟨by omega, by omega, qB e (kk b o e fun i hi => by rw [Int.toNat_natCast, Nat.add_assoc, r _ (by rw [qBh hw]; omega), qKg hw l j i x hx hi])⟩
theorem qTm {α : Type} {enc : α → List Value} {P : α → Prop} {e : Sh} {h : Heap} {p : Option Addr} {n c : Nat} (H : (Sh.sl e).Has h [.slice p n c]) (dec : ∀ vs, e.Has h vs → ∃ x, vs = enc x ∧ P x) :
    n ≤ c ∧ c ≤ 9223372036854775807 ∧ ∃ l : List α, l.length = n ∧ Arr enc h p l ∧ ∀ x ∈ l, P x := by
  obtain ⟨h1, h2, L, hL, hA, hR⟩ := Sh.Has.list H
  refine ⟨h1, h2, ?_⟩
  have : ∀ L : List (List Value), (∀ vs ∈ L, vs.length = e.n ∧ e.Has h vs) → ∃ l : List α, l.length = L.length ∧ L.flatten = l.flatMap enc ∧ ∀ x ∈ l, P x := by
    intro L
    induction L with
    | nil => exact fun _ => ⟨[], rfl, rfl, fun _ hn => (by cases hn)⟩
    | cons a L ih =>
      intro hA
      obtain ⟨l, e1, e2, e3⟩ := ih (fun vs hv => hA vs (List.mem_cons_of_mem _ hv))
      obtain ⟨x, hx, px⟩ := dec a (hA a (List.mem_cons_self ..)).2
      refine ⟨x :: l, by simp [e1], by rw [List.flatten_cons, e2, List.flatMap_cons, hx], fun y hy => ?_⟩
      rcases List.mem_cons.1 hy with rfl | hy
      · exact px
      · exact e3 y hy
  obtain ⟨l, e1, e2, e3⟩ := this L hA
  exact ⟨l, by rw [e1, hL], by unfold Arr; rw [← e2]; exact hR, e3⟩
end Go.Proofs.YtgjeecaombnmiaaGreat
