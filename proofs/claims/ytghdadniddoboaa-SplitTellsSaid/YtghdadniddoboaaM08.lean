import Derived.Test.YtghdadniddoboaaM03
import Derived.Test.YtghdadniddoboaaM07
import Derived.Test.YtghdadniddoboaaM01
import Derived.Test.YtghdadniddoboaaM06
/- A list put in order: a permutation, sorted. -/
namespace Go.Proofs.Ytghdadniddoboaa
open Go Go.Sy Go.Value Go.Sort
set_option linter.unusedVariables false
set_option linter.unusedSimpArgs false

section
variable {g0 : Heap} {B m n c lc : Nat} {sp : List Value} {left : List Int} {lp : Option Addr} (e0 : g0 B = none) (hm : left.length = m) (I : Ints .i64 g0 lp left) (hn : n < 256)
include e0 hm I hn
theorem pdq_all : ∀ (q a b : Nat) (limit : Int) (wb wp : Bool) (d : Array Int) (h : Heap) (K : Value → Heap → Prop), b - a ≤ q → a ≤ b → b ≤ n → 0 ≤ limit + 1000 - q → limit ≤ 1000 → Da g0 B m n sp h d → Below (ltO left) a b d →
    (∀ h' d', Da g0 B m n sp h' d' → PermIn a b d d' → SortedIn (ltO left) a b d' → K (tuple #[]) h') →
    L_slices_pdqsortCmpFunc_int_0 (some ⟨B, 0, none⟩) n c (a : Int) (b : Int) limit lp m lc wb wp h K := by
  intro q
  induction q with
  | zero =>
    intro a b limit wb wp d h K hq hab hb hl1 hl2 D hB k
    have hz : d.size = n := D.sz
    refine L_slices_pdqsortCmpFunc_int_0r _ _ _ _ _ _ _ _ _ _ _ _ _ ?_
    unfold L_slices_pdqsortCmpFunc_int_0T
    have w0 : IntKind.wrap .i64 ((b : Int) - (a : Int)) = ((b - a : Nat) : Int) := by rw [wid (by omega) (by omega)]; omega
    rw [w0]
    refine Br.yes (by simp; omega) (S_insertion e0 hm I (by omega) (by omega) hb D fun h1 D1 => ⟨rfl, Ret.mk ?_⟩)
    have := insertionSort_holds (swoO left) d a b hab (by omega)
    exact k h1 _ D1 this.1 this.2
  | succ q ih =>
    intro a b limit wb wp d h K hq hab hb hl1 hl2 D hB k
    have hz : d.size = n := D.sz
    refine L_slices_pdqsortCmpFunc_int_0r _ _ _ _ _ _ _ _ _ _ _ _ _ ?_
    unfold L_slices_pdqsortCmpFunc_int_0T
    have w0 : IntKind.wrap .i64 ((b : Int) - (a : Int)) = ((b - a : Nat) : Int) := by rw [wid (by omega) (by omega)]; omega
    rw [w0]
    refine Br.dec (fun g => ?_) fun g => ?_
    · refine S_insertion e0 hm I (by omega) (by omega) hb D fun h1 D1 => ⟨rfl, Ret.mk ?_⟩
      have := insertionSort_holds (swoO left) d a b hab (by omega)
      exact k h1 _ D1 this.1 this.2
    refine Br.intro (fun _ => ?_) fun _ => ?_
    · refine S_heap e0 hm I (by omega) (by omega) hb D fun h1 D1 => ⟨rfl, Ret.mk ?_⟩
      have := heapSort_holds (swoO left) d a b hab (by omega)
      exact k h1 _ D1 this.1 this.2
    have h12 : 12 < b - a := by omega
    -- behind the patterns
    have cont : ∀ (lim : Int) (h : Heap) (d1 : Array Int), 0 ≤ lim + 1000 - q → lim ≤ 1000 → Da g0 B m n sp h d1 → PermIn a b d d1 → L_slices_pdqsortCmpFunc_int_1010 (some ⟨B, 0, none⟩) n c (a : Int) (b : Int) lim lp m lc wb wp ((b - a : Nat) : Int) h K := by
      intro lim h d1 hl3 hl4 D1 P1
      have B1 := hB.perm (by omega) P1
      refine L_slices_pdqsortCmpFunc_int_1010r _ _ _ _ _ _ _ _ _ _ _ _ _ _ ?_
      unfold L_slices_pdqsortCmpFunc_int_1010T
      -- the parts
      have part : ∀ (h : Heap) (d3 : Array Int) (pivot : Nat), Da g0 B m n sp h d3 → PermIn a b d d3 → a ≤ pivot → pivot < b → L_slices_pdqsortCmpFunc_int_1017 (some ⟨B, 0, none⟩) n c (a : Int) (b : Int) lim lp m lc wb wp ((b - a : Nat) : Int) (pivot : Int) h K := by
        intro h d3 pivot D3 P3 hp1 hp2
        have B3 := hB.perm (by omega) P3
        have hz3 : d3.size = n := D3.sz
        refine L_slices_pdqsortCmpFunc_int_1017r _ _ _ _ _ _ _ _ _ _ _ _ _ _ _ ?_
        unfold L_slices_pdqsortCmpFunc_int_1017T
        have ordinary : ∀ h, Da g0 B m n sp h d3 → CallA Try.prog fn_slices_partitionCmpFunc_int [slice (some ⟨B, 0, none⟩) n c, .int .i64 (a : Int), .int .i64 (b : Int), .int .i64 (pivot : Int), func (Fn.func fn_split_by_order) #[agg #[slice lp m lc]] #[]] h fun v h =>
            ∃ (x : Int), ∃ (y : Bool), v = tuple #[.int .i64 x, .bool y] ∧ Br (decide (IntKind.wrap .i64 (x - (a : Int)) < IntKind.wrap .i64 ((b : Int) - x)))
              (CallA Try.prog fn_slices_pdqsortCmpFunc_int [slice (some ⟨B, 0, none⟩) n c, .int .i64 (a : Int), .int .i64 x, .int .i64 lim, func (Fn.func fn_split_by_order) #[agg #[slice lp m lc]] #[]] h fun v h => v = tuple #[] ∧
                L_slices_pdqsortCmpFunc_int_0 (some ⟨B, 0, none⟩) n c (IntKind.wrap .i64 (x + 1)) (b : Int) lim lp m lc (decide (IntKind.wrap .i64 (x - (a : Int)) ≥ IntKind.wrap .i64 (Int.tdiv ((b - a : Nat) : Int) 8))) y h K)
              (CallA Try.prog fn_slices_pdqsortCmpFunc_int [slice (some ⟨B, 0, none⟩) n c, .int .i64 (IntKind.wrap .i64 (x + 1)), .int .i64 (b : Int), .int .i64 lim, func (Fn.func fn_split_by_order) #[agg #[slice lp m lc]] #[]] h fun v h => v = tuple #[] ∧
                L_slices_pdqsortCmpFunc_int_0 (some ⟨B, 0, none⟩) n c (a : Int) x lim lp m lc (decide (IntKind.wrap .i64 ((b : Int) - x) ≥ IntKind.wrap .i64 (Int.tdiv ((b - a : Nat) : Int) 8))) y h K) := by
          intro h D3
          refine S_partition e0 hm I (by omega) (by omega) hb hp1 hp2 D3 fun h4 D4 => ⟨_, _, rfl, ?_⟩
          generalize hx : partition (ltO left) d3 a b pivot = r at *
          obtain ⟨mid, ap, d4⟩ := r
          obtain ⟨g1, g2, hs4, hBa, hBr, hleft, hright⟩ := round_part (swoO left) (partition_holds (ltO left)) hp1 hp2 (by omega) B3 hx
          dsimp only at D4 ⊢
          have w1 : IntKind.wrap .i64 ((mid : Int) - (a : Int)) = ((mid - a : Nat) : Int) := by rw [wid (by omega) (by omega)]; omega
          have w2 : IntKind.wrap .i64 ((b : Int) - (mid : Int)) = ((b - mid : Nat) : Int) := by rw [wid (by omega) (by omega)]; omega
          rw [w1, w2, wp1 (by omega)]
          refine Br.intro (fun _ => ?_) fun _ => ?_
          · refine F_slices_pdqsortCmpFunc_int _ _ _ _ _ _ _ _ _ _ _ ?_
            unfold F_slices_pdqsortCmpFunc_intT
            refine ih a mid lim true true d4 h4 _ (by omega) g1 (by omega) hl3 hl4 D4 hBa fun h5 d5 D5 l1 l2 => ⟨rfl, ?_⟩
            obtain ⟨hBL, hfin⟩ := hleft _ l1 l2
            refine ih (mid + 1) b lim _ ap d5 h5 _ (by omega) (by omega) hb hl3 hl4 D5 hBL fun h6 d6 D6 r1 r2 => ?_
            obtain ⟨q1, q2⟩ := hfin _ r1 r2
            exact k h6 _ D6 (permIn_trans _ _ _ a b P3 q1) q2
          · refine F_slices_pdqsortCmpFunc_int _ _ _ _ _ _ _ _ _ _ _ ?_
            unfold F_slices_pdqsortCmpFunc_intT
            refine ih (mid + 1) b lim true true d4 h4 _ (by omega) (by omega) hb hl3 hl4 D4 hBr fun h5 d5 D5 l1 l2 => ⟨rfl, ?_⟩
            obtain ⟨hBL, hfin⟩ := hright _ l1 l2
            refine ih a mid lim _ ap d5 h5 _ (by omega) g1 (by omega) hl3 hl4 D5 hBL fun h6 d6 D6 r1 r2 => ?_
            obtain ⟨q1, q2⟩ := hfin _ r1 r2
            exact k h6 _ D6 (permIn_trans _ _ _ a b P3 q1) q2
        refine Br.dec (fun ga => ?_) fun ga => ordinary h D3
        have w1 : IntKind.wrap .i64 ((a : Int) - 1) = ((a - 1 : Nat) : Int) := by rw [wid (by omega) (by omega)]; omega
        rw [w1]
        refine lessN D3 hm I rfl rfl (by omega) (by omega) fun h' D' => Br.intro (fun g2 => ?_) fun g2 => ordinary h' D'
        refine S_partitionEqual e0 hm I (by omega) (by omega) hb hp1 hp2 D' fun h4 D4 => ⟨_, rfl, ?_⟩
        generalize hx : partitionEqual (ltO left) d3 a b pivot = r at *
        obtain ⟨mid, d4⟩ := r
        obtain ⟨m1, m2, hs4, hB4, hfin⟩ := round_eq (swoO left) (partitionEqual_holds (lt := ltO left)) (by omega) hp1 hp2 (by omega) B3 (by simpa using g2) hx
        dsimp only at D4 ⊢
        refine ih mid b lim wb wp d4 h4 _ (by omega) m2 hb hl3 hl4 D4 hB4 fun h6 d6 D6 r1 r2 => ?_
        obtain ⟨q1, q2⟩ := hfin _ r1 r2
        exact k h6 _ D6 (permIn_trans _ _ _ a b P3 q1) q2
      -- few steps
      have few : ∀ (h : Heap) (d2 : Array Int) (pivot : Nat) (hint : Int), Da g0 B m n sp h d2 → PermIn a b d d2 → a ≤ pivot → pivot < b → L_slices_pdqsortCmpFunc_int_1015 (some ⟨B, 0, none⟩) n c (a : Int) (b : Int) lim lp m lc wb wp ((b - a : Nat) : Int) (pivot : Int) hint h K := by
        intro h d2 pivot hint D2 P2 hp1 hp2
        have B2 := hB.perm (by omega) P2
        have hz2 : d2.size = n := D2.sz
        refine L_slices_pdqsortCmpFunc_int_1015r _ _ _ _ _ _ _ _ _ _ _ _ _ _ _ _ ?_
        unfold L_slices_pdqsortCmpFunc_int_1015T
        refine Br.intro (fun _ => Br.intro (fun _ => Br.intro (fun _ => ?_) fun _ => part h d2 pivot D2 P2 hp1 hp2) fun _ => part h d2 pivot D2 P2 hp1 hp2) fun _ => part h d2 pivot D2 P2 hp1 hp2
        have s := partialInsertionSort_holds (swoO left) d2 a b (by omega) (by omega) B2
        refine S_few e0 hm I (by omega) (by omega) hb D2 fun h3 D3 => ⟨_, rfl, Br.intro (fun g => Ret.mk ?_) fun g => ?_⟩
        · exact k h3 _ D3 (permIn_trans _ _ _ a b P2 s.1) (s.2 g)
        · exact part h3 _ pivot D3 (permIn_trans _ _ _ a b P2 s.1) hp1 hp2
      refine S_pivot hm I (by omega) h12 hb D1 fun h2 x hint D2 hx1 hx2 => ⟨_, _, rfl, Br.intro (fun _ => ?_) fun _ => few h2 d1 x hint D2 P1 hx1 hx2⟩
      refine S_reverse e0 (by omega) (by omega) hb D2 fun h3 D3 => ⟨rfl, ?_⟩
      have s := reverseRange_holds d1 a b hab (by have := D1.sz; omega)
      have w1 : IntKind.wrap .i64 ((b : Int) - 1) = ((b - 1 : Nat) : Int) := by rw [wid (by omega) (by omega)]; omega
      have w2 : IntKind.wrap .i64 ((x : Int) - (a : Int)) = ((x - a : Nat) : Int) := by rw [wid (by omega) (by omega)]; omega
      have w3 : IntKind.wrap .i64 (((b - 1 : Nat) : Int) - ((x - a : Nat) : Int)) = ((b - 1 - (x - a) : Nat) : Int) := by rw [wid (by omega) (by omega)]; omega
      rw [w1, w2, w3]
      exact few h3 _ _ 1 D3 (permIn_trans _ _ _ a b P1 s) (by omega) (by omega)
    refine Br.intro (fun _ => ?_) fun _ => cont limit h d (by omega) hl2 D (permIn_refl d a b)
    refine S_break e0 (by omega) (by omega) (by omega) hb D fun h1 d1 D1 P1 => ⟨rfl, ?_⟩
    rw [wid (x := limit - 1) (by omega) (by omega)]
    exact cont _ h1 d1 (by omega) (by omega) D1 P1
theorem S_sortFunc {h : Heap} {d : Array Int} {K : Value → Heap → Prop} (D : Da g0 B m n sp h d)
    (k : ∀ h' d', Da g0 B m n sp h' d' → PermIn 0 n d d' → SortedIn (ltO left) 0 n d' → K (tuple #[]) h') :
    CallA Try.prog fn_slices_SortFunc_int_int [slice (some ⟨B, 0, none⟩) n c, func (Fn.func fn_split_by_order) #[agg #[slice lp m lc]] #[]] h K := by
  refine F_slices_SortFunc_int_int _ _ _ _ _ _ _ _ ?_
  unfold F_slices_SortFunc_int_intT
  rw [wrap_u64_id (by omega) (by omega)]
  have g := (tab8_get ⟨n, hn⟩).2
  dsimp only at g
  refine S_len hn ⟨_, rfl, ?_⟩
  refine F_slices_pdqsortCmpFunc_int _ _ _ _ _ _ _ _ _ _ _ ?_
  unfold F_slices_pdqsortCmpFunc_intT
  refine pdq_all e0 hm I hn n 0 n _ true true d h _ (by omega) (by omega) (Nat.le_refl _) (by omega) (by omega) D (.inl rfl) fun h1 d1 D1 P1 s1 => ⟨rfl, Ret.mk (k h1 d1 D1 P1 s1)⟩
end
end Go.Proofs.Ytghdadniddoboaa

/- What the program's amounts come to: sums, differences, products and parts, each by its law. -/
namespace Go.Proofs.Ytghdadniddoboaa
open Go Go.Sy Go.Value
set_option linter.unusedVariables false
set_option linter.unusedSimpArgs false

theorem S_size {a : Int} (ha : I64 a) (h : Heap) (K : Value → Heap → Prop) (k : K (int .u64 (a.natAbs : Int)) h) : CallA Try.prog fn_money_size [int .i64 a] h K := by
  obtain ⟨h1, h2⟩ := ha
  refine F_money_size _ _ _ ?_
  unfold F_money_sizeT
  refine Br.dec (fun hn => Ret.mk ?_) (fun hn => Ret.mk ?_)
  · rw [wrap_u64, wrap_u64, show (0 - a % 18446744073709551616) % 18446744073709551616 = (a.natAbs : Int) from by omega]; exact k
  · rw [wrap_u64, show a % 18446744073709551616 = (a.natAbs : Int) from by omega]; exact k

/-- the amount of a size and a sign -/
def sgn (n : Int) (neg : Bool) : Int × Int := if neg then (if n ≤ 9223372036854775808 then (-n, 0) else (0, 3)) else (if n < 9223372036854775808 then (n, 0) else (0, 3))
theorem S_signed {n : Int} (hn : U64 n) (neg : Bool) (h : Heap) (K : Value → Heap → Prop) (k : K (tuple #[int .i64 (sgn n neg).1, int .i64 (sgn n neg).2]) h) :
    CallA Try.prog fn_money_signed [int .u64 n, .bool neg] h K := by
  obtain ⟨h1, h2⟩ := hn
  refine F_money_signed _ _ _ _ ?_
  unfold F_money_signedT
  cases neg
  · simp only [Br_f, Bool.not_false, Br_t, sgn, Bool.false_eq_true, if_false] at k ⊢
    refine Br.dec (fun hn => Ret.mk ?_) (fun hn => Ret.mk ?_)
    · rw [if_pos hn] at k; rw [wrap_i64_id (by omega) (by omega)]; exact k
    · rw [if_neg hn] at k; exact k
  · simp only [Br_f, Bool.not_true, Br_t, sgn, if_true] at k ⊢
    refine Br.dec (fun hn => Ret.mk ?_) (fun hn => Ret.mk ?_)
    · rw [if_pos hn] at k
      rw [show IntKind.wrap .i64 (0 - IntKind.wrap .i64 n) = -n from by rw [wrap_i64, wrap_i64]; omega]; exact k
    · rw [if_neg hn] at k; exact k

/-- Fits an amount? -/
def fit (n : Int) : Int × Int := if -9223372036854775808 ≤ n ∧ n ≤ 9223372036854775807 then (n, 0) else (0, 3)
theorem fit_ok {n : Int} (h : I64 n) : fit n = (n, 0) := if_pos h
theorem fit_over {n : Int} (h : ¬ I64 n) : fit n = (0, 3) := if_neg h
theorem S_Add {a b : Int} (ha : I64 a) (hb : I64 b) (h : Heap) (K : Value → Heap → Prop) (k : K (tuple #[int .i64 (fit (a + b)).1, int .i64 (fit (a + b)).2]) h) :
    CallA Try.prog fn_money_Add [int .i64 a, int .i64 b] h K := by
  obtain ⟨h1, h2⟩ := ha
  obtain ⟨h3, h4⟩ := hb
  refine F_money_Add _ _ _ _ ?_
  unfold F_money_AddT
  rw [wrap_i64]
  by_cases hr : I64 (a + b)
  · rw [fit_ok hr] at k
    obtain ⟨r1, r2⟩ := hr
    have e : (a + b + 9223372036854775808) % 18446744073709551616 - 9223372036854775808 = a + b := by omega
    rw [e]
    refine Br.intro (fun e1 => Br.no ?_ (Ret.mk k)) (fun _ => Ret.mk k)
    simp only [beq_iff_eq, decide_eq_decide] at e1
    by_cases x : a + b < 0 <;> by_cases y : a < 0 <;> simp [x, y] <;> omega
  · rw [fit_over hr] at k
    have hr' : a + b < -9223372036854775808 ∨ 9223372036854775807 < a + b := by unfold I64 at hr; omega
    refine Br.yes ?_ (Br.yes ?_ (Ret.mk k))
    · simp only [beq_iff_eq, decide_eq_decide]; omega
    · by_cases y : a < 0
      · have x : ¬ ((a + b + 9223372036854775808) % 18446744073709551616 - 9223372036854775808 < 0) := by omega
        simp [x, y]
      · have x : (a + b + 9223372036854775808) % 18446744073709551616 - 9223372036854775808 < 0 := by omega
        simp [x, y]
theorem S_Sub {a b : Int} (ha : I64 a) (hb : I64 b) (h : Heap) (K : Value → Heap → Prop) (k : K (tuple #[int .i64 (fit (a - b)).1, int .i64 (fit (a - b)).2]) h) :
    CallA Try.prog fn_money_Sub [int .i64 a, int .i64 b] h K := by
  obtain ⟨h1, h2⟩ := ha
  obtain ⟨h3, h4⟩ := hb
  refine F_money_Sub _ _ _ _ ?_
  unfold F_money_SubT
  rw [wrap_i64]
  by_cases hr : I64 (a - b)
  · rw [fit_ok hr] at k
    obtain ⟨r1, r2⟩ := hr
    have e : (a - b + 9223372036854775808) % 18446744073709551616 - 9223372036854775808 = a - b := by omega
    rw [e]
    refine Br.intro (fun e1 => Br.no ?_ (Ret.mk k)) (fun _ => Ret.mk k)
    by_cases x : a - b < 0 <;> by_cases y : a < 0 <;> by_cases z : b < 0 <;> simp [x, y, z] at e1 ⊢ <;> omega
  · rw [fit_over hr] at k
    have hr' : a - b < -9223372036854775808 ∨ 9223372036854775807 < a - b := by unfold I64 at hr; omega
    refine Br.yes ?_ (Br.yes ?_ (Ret.mk k))
    · by_cases y : a < 0 <;> by_cases z : b < 0 <;> simp [y, z] <;> omega
    · by_cases y : a < 0
      · have x : ¬ ((a - b + 9223372036854775808) % 18446744073709551616 - 9223372036854775808 < 0) := by omega
        simp [x, y]
      · have x : (a - b + 9223372036854775808) % 18446744073709551616 - 9223372036854775808 < 0 := by omega
        simp [x, y]
/-! ### products, of 128 bits -/
theorem prod_parts (a0 a1 b0 b1 : Int) : (a1 * 4294967296 + a0) * (b1 * 4294967296 + b0) = a1 * b1 * 18446744073709551616 + (a1 * b0 + a0 * b1) * 4294967296 + a0 * b0 := by grind
theorem mul_lt32 {x y : Int} (h1 : 0 ≤ x) (h2 : x < 4294967296) (h3 : 0 ≤ y) (h4 : y < 4294967296) : 0 ≤ x * y ∧ x * y ≤ 18446744065119617025 := by
  refine ⟨Int.mul_nonneg h1 h3, ?_⟩
  have := Int.mul_le_mul (show x ≤ 4294967295 by omega) (show y ≤ 4294967295 by omega) h3 (by omega : (0 : Int) ≤ 4294967295)
  omega
theorem S_product {a b : Int} (ha : U64 a) (hb : U64 b) (h : Heap) (K : Value → Heap → Prop)
    (k : K (tuple #[int .u64 (a * b / 18446744073709551616), int .u64 (a * b % 18446744073709551616)]) h) : CallA Try.prog fn_money_product [int .u64 a, int .u64 b] h K := by
  obtain ⟨h1, h2⟩ := ha
  obtain ⟨h3, h4⟩ := hb
  refine F_money_product _ _ _ _ ?_
  unfold F_money_productT
  intro r hr
  simp only [setN_ins, setL, setT, cell_ins_same, fdiv_pos _ (show (0 : Int) ≤ 4294967296 by omega), and_low h1, and_low h3]
  refine ⟨canSt_ins _ _ _ _ _ _ (by simp), ?_⟩
  have ea : a % 4294967296 % 18446744073709551616 = a % 4294967296 := by omega
  have eb : b % 4294967296 % 18446744073709551616 = b % 4294967296 := by omega
  simp only [wrap_u64, ea, eb]
  obtain ⟨p1, p2⟩ := mul_lt32 (x := a % 4294967296) (y := b % 4294967296) (by omega) (by omega) (by omega) (by omega)
  obtain ⟨p3, p4⟩ := mul_lt32 (x := a % 4294967296) (y := b / 4294967296) (by omega) (by omega) (by omega) (by omega)
  obtain ⟨p5, p6⟩ := mul_lt32 (x := a / 4294967296) (y := b % 4294967296) (by omega) (by omega) (by omega) (by omega)
  obtain ⟨p7, p8⟩ := mul_lt32 (x := a / 4294967296) (y := b / 4294967296) (by omega) (by omega) (by omega) (by omega)
  have key := prod_parts (a % 4294967296) (a / 4294967296) (b % 4294967296) (b / 4294967296)
  rw [show a / 4294967296 * 4294967296 + a % 4294967296 = a from by omega, show b / 4294967296 * 4294967296 + b % 4294967296 = b from by omega] at key
  generalize a % 4294967296 * (b % 4294967296) = x0 at *
  generalize a % 4294967296 * (b / 4294967296) = x1 at *
  generalize a / 4294967296 * (b % 4294967296) = x2 at *
  generalize a / 4294967296 * (b / 4294967296) = x3 at *
  generalize a * b = ab at *
  clear ea eb h1 h2 h3 h4
  have w0 : x0 % 18446744073709551616 = x0 := by omega
  have w1 : x1 % 18446744073709551616 = x1 := by omega
  have w2 : x2 % 18446744073709551616 = x2 := by omega
  have w3 : x3 % 18446744073709551616 = x3 := by omega
  simp only [w0, w1, w2, w3]
  refine ⟨_, rfl, _, rfl, _, rfl, _, rfl, _, rfl, _, rfl, _, rfl, ⟨_, le_ins hr, ?_⟩⟩
  rw [and_low p1, and_low p3, and_low p5]
  have m : (x0 / 4294967296 + x1 % 4294967296 % 18446744073709551616) % 18446744073709551616 = x0 / 4294967296 + x1 % 4294967296 := by omega
  rw [m]
  have m2 : (x0 / 4294967296 + x1 % 4294967296 + x2 % 4294967296 % 18446744073709551616) % 18446744073709551616 = x0 / 4294967296 + x1 % 4294967296 + x2 % 4294967296 := by omega
  rw [m2]
  have hi : (((x3 + x1 / 4294967296) % 18446744073709551616 + x2 / 4294967296) % 18446744073709551616 + (x0 / 4294967296 + x1 % 4294967296 + x2 % 4294967296) / 4294967296) % 18446744073709551616 = ab / 18446744073709551616 := by omega
  rw [hi]
  generalize hs : x0 / 4294967296 + x1 % 4294967296 + x2 % 4294967296 = s at *
  have e5 : s * 4294967296 % 18446744073709551616 = (s % 4294967296) * 4294967296 := by omega
  have e6 : x0 % 4294967296 % 18446744073709551616 = x0 % 4294967296 := by omega
  rw [e5, e6, or_half (by omega) (by omega) (by omega) (by omega)]
  have lo : (s % 4294967296 * 4294967296 + x0 % 4294967296) % 18446744073709551616 = ab % 18446744073709551616 := by omega
  rw [lo]
  exact k

/-! ### a division, bit by bit -/
theorem div_step {by' p x m : Int} (h0 : 0 < by') (h : by' ≤ x) : (x * p + m) / by' = p + ((x - by') * p + m) / by' ∧ (x * p + m) % by' = ((x - by') * p + m) % by' := by
  have e : x * p + m = ((x - by') * p + m) + by' * p := by grind
  rw [e]
  constructor
  · rw [Int.add_mul_ediv_left _ _ (by omega)]; omega
  · rw [Int.add_mul_emod_self_left]
theorem quot_loop {by' : Int} (hb : 0 < by') (hb2 : by' ≤ 18446744073709551615) (h : Heap) (K : Value → Heap → Prop) : ∀ (n : Nat), n ≤ 64 → ∀ (m q rest : Int), 0 ≤ m → m < 2 ^ n → 0 ≤ q → q < 2 ^ (64 - n) → 0 ≤ rest → rest < by' →
    K (tuple #[int .u64 (q * 2 ^ n + (rest * 2 ^ n + m) / by'), .bool ((rest * 2 ^ n + m) % by' != 0), .bool true]) h →
    L_money_quotient_0 (m * 2 ^ (64 - n)) by' q rest ((64 - n : Nat) : Int) h K := by
  intro n
  induction n with
  | zero =>
    intro _ m q rest m1 m2 q1 q2 r1 r2 k
    refine L_money_quotient_0r _ _ _ _ _ _ _ ?_
    unfold L_money_quotient_0T
    refine Br.no (by decide) (Ret.mk ?_)
    have m0 : m = 0 := by simp at m2; omega
    subst m0
    simp only [Int.pow_zero, Int.mul_one, Int.add_zero] at k
    rw [Int.ediv_eq_zero_of_lt r1 r2, Int.emod_eq_of_lt r1 r2, Int.add_zero] at k
    exact k
  | succ n ih =>
    intro hn m q rest m1 m2 q1 q2 r1 r2 k
    -- the parts
    have pw : (2 : Int) ^ (n + 1) = 2 ^ n * 2 := Int.pow_succ 2 n
    have e64 : 64 - n = (64 - (n + 1)) + 1 := by omega
    have pv : (2 : Int) ^ (64 - n) = 2 ^ (64 - (n + 1)) * 2 := by rw [e64, Int.pow_succ]
    have pp : (2 : Int) ^ n * 2 ^ (64 - n) = 18446744073709551616 := by
      rw [← Int.pow_add, show n + (64 - n) = 64 from by omega]; decide
    have pn : (0 : Int) < 2 ^ n := Int.pow_pos (by decide)
    have pq : (0 : Int) < 2 ^ (64 - (n + 1)) := Int.pow_pos (by decide)
    rw [pw] at m2
    generalize hP : (2 : Int) ^ n = p at *
    generalize hQ : (2 : Int) ^ (64 - (n + 1)) = s at *
    -- the top bit and what is below
    have hc : m / p = 0 ∨ m / p = 1 := by
      have : m / p < 2 := Int.ediv_lt_of_lt_mul pn (by omega)
      have : 0 ≤ m / p := Int.ediv_nonneg m1 (by omega)
      omega
    have hm : m = (m / p) * p + m % p := by have := Int.mul_ediv_add_emod m p; rw [Int.mul_comm] at this; omega
    have hm1 : 0 ≤ m % p := Int.emod_nonneg _ (by omega)
    have hm2 : m % p < p := Int.emod_lt_of_pos _ pn
    generalize hcc : m / p = c at *
    generalize hmm : m % p = m' at *
    have ps : p * s * 2 = 18446744073709551616 := by rw [← pp, pv]; grind
    have hms : 0 ≤ m' * s ∧ m' * s < p * s := ⟨Int.mul_nonneg hm1 (by omega), Int.mul_lt_mul_of_pos_right hm2 pq⟩
    have low : m * s = c * 9223372036854775808 + m' * s := by
      rw [hm]
      have : p * s = 9223372036854775808 := by omega
      rw [Int.add_mul, Int.mul_assoc, this]
    have hlow : m' * s < 9223372036854775808 := by omega
    have topbit : Int.fdiv (m * s) 9223372036854775808 = c := by
      rw [fdiv_pos _ (by omega), low]
      omega
    have next : IntKind.wrap .u64 (m * s * 2) = m' * 2 ^ (64 - n) := by
      rw [wrap_u64, pv, low]
      have : m' * (s * 2) = m' * s * 2 := by grind
      rw [this]
      rcases hc with e | e <;> subst e <;> omega
    have cnt : IntKind.wrap .i64 (((64 - (n + 1) : Nat) : Int) + 1) = ((64 - n : Nat) : Int) := by
      rw [wrap_i64_id (by omega) (by omega)]; omega
    have hq2 : q * 2 + 1 < s * 2 := by omega
    have hs64 : s * 2 ≤ 18446744073709551616 := by
      have : s * 1 ≤ s * p := Int.mul_le_mul_of_nonneg_left (by omega) (by omega)
      have e : s * p = p * s := Int.mul_comm _ _
      omega
    have wq : IntKind.wrap .u64 (q * 2) = q * 2 := wrap_u64_id (by omega) (by omega)
    have qbit : IntKind.wrap .u64 ((BitVec.ofInt 64 (q * 2) ||| BitVec.ofInt 64 1).toNat : Int) = q * 2 + 1 := by
      rw [or_bit (by omega) (by omega) (by omega) (by omega) (by omega), wrap_u64_id (by omega) (by omega)]
    refine L_money_quotient_0r _ _ _ _ _ _ _ ?_
    unfold L_money_quotient_0T
    have eb : IntKind.bits IntKind.u64 = 64 := rfl
    have e1 : min (Int.toNat 1) 64 = 1 := by decide
    have e63 : min (Int.toNat 63) 64 = 63 := by decide
    have e2 : (2 : Int) ^ 63 = 9223372036854775808 := by decide
    have e3 : (2 : Int) ^ 1 = 2 := by decide
    simp only [eb, e1, e63, e2, e3, topbit, next, cnt, wq, qbit]
    have hc0 : 0 ≤ c ∧ c < 2 := by omega
    have rbit : IntKind.wrap .u64 ((BitVec.ofInt 64 (IntKind.wrap .u64 (rest * 2)) ||| BitVec.ofInt 64 c).toNat : Int) = (rest * 2 + c) % 18446744073709551616 := by
      rw [wrap_u64 (rest * 2), or_bit (by omega) (by omega) (by omega) (by omega) (by omega), wrap_u64]
      omega
    simp only [rbit]
    have big : q * (p * 2) + (rest * (p * 2) + m) / by' = q * 2 * p + ((rest * 2 + c) * p + m') / by' ∧ (rest * (p * 2) + m) % by' = ((rest * 2 + c) * p + m') % by' := by
      have : rest * (p * 2) + m = (rest * 2 + c) * p + m' := by rw [hm]; grind
      rw [this]
      exact ⟨by grind, rfl⟩
    rw [pw, big.1, big.2] at k
    refine Br.yes (decide_eq_true (by omega)) ?_
    have step1 : by' ≤ rest * 2 + c → L_money_quotient_0 (m' * 2 ^ (64 - n)) by' (q * 2 + 1) (rest * 2 + c - by') ((64 - n : Nat) : Int) h K := by
      intro hge
      obtain ⟨d1, d2⟩ := div_step (p := p) (m := m') hb hge
      refine ih (by omega) m' (q * 2 + 1) (rest * 2 + c - by') hm1 hm2 (by omega) (by rw [pv]; omega) (by omega) (by omega) ?_
      rw [d1, d2] at k
      have : q * 2 * p + (p + ((rest * 2 + c - by') * p + m') / by') = (q * 2 + 1) * p + ((rest * 2 + c - by') * p + m') / by' := by grind
      rw [← this]; exact k
    refine Br.dec (fun ho => ?_) (fun ho => Br.dec (fun hge => ?_) (fun hlt => ?_))
    · have e : IntKind.wrap .u64 ((rest * 2 + c) % 18446744073709551616 - by') = rest * 2 + c - by' := by rw [wrap_u64]; omega
      rw [e]; exact step1 (by omega)
    · have e : IntKind.wrap .u64 ((rest * 2 + c) % 18446744073709551616 - by') = rest * 2 + c - by' := by rw [wrap_u64]; omega
      rw [e]; exact step1 (by omega)
    · have e : (rest * 2 + c) % 18446744073709551616 = rest * 2 + c := by omega
      rw [e] at hlt ⊢
      exact ih (by omega) m' (q * 2) (rest * 2 + c) hm1 hm2 (by omega) (by rw [pv]; omega) (by omega) (by omega) k
/-- the whole quotient, and whether something is left -/
theorem S_quotient {high lower by' : Int} (hh : U64 high) (hl : U64 lower) (hb : U64 by') (h : Heap) (K : Value → Heap → Prop)
    (k1 : high ≥ by' → K (tuple #[int .u64 0, .bool false, .bool false]) h)
    (k2 : high < by' → K (tuple #[int .u64 ((high * 18446744073709551616 + lower) / by'), .bool ((high * 18446744073709551616 + lower) % by' != 0), .bool true]) h) :
    CallA Try.prog fn_money_quotient [int .u64 high, int .u64 lower, int .u64 by'] h K := by
  refine F_money_quotient _ _ _ _ _ ?_
  unfold F_money_quotientT
  refine Br.dec (fun hg => Ret.mk (k1 hg)) (fun hg => ?_)
  have hlt : high < by' := by omega
  have e64 : (2 : Int) ^ 64 = 18446744073709551616 := by decide
  have e := quot_loop (by' := by') (by unfold U64 at *; omega) hb.2 h K 64 (by omega) lower 0 high hl.1 (by rw [e64]; have := hl.2; omega) (by omega) (by decide) hh.1 hlt
  rw [e64] at e
  simp only [Nat.sub_self, Int.pow_zero, Int.mul_one, Int.zero_mul, Int.zero_add] at e
  exact e (k2 hlt)

/-! ### a product, parted -/
/-- the whole number below, or above, a quotient -/
def dv (n c : Int) (up : Bool) : Int := if up then -((-n) / c) else n / c
def md (a b c : Int) (up : Bool) : Int × Int := if c < 1 then (0, 1) else fit (dv (a * b) c up)
theorem natAbs_mul (a b : Int) : (a.natAbs : Int) * b.natAbs = ((a * b).natAbs : Int) := by rw [Int.natAbs_mul]; simp
theorem ediv_neg_of {n c : Int} (hc : 0 < c) (h : n % c ≠ 0) : (-n) / c = -(n / c) - 1 := by
  have h1 := Int.mul_ediv_add_emod n c
  have h2 := Int.emod_nonneg n (show c ≠ 0 by omega)
  have h3 := Int.emod_lt_of_pos n hc
  have : -n = (c - n % c) + c * (-(n / c) - 1) := by
    have : c * (-(n / c) - 1) = -(c * (n / c)) - c := by grind
    omega
  rw [this, Int.add_mul_ediv_left _ _ (by omega), Int.ediv_eq_zero_of_lt (by omega) (by omega)]
  omega
theorem ediv_neg_of0 {n c : Int} (hc : 0 < c) (h : n % c = 0) : (-n) / c = -(n / c) := by
  have h1 := Int.mul_ediv_add_emod n c
  have : -n = c * (-(n / c)) := by
    have : c * (-(n / c)) = -(c * (n / c)) := by grind
    omega
  rw [this, Int.mul_ediv_cancel_left _ (by omega)]
theorem mul_sign {a b : Int} : (a * b < 0 → (a < 0 ∧ 0 < b) ∨ (0 < a ∧ b < 0)) ∧ (0 < a * b → (a < 0 ∧ b < 0) ∨ (0 < a ∧ 0 < b)) := by
  constructor
  · intro h
    rcases Int.lt_trichotomy a 0 with h1 | h1 | h1 <;> rcases Int.lt_trichotomy b 0 with h2 | h2 | h2
    · have := Int.mul_pos_of_neg_of_neg h1 h2; omega
    · subst h2; simp at h
    · exact .inl ⟨h1, h2⟩
    · subst h1; simp at h
    · subst h1; simp at h
    · subst h1; simp at h
    · exact .inr ⟨h1, h2⟩
    · subst h2; simp at h
    · have := Int.mul_pos h1 h2; omega
  · intro h
    rcases Int.lt_trichotomy a 0 with h1 | h1 | h1 <;> rcases Int.lt_trichotomy b 0 with h2 | h2 | h2
    · exact .inl ⟨h1, h2⟩
    · subst h2; simp at h
    · have := Int.mul_neg_of_neg_of_pos h1 h2; omega
    · subst h1; simp at h
    · subst h1; simp at h
    · subst h1; simp at h
    · have := Int.mul_neg_of_pos_of_neg h1 h2; omega
    · subst h2; simp at h
    · exact .inr ⟨h1, h2⟩
/-- the quotient of sizes, put right -/
theorem dv_of_size {n c : Int} {neg up : Bool} (hc : 0 < c) (h1 : neg = true → n ≤ 0) (h2 : neg = false → 0 ≤ n) :
    dv n c up = (if neg then -1 else 1) * ((n.natAbs : Int) / c + (if ((n.natAbs : Int) % c != 0) && (neg != up) then 1 else 0)) := by
  unfold dv
  cases neg
  · have hn := h2 rfl
    have e : (n.natAbs : Int) = n := by omega
    rw [e]
    cases up
    · simp
    · by_cases hz : n % c = 0
      · simp [hz, ediv_neg_of0 hc hz]
      · simp [hz, ediv_neg_of hc hz]; omega
  · have hn := h1 rfl
    have e : (n.natAbs : Int) = -n := by omega
    rw [e]
    have hd : n % c = 0 ↔ (-n) % c = 0 := by
      rw [← Int.dvd_iff_emod_eq_zero, ← Int.dvd_iff_emod_eq_zero, Int.dvd_neg]
    cases up
    · by_cases hz : (-n) % c = 0
      · have := ediv_neg_of0 hc hz
        rw [Int.neg_neg] at this
        simp [hz]; omega
      · have := ediv_neg_of hc hz
        rw [Int.neg_neg] at this
        simp [hz]; omega
    · simp
theorem S_MulDiv {a b c : Int} (ha : I64 a) (hb : I64 b) (hcc : I64 c) (up : Bool) (h : Heap) (K : Value → Heap → Prop)
    (k : K (tuple #[int .i64 (md a b c up).1, int .i64 (md a b c up).2]) h) : CallA Try.prog fn_money_MulDiv [int .i64 a, int .i64 b, int .i64 c, .bool up] h K := by
  refine F_money_MulDiv _ _ _ _ _ _ ?_
  unfold F_money_MulDivT
  refine Br.dec (fun hc => Ret.mk ?_) (fun hc => ?_)
  · unfold md at k; rw [if_pos hc] at k; exact k
  refine S_size ha h _ ⟨_, rfl, S_size hb h _ ⟨_, rfl, ?_⟩⟩
  have wa : U64 (a.natAbs : Int) := by unfold I64 U64 at *; omega
  have wb : U64 (b.natAbs : Int) := by unfold I64 U64 at *; omega
  refine S_product wa wb h _ ⟨_, _, rfl, ?_⟩
  rw [natAbs_mul]
  have hc1 : 1 ≤ c := by omega
  have hc2 : c ≤ 9223372036854775807 := hcc.2
  have wc : IntKind.wrap .u64 c = c := wrap_u64_id (by omega) (by omega)
  rw [wc]
  -- the size of the product
  have hbd : ((a * b).natAbs : Int) ≤ 85070591730234615865843651857942052864 := by
    rw [← natAbs_mul]
    have h1 : (a.natAbs : Int) ≤ 9223372036854775808 := by unfold I64 at ha; omega
    have h2 : (b.natAbs : Int) ≤ 9223372036854775808 := by unfold I64 at hb; omega
    have := Int.mul_le_mul h1 h2 (by omega) (by omega)
    omega
  have hsgn := mul_sign (a := a) (b := b)
  have hneg : ∀ neg, (!decide (a < 0) == decide (b < 0)) = neg → (neg = true → a * b ≤ 0) ∧ (neg = false → 0 ≤ a * b) := by
    intro neg e
    constructor
    · intro e2; subst e2
      simp at e
      by_cases x : a < 0 <;> by_cases y : b < 0 <;> simp [x, y] at e <;> rcases Int.lt_trichotomy (a * b) 0 with z | z | z <;> omega
    · intro e2; subst e2
      simp at e
      by_cases x : a < 0 <;> by_cases y : b < 0 <;> simp [x, y] at e <;> rcases Int.lt_trichotomy (a * b) 0 with z | z | z <;> omega
  generalize hN : ((a * b).natAbs : Int) = N at *
  have hN0 : 0 ≤ N := by omega
  have hmd : md a b c up = fit (dv (a * b) c up) := by unfold md; rw [if_neg hc]
  rw [hmd] at k
  generalize hng : (!decide (a < 0) == decide (b < 0)) = neg at *
  obtain ⟨n1, n2⟩ := hneg neg rfl
  have hdv := dv_of_size (n := a * b) (c := c) (neg := neg) (up := up) (by omega) n1 n2
  rw [hN] at hdv
  have hq0 : 0 ≤ N / c := Int.ediv_nonneg hN0 (by omega)
  refine S_quotient (by unfold U64; omega) (by unfold U64; omega) (by unfold U64; omega) h _ (fun hg => ⟨_, _, _, rfl, ?_⟩) (fun hg => ⟨_, _, _, rfl, ?_⟩)
  · -- it doesn't fit
    refine Br.yes rfl (Ret.mk ?_)
    have hq : 18446744073709551616 ≤ N / c := by
      refine (Int.le_ediv_iff_mul_le (by omega)).2 ?_
      have := Int.mul_ediv_add_emod N 18446744073709551616
      have h5 := Int.emod_nonneg N (show (18446744073709551616 : Int) ≠ 0 by omega)
      omega
    rw [fit_over (by
      unfold I64
      rw [hdv]
      cases neg <;> simp <;> split <;> omega)] at k
    exact k
  · refine Br.no rfl ?_
    have eN : N / 18446744073709551616 * 18446744073709551616 + N % 18446744073709551616 = N := by omega
    rw [eN]
    have hq1 : N / c ≤ 18446744073709551615 := by
      have : N / c < 18446744073709551616 := by
        refine Int.ediv_lt_of_lt_mul (by omega) ?_
        have := Int.mul_ediv_add_emod N 18446744073709551616
        have h5 := Int.emod_lt_of_pos N (show (0 : Int) < 18446744073709551616 by omega)
        have h6 : N / 18446744073709551616 ≤ c - 1 := by omega
        omega
      omega
    have plain : ((N % c != 0) && (neg != up)) = false → K (tuple #[int .i64 (sgn (N / c) neg).1, int .i64 (sgn (N / c) neg).2]) h := by
      intro e
      rw [e] at hdv
      have : sgn (N / c) neg = fit (dv (a * b) c up) := by
        rw [hdv]
        unfold sgn fit
        cases neg <;> simp <;> split <;> split <;> simp <;> omega
      rw [this]; exact k
    have more : ((N % c != 0) && (neg != up)) = true → (N / c = 18446744073709551615 → K (tuple #[int .i64 0, int .i64 3]) h) ∧ K (tuple #[int .i64 (sgn (N / c + 1) neg).1, int .i64 (sgn (N / c + 1) neg).2]) h := by
      intro e
      rw [e] at hdv
      constructor
      · intro e2
        rw [fit_over (by unfold I64; rw [hdv, e2]; cases neg <;> simp)] at k
        exact k
      · have : sgn (N / c + 1) neg = fit (dv (a * b) c up) := by
          rw [hdv]
          unfold sgn fit
          cases neg <;> simp <;> split <;> split <;> simp <;> omega
        rw [this]; exact k
    refine Br.intro (fun e1 => Br.intro (fun e2 => ?_) (fun e2 => ?_)) (fun e1 => ?_)
    · obtain ⟨m1, m2⟩ := more (by rw [e1]; cases neg <;> cases up <;> simp at e2 ⊢)
      refine Br.intro (fun e3 => Ret.mk (m1 ?_)) (fun e3 => ?_)
      · simp only [beq_iff_eq, wrap_u64] at e3; omega
      · simp only [beq_eq_false_iff_ne, ne_eq, wrap_u64] at e3
        rw [wrap_u64_id (by omega) (by omega)]
        exact S_signed ⟨by omega, by omega⟩ neg h _ ⟨_, _, rfl, Ret.mk m2⟩
    · exact S_signed ⟨hq0, hq1⟩ neg h _ ⟨_, _, rfl, Ret.mk (plain (by rw [e1]; cases neg <;> cases up <;> simp at e2 ⊢))⟩
    · exact S_signed ⟨hq0, hq1⟩ neg h _ ⟨_, _, rfl, Ret.mk (plain (by rw [e1]; rfl))⟩
end Go.Proofs.Ytghdadniddoboaa

/- What many amounts come to, all together and step by step; and that the calls of the awake test answer as they must. -/
namespace Go.Proofs.Ytghdadniddoboaa
open Go Go.Sy Go.Value
set_option linter.unusedVariables false
set_option linter.unusedSimpArgs false

def sumL : List Int → Int
  | [] => 0
  | n :: l => n + sumL l
theorem sumL_append : ∀ l m, sumL (l ++ m) = sumL l + sumL m
  | [], m => by simp [sumL]
  | n :: l, m => by simp only [List.cons_append, sumL, sumL_append l m]; omega
def allI64 (l : List Int) : Prop := ∀ n ∈ l, I64 n
theorem sum_take_succ {l : List Int} {i : Nat} (h : i < l.length) : sumL (l.take (i + 1)) = sumL (l.take i) + l[i] := by
  rw [List.take_add_one, sumL_append, List.getElem?_eq_getElem h]
  simp [sumL]
theorem sum_bound {l : List Int} (h : allI64 l) : ∀ i, i ≤ l.length → -(i : Int) * 9223372036854775808 ≤ sumL (l.take i) ∧ sumL (l.take i) ≤ (i : Int) * 9223372036854775808
  | 0, _ => by simp [sumL]
  | i + 1, hi => by
    obtain ⟨h1, h2⟩ := sum_bound h i (by omega)
    rw [sum_take_succ (by omega)]
    have := h _ (List.getElem_mem (show i < l.length by omega))
    unfold I64 at this
    omega
/-- the rest of a sum, from a place on -/
theorem sum_loop {l : List Int} (hl : l.length ≤ 1048576) (hI : allI64 l) {a : Option Addr} {c : Nat} (h : Heap) (hr : Ints .i64 h a l) (K : Value → Heap → Prop)
    (k : K (tuple #[int .i64 (fit (sumL l)).1, int .i64 (fit (sumL l)).2]) h) : ∀ (d i : Nat), i + d = l.length →
    L_money_Sum_0 (sumL (l.take i) / 18446744073709551616) (sumL (l.take i) % 18446744073709551616) a l.length c (l.length : Int) (i : Int) h K := by
  intro d
  induction d with
  | zero =>
    intro i hi
    refine L_money_Sum_0r _ _ _ _ _ _ _ _ _ ?_
    unfold L_money_Sum_0T
    have hb := sum_bound hI i (by omega)
    have e : l.take i = l := List.take_of_length_le (by omega)
    rw [e] at hb ⊢
    refine Br.no (decide_eq_false (by omega)) ?_
    have f : ∀ x : Int, Int.fdiv x 9223372036854775808 = x / 9223372036854775808 := fun x => fdiv_pos x (by omega)
    rw [f, wrap_i64]
    generalize sumL l = s at *
    refine Br.intro (fun e1 => Ret.mk ?_) (fun e1 => Ret.mk ?_)
    · rw [fit_over] at k
      · exact k
      · simp only [bne_iff_ne, ne_eq] at e1
        unfold I64
        omega
    · simp only [bne_eq_false_iff_eq] at e1
      rw [fit_ok (by unfold I64; omega)] at k
      rw [show (s % 18446744073709551616 + 9223372036854775808) % 18446744073709551616 - 9223372036854775808 = s from by omega]
      exact k
  | succ d ih =>
    intro i hi
    refine L_money_Sum_0r _ _ _ _ _ _ _ _ _ ?_
    unfold L_money_Sum_0T
    have hlt : i < l.length := by omega
    have hb := sum_bound hI i (by omega)
    have nx := ih (i + 1) (by omega)
    rw [sum_take_succ hlt] at nx
    have hn := hI _ (List.getElem_mem hlt)
    obtain ⟨b, o, ea, hc⟩ := hr.at hlt
    refine Br.yes (decide_eq_true (by omega)) ⟨by omega, by omega, withAddr_intro ea ⟨_, by rw [Int.toNat_natCast]; exact hc, ?_⟩⟩
    have f : ∀ x : Int, Int.fdiv x 9223372036854775808 = x / 9223372036854775808 := fun x => fdiv_pos x (by omega)
    simp only [f, wrap_u64, wrap_i64]
    unfold I64 at hn
    generalize l[i] = x at *
    generalize hS : sumL (l.take i) = s at *
    have cnt : ((i : Int) + 1 + 9223372036854775808) % 18446744073709551616 - 9223372036854775808 = ((i + 1 : Nat) : Int) := by omega
    have lo : (s % 18446744073709551616 + x % 18446744073709551616) % 18446744073709551616 = (s + x) % 18446744073709551616 := by omega
    simp only [cnt, lo]
    refine Br.dec (fun hlt2 => ?_) (fun hge => ?_)
    · have hi2 : (((s / 18446744073709551616 + 1 + 9223372036854775808) % 18446744073709551616 - 9223372036854775808) + x / 9223372036854775808 + 9223372036854775808) % 18446744073709551616 - 9223372036854775808 = (s + x) / 18446744073709551616 := by omega
      rw [hi2]; exact nx
    · have hi2 : (s / 18446744073709551616 + x / 9223372036854775808 + 9223372036854775808) % 18446744073709551616 - 9223372036854775808 = (s + x) / 18446744073709551616 := by omega
      rw [hi2]; exact nx
theorem S_Sum {l : List Int} (hl : l.length ≤ 1048576) (hI : allI64 l) {a : Option Addr} {c : Nat} (h : Heap) (hr : Ints .i64 h a l) (K : Value → Heap → Prop)
    (k : K (tuple #[int .i64 (fit (sumL l)).1, int .i64 (fit (sumL l)).2]) h) : CallA Try.prog fn_money_Sum [slice a l.length c] h K := by
  refine F_money_Sum _ _ _ _ _ ?_
  unfold F_money_SumT
  have := sum_loop hl hI (c := c) h hr K k l.length 0 (by omega)
  simpa [sumL] using this

/-- step by step -/
def chainL : Int → List Int → Int × Int
  | a, [] => (a, 0)
  | a, b :: l => if -9223372036854775808 ≤ a + b ∧ a + b ≤ 9223372036854775807 then chainL (a + b) l else (0, 3)
theorem chain_loop {l : List Int} (hl : l.length ≤ 1048576) (hI : allI64 l) {a : Option Addr} {c : Nat} (h : Heap) (hr : Ints .i64 h a l) (K : Value → Heap → Prop) : ∀ (d i : Nat) (n : Int), i + d = l.length → I64 n →
    K (tuple #[int .i64 (chainL n (l.drop i)).1, int .i64 (chainL n (l.drop i)).2]) h → L_money_Chain_0 n a l.length c (l.length : Int) (i : Int) h K := by
  intro d
  induction d with
  | zero =>
    intro i n hi hn k
    refine L_money_Chain_0r _ _ _ _ _ _ _ _ ?_
    unfold L_money_Chain_0T
    rw [List.drop_of_length_le (by omega)] at k
    exact Br.no (decide_eq_false (by omega)) (Ret.mk k)
  | succ d ih =>
    intro i n hi hn k
    refine L_money_Chain_0r _ _ _ _ _ _ _ _ ?_
    unfold L_money_Chain_0T
    have hlt : i < l.length := by omega
    have hx := hI _ (List.getElem_mem hlt)
    obtain ⟨b, o, ea, hc⟩ := hr.at hlt
    rw [List.drop_eq_getElem_cons hlt] at k
    unfold chainL at k
    refine Br.yes (decide_eq_true (by omega)) ⟨by omega, by omega, withAddr_intro ea ⟨_, by rw [Int.toNat_natCast]; exact hc, ?_⟩⟩
    refine S_Add hn hx h _ ⟨_, _, rfl, ?_⟩
    have cnt : IntKind.wrap .i64 ((i : Int) + 1) = ((i + 1 : Nat) : Int) := by rw [wrap_i64]; omega
    rw [cnt]
    by_cases ho : I64 (n + l[i])
    · rw [fit_ok ho]
      have ho' : -9223372036854775808 ≤ n + l[i] ∧ n + l[i] ≤ 9223372036854775807 := ho
      rw [if_pos ho'] at k
      exact Br.no rfl (ih (i + 1) _ (by omega) ho k)
    · rw [fit_over ho]
      have ho' : ¬ (-9223372036854775808 ≤ n + l[i] ∧ n + l[i] ≤ 9223372036854775807) := ho
      rw [if_neg ho'] at k
      exact Br.yes rfl (Ret.mk k)
theorem S_Chain {l : List Int} (hl : l.length ≤ 1048576) (hI : allI64 l) {n : Int} (hn : I64 n) {a : Option Addr} {c : Nat} (h : Heap) (hr : Ints .i64 h a l) (K : Value → Heap → Prop)
    (k : K (tuple #[int .i64 (chainL n l).1, int .i64 (chainL n l).2]) h) : CallA Try.prog fn_money_Chain [int .i64 n, slice a l.length c] h K := by
  refine F_money_Chain _ _ _ _ _ _ ?_
  unfold F_money_ChainT
  have := chain_loop hl hI (c := c) h hr K l.length 0 n (by omega) hn (by simpa using k)
  simpa using this
end Go.Proofs.Ytghdadniddoboaa

/- Shares, plainly: parts, what is left over, who gets one more. -/
namespace Go.Proofs.Ytghdadniddoboaa
open Go Go.Sy Go.Value
set_option linter.unusedVariables false
set_option linter.unusedSimpArgs false

def baseL (t s : Int) (ws : List Int) : List Int := ws.map fun w => t * w / s
def restL (t s : Int) (ws : List Int) : List Int := ws.map fun w => t * w % s
theorem baseL_len (t s : Int) (ws : List Int) : (baseL t s ws).length = ws.length := by simp [baseL]
theorem restL_len (t s : Int) (ws : List Int) : (restL t s ws).length = ws.length := by simp [restL]
def upTo (n : Nat) : List Int := (List.range n).map fun (i : Nat) => (i : Int)
theorem upTo_len (n : Nat) : (upTo n).length = n := by simp [upTo]
theorem upTo_succ (n : Nat) : upTo (n + 1) = upTo n ++ [(n : Int)] := by simp [upTo, List.range_succ]
theorem upTo_mem {n : Nat} {x : Int} : x ∈ upTo n ↔ 0 ≤ x ∧ x < (n : Int) := by
  unfold upTo
  rw [List.mem_map]
  constructor
  · rintro ⟨i, h, rfl⟩; rw [List.mem_range] at h; omega
  · intro h; exact ⟨x.toNat, List.mem_range.2 (by omega), by omega⟩
/-- the numbers below n, put in order -/
def ordL (left : List Int) (n : Nat) : List Int := (upTo n).mergeSort fun x y => !ltO left y x
theorem ordL_of {left : List Int} {n : Nat} {d : Array Int} (hp : Go.Sort.PermIn 0 n (upTo n).toArray d) (hs : Go.Sort.SortedIn (ltO left) 0 n d) : d.toList = ordL left n := by
  have hz : (upTo n).toArray.size = n := by simp [upTo_len]
  have := Go.Sort.sorted_unique_holds (lt := ltO left) (swoO left) (totO left) (upTo n).toArray d (by rw [hz]; exact hp) (by rw [hz]; exact hs)
  simpa [ordL] using this
theorem ordL_is {left : List Int} {n : Nat} {c : List Int} (hp : c.Perm (upTo n)) (hs : c.Pairwise fun x y => ltO left y x = false) : ordL left n = c := by
  have hl : c.length = n := by rw [hp.length_eq, upTo_len]
  have := ordL_of (left := left) (n := n) (d := c.toArray) ⟨by simp [hl, upTo_len], fun i hi => ?_, ?_⟩ fun i j _ hij hj => ?_
  · simpa using this.symm
  · have g1 : ¬ i < c.toArray.size := by simp; omega
    have g2 : ¬ i < (upTo n).toArray.size := by simp [upTo_len]; omega
    rw [getElem!_neg c.toArray i g1, getElem!_neg (upTo n).toArray i g2]
  · have e1 : (c.toArray.extract 0 n).toList = c := by simp [← hl]
    have e2 : ((upTo n).toArray.extract 0 n).toList = upTo n := by
      have := upTo_len n
      simp [List.take_of_length_le (Nat.le_of_eq this)]
    rw [e1, e2]; exact hp
  · rw [List.pairwise_iff_getElem] at hs
    have h1 : i < c.length := by omega
    have h2 : j < c.length := by omega
    have := hs i j h1 h2 hij
    rw [getElem!_pos c.toArray i (by simpa using h1), getElem!_pos c.toArray j (by simpa using h2)]
    simpa using this
theorem ordL_perm (left : List Int) (n : Nat) : (ordL left n).Perm (upTo n) := List.mergeSort_perm _ _
theorem ordL_len (left : List Int) (n : Nat) : (ordL left n).length = n := by rw [(ordL_perm left n).length_eq, upTo_len]
theorem ordL_sorted (left : List Int) (n : Nat) : (ordL left n).Pairwise fun x y => ltO left y x = false := by
  have := List.pairwise_mergeSort (le := fun x y => !ltO left y x) (fun a b c h1 h2 => ?_) (fun a b => ?_) (upTo n)
  · exact this.imp fun h => by simpa using h
  · simp only [Bool.not_eq_true'] at h1 h2 ⊢
    exact (swoO left).ntrans _ _ _ h2 h1
  · cases h : ltO left b a with
    | false => simp
    | true =>
      have : ltO left a b = false := by rw [ltO_no]; rw [ltO_iff] at h; omega
      simp [this]

/-- one more each -/
def bump1 (l : List Int) (i : Int) : List Int := l.set i.toNat (l.getD i.toNat 0 + 1)
def bump (l : List Int) (who : List Int) : List Int := who.foldl bump1 l
theorem bump1_len (l : List Int) (i : Int) : (bump1 l i).length = l.length := by simp [bump1]
theorem bump_len : ∀ (who l : List Int), (bump l who).length = l.length
  | [], l => rfl
  | i :: who, l => by rw [bump, List.foldl_cons]; exact (bump_len who _).trans (bump1_len _ _)
theorem sumL_set : ∀ (l : List Int) (i : Nat) (v : Int), i < l.length → sumL (l.set i v) = sumL l - l.getD i 0 + v
  | x :: l, 0, v, _ => by simp [sumL]; omega
  | x :: l, i + 1, v, h => by
    have := sumL_set l i v (by simpa using h)
    simp only [List.set_cons_succ, sumL, this, List.getD_cons_succ]
    omega
theorem bump1_sum {l : List Int} {i : Int} (h0 : 0 ≤ i) (h : i < (l.length : Int)) : sumL (bump1 l i) = sumL l + 1 := by
  unfold bump1
  rw [sumL_set _ _ _ (by omega)]
  omega
theorem bump_sum : ∀ (who l : List Int), (∀ i ∈ who, 0 ≤ i ∧ i < (l.length : Int)) → sumL (bump l who) = sumL l + who.length
  | [], l, _ => by simp [bump]
  | i :: who, l, h => by
    have h1 := h i (List.mem_cons_self ..)
    rw [bump, List.foldl_cons]
    have := bump_sum who (bump1 l i) fun k hk => by rw [bump1_len]; exact h k (List.mem_cons_of_mem _ hk)
    rw [bump] at this
    rw [this, bump1_sum h1.1 h1.2]
    simp only [List.length_cons]
    omega
def geL (l : List Int) : Prop := ∀ x ∈ l, 0 ≤ x
theorem bump1_ge {l : List Int} (i : Int) (h : geL l) : geL (bump1 l i) := fun x hx => by
  unfold bump1 at hx
  rcases List.mem_or_eq_of_mem_set hx with hx | hx
  · exact h x hx
  · have : 0 ≤ l.getD i.toNat 0 := by
      rw [List.getD_eq_getElem?_getD]
      cases e : l[i.toNat]? with
      | none => simp
      | some y => simp only [Option.getD_some]; exact h y (List.mem_of_getElem? e)
    omega
theorem bump_ge : ∀ (who l : List Int), geL l → geL (bump l who)
  | [], l, h => h
  | i :: who, l, h => by rw [bump, List.foldl_cons]; exact bump_ge who _ (bump1_ge i h)
theorem sum_ge : ∀ {l : List Int}, geL l → 0 ≤ sumL l ∧ ∀ x ∈ l, x ≤ sumL l
  | [], _ => by simp [sumL]
  | y :: l, h => by
    have ih := sum_ge (l := l) fun x hx => h x (List.mem_cons_of_mem _ hx)
    have hy := h y (List.mem_cons_self ..)
    simp only [sumL]
    refine ⟨by omega, fun x hx => ?_⟩
    rcases List.mem_cons.1 hx with rfl | hx
    · omega
    · have := ih.2 x hx; omega
/-! what the parts come to -/
theorem parts_sum (t s : Int) : ∀ ws : List Int, sumL (baseL t s ws) * s + sumL (restL t s ws) = t * sumL ws
  | [] => by simp [baseL, restL, sumL]
  | w :: ws => by
    have ih := parts_sum t s ws
    have h := Int.mul_ediv_add_emod (t * w) s
    simp only [baseL, restL, List.map_cons, sumL] at ih ⊢
    generalize t * w / s = q at *
    generalize t * w % s = r at *
    rw [Int.mul_add, Int.add_mul]
    have : s * q = q * s := Int.mul_comm _ _
    omega
theorem base_ge {t s : Int} (ht : 0 ≤ t) (hs : 0 < s) {ws : List Int} (hw : geL ws) : geL (baseL t s ws) := fun x hx => by
  unfold baseL at hx
  rw [List.mem_map] at hx
  obtain ⟨w, hw1, rfl⟩ := hx
  exact Int.ediv_nonneg (Int.mul_nonneg ht (hw w hw1)) (by omega)
theorem rest_range {t s : Int} (hs : 0 < s) {ws : List Int} : ∀ x ∈ restL t s ws, 0 ≤ x ∧ x < s := fun x hx => by
  unfold restL at hx
  rw [List.mem_map] at hx
  obtain ⟨w, hw1, rfl⟩ := hx
  exact ⟨Int.emod_nonneg _ (by omega), Int.emod_lt_of_pos _ hs⟩
theorem sum_lt {s : Int} : ∀ {l : List Int}, (∀ x ∈ l, 0 ≤ x ∧ x < s) → 0 ≤ sumL l ∧ sumL l ≤ (l.length : Int) * s ∧ (l ≠ [] → sumL l < (l.length : Int) * s)
  | [], _ => by simp [sumL]
  | y :: l, h => by
    have ih := sum_lt (l := l) fun x hx => h x (List.mem_cons_of_mem _ hx)
    have hy := h y (List.mem_cons_self ..)
    simp only [sumL, List.length_cons]
    have e : ((l.length + 1 : Nat) : Int) * s = (l.length : Int) * s + s := by
      rw [Int.natCast_add, Int.add_mul]; simp
    rw [e]
    refine ⟨by omega, by omega, fun _ => by omega⟩
/-- how many units are missing behind the parts: fewer than there are weights -/
theorem missing_range {t : Int} {ws : List Int} (hs : 0 < sumL ws) (hne : ws ≠ []) :
    0 ≤ t - sumL (baseL t (sumL ws) ws) ∧ t - sumL (baseL t (sumL ws) ws) < (ws.length : Int) := by
  have h1 := parts_sum t (sumL ws) ws
  have h2 := sum_lt (rest_range (t := t) (ws := ws) hs)
  have h3 := h2.2.2 (by intro e; apply hne; have := congrArg List.length e; rw [restL_len] at this; exact List.length_eq_zero_iff.1 this)
  rw [restL_len] at h3
  generalize sumL (restL t (sumL ws) ws) = r at *
  generalize sumL (baseL t (sumL ws) ws) = b at *
  generalize sumL ws = s at *
  have e : (t - b) * s = r := by rw [Int.sub_mul]; omega
  constructor
  · rcases Int.lt_or_le (t - b) 0 with h | h
    · have := Int.mul_neg_of_neg_of_pos h hs; omega
    · exact h
  · rcases Int.lt_or_le (t - b) (ws.length : Int) with h | h
    · exact h
    · have := Int.mul_le_mul_of_nonneg_right h (Int.le_of_lt hs); omega
/-- the shares, and why there are none -/
def anyNeg (ws : List Int) : Bool := ws.any fun x => decide (x < 0)
def anyPos (ws : List Int) : Bool := ws.any fun x => decide (x > 0)
def sharesL (t : Int) (ws : List Int) : List Int :=
  bump (baseL t (sumL ws) ws) ((ordL (restL t (sumL ws) ws) ws.length).take (t - sumL (baseL t (sumL ws) ws)).toNat)
def sharesR (t : Int) (ws : List Int) : List Int × Int :=
  if 64 < ws.length then ([], 4) else if t < 0 then ([], 1) else if anyNeg ws = true then ([], 1) else if anyPos ws = false then ([], 1) else
  if (fit (sumL ws)).2 ≠ 0 then ([], (fit (sumL ws)).2) else (sharesL t ws, 0)
theorem geL_of {ws : List Int} (h : anyNeg ws = false) : geL ws := fun x hx => by
  unfold anyNeg at h
  rw [List.any_eq_false] at h
  have := h x hx
  simp at this; omega
theorem pos_of {ws : List Int} (h : anyNeg ws = false) (hp : anyPos ws = true) : 0 < sumL ws ∧ ws ≠ [] := by
  unfold anyPos at hp
  rw [List.any_eq_true] at hp
  obtain ⟨x, hx, h2⟩ := hp
  have := (sum_ge (geL_of h)).2 x hx
  have h2 : x > 0 := by simpa using h2
  exact ⟨by omega, fun e => by rw [e] at hx; cases hx⟩
theorem sharesL_len (t : Int) (ws : List Int) : (sharesL t ws).length = ws.length := by rw [sharesL, bump_len, baseL_len]
theorem sharesL_sum {t : Int} {ws : List Int} (hs : 0 < sumL ws) (hne : ws ≠ []) : sumL (sharesL t ws) = t := by
  have hm := missing_range (t := t) hs hne
  unfold sharesL
  rw [bump_sum]
  · rw [List.length_take, ordL_len]
    omega
  · intro i hi
    have := (ordL_perm (restL t (sumL ws) ws) ws.length).mem_iff.1 (List.mem_of_mem_take hi)
    rw [upTo_mem] at this
    rw [baseL_len]; exact this
theorem sharesL_ge {t : Int} (ht : 0 ≤ t) {ws : List Int} (hs : 0 < sumL ws) (hw : geL ws) : geL (sharesL t ws) := bump_ge _ _ (base_ge ht hs hw)
end Go.Proofs.Ytghdadniddoboaa
