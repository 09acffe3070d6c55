/- The law TableLess: a worth is the lesser one of two straight lines. -/
import Derived.Test.YthojacmegofhcaaTabLaw
import Derived.Test.YthojacmegofhcaaEqTabLess
namespace Go.Proofs.Ythojacmegofhcaa
open Go Go.Sy Go.Value
set_option linter.unusedVariables false
set_option linter.unusedSimpArgs false

/-- two lines that meet at 0 -/
def Fw (m p a : Int) : Int := if a < 0 then a * p else a * m
theorem Fw_mono {m p : Int} (h0 : 0 ≤ m) (h1 : m ≤ p) {a b : Int} (h : a ≤ b) : Fw m p a ≤ Fw m p b := by
  unfold Fw
  by_cases ha : a < 0 <;> by_cases hb : b < 0
  · rw [if_pos ha, if_pos hb]; exact Int.mul_le_mul_of_nonneg_right h (by omega)
  · rw [if_pos ha, if_neg hb]
    have := Int.mul_nonneg (show 0 ≤ b by omega) h0
    have := Int.mul_nonneg (show 0 ≤ -a by omega) (show 0 ≤ p by omega)
    rw [Int.neg_mul] at this
    omega
  · omega
  · rw [if_neg ha, if_neg hb]; exact Int.mul_le_mul_of_nonneg_right h h0
theorem Fw_super {m p : Int} (h1 : m ≤ p) (a b : Int) : Fw m p a + Fw m p b ≤ Fw m p (a + b) ∧ ((decide (a < 0) == decide (b < 0)) = true → Fw m p (a + b) = Fw m p a + Fw m p b) := by
  have neg : ∀ x : Int, x ≤ 0 → x * p ≤ x * m := fun x hx => Int.mul_le_mul_of_nonpos_left hx h1
  have pos : ∀ x : Int, 0 ≤ x → x * m ≤ x * p := fun x hx => Int.mul_le_mul_of_nonneg_left h1 hx
  unfold Fw
  by_cases ha : a < 0 <;> by_cases hb : b < 0
  · rw [if_pos ha, if_pos hb, if_pos (by omega), Int.add_mul]; exact ⟨Int.le_refl _, fun _ => rfl⟩
  · have d : ¬ ((decide (a < 0) == decide (b < 0)) = true) := by simp [ha, hb]
    refine ⟨?_, fun e => (d e).elim⟩
    rw [if_pos ha, if_neg hb]
    have := neg a (by omega)
    have := pos b (by omega)
    split <;> rw [Int.add_mul] <;> omega
  · have d : ¬ ((decide (a < 0) == decide (b < 0)) = true) := by simp [ha, hb]
    refine ⟨?_, fun e => (d e).elim⟩
    rw [if_neg ha, if_pos hb]
    have := neg b (by omega)
    have := pos a (by omega)
    split <;> rw [Int.add_mul] <;> omega
  · rw [if_neg ha, if_neg hb, if_neg (by omega), Int.add_mul]; exact ⟨Int.le_refl _, fun _ => rfl⟩
theorem Fw_below {m p q : Int} (a : Int) (hm : m ≤ q) (hp : q ≤ p) : Fw m p a ≤ a * q := by
  unfold Fw
  split
  · exact Int.mul_le_mul_of_nonpos_left (by omega) hp
  · exact Int.mul_le_mul_of_nonneg_left hm (by omega)
theorem floor_sum (u v : Int) : u / 100000000 + v / 100000000 ≤ (u + v) / 100000000 ∧ (u + v) / 100000000 ≤ u / 100000000 + v / 100000000 + 1 := by omega
theorem worth_Fw {l : List Cur} {cur a : Int} {x : Cur} (e : curAt l cur = some x) : worthR l cur a = fit (Fw (x.rate * (10000 - x.cut)) (x.rate * (10000 + x.cut)) a / 100000000) := by
  unfold worthR
  rw [e]
  unfold md dv Fw partC
  dsimp only
  rw [if_neg (by decide), if_neg (by decide)]
  split <;> rfl
theorem plain_eq {l : List Cur} {cur a : Int} {x : Cur} (e : curAt l cur = some x) : plainR l cur a = fit (a * (x.rate * 10000) / 100000000) := by
  unfold plainR
  rw [e]
  unfold md dv
  dsimp only
  rw [if_neg (by decide), if_neg (by decide)]
  congr 1
  rw [← Int.mul_assoc, show (100000000 : Int) = 10000 * 10000 from rfl, Int.mul_ediv_mul_of_pos_left _ _ (by decide)]
theorem less_tail {h0 h : Heap} (lh : h0.le h) {p : Option Addr} {l : List Cur} {tn tc : Nat} (C : Curs h p l) (hn : l.length = tn) (ok : l.all inbB = true) {cur a b : Int} (ha : I64 a) (hb : I64 b) {x : Cur} (e : curAt l cur = some x)
    (m0 : 0 ≤ x.rate * (10000 - x.cut)) (mp : x.rate * (10000 - x.cut) ≤ x.rate * (10000 + x.cut)) {X Y : Int} (hX : X = Fw (x.rate * (10000 - x.cut)) (x.rate * (10000 + x.cut)) a / 100000000) (hY : Y = Fw (x.rate * (10000 - x.cut)) (x.rate * (10000 + x.cut)) b / 100000000)
    (iX : I64 X) (iY : I64 Y) :
    CallA Try.prog fn_money_Add [.int .i64 a, .int .i64 b] h fun (v : Value) (h : Heap) => ∃ (n_6 : Int), ∃ (n_7 : Int), v = tuple #[.int .i64 n_6, .int .i64 n_7] ∧
      CallA Try.prog fn_money_Add [.int .i64 X, .int .i64 Y] h fun (v : Value) (h : Heap) => ∃ (n : Int), ∃ (n_8 : Int), v = tuple #[.int .i64 n, .int .i64 n_8] ∧
        CallA Try.prog fn_table_Worth [slice p tn tc, .int .i64 cur, .int .i64 n_6] h fun (v : Value) (h : Heap) => ∃ (n_9 : Int), ∃ (n_10 : Int), v = tuple #[.int .i64 n_9, .int .i64 n_10] ∧
          Br (n_7 != 0) (Ret h (GoodT h0) (Value.bool true)) (Br (n_8 != 0) (Ret h (GoodT h0) (Value.bool true)) (Br (n_10 != 0) (Ret h (GoodT h0) (Value.bool true))
            (Br (decide (n_9 ≥ n)) (Br (!(decide (a < 0) == decide (b < 0))) (Ret h (GoodT h0) (Value.bool true)) (Br (n_9 == n) (Ret h (GoodT h0) (Value.bool true)) (Ret h (GoodT h0) (Value.bool (n_9 == IntKind.wrap .i64 (n + 1))))))
              (Ret h (GoodT h0) (Value.bool false))))) := by
  have good := goodT lh
  refine S_Add ha hb h _ ⟨_, _, rfl, S_Add iX iY h _ ⟨_, _, rfl, ?_⟩⟩
  have I0 : I64 0 := ⟨by decide, by decide⟩
  have If : ∀ z, I64 (fit z).1 := fun z => by
    rcases fit_cases z with ⟨h, e⟩ | ⟨_, e⟩ <;> rw [e]
    · exact h
    · exact I0
  refine S_Worth C hn ok (If _) ⟨_, _, rfl, ?_⟩
  rcases fit_cases (a + b) with ⟨i1, e1⟩ | ⟨_, e1⟩ <;> rw [e1]
  · refine Br.no rfl ?_
    rcases fit_cases (X + Y) with ⟨i2, e2⟩ | ⟨_, e2⟩ <;> rw [e2]
    · refine Br.no rfl ?_
      dsimp only
      rw [worth_Fw e]
      rcases fit_cases (Fw (x.rate * (10000 - x.cut)) (x.rate * (10000 + x.cut)) (a + b) / 100000000) with ⟨i3, e3⟩ | ⟨_, e3⟩ <;> rw [e3]
      · refine Br.no rfl ?_
        obtain ⟨s1, s2⟩ := Fw_super mp a b
        have f := floor_sum (Fw (x.rate * (10000 - x.cut)) (x.rate * (10000 + x.cut)) a) (Fw (x.rate * (10000 - x.cut)) (x.rate * (10000 + x.cut)) b)
        generalize Fw (x.rate * (10000 - x.cut)) (x.rate * (10000 + x.cut)) (a + b) = U at *
        generalize Fw (x.rate * (10000 - x.cut)) (x.rate * (10000 + x.cut)) a = V at *
        generalize Fw (x.rate * (10000 - x.cut)) (x.rate * (10000 + x.cut)) b = W at *
        have mono : (V + W) / 100000000 ≤ U / 100000000 := Int.ediv_le_ediv (by decide) s1
        refine Br.yes (decide_eq_true (by omega)) ?_
        cases es : (decide (a < 0) == decide (b < 0)) with
        | false => exact Br.yes rfl good
        | true =>
          refine Br.no rfl ?_
          have eU := s2 es
          subst eU
          unfold I64 at i2 i3
          refine Br.intro (fun _ => good) fun en => ?_
          simp only [beq_eq_false_iff_ne] at en
          rw [wrap_i64_id (by omega) (by omega)]
          have : ((V + W) / 100000000 == X + Y + 1) = true := by
            rw [beq_iff_eq]
            omega
          rw [this]
          exact good
      · exact Br.yes rfl good
    · exact Br.yes rfl good
  · exact Br.yes rfl good
theorem law03_TableLess_ok {h : Heap} {p : Option Addr} {tn tc : Nat} (H : curSh.Has h [.slice p tn tc]) {cur a b : Int} (hcur : I64 cur) (ha : I64 a) (hb : I64 b) :
    CallA Try.prog fn_law03_TableLess [slice p tn tc, .int .i64 cur, .int .i64 a, .int .i64 b] h fun v h' => v = .bool true ∧ h.le h' := by
  obtain ⟨hmax, l, hn, C, hI⟩ := curs_of H
  refine F_law03_TableLess _ _ _ _ _ _ _ _ ?_
  unfold F_law03_TableLessT
  refine S_law03_awake fun h1 l1 => ⟨_, rfl, Br.no rfl ?_⟩
  refine S_large (C.le l1) hn hmax fun b2 hb2 => ⟨_, rfl, ?_⟩
  cases b2 with
  | true => exact Br.yes rfl (goodT l1)
  | false =>
    refine Br.no rfl (S_Check (C.le l1) hn fun h2 l2 => ⟨_, rfl, ?_⟩)
    have l12 := Heap.le_trans l1 l2
    have good := goodT l12
    refine Br.intro (fun _ => good) fun ek => ?_
    have ek : tabE l = 0 := by simpa using ek
    have ok := all_inb ek
    have C2 := (C.le l1).le l2
    refine Br.dec (fun _ => good) fun g0 => Br.dec (fun _ => good) fun g1 => ?_
    obtain ⟨i, x, rfl, hx, ex⟩ := curAt_some hn (show 0 ≤ cur ∧ cur < (tn : Int) by omega)
    have bx := inb_of ok hx
    have m0 : 0 ≤ x.rate * (10000 - x.cut) := Int.mul_nonneg (by omega) (by omega)
    have mq : x.rate * (10000 - x.cut) ≤ x.rate * 10000 := Int.mul_le_mul_of_nonneg_left (by omega) (by omega)
    have qp : x.rate * 10000 ≤ x.rate * (10000 + x.cut) := Int.mul_le_mul_of_nonneg_left (by omega) (by omega)
    have mp : x.rate * (10000 - x.cut) ≤ x.rate * (10000 + x.cut) := by omega
    refine S_Worth C2 hn ok ha ⟨_, _, rfl, S_Worth C2 hn ok hb ⟨_, _, rfl, S_Plain C2 hn ok ha ⟨_, _, rfl, ?_⟩⟩⟩
    have tail := fun iX iY => less_tail l12 (tc := tc) C2 hn ok ha hb ex m0 mp (X := Fw (x.rate * (10000 - x.cut)) (x.rate * (10000 + x.cut)) a / 100000000) (Y := Fw (x.rate * (10000 - x.cut)) (x.rate * (10000 + x.cut)) b / 100000000) rfl rfl iX iY
    rw [worth_Fw ex, worth_Fw ex, plain_eq ex]
    have below : Fw (x.rate * (10000 - x.cut)) (x.rate * (10000 + x.cut)) a / 100000000 ≤ a * (x.rate * 10000) / 100000000 := Int.ediv_le_ediv (by decide) (Fw_below a mq qp)
    have ab : a ≤ b → Fw (x.rate * (10000 - x.cut)) (x.rate * (10000 + x.cut)) a / 100000000 ≤ Fw (x.rate * (10000 - x.cut)) (x.rate * (10000 + x.cut)) b / 100000000 := fun hh => Int.ediv_le_ediv (by decide) (Fw_mono m0 mp hh)
    have ba : b ≤ a → Fw (x.rate * (10000 - x.cut)) (x.rate * (10000 + x.cut)) b / 100000000 ≤ Fw (x.rate * (10000 - x.cut)) (x.rate * (10000 + x.cut)) a / 100000000 := fun hh => Int.ediv_le_ediv (by decide) (Fw_mono m0 mp hh)
    generalize Fw (x.rate * (10000 - x.cut)) (x.rate * (10000 + x.cut)) a / 100000000 = X at *
    generalize Fw (x.rate * (10000 - x.cut)) (x.rate * (10000 + x.cut)) b / 100000000 = Y at *
    generalize a * (x.rate * 10000) / 100000000 = Q at *
    rcases fit_cases X with ⟨iX, eX⟩ | ⟨_, eX⟩ <;> rw [eX]
    · rcases fit_cases Y with ⟨iY, eY⟩ | ⟨_, eY⟩ <;> rw [eY]
      · have tail := tail iX iY
        rcases fit_cases Q with ⟨iQ, eQ⟩ | ⟨_, eQ⟩ <;> rw [eQ]
        · refine Br.yes rfl (Br.yes rfl (Br.no (decide_eq_false (by omega)) (Br.no rfl (Br.no rfl ?_))))
          refine Br.dec (fun k1 => Br.no (decide_eq_false (by have := ab (by omega); omega)) (Br.no (decide_eq_false (by omega)) (Br.no (by simp; omega) tail))) fun k1 => ?_
          refine Br.dec (fun k2 => Br.no (decide_eq_false (by have := ba (by omega); omega)) (Br.no (by simp; omega) tail)) fun k2 => ?_
          refine Br.yes (by simp; omega) (Br.no (by have := ab (by omega); have := ba (by omega); simp; omega) tail)
        · refine Br.yes rfl (Br.no rfl (Br.no rfl (Br.no rfl ?_)))
          refine Br.dec (fun k1 => Br.no (decide_eq_false (by have := ab (by omega); omega)) (Br.no (decide_eq_false (by omega)) (Br.no (by simp; omega) tail))) fun k1 => ?_
          refine Br.dec (fun k2 => Br.no (decide_eq_false (by have := ba (by omega); omega)) (Br.no (by simp; omega) tail)) fun k2 => ?_
          refine Br.yes (by simp; omega) (Br.no (by have := ab (by omega); have := ba (by omega); simp; omega) tail)
      · rcases fit_cases Q with ⟨iQ, eQ⟩ | ⟨_, eQ⟩ <;> rw [eQ]
        · exact Br.yes rfl (Br.yes rfl (Br.no (decide_eq_false (by dsimp only; omega)) (Br.no rfl (Br.yes rfl good))))
        · exact Br.yes rfl (Br.no rfl (Br.no rfl (Br.yes rfl good)))
    · exact Br.no rfl (Br.yes rfl good)
end Go.Proofs.Ythojacmegofhcaa
