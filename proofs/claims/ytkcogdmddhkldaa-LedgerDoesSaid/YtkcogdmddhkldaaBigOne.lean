/- The reference's whole numbers of any size: digits, trimming, which is larger, turning. -/
import Derived.Test.YtkcogdmddhkldaaEqBig
import Derived.Test.YtkcogdmddhkldaaFwAt
namespace Go.Proofs.Ytkcogdmddhkldaa
open Go Go.Sy Go.Value
set_option linter.unusedVariables false
set_option linter.unusedSimpArgs false

def dig : List Int → Int
  | [] => 0
  | d :: r => d + 10000 * dig r
def okD (l : List Int) : Prop := ∀ d ∈ l, 0 ≤ d ∧ d < 10000
def sg (neg : Bool) (l : List Int) : Int := if neg then -dig l else dig l
theorem okD_cons {d : Int} {l : List Int} (h : okD (d :: l)) : (0 ≤ d ∧ d < 10000) ∧ okD l := ⟨h d (by simp), fun x hx => h x (by simp [hx])⟩
theorem dig_nonneg : ∀ {l : List Int}, okD l → 0 ≤ dig l
  | [], _ => by simp [dig]
  | d :: l, h => by
    have := dig_nonneg (okD_cons h).2
    have := (okD_cons h).1
    simp only [dig]; omega
theorem dig_append : ∀ (l m : List Int), dig (l ++ m) = dig l + 10000 ^ l.length * dig m
  | [], m => by simp [dig]
  | d :: l, m => by
    simp only [List.cons_append, dig, dig_append l m, List.length_cons, Int.pow_succ]
    rw [Int.mul_add, ← Int.mul_assoc, Int.mul_comm 10000 (10000 ^ l.length)]
    omega
theorem okD_take {l : List Int} (h : okD l) (n : Nat) : okD (l.take n) := fun d hd => h d (List.mem_of_mem_take hd)
theorem okD_append {l m : List Int} (h : okD l) (h2 : okD m) : okD (l ++ m) := fun d hd => by
  rcases List.mem_append.1 hd with e | e
  · exact h d e
  · exact h2 d e
theorem dig_take_succ {l : List Int} {n : Nat} (h : n < l.length) : dig (l.take (n + 1)) = dig (l.take n) + 10000 ^ n * l[n] := by
  rw [List.take_add_one, dig_append, List.getElem?_eq_getElem h, List.length_take, Nat.min_eq_left (by omega)]
  simp [dig]
/-- a number in memory, with no more than so many digits -/
def BigR (h : Heap) (v : Value) (x : Int) (b : Nat) : Prop := ∃ neg p c ds, v = agg #[.bool neg, slice p (List.length ds) c] ∧ Ints .i64 h p ds ∧ okD ds ∧ x = sg neg ds ∧ ds.length ≤ c ∧ ds.length ≤ b
/-- without digits 0 at the end -/
def BigN (h : Heap) (v : Value) (x : Int) (b : Nat) : Prop := ∃ neg p c ds, v = agg #[.bool neg, slice p (List.length ds) c] ∧ Ints .i64 h p ds ∧ okD ds ∧ x = sg neg ds ∧ ds.length ≤ c ∧ ds.length ≤ b ∧ (dig ds = 0 → ds = [] ∧ neg = false)
theorem BigN.raw {h : Heap} {v : Value} {x : Int} {b : Nat} (n : BigN h v x b) : BigR h v x b := by
  obtain ⟨neg, p, c, ds, a1, a2, a3, a4, a5, a6, _⟩ := n
  exact ⟨neg, p, c, ds, a1, a2, a3, a4, a5, a6⟩
theorem BigR.le {h h' : Heap} {v : Value} {x : Int} {b : Nat} (n : BigR h v x b) (l : h.le h') : BigR h' v x b := by
  obtain ⟨neg, p, c, ds, a1, a2, a3⟩ := n
  exact ⟨neg, p, c, ds, a1, a2.le l, a3⟩
theorem BigN.le {h h' : Heap} {v : Value} {x : Int} {b : Nat} (n : BigN h v x b) (l : h.le h') : BigN h' v x b := by
  obtain ⟨neg, p, c, ds, a1, a2, a3⟩ := n
  exact ⟨neg, p, c, ds, a1, a2.le l, a3⟩
theorem BigR.more {h : Heap} {v : Value} {x : Int} {b b' : Nat} (n : BigR h v x b) (l : b ≤ b') : BigR h v x b' := by
  obtain ⟨neg, p, c, ds, a1, a2, a3, a4, a5, a6⟩ := n
  exact ⟨neg, p, c, ds, a1, a2, a3, a4, a5, by omega⟩

theorem S_digit {neg : Bool} {p : Option Addr} {c : Nat} {ds : List Int} {i : Nat} {h : Heap} (hr : Ints .i64 h p ds) {K : Value → Heap → Prop}
    (k : ∀ h', h.le h' → K (int .i64 (ds.getD i 0)) h') : CallA Try.prog fn_ref01_digit [agg #[.bool neg, slice p ds.length c], int .i64 (i : Int)] h K := by
  refine F_ref01_digit _ _ _ _ _ _ _ ?_
  unfold F_ref01_digitT
  intro r hr0
  have a0 := At.new h r [.bool neg, slice p ds.length c] 118
  refine ⟨p, ds.length, c, a0.cell rfl, Br.dec (fun hlt => ?_) (fun hge => ?_)⟩
  · have hlt : i < ds.length := by omega
    obtain ⟨b, o, ea, hc⟩ := (hr.le (le_ins hr0 (o := .cells [.bool neg, slice p ds.length c].toArray 118 (0, 0)))).at hlt
    refine ⟨p, ds.length, c, a0.cell rfl, by omega, by omega, withAddr_intro ea ⟨_, by rw [Int.toNat_natCast]; exact hc, Ret.mk ?_⟩⟩
    have := k _ (le_ins hr0 (o := .cells [.bool neg, slice p ds.length c].toArray 118 (0, 0)))
    rw [List.getD_eq_getElem?_getD, List.getElem?_eq_getElem hlt] at this
    exact this
  · have := k _ (le_ins hr0 (o := .cells [.bool neg, slice p ds.length c].toArray 118 (0, 0)))
    rw [List.getD_eq_getElem?_getD, List.getElem?_eq_none (by omega)] at this
    exact Ret.mk this

/-- what is left when the zeros at the end are gone -/
theorem trim_loop {neg : Bool} {p : Option Addr} {c : Nat} {ds : List Int} {a t2 : Nat} {h0 h : Heap} (l : h0.le h) (ht : h0 t2 = none) (hne : a ≠ t2) (hr : Ints .i64 h0 p ds) (ok : okD ds) (hc : ds.length ≤ c) (hb : ds.length ≤ 1048576)
    (at' : At h a [.bool neg, slice p ds.length c]) (tt : At h t2 [.bool false, slice none 0 0]) {K : Value → Heap → Prop}
    (k : ∀ v h', h0.le h' → BigN h' v (sg neg ds) ds.length → K v h') : ∀ n, n ≤ ds.length → dig (ds.take n) = dig ds → L_ref01_trim_0 a t2 (n : Int) h K := by
  intro n
  -- the end, with n digits left
  have fin : ∀ n, n ≤ ds.length → dig (ds.take n) = dig ds → (n = 0 ∨ ∃ x, ds[n - 1]? = some x ∧ x ≠ 0) →
      Br ((n : Int) == 0)
        (Heap.canSt h t2 0 2 ∧ ∃ (b : Bool), Heap.cell (Heap.setN h t2 0 [.bool false, slice none 0 0]) t2 0 = some (.bool b) ∧
          ∃ (a : Option Addr), ∃ (n : Nat), ∃ (m : Nat), Heap.cell (Heap.setN h t2 0 [.bool false, slice none 0 0]) t2 1 = some (slice a n m) ∧
            Ret (Heap.setN h t2 0 [.bool false, slice none 0 0]) K (agg #[.bool b, slice a n m]))
        (∃ (b : Bool), Heap.cell h a 0 = some (.bool b) ∧ ∃ (a_1 : Option Addr), ∃ (n_1 : Nat), ∃ (m : Nat), Heap.cell h a 1 = some (slice a_1 n_1 m) ∧
          0 ≤ (n : Int) ∧ (n : Int) ≤ (m : Int) ∧ Heap.canSt h t2 0 2 ∧
          ∃ (b_1 : Bool), Heap.cell (Heap.setN h t2 0 [.bool b, slice a_1 (Int.toNat n) m]) t2 0 = some (.bool b_1) ∧
          ∃ (a : Option Addr), ∃ (n_2 : Nat), ∃ (m_1 : Nat), Heap.cell (Heap.setN h t2 0 [.bool b, slice a_1 (Int.toNat n) m]) t2 1 = some (slice a n_2 m_1) ∧
            Ret (Heap.setN h t2 0 [.bool b, slice a_1 (Int.toNat n) m]) K (agg #[.bool b_1, slice a n_2 m_1])) := by
    intro n hn hd hx
    have cs : h.canSt t2 0 2 := tt.canSt (by simp)
    refine Br.intro (fun e => ?_) (fun e => ?_)
    · have t3 := tt.set (o := 0) (ws := [.bool false, slice none 0 0])
      refine ⟨cs, _, t3.cell rfl, _, _, _, t3.cell rfl, Ret.mk (k _ _ (le_setN l ht) ?_)⟩
      have n0 : n = 0 := by simpa using e
      subst n0
      refine ⟨false, none, 0, [], rfl, .inl rfl, fun d hd => (by cases hd), ?_, by simp, by simp, fun _ => ⟨rfl, rfl⟩⟩
      have : dig ds = 0 := by rw [← hd]; rfl
      unfold sg; rw [this]; simp [dig]
    · have t3 := tt.set (o := 0) (ws := [.bool neg, slice p (Int.toNat n) c])
      refine ⟨_, at'.cell rfl, _, _, _, at'.cell rfl, by omega, by omega, cs, _, t3.cell rfl, _, _, _, t3.cell rfl, Ret.mk (k _ _ (le_setN l ht) ?_)⟩
      have hn0 : n ≠ 0 := by simpa using e
      have hlen : (ds.take n).length = n := by rw [List.length_take]; omega
      refine ⟨neg, p, c, ds.take n, by rw [hlen, Int.toNat_natCast], ?_, okD_take ok n, by unfold sg; rw [hd], by omega, by omega, fun z => ?_⟩
      · have r2 : Ints .i64 h0 p (ds.take n) := by
          unfold Ints at hr ⊢
          rw [← List.take_append_drop n ds, intsV_append] at hr
          exact rdL_take hr
        exact r2.le (le_setN l ht)
      · rcases hx with hx | ⟨x, hx, hx0⟩
        · exact (hn0 hx).elim
        · exfalso
          obtain ⟨m, rfl⟩ : ∃ m, n = m + 1 := ⟨n - 1, by omega⟩
          have hm : m < ds.length := by omega
          rw [dig_take_succ hm] at z
          rw [Nat.add_sub_cancel, List.getElem?_eq_getElem hm] at hx
          cases hx
          have h1 := dig_nonneg (okD_take ok m)
          have h2 := ok _ (List.getElem_mem hm)
          have h3 : (0 : Int) < 10000 ^ m := Int.pow_pos (by decide)
          have h4 : 0 < 10000 ^ m * ds[m] := Int.mul_pos h3 (by omega)
          omega
  induction n with
  | zero =>
    intro hn hd
    refine L_ref01_trim_0r _ _ _ _ _ ?_
    unfold L_ref01_trim_0T
    refine Br.no (by decide) ?_
    exact fin 0 hn hd (.inl rfl)
  | succ n ih =>
    intro hn hd
    refine L_ref01_trim_0r _ _ _ _ _ ?_
    unfold L_ref01_trim_0T
    have hlt : n < ds.length := by omega
    have cnt : IntKind.wrap .i64 (((n + 1 : Nat) : Int) - 1) = (n : Int) := by rw [wrap_i64]; omega
    rw [cnt]
    obtain ⟨b, o, ea, hcell⟩ := (hr.le l).at hlt
    refine Br.yes (decide_eq_true (by omega)) ⟨_, _, _, at'.cell rfl, by omega, by omega, withAddr_intro ea ⟨_, by rw [Int.toNat_natCast]; exact hcell, ?_⟩⟩
    refine Br.intro (fun e => ?_) (fun e => ?_)
    · have e : ds[n] = 0 := by simpa using e
      refine ih (by omega) ?_
      rw [dig_take_succ hlt, e] at hd
      omega
    · have e : ds[n] ≠ 0 := by simpa using e
      exact fin (n + 1) hn hd (.inr ⟨_, by rw [Nat.add_sub_cancel, List.getElem?_eq_getElem hlt], e⟩)
theorem S_trim {neg : Bool} {p : Option Addr} {c : Nat} {ds : List Int} {h : Heap} (hr : Ints .i64 h p ds) (ok : okD ds) (hc : ds.length ≤ c) (hb : ds.length ≤ 1048576) {K : Value → Heap → Prop}
    (k : ∀ v h', h.le h' → BigN h' v (sg neg ds) ds.length → K v h') : CallA Try.prog fn_ref01_trim [agg #[.bool neg, slice p ds.length c]] h K := by
  refine F_ref01_trim _ _ _ _ _ _ ?_
  unfold F_ref01_trimT
  intro r hr0 r1 hr1
  have a0 := (At.new h r [.bool neg, slice p ds.length c] 118).ins (x := .cells [.bool false, slice none 0 0].toArray 118 (0, 0)) hr1
  have t0 := At.new (h.ins r (.cells [.bool neg, slice p ds.length c].toArray 118 (0, 0))) r1 [.bool false, slice none 0 0] 118
  have l := le_ins2 (x := .cells [.bool false, slice none 0 0].toArray 118 (0, 0)) (le_ins hr0 (o := .cells [.bool neg, slice p ds.length c].toArray 118 (0, 0))) hr1
  refine ⟨_, _, _, a0.cell rfl, ?_⟩
  exact trim_loop l (none_of_le (le_ins hr0) hr1) ((At.new _ _ _ _).ne hr1) hr ok hc hb a0 t0 k ds.length (Nat.le_refl _) (by rw [List.take_length])
end Go.Proofs.Ytkcogdmddhkldaa
