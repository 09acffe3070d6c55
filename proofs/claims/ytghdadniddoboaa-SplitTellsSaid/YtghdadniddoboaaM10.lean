import Derived.Test.YtghdadniddoboaaM05
import Derived.Test.YtghdadniddoboaaM01
import Derived.Test.YtghdadniddoboaaM08
/- The reference's whole numbers of any size: digits, trimming, which is larger, turning. -/
namespace Go.Proofs.Ytghdadniddoboaa
open Go Go.Sy Go.Value
set_option linter.unusedVariables false
set_option linter.unusedSimpArgs false

def dig : List Int → Int
  | [] => 0
  | d :: r => d + 10000 * dig r
def okD (l : List Int) : Prop := ∀ d ∈ l, 0 ≤ d ∧ d < 10000
def sg (neg : Bool) (l : List Int) : Int := if neg then -dig l else dig l
theorem okD_cons {d : Int} {l : List Int} (h : okD (d :: l)) : (0 ≤ d ∧ d < 10000) ∧ okD l := ⟨h d (by simp), fun x hx => h x (by simp [hx])⟩
theorem dig_nonneg : ∀ {l : List Int}, okD l → 0 ≤ dig l
  | [], _ => by simp [dig]
  | d :: l, h => by
    have := dig_nonneg (okD_cons h).2
    have := (okD_cons h).1
    simp only [dig]; omega
theorem dig_append : ∀ (l m : List Int), dig (l ++ m) = dig l + 10000 ^ l.length * dig m
  | [], m => by simp [dig]
  | d :: l, m => by
    simp only [List.cons_append, dig, dig_append l m, List.length_cons, Int.pow_succ]
    rw [Int.mul_add, ← Int.mul_assoc, Int.mul_comm 10000 (10000 ^ l.length)]
    omega
theorem okD_take {l : List Int} (h : okD l) (n : Nat) : okD (l.take n) := fun d hd => h d (List.mem_of_mem_take hd)
theorem okD_append {l m : List Int} (h : okD l) (h2 : okD m) : okD (l ++ m) := fun d hd => by
  rcases List.mem_append.1 hd with e | e
  · exact h d e
  · exact h2 d e
theorem dig_take_succ {l : List Int} {n : Nat} (h : n < l.length) : dig (l.take (n + 1)) = dig (l.take n) + 10000 ^ n * l[n] := by
  rw [List.take_add_one, dig_append, List.getElem?_eq_getElem h, List.length_take, Nat.min_eq_left (by omega)]
  simp [dig]
/-- a number in memory, with no more than so many digits -/
def BigR (h : Heap) (v : Value) (x : Int) (b : Nat) : Prop := ∃ neg p c ds, v = agg #[.bool neg, slice p (List.length ds) c] ∧ Ints .i64 h p ds ∧ okD ds ∧ x = sg neg ds ∧ ds.length ≤ c ∧ ds.length ≤ b
/-- without digits 0 at the end -/
def BigN (h : Heap) (v : Value) (x : Int) (b : Nat) : Prop := ∃ neg p c ds, v = agg #[.bool neg, slice p (List.length ds) c] ∧ Ints .i64 h p ds ∧ okD ds ∧ x = sg neg ds ∧ ds.length ≤ c ∧ ds.length ≤ b ∧ (dig ds = 0 → ds = [] ∧ neg = false)
theorem BigN.raw {h : Heap} {v : Value} {x : Int} {b : Nat} (n : BigN h v x b) : BigR h v x b := by
  obtain ⟨neg, p, c, ds, a1, a2, a3, a4, a5, a6, _⟩ := n
  exact ⟨neg, p, c, ds, a1, a2, a3, a4, a5, a6⟩
theorem BigR.le {h h' : Heap} {v : Value} {x : Int} {b : Nat} (n : BigR h v x b) (l : h.le h') : BigR h' v x b := by
  obtain ⟨neg, p, c, ds, a1, a2, a3⟩ := n
  exact ⟨neg, p, c, ds, a1, a2.le l, a3⟩
theorem BigN.le {h h' : Heap} {v : Value} {x : Int} {b : Nat} (n : BigN h v x b) (l : h.le h') : BigN h' v x b := by
  obtain ⟨neg, p, c, ds, a1, a2, a3⟩ := n
  exact ⟨neg, p, c, ds, a1, a2.le l, a3⟩
theorem BigR.more {h : Heap} {v : Value} {x : Int} {b b' : Nat} (n : BigR h v x b) (l : b ≤ b') : BigR h v x b' := by
  obtain ⟨neg, p, c, ds, a1, a2, a3, a4, a5, a6⟩ := n
  exact ⟨neg, p, c, ds, a1, a2, a3, a4, a5, by omega⟩

theorem S_digit {neg : Bool} {p : Option Addr} {c : Nat} {ds : List Int} {i : Nat} {h : Heap} (hr : Ints .i64 h p ds) {K : Value → Heap → Prop}
    (k : ∀ h', h.le h' → K (int .i64 (ds.getD i 0)) h') : CallA Try.prog fn_ref01_digit [agg #[.bool neg, slice p ds.length c], int .i64 (i : Int)] h K := by
  refine F_ref01_digit _ _ _ _ _ _ _ ?_
  unfold F_ref01_digitT
  intro r hr0
  have a0 := At.new h r [.bool neg, slice p ds.length c] 102
  refine ⟨p, ds.length, c, a0.cell rfl, Br.dec (fun hlt => ?_) (fun hge => ?_)⟩
  · have hlt : i < ds.length := by omega
    obtain ⟨b, o, ea, hc⟩ := (hr.le (le_ins hr0 (o := .cells [.bool neg, slice p ds.length c].toArray 102 (0, 0)))).at hlt
    refine ⟨p, ds.length, c, a0.cell rfl, by omega, by omega, withAddr_intro ea ⟨_, by rw [Int.toNat_natCast]; exact hc, Ret.mk ?_⟩⟩
    have := k _ (le_ins hr0 (o := .cells [.bool neg, slice p ds.length c].toArray 102 (0, 0)))
    rw [List.getD_eq_getElem?_getD, List.getElem?_eq_getElem hlt] at this
    exact this
  · have := k _ (le_ins hr0 (o := .cells [.bool neg, slice p ds.length c].toArray 102 (0, 0)))
    rw [List.getD_eq_getElem?_getD, List.getElem?_eq_none (by omega)] at this
    exact Ret.mk this

/-- what is left when the zeros at the end are gone -/
theorem trim_loop {neg : Bool} {p : Option Addr} {c : Nat} {ds : List Int} {a t2 : Nat} {h0 h : Heap} (l : h0.le h) (ht : h0 t2 = none) (hne : a ≠ t2) (hr : Ints .i64 h0 p ds) (ok : okD ds) (hc : ds.length ≤ c) (hb : ds.length ≤ 1048576)
    (at' : At h a [.bool neg, slice p ds.length c]) (tt : At h t2 [.bool false, slice none 0 0]) {K : Value → Heap → Prop}
    (k : ∀ v h', h0.le h' → BigN h' v (sg neg ds) ds.length → K v h') : ∀ n, n ≤ ds.length → dig (ds.take n) = dig ds → L_ref01_trim_0 a t2 (n : Int) h K := by
  intro n
  -- the end, with n digits left
  have fin : ∀ n, n ≤ ds.length → dig (ds.take n) = dig ds → (n = 0 ∨ ∃ x, ds[n - 1]? = some x ∧ x ≠ 0) →
      Br ((n : Int) == 0)
        (Heap.canSt h t2 0 2 ∧ ∃ (b : Bool), Heap.cell (Heap.setN h t2 0 [.bool false, slice none 0 0]) t2 0 = some (.bool b) ∧
          ∃ (a : Option Addr), ∃ (n : Nat), ∃ (m : Nat), Heap.cell (Heap.setN h t2 0 [.bool false, slice none 0 0]) t2 1 = some (slice a n m) ∧
            Ret (Heap.setN h t2 0 [.bool false, slice none 0 0]) K (agg #[.bool b, slice a n m]))
        (∃ (b : Bool), Heap.cell h a 0 = some (.bool b) ∧ ∃ (a_1 : Option Addr), ∃ (n_1 : Nat), ∃ (m : Nat), Heap.cell h a 1 = some (slice a_1 n_1 m) ∧
          0 ≤ (n : Int) ∧ (n : Int) ≤ (m : Int) ∧ Heap.canSt h t2 0 2 ∧
          ∃ (b_1 : Bool), Heap.cell (Heap.setN h t2 0 [.bool b, slice a_1 (Int.toNat n) m]) t2 0 = some (.bool b_1) ∧
          ∃ (a : Option Addr), ∃ (n_2 : Nat), ∃ (m_1 : Nat), Heap.cell (Heap.setN h t2 0 [.bool b, slice a_1 (Int.toNat n) m]) t2 1 = some (slice a n_2 m_1) ∧
            Ret (Heap.setN h t2 0 [.bool b, slice a_1 (Int.toNat n) m]) K (agg #[.bool b_1, slice a n_2 m_1])) := by
    intro n hn hd hx
    have cs : h.canSt t2 0 2 := tt.canSt (by simp)
    refine Br.intro (fun e => ?_) (fun e => ?_)
    · have t3 := tt.set (o := 0) (ws := [.bool false, slice none 0 0])
      refine ⟨cs, _, t3.cell rfl, _, _, _, t3.cell rfl, Ret.mk (k _ _ (le_setN l ht) ?_)⟩
      have n0 : n = 0 := by simpa using e
      subst n0
      refine ⟨false, none, 0, [], rfl, .inl rfl, fun d hd => (by cases hd), ?_, by simp, by simp, fun _ => ⟨rfl, rfl⟩⟩
      have : dig ds = 0 := by rw [← hd]; rfl
      unfold sg; rw [this]; simp [dig]
    · have t3 := tt.set (o := 0) (ws := [.bool neg, slice p (Int.toNat n) c])
      refine ⟨_, at'.cell rfl, _, _, _, at'.cell rfl, by omega, by omega, cs, _, t3.cell rfl, _, _, _, t3.cell rfl, Ret.mk (k _ _ (le_setN l ht) ?_)⟩
      have hn0 : n ≠ 0 := by simpa using e
      have hlen : (ds.take n).length = n := by rw [List.length_take]; omega
      refine ⟨neg, p, c, ds.take n, by rw [hlen, Int.toNat_natCast], ?_, okD_take ok n, by unfold sg; rw [hd], by omega, by omega, fun z => ?_⟩
      · have r2 : Ints .i64 h0 p (ds.take n) := by
          unfold Ints at hr ⊢
          rw [← List.take_append_drop n ds, intsV_append] at hr
          exact rdL_take hr
        exact r2.le (le_setN l ht)
      · rcases hx with hx | ⟨x, hx, hx0⟩
        · exact (hn0 hx).elim
        · exfalso
          obtain ⟨m, rfl⟩ : ∃ m, n = m + 1 := ⟨n - 1, by omega⟩
          have hm : m < ds.length := by omega
          rw [dig_take_succ hm] at z
          rw [Nat.add_sub_cancel, List.getElem?_eq_getElem hm] at hx
          cases hx
          have h1 := dig_nonneg (okD_take ok m)
          have h2 := ok _ (List.getElem_mem hm)
          have h3 : (0 : Int) < 10000 ^ m := Int.pow_pos (by decide)
          have h4 : 0 < 10000 ^ m * ds[m] := Int.mul_pos h3 (by omega)
          omega
  induction n with
  | zero =>
    intro hn hd
    refine L_ref01_trim_0r _ _ _ _ _ ?_
    unfold L_ref01_trim_0T
    refine Br.no (by decide) ?_
    exact fin 0 hn hd (.inl rfl)
  | succ n ih =>
    intro hn hd
    refine L_ref01_trim_0r _ _ _ _ _ ?_
    unfold L_ref01_trim_0T
    have hlt : n < ds.length := by omega
    have cnt : IntKind.wrap .i64 (((n + 1 : Nat) : Int) - 1) = (n : Int) := by rw [wrap_i64]; omega
    rw [cnt]
    obtain ⟨b, o, ea, hcell⟩ := (hr.le l).at hlt
    refine Br.yes (decide_eq_true (by omega)) ⟨_, _, _, at'.cell rfl, by omega, by omega, withAddr_intro ea ⟨_, by rw [Int.toNat_natCast]; exact hcell, ?_⟩⟩
    refine Br.intro (fun e => ?_) (fun e => ?_)
    · have e : ds[n] = 0 := by simpa using e
      refine ih (by omega) ?_
      rw [dig_take_succ hlt, e] at hd
      omega
    · have e : ds[n] ≠ 0 := by simpa using e
      exact fin (n + 1) hn hd (.inr ⟨_, by rw [Nat.add_sub_cancel, List.getElem?_eq_getElem hlt], e⟩)
theorem S_trim {neg : Bool} {p : Option Addr} {c : Nat} {ds : List Int} {h : Heap} (hr : Ints .i64 h p ds) (ok : okD ds) (hc : ds.length ≤ c) (hb : ds.length ≤ 1048576) {K : Value → Heap → Prop}
    (k : ∀ v h', h.le h' → BigN h' v (sg neg ds) ds.length → K v h') : CallA Try.prog fn_ref01_trim [agg #[.bool neg, slice p ds.length c]] h K := by
  refine F_ref01_trim _ _ _ _ _ _ ?_
  unfold F_ref01_trimT
  intro r hr0 r1 hr1
  have a0 := (At.new h r [.bool neg, slice p ds.length c] 102).ins (x := .cells [.bool false, slice none 0 0].toArray 102 (0, 0)) hr1
  have t0 := At.new (h.ins r (.cells [.bool neg, slice p ds.length c].toArray 102 (0, 0))) r1 [.bool false, slice none 0 0] 102
  have l := le_ins2 (x := .cells [.bool false, slice none 0 0].toArray 102 (0, 0)) (le_ins hr0 (o := .cells [.bool neg, slice p ds.length c].toArray 102 (0, 0))) hr1
  refine ⟨_, _, _, a0.cell rfl, ?_⟩
  exact trim_loop l (none_of_le (le_ins hr0) hr1) ((At.new _ _ _ _).ne hr1) hr ok hc hb a0 t0 k ds.length (Nat.le_refl _) (by rw [List.take_length])
end Go.Proofs.Ytghdadniddoboaa

/- The reference's whole numbers of any size: from an amount, turned, which is larger. -/
namespace Go.Proofs.Ytghdadniddoboaa
open Go Go.Sy Go.Value
set_option linter.unusedVariables false
set_option linter.unusedSimpArgs false

theorem td (n : Int) : (0 ≤ n ∧ Int.tdiv n 10000 = n / 10000 ∧ Int.tmod n 10000 = n % 10000) ∨ (n < 0 ∧ Int.tdiv n 10000 = -((-n) / 10000) ∧ Int.tmod n 10000 = -((-n) % 10000)) := by
  by_cases h : 0 ≤ n
  · exact .inl ⟨h, Int.tdiv_eq_ediv_of_nonneg h, Int.tmod_eq_emod_of_nonneg h⟩
  · refine .inr ⟨by omega, ?_, ?_⟩
    · have e : n = -(-n) := by omega
      conv => lhs; rw [e, Int.neg_tdiv, Int.tdiv_eq_ediv_of_nonneg (by omega)]
    · have e : n = -(-n) := by omega
      conv => lhs; rw [e, Int.neg_tmod, Int.tmod_eq_emod_of_nonneg (by omega)]
/-- One digit more behind a number's own list. -/
theorem push_out {h0 h : Heap} {neg : Bool} {out : Nat} {p : Option Addr} {c : Nat} {ds : List Int} {x : Int} (l : h0.le h) (oo : At h out [.bool neg, slice p ds.length c])
    (own : OwnL h0 h [int .i64 0] p c (intsV .i64 ds)) (hp : p ≠ some ⟨out, 0, none⟩) (hn : h0 out = none) (hb : ds.length < 1048576) {J : Heap → Prop}
    (k : ∀ p' c' h', h0.le h' → At h' out [.bool neg, slice p' (ds ++ [x]).length c'] → OwnL h0 h' [int .i64 0] p' c' (intsV .i64 (ds ++ [x])) → p' ≠ some ⟨out, 0, none⟩ →
      (∀ b xs, At h b xs → b ≠ out → p ≠ some ⟨b, 0, none⟩ → At h' b xs ∧ p' ≠ some ⟨b, 0, none⟩) → J h') :
    newB h [int .i64 x] 3 fun (r : Nat) (h : Heap) => AppA [int .i64 0] 3 h p ds.length c 1 (some { block := r, off := 0 }) fun (ap : Option Addr) (cp : Nat) (h : Heap) =>
      Heap.canSt h out 1 1 ∧ J (Heap.setN h out 1 [slice ap (ds.length + 1) cp]) := by
  intro r hr
  have l1 := le_ins2 (x := .cells [int .i64 x].toArray 3 (0, 0)) l hr
  have o1 := oo.ins (x := .cells [int .i64 x].toArray 3 (0, 0)) hr
  have w1 := own.le (le_ins hr (o := .cells [int .i64 x].toArray 3 (0, 0)))
  have s1 : rdL (h.ins r (.cells [int .i64 x].toArray 3 (0, 0))) (some ⟨r, 0, none⟩) (intsV .i64 [x]) := rdL_new _ _ _ _ _
  refine w1.push (by decide) l1 (by omega) (by rw [intsV_length]; rfl) s1 (allCells_ints _ _) (by rw [intsV_length]; simp) ?_
  intro p' c' h' l2 w2 keep how
  have o2 := keep _ _ o1 hp
  have hp' : p' ≠ some ⟨out, 0, none⟩ := by
    rcases how with rfl | ⟨r', rfl, hr'⟩
    · exact hp
    · intro e; cases e; exact o1.ne hr' rfl
  have o3 := o2.set (o := 1) (ws := [slice p' (ds.length + 1) c'])
  rw [← intsV_append] at w2
  refine ⟨o2.canSt (by simp), k p' c' _ (le_setN l2 hn) ?_ (w2.set_ne hp') hp' (fun b xs a hb1 hb2 => ?_)⟩
  · rw [List.length_append]; exact o3
  · have a1 := a.ins (x := .cells [int .i64 x].toArray 3 (0, 0)) hr
    refine ⟨(keep _ _ a1 hb2).set_ne hb1, ?_⟩
    rcases how with rfl | ⟨r', rfl, hr'⟩
    · exact hb2
    · intro e; cases e; exact a1.ne hr' rfl
theorem ints_not_box {h : Heap} {q : Option Addr} {l : List Int} {b : Nat} {x : Bool} {p : Option Addr} {n c : Nat} (r : Ints .i64 h q l) (a : At h b [.bool x, slice p n c]) (hl : l ≠ []) : ∀ o, q ≠ some ⟨b, o, none⟩ := by
  intro o e
  obtain ⟨b', o', e2, hc⟩ := r.at (j := 0) (List.length_pos_iff.2 hl)
  rw [e] at e2
  cases e2
  obtain ⟨T, ea⟩ := a
  unfold Heap.cell at hc
  rw [ea] at hc
  match o with
  | 0 => simp at hc
  | 1 => simp at hc
  | o + 2 => simp at hc
/-- What a number's own list comes to, put into the box of the answer. -/
theorem ret_out {h0 h : Heap} {neg : Bool} {t2 : Nat} {p : Option Addr} {n c : Nat} {K : Value → Heap → Prop} (ht : h0 t2 = none) (l : h0.le h) {x : Bool} {p0 : Option Addr} {n0 c0 : Nat} (tt : At h t2 [.bool x, slice p0 n0 c0])
    (k : ∀ h', h0.le h' → (∀ q l, Ints .i64 h q l → Ints .i64 h' q l) → K (agg #[.bool neg, slice p n c]) h') :
    Heap.canSt h t2 0 2 ∧ ∃ (b_1 : Bool), Heap.cell (Heap.setN h t2 0 [.bool neg, slice p n c]) t2 0 = some (.bool b_1) ∧
      ∃ (a_1 : Option Addr), ∃ (n_1 : Nat), ∃ (m_1 : Nat), Heap.cell (Heap.setN h t2 0 [.bool neg, slice p n c]) t2 1 = some (slice a_1 n_1 m_1) ∧ Ret (Heap.setN h t2 0 [.bool neg, slice p n c]) K (agg #[.bool b_1, slice a_1 n_1 m_1]) := by
  have t3 := tt.set (o := 0) (ws := [.bool neg, slice p n c])
  refine ⟨tt.canSt (by simp), _, t3.cell rfl, _, _, _, t3.cell rfl, Ret.mk (k _ (le_setN l ht) fun q l r => ?_)⟩
  by_cases hl : l = []
  · subst hl; exact .inl rfl
  have hq := ints_not_box r tt hl
  rcases r with r | ⟨b, o, e, r⟩
  · exact .inl r
  · refine .inr ⟨b, o, e, fun j hj => ?_⟩
    have := r j hj
    unfold Heap.cell at this ⊢
    rw [setN_other (fun e2 => hq o (by rw [e, e2]))]
    exact this
theorem of_loop {N : Int} {h0 : Heap} {t2 out : Nat} (ht : h0 t2 = none) (ho : h0 out = none) (hne : t2 ≠ out) {K : Value → Heap → Prop}
    (k : ∀ v h', h0.le h' → BigN h' v N 5 → K v h') : ∀ (f : Nat) (n : Int) (h : Heap) (p : Option Addr) (c : Nat) (ds : List Int), h0.le h → -(10000 : Int) ^ f < n → n < (10000 : Int) ^ f → ds.length + f ≤ 5 → okD ds →
      N = sg (decide (N < 0)) ds + 10000 ^ ds.length * n → (N < 0 → n ≤ 0) → (0 ≤ N → 0 ≤ n) → (N = 0 → ds = []) → I64 n →
      At h out [.bool (decide (N < 0)), slice p ds.length c] → At h t2 [.bool false, slice none 0 0] → OwnL h0 h [int .i64 0] p c (intsV .i64 ds) → p ≠ some ⟨out, 0, none⟩ → p ≠ some ⟨t2, 0, none⟩ →
      L_ref01_Of_0 n t2 out h K := by
  intro f
  induction f with
  | zero =>
    intro n h p c ds l f1 f2 hf ok hN s1 s2 hz hI oo tt own hp1 hp2
    have n0 : n = 0 := by simp at f1 f2; omega
    subst n0
    refine L_ref01_Of_0r _ _ _ _ _ ?_
    unfold L_ref01_Of_0T
    refine Br.no (by decide) ?_
    rw [Int.mul_zero, Int.add_zero] at hN
    refine ⟨_, oo.cell rfl, _, _, _, oo.cell rfl, ret_out ht l tt fun h' l' rd => k _ _ l' ?_⟩
    have hc : ds.length ≤ c := by
      rcases own with ⟨e, _, _⟩ | ⟨r, sp, _, _, _, e⟩
      · have := congrArg List.length e; rw [intsV_length, List.length_nil] at this; omega
      · simp [intsV_length] at e; omega
    refine ⟨_, p, c, ds, rfl, rd _ _ own.rd, ok, hN, hc, by omega, fun z => ?_⟩
    have : N = 0 := by rw [hN]; unfold sg; rw [z]; simp
    exact ⟨hz this, by simp [this]⟩
  | succ f ih =>
    intro n h p c ds l f1 f2 hf ok hN s1 s2 hz hI oo tt own hp1 hp2
    by_cases n0 : n = 0
    · exact (fun x : (-(10000 : Int) ^ f < n ∧ n < (10000 : Int) ^ f) => ih n h p c ds l x.1 x.2 (by omega) ok hN s1 s2 hz hI oo tt own hp1 hp2) (by
        subst n0; have : (0 : Int) < 10000 ^ f := Int.pow_pos (by decide)
        omega)
    refine L_ref01_Of_0r _ _ _ _ _ ?_
    unfold L_ref01_Of_0T
    refine Br.yes (by simpa using n0) ?_
    unfold I64 at hI
    rw [Int.pow_succ] at f1 f2
    generalize hP : (10000 : Int) ^ f = P at *
    -- the next round, whatever the digit
    have next : ∀ (d : Int), 0 ≤ d → d < 10000 → (N < 0 → n = -(d + 10000 * (-(Int.tdiv n 10000)))) → (0 ≤ N → n = d + 10000 * Int.tdiv n 10000) →
        newB h [int .i64 d] 3 fun (r : Nat) (h : Heap) => AppA [int .i64 0] 3 h p ds.length c 1 (some { block := r, off := 0 }) fun (ap : Option Addr) (cp : Nat) (h : Heap) =>
          Heap.canSt h out 1 1 ∧ L_ref01_Of_0 (IntKind.wrap .i64 (Int.tdiv n 10000)) t2 out (Heap.setN h out 1 [slice ap (ds.length + 1) cp]) K := by
      intro d d0 d1 e1 e2
      refine push_out (J := fun h => L_ref01_Of_0 _ t2 out h K) l oo own hp1 ho (by omega) fun p' c' h' l' o' w' hp' keep => ?_
      have tq : I64 (Int.tdiv n 10000) := by unfold I64; rcases td n with ⟨a, b, _⟩ | ⟨a, b, _⟩ <;> rw [b] <;> omega
      rw [wrap_i64_id tq.1 tq.2]
      obtain ⟨t', hp2'⟩ := keep _ _ tt hne hp2
      have hlen : (ds ++ [d]).length = ds.length + 1 := by simp
      refine ih _ h' p' c' (ds ++ [d]) l' ?_ ?_ (by rw [hlen]; omega) (okD_append ok (fun x hx => by simp at hx; omega)) ?_ ?_ ?_ ?_ tq o' t' w' hp' hp2'
      · rcases td n with ⟨a, b, _⟩ | ⟨a, b, _⟩ <;> rw [b] <;> omega
      · rcases td n with ⟨a, b, _⟩ | ⟨a, b, _⟩ <;> rw [b] <;> omega
      · have ed : dig (ds ++ [d]) = dig ds + 10000 ^ ds.length * d := by rw [dig_append]; simp [dig]
        rw [hlen, Int.pow_succ, Int.mul_assoc]
        unfold sg at hN ⊢
        rw [ed]
        by_cases hn : N < 0
        · have e := e1 hn
          simp only [hn, decide_true, if_true] at hN ⊢
          have e3 : 10000 ^ ds.length * n = 10000 ^ ds.length * (10000 * Int.tdiv n 10000) - 10000 ^ ds.length * d := by
            rw [← Int.mul_sub]; congr 1; omega
          omega
        · have e := e2 (by omega)
          simp only [hn, decide_false, Bool.false_eq_true, if_false] at hN ⊢
          have e3 : 10000 ^ ds.length * n = 10000 ^ ds.length * (10000 * Int.tdiv n 10000) + 10000 ^ ds.length * d := by
            rw [← Int.mul_add]; congr 1; omega
          omega
      · intro hn; have := s1 hn; rcases td n with ⟨a, b, _⟩ | ⟨a, b, _⟩ <;> rw [b] <;> omega
      · intro hn; have := s2 hn; rcases td n with ⟨a, b, _⟩ | ⟨a, b, _⟩ <;> rw [b] <;> omega
      · intro hn; have := s2 (by omega); have e := hz hn
        subst e
        simp [sg, dig] at hN
        omega
    refine Br.dec (fun hneg => ?_) (fun hpos => ?_)
    · have hw : IntKind.wrap .i64 (0 - Int.tmod n 10000) = -(Int.tmod n 10000) := by
        rcases td n with ⟨a, _, b⟩ | ⟨a, _, b⟩ <;> rw [wrap_i64_id (by omega) (by omega)] <;> omega
      rw [hw]
      refine ⟨p, _, c, oo.cell rfl, next _ ?_ ?_ ?_ ?_⟩
      · omega
      · rcases td n with ⟨a, _, b⟩ | ⟨a, _, b⟩ <;> rw [b] <;> omega
      · intro _; rcases td n with ⟨a, b, c⟩ | ⟨a, b, c⟩ <;> rw [b, c] <;> omega
      · intro hn; have := s2 hn; rcases td n with ⟨a, b, c⟩ | ⟨a, b, c⟩ <;> omega
    · refine ⟨p, _, c, oo.cell rfl, next _ ?_ ?_ ?_ ?_⟩
      · omega
      · rcases td n with ⟨a, _, b⟩ | ⟨a, _, b⟩ <;> rw [b] <;> omega
      · intro hn; have := s1 hn; rcases td n with ⟨a, b, c⟩ | ⟨a, b, c⟩ <;> rw [b, c] <;> omega
      · intro hn; have := s2 hn; rcases td n with ⟨a, b, c⟩ | ⟨a, b, c⟩ <;> rw [b, c] <;> omega
theorem S_Of {n : Int} (hn : I64 n) {h : Heap} {K : Value → Heap → Prop} (k : ∀ v h', h.le h' → BigN h' v n 5 → K v h') : CallA Try.prog fn_ref01_Of [int .i64 n] h K := by
  refine F_ref01_Of _ _ _ ?_
  unfold F_ref01_OfT
  intro r hr r1 hr1
  have t0 := (At.new h r [.bool false, slice none 0 0] 102).ins (x := .cells [.bool false, slice none 0 0].toArray 102 (0, 0)) hr1
  have o0 := At.new (h.ins r (.cells [.bool false, slice none 0 0].toArray 102 (0, 0))) r1 [.bool false, slice none 0 0] 102
  have l := le_ins2 (x := .cells [.bool false, slice none 0 0].toArray 102 (0, 0)) (le_ins hr (o := .cells [.bool false, slice none 0 0].toArray 102 (0, 0))) hr1
  have hne : r ≠ r1 := (At.new _ _ _ _).ne hr1
  have h1 : h r1 = none := none_of_le (le_ins hr) hr1
  refine ⟨o0.canSt (by simp), ?_⟩
  have o1 := o0.set (o := 0) (ws := [.bool (decide (n < 0)), slice none 0 0])
  unfold I64 at hn
  refine of_loop (N := n) hr h1 hne k 5 n _ none 0 [] (le_setN l h1) (by omega) (by omega) (by simp) (fun d hd => (by cases hd)) (by simp [sg, dig]) (fun h => by omega) (fun h => by omega) (fun _ => rfl) hn o1 (t0.set_ne hne) (OwnL.nil _ _ _) (by simp) (by simp)
theorem S_Turned {v : Value} {x : Int} {b : Nat} {h : Heap} (hv : BigR h v x b) (hb : b ≤ 1048576) {K : Value → Heap → Prop} (k : ∀ v' h', h.le h' → BigN h' v' (-x) b → K v' h') : CallA Try.prog fn_ref01_Turned [v] h K := by
  obtain ⟨neg, p, c, ds, rfl, hr, ok, hx, hc, hl⟩ := hv
  refine F_ref01_Turned _ _ _ _ _ _ ?_
  unfold F_ref01_TurnedT
  intro r hr0 r1 hr1
  have a0 := (At.new h r [.bool neg, slice p ds.length c] 102).ins (x := .cells [.bool false, slice none 0 0].toArray 102 (0, 0)) hr1
  have t0 := At.new (h.ins r (.cells [.bool neg, slice p ds.length c].toArray 102 (0, 0))) r1 [.bool false, slice none 0 0] 102
  have l := le_ins2 (x := .cells [.bool false, slice none 0 0].toArray 102 (0, 0)) (le_ins hr0 (o := .cells [.bool neg, slice p ds.length c].toArray 102 (0, 0))) hr1
  have h1 : h r1 = none := none_of_le (le_ins hr0) hr1
  refine ⟨_, a0.cell rfl, _, _, _, a0.cell rfl, S_trim (hr.le l) ok hc (by omega) fun v' h' l' nb => ?_⟩
  obtain ⟨neg2, p2, c2, ds2, rfl, r2, ok2, x2, c3, b2, nz⟩ := nb
  refine ⟨_, _, _, _, rfl, ret_out h1 (Heap.le_trans l l') (t0.le l') fun h'' l'' rd => k _ _ l'' ?_⟩
  refine ⟨neg2, p2, c2, ds2, rfl, rd _ _ r2, ok2, ?_, c3, by omega, nz⟩
  · rw [hx, ← x2]; unfold sg; cases neg <;> simp
end Go.Proofs.Ytghdadniddoboaa

/- The reference's whole numbers of any size: which is larger, and sums. -/
namespace Go.Proofs.Ytghdadniddoboaa
open Go Go.Sy Go.Value
set_option linter.unusedVariables false
set_option linter.unusedSimpArgs false

theorem dig_take_any (l : List Int) (n : Nat) : dig (l.take (n + 1)) = dig (l.take n) + 10000 ^ n * l.getD n 0 := by
  by_cases h : n < l.length
  · rw [dig_take_succ h, List.getD_eq_getElem?_getD, List.getElem?_eq_getElem h]; rfl
  · rw [List.take_of_length_le (by omega), List.take_of_length_le (by omega), List.getD_eq_getElem?_getD, List.getElem?_eq_none (by omega)]; simp
theorem dig_lt : ∀ {l : List Int}, okD l → dig l < 10000 ^ l.length
  | [], _ => by simp [dig]
  | d :: l, h => by
    have h1 := dig_lt (okD_cons h).2
    have h2 := (okD_cons h).1
    simp only [dig, List.length_cons, Int.pow_succ]
    omega
theorem pow_le {m n : Nat} (h : m ≤ n) : (10000 : Int) ^ m ≤ 10000 ^ n := by
  induction h with
  | refl => exact Int.le_refl _
  | step _ ih =>
    rw [Int.pow_succ]
    have := Int.pow_pos (n := 10000) (m := m) (by decide)
    omega
theorem dig_take_lt {l : List Int} (h : okD l) (n : Nat) : dig (l.take n) < 10000 ^ n := by
  have h1 := dig_lt (okD_take h n)
  have h2 : (10000 : Int) ^ (l.take n).length ≤ 10000 ^ n := pow_le (by rw [List.length_take]; omega)
  omega
theorem getD_ok {l : List Int} (h : okD l) (n : Nat) : 0 ≤ l.getD n 0 ∧ l.getD n 0 < 10000 := by
  rw [List.getD_eq_getElem?_getD]
  by_cases hn : n < l.length
  · rw [List.getElem?_eq_getElem hn]; exact h _ (List.getElem_mem hn)
  · rw [List.getElem?_eq_none (by omega)]; simp
def cmpI (x y : Int) : Int := if x > y then 1 else if x < y then -1 else 0
theorem larger_loop {na nb : Bool} {pa pb : Option Addr} {ca cb : Nat} {da db : List Int} {a b : Nat} {h0 : Heap} (ra : Ints .i64 h0 pa da) (rb : Ints .i64 h0 pb db) (oa : okD da) (ob : okD db) {K : Value → Heap → Prop}
    (k : ∀ h', h0.le h' → K (int .i64 (cmpI (dig da) (dig db))) h') : ∀ (n : Nat) (h : Heap), h0.le h → At h a [.bool na, slice pa da.length ca] → At h b [.bool nb, slice pb db.length cb] → n ≤ 1048577 →
      dig da - dig db = dig (da.take n) - dig (db.take n) → L_ref01_larger_0 a b ((n : Int) - 1) h K := by
  intro n
  induction n with
  | zero =>
    intro h l aa ab hn e
    refine L_ref01_larger_0r _ _ _ _ _ ?_
    unfold L_ref01_larger_0T
    refine Br.no (by decide) (Ret.mk ?_)
    have := k h l
    have e2 : cmpI (dig da) (dig db) = 0 := by
      simp [dig] at e
      unfold cmpI
      rw [if_neg (by omega), if_neg (by omega)]
    rw [e2] at this
    exact this
  | succ n ih =>
    intro h l aa ab hn e
    refine L_ref01_larger_0r _ _ _ _ _ ?_
    unfold L_ref01_larger_0T
    rw [show (((n + 1 : Nat) : Int) - 1) = (n : Int) from by omega]
    refine Br.yes (decide_eq_true (by omega)) ⟨_, aa.cell rfl, _, _, _, aa.cell rfl, _, ab.cell rfl, _, _, _, ab.cell rfl, ?_⟩
    refine S_digit (ra.le l) fun h1 l1 => ⟨_, rfl, .inl l1, ?_⟩
    have l1' := Heap.le_trans l l1
    refine S_digit (rb.le l1') fun h2 l2 => ⟨_, rfl, ?_⟩
    have l2' := Heap.le_trans l1' l2
    have aa2 := aa.le (Heap.le_trans l1 l2)
    have ab2 := ab.le (Heap.le_trans l1 l2)
    rw [dig_take_any, dig_take_any] at e
    have g1 := getD_ok oa n
    have g2 := getD_ok ob n
    have t1 := dig_take_lt oa n
    have t2 := dig_take_lt ob n
    have t3 := dig_nonneg (okD_take oa n)
    have t4 := dig_nonneg (okD_take ob n)
    have hP : (0 : Int) < 10000 ^ n := Int.pow_pos (by decide)
    generalize hxa : da.getD n 0 = x at *
    generalize hxb : db.getD n 0 = y at *
    generalize hPP : (10000 : Int) ^ n = P at *
    refine Br.dec (fun gt => Ret.mk ?_) (fun ngt => ?_)
    · have := k h2 l2'
      have m : P * (y + 1) ≤ P * x := Int.mul_le_mul_of_nonneg_left (by omega) (by omega)
      rw [Int.mul_add, Int.mul_one] at m
      have e2 : cmpI (dig da) (dig db) = 1 := by
        unfold cmpI
        rw [if_pos (by omega)]
      rw [e2] at this
      exact this
    · refine ⟨_, aa2.cell rfl, _, _, _, aa2.cell rfl, _, ab2.cell rfl, _, _, _, ab2.cell rfl, ?_⟩
      refine S_digit (ra.le l2') fun h3 l3 => ⟨_, rfl, .inl l3, ?_⟩
      have l3' := Heap.le_trans l2' l3
      refine S_digit (rb.le l3') fun h4 l4 => ⟨_, rfl, ?_⟩
      have l4' := Heap.le_trans l3' l4
      rw [hxa, hxb]
      refine Br.dec (fun lt => Ret.mk ?_) (fun nlt => ?_)
      · have := k h4 l4'
        have m : P * (x + 1) ≤ P * y := Int.mul_le_mul_of_nonneg_left (by omega) (by omega)
        rw [Int.mul_add, Int.mul_one] at m
        have e2 : cmpI (dig da) (dig db) = -1 := by
          unfold cmpI
          rw [if_neg (by omega), if_pos (by omega)]
        rw [e2] at this
        exact this
      · have exy : x = y := by omega
        rw [wrap_i64_id (by omega) (by omega)]
        refine ih h4 l4' (aa2.le (Heap.le_trans l3 l4)) (ab2.le (Heap.le_trans l3 l4)) (by omega) ?_
        rw [exy] at e
        omega
theorem S_larger {na nb : Bool} {pa pb : Option Addr} {ca cb : Nat} {da db : List Int} {h : Heap} (ra : Ints .i64 h pa da) (rb : Ints .i64 h pb db) (oa : okD da) (ob : okD db) (la : da.length ≤ 1048576) (lb : db.length ≤ 1048576)
    {K : Value → Heap → Prop} (k : ∀ h', h.le h' → K (int .i64 (cmpI (dig da) (dig db))) h') : CallA Try.prog fn_ref01_larger [agg #[.bool na, slice pa da.length ca], agg #[.bool nb, slice pb db.length cb]] h K := by
  refine F_ref01_larger _ _ _ _ _ _ _ _ _ _ ?_
  unfold F_ref01_largerT
  intro r hr r1 hr1
  have a0 := (At.new h r [.bool na, slice pa da.length ca] 102).ins (x := .cells [.bool nb, slice pb db.length cb].toArray 102 (0, 0)) hr1
  have b0 := At.new (h.ins r (.cells [.bool na, slice pa da.length ca].toArray 102 (0, 0))) r1 [.bool nb, slice pb db.length cb] 102
  have l := le_ins2 (x := .cells [.bool nb, slice pb db.length cb].toArray 102 (0, 0)) (le_ins hr (o := .cells [.bool na, slice pa da.length ca].toArray 102 (0, 0))) hr1
  refine ⟨_, _, _, a0.cell rfl, _, _, _, b0.cell rfl, ?_⟩
  have hm : ∃ m : Nat, (if (db.length : Int) > (da.length : Int) then (db.length : Int) else (da.length : Int)) = (m : Int) ∧ da.length ≤ m ∧ db.length ≤ m ∧ m ≤ 1048576 := by
    by_cases hh : (db.length : Int) > (da.length : Int)
    · exact ⟨db.length, by rw [if_pos hh], by omega, by omega, lb⟩
    · exact ⟨da.length, by rw [if_neg hh], by omega, by omega, la⟩
  obtain ⟨m, em, m1, m2, m3⟩ := hm
  rw [em, wrap_i64_id (by omega) (by omega)]
  exact larger_loop ra rb oa ob k m _ l a0 b0 (by omega) (by rw [List.take_of_length_le m1, List.take_of_length_le m2])

/-- the end of a sum: trimmed, and put into the box of the answer -/
theorem add_end {h0 h : Heap} {neg : Bool} {out t4 : Nat} {p : Option Addr} {c : Nat} {ds : List Int} {K : Value → Heap → Prop} {X : Int} {B : Nat} (l : h0.le h) (ht : h0 t4 = none) (oo : At h out [.bool neg, slice p ds.length c])
    (tt : At h t4 [.bool false, slice none 0 0]) (rd : Ints .i64 h p ds) (ok : okD ds) (hc : ds.length ≤ c) (hb : ds.length ≤ 1048576) (hB : ds.length ≤ B) (hX : sg neg ds = X) (k : ∀ v h', h0.le h' → BigN h' v X B → K v h') :
    ∃ (b : Bool), Heap.cell h out 0 = some (Value.bool b) ∧ ∃ (a : Option Addr), ∃ (n : Nat), ∃ (m : Nat), Heap.cell h out 1 = some (slice a n m) ∧
      CallA Try.prog fn_ref01_trim [agg #[Value.bool b, slice a n m]] h fun (v : Value) (h : Heap) =>
        ∃ (b : Bool), ∃ (a : Option Addr), ∃ (n : Nat), ∃ (m : Nat), v = agg #[Value.bool b, slice a n m] ∧ Heap.canSt h t4 0 2 ∧
          ∃ (b_1 : Bool), Heap.cell (Heap.setN h t4 0 [Value.bool b, slice a n m]) t4 0 = some (Value.bool b_1) ∧
          ∃ (a_3 : Option Addr), ∃ (n_2 : Nat), ∃ (m_1 : Nat), Heap.cell (Heap.setN h t4 0 [Value.bool b, slice a n m]) t4 1 = some (slice a_3 n_2 m_1) ∧
            Ret (Heap.setN h t4 0 [Value.bool b, slice a n m]) K (agg #[Value.bool b_1, slice a_3 n_2 m_1]) := by
  refine ⟨_, oo.cell rfl, _, _, _, oo.cell rfl, S_trim rd ok hc hb fun v h' l' nb => ?_⟩
  obtain ⟨neg2, p2, c2, ds2, rfl, r2, ok2, x2, c3, b2, nz⟩ := nb
  refine ⟨_, _, _, _, rfl, ret_out ht (Heap.le_trans l l') (tt.le l') fun h'' l'' rd => k _ _ l'' ?_⟩
  exact ⟨neg2, p2, c2, ds2, rfl, rd _ _ r2, ok2, by rw [← hX, x2], c3, by omega, nz⟩
theorem own_len {h0 h : Heap} {p : Option Addr} {c : Nat} {ds : List Int} (own : OwnL h0 h [int .i64 0] p c (intsV .i64 ds)) : ds.length ≤ c := by
  rcases own with ⟨e, _, _⟩ | ⟨r, sp, _, _, _, e⟩
  · have := congrArg List.length e; rw [intsV_length, List.length_nil] at this; omega
  · simp [intsV_length] at e; omega
theorem add_loop {na nb : Bool} {pa pb : Option Addr} {ca cb : Nat} {da db : List Int} {a b t4 out : Nat} {h0 : Heap} (ra : Ints .i64 h0 pa da) (rb : Ints .i64 h0 pb db) (oa : okD da) (ob : okD db)
    (ht : h0 t4 = none) (ho : h0 out = none) (n1 : a ≠ out) (n2 : b ≠ out) (n3 : t4 ≠ out) {m : Nat} (ma : da.length ≤ m) (mb : db.length ≤ m) (mm : (if (db.length : Int) > (da.length : Int) then (db.length : Int) else (da.length : Int)) = (m : Int)) (m3 : m ≤ 1048570)
    {K : Value → Heap → Prop} (k : ∀ v h', h0.le h' → BigN h' v (if na then -(dig da + dig db) else dig da + dig db) (m + 1) → K v h') :
    ∀ (d : Nat) (ds : List Int) (p : Option Addr) (c : Nat) (carry : Int) (h : Heap), ds.length + d = m + 1 → h0.le h → At h a [.bool na, slice pa da.length ca] → At h b [.bool nb, slice pb db.length cb] → At h t4 [.bool false, slice none 0 0] →
      At h out [.bool na, slice p ds.length c] → OwnL h0 h [int .i64 0] p c (intsV .i64 ds) → p ≠ some ⟨out, 0, none⟩ → p ≠ some ⟨a, 0, none⟩ → p ≠ some ⟨b, 0, none⟩ → p ≠ some ⟨t4, 0, none⟩ → okD ds → 0 ≤ carry → carry ≤ 1 →
      dig ds + 10000 ^ ds.length * carry = dig (da.take ds.length) + dig (db.take ds.length) → L_ref01_Add_0 a b t4 out carry (ds.length : Int) h K := by
  intro d
  induction d with
  | zero =>
    intro ds p c carry h hd l aa ab tt oo own hp1 hp2 hp3 hp4 ok c0 c1 e
    refine L_ref01_Add_0r _ _ _ _ _ _ _ _ ?_
    unfold L_ref01_Add_0T
    refine ⟨_, _, _, aa.cell rfl, _, _, _, ab.cell rfl, ?_⟩
    rw [mm, wrap_i64_id (by omega) (by omega)]
    refine Br.no (decide_eq_false (by omega)) ?_
    refine add_end l ht oo tt own.rd ok (own_len own) (by omega) (B := m + 1) (by omega) ?_ k
    have t1 := dig_take_lt oa m
    have t2 := dig_take_lt ob m
    rw [List.take_of_length_le ma] at t1
    rw [List.take_of_length_le mb] at t2
    have hl : ds.length = m + 1 := by omega
    rw [hl, List.take_of_length_le (by omega), List.take_of_length_le (by omega), Int.pow_succ] at e
    have hP : (0 : Int) < 10000 ^ m := Int.pow_pos (by decide)
    generalize (10000 : Int) ^ m = P at *
    have hc : carry = 0 := by
      rcases (show carry = 0 ∨ carry = 1 by omega) with h | h
      · exact h
      · rw [h] at e
        have := dig_nonneg ok
        omega
    rw [hc, Int.mul_zero, Int.add_zero] at e
    unfold sg
    rw [e]
  | succ d ih =>
    intro ds p c carry h hd l aa ab tt oo own hp1 hp2 hp3 hp4 ok c0 c1 e
    refine L_ref01_Add_0r _ _ _ _ _ _ _ _ ?_
    unfold L_ref01_Add_0T
    refine ⟨_, _, _, aa.cell rfl, _, _, _, ab.cell rfl, ?_⟩
    rw [mm, wrap_i64_id (n := (m : Int) + 1) (by omega) (by omega)]
    refine Br.yes (decide_eq_true (by omega)) ⟨_, aa.cell rfl, _, _, _, aa.cell rfl, _, ab.cell rfl, _, _, _, ab.cell rfl, ?_⟩
    refine S_digit (ra.le l) fun h1 l1 => ⟨_, rfl, .inl l1, ?_⟩
    have l1' := Heap.le_trans l l1
    refine S_digit (rb.le l1') fun h2 l2 => ⟨_, rfl, ?_⟩
    have l2' := Heap.le_trans l1' l2
    have l12 := Heap.le_trans l1 l2
    have g1 := getD_ok oa ds.length
    have g2 := getD_ok ob ds.length
    have e1 := dig_take_any da ds.length
    have e2 := dig_take_any db ds.length
    generalize hxa : da.getD ds.length 0 = x at *
    generalize hxb : db.getD ds.length 0 = y at *
    have w1 : IntKind.wrap .i64 (IntKind.wrap .i64 (carry + x) + y) = carry + x + y := by
      rw [wrap_i64_id (n := carry + x) (by omega) (by omega), wrap_i64_id (by omega) (by omega)]
    rw [w1]
    rcases td (carry + x + y) with ⟨z0, z1, z2⟩ | ⟨z0, _⟩
    case inr => omega
    rw [z1, z2]
    refine ⟨_, _, _, (oo.le l12).cell rfl, ?_⟩
    rw [wrap_i64_id (n := (carry + x + y) / 10000) (by omega) (by omega), wrap_i64_id (n := (ds.length : Int) + 1) (by omega) (by omega)]
    refine push_out (J := fun h => L_ref01_Add_0 a b t4 out ((carry + x + y) / 10000) ((ds.length : Int) + 1) h K) l2' (oo.le l12) (own.le l12) hp1 ho (by omega) fun p' c' h' l' o' w' hp' keep => ?_
    obtain ⟨aa', q1⟩ := keep _ _ (aa.le l12) n1 hp2
    obtain ⟨ab', q2⟩ := keep _ _ (ab.le l12) n2 hp3
    obtain ⟨tt', q3⟩ := keep _ _ (tt.le l12) n3 hp4
    have hlen : (ds ++ [(carry + x + y) % 10000]).length = ds.length + 1 := by simp
    have fin := ih (ds ++ [(carry + x + y) % 10000]) p' c' ((carry + x + y) / 10000) h' (by rw [hlen]; omega) l' aa' ab' tt' o' w' hp' q1 q2 q3 (okD_append ok (fun v hv => by simp at hv; omega)) (by omega) (by omega) (by
      have ed : dig (ds ++ [(carry + x + y) % 10000]) = dig ds + 10000 ^ ds.length * ((carry + x + y) % 10000) := by rw [dig_append]; simp [dig]
      rw [hlen, ed, e1, e2, Int.pow_succ, Int.mul_assoc]
      have m1 : (10000 : Int) ^ ds.length * ((carry + x + y) % 10000) + 10000 ^ ds.length * (10000 * ((carry + x + y) / 10000)) = 10000 ^ ds.length * (carry + x + y) := by
        rw [← Int.mul_add]; congr 1; omega
      rw [Int.mul_add, Int.mul_add] at m1
      omega)
    rw [hlen] at fin
    exact fin
theorem sub_loop {na nb : Bool} {pa pb : Option Addr} {ca cb : Nat} {da db : List Int} {a b t4 out : Nat} {h0 : Heap} (ra : Ints .i64 h0 pa da) (rb : Ints .i64 h0 pb db) (oa : okD da) (ob : okD db)
    (ht : h0 t4 = none) (ho : h0 out = none) (n1 : a ≠ out) (n2 : b ≠ out) (n3 : t4 ≠ out) (hge : dig db ≤ dig da) {B : Nat} (hB : da.length ≤ B) (m3 : da.length ≤ 1048570)
    {K : Value → Heap → Prop} (k : ∀ v h', h0.le h' → BigN h' v (if na then -(dig da - dig db) else dig da - dig db) B → K v h') :
    ∀ (d : Nat) (ds : List Int) (p : Option Addr) (c : Nat) (carry : Int) (h : Heap), ds.length + d = da.length → h0.le h → At h a [.bool na, slice pa da.length ca] → At h b [.bool nb, slice pb db.length cb] → At h t4 [.bool false, slice none 0 0] →
      At h out [.bool na, slice p ds.length c] → OwnL h0 h [int .i64 0] p c (intsV .i64 ds) → p ≠ some ⟨out, 0, none⟩ → p ≠ some ⟨a, 0, none⟩ → p ≠ some ⟨b, 0, none⟩ → p ≠ some ⟨t4, 0, none⟩ → okD ds → 0 ≤ carry → carry ≤ 1 →
      dig ds - 10000 ^ ds.length * carry = dig (da.take ds.length) - dig (db.take ds.length) → L_ref01_Add_1 a b t4 out carry (ds.length : Int) h K := by
  intro d
  induction d with
  | zero =>
    intro ds p c carry h hd l aa ab tt oo own hp1 hp2 hp3 hp4 ok c0 c1 e
    refine L_ref01_Add_1r _ _ _ _ _ _ _ _ ?_
    unfold L_ref01_Add_1T
    refine ⟨_, _, _, aa.cell rfl, ?_⟩
    refine Br.no (decide_eq_false (by omega)) ?_
    refine add_end l ht oo tt own.rd ok (own_len own) (by omega) (B := B) (by omega) ?_ k
    have t1 := dig_lt oa
    have t2 := dig_lt ok
    have hl : ds.length = da.length := by omega
    rw [hl, List.take_of_length_le (Nat.le_refl _)] at e
    rw [hl] at t2
    have eb : dig (db.take da.length) = dig db := by
      have s1 := dig_append (db.take da.length) (db.drop da.length)
      rw [List.take_append_drop] at s1
      have s2 := dig_nonneg (okD_take ob da.length)
      have s3 : okD (db.drop da.length) := fun v hv => ob v (List.mem_of_mem_drop hv)
      have s4 := dig_nonneg s3
      by_cases hlen : da.length ≤ db.length
      · rw [List.length_take, Nat.min_eq_left hlen] at s1
        have hP : (0 : Int) < 10000 ^ da.length := Int.pow_pos (by decide)
        rcases (show dig (db.drop da.length) = 0 ∨ 1 ≤ dig (db.drop da.length) by omega) with z | z
        · rw [z, Int.mul_zero] at s1; omega
        · have : (10000 : Int) ^ da.length * 1 ≤ 10000 ^ da.length * dig (db.drop da.length) := Int.mul_le_mul_of_nonneg_left z (by omega)
          omega
      · rw [List.take_of_length_le (by omega)]
    rw [eb] at e
    have hc : carry = 0 := by
      rcases (show carry = 0 ∨ carry = 1 by omega) with h | h
      · exact h
      · rw [h] at e
        omega
    rw [hc, Int.mul_zero, Int.sub_zero] at e
    unfold sg
    rw [e]
  | succ d ih =>
    intro ds p c carry h hd l aa ab tt oo own hp1 hp2 hp3 hp4 ok c0 c1 e
    refine L_ref01_Add_1r _ _ _ _ _ _ _ _ ?_
    unfold L_ref01_Add_1T
    refine ⟨_, _, _, aa.cell rfl, ?_⟩
    refine Br.yes (decide_eq_true (by omega)) ⟨_, aa.cell rfl, _, _, _, aa.cell rfl, _, ab.cell rfl, _, _, _, ab.cell rfl, ?_⟩
    refine S_digit (ra.le l) fun h1 l1 => ⟨_, rfl, .inl l1, ?_⟩
    have l1' := Heap.le_trans l l1
    refine S_digit (rb.le l1') fun h2 l2 => ⟨_, rfl, ?_⟩
    have l2' := Heap.le_trans l1' l2
    have l12 := Heap.le_trans l1 l2
    have g1 := getD_ok oa ds.length
    have g2 := getD_ok ob ds.length
    have e1 := dig_take_any da ds.length
    have e2 := dig_take_any db ds.length
    generalize hxa : da.getD ds.length 0 = x at *
    generalize hxb : db.getD ds.length 0 = y at *
    have w1 : IntKind.wrap .i64 (IntKind.wrap .i64 (x - y) - carry) = x - y - carry := by
      rw [wrap_i64_id (n := x - y) (by omega) (by omega), wrap_i64_id (by omega) (by omega)]
    rw [w1]
    -- whatever is borrowed
    have next : ∀ (v cr : Int), 0 ≤ v → v < 10000 → 0 ≤ cr → cr ≤ 1 → v - 10000 * cr = x - y - carry →
        newB h2 [int .i64 v] 3 fun (r : Nat) (h : Heap) => AppA [int .i64 0] 3 h p ds.length c 1 (some { block := r, off := 0 }) fun (ap : Option Addr) (cp : Nat) (h : Heap) =>
          Heap.canSt h out 1 1 ∧ L_ref01_Add_1 a b t4 out cr (IntKind.wrap .i64 ((ds.length : Int) + 1)) (Heap.setN h out 1 [slice ap (ds.length + 1) cp]) K := by
      intro v cr v0 v1 cr0 cr1 hv
      rw [wrap_i64_id (n := (ds.length : Int) + 1) (by omega) (by omega)]
      refine push_out (J := fun h => L_ref01_Add_1 a b t4 out cr ((ds.length : Int) + 1) h K) l2' (oo.le l12) (own.le l12) hp1 ho (by omega) fun p' c' h' l' o' w' hp' keep => ?_
      obtain ⟨aa', q1⟩ := keep _ _ (aa.le l12) n1 hp2
      obtain ⟨ab', q2⟩ := keep _ _ (ab.le l12) n2 hp3
      obtain ⟨tt', q3⟩ := keep _ _ (tt.le l12) n3 hp4
      have hlen : (ds ++ [v]).length = ds.length + 1 := by simp
      have fin := ih (ds ++ [v]) p' c' cr h' (by rw [hlen]; omega) l' aa' ab' tt' o' w' hp' q1 q2 q3 (okD_append ok (fun u hu => by simp at hu; omega)) cr0 cr1 (by
        have ed : dig (ds ++ [v]) = dig ds + 10000 ^ ds.length * v := by rw [dig_append]; simp [dig]
        rw [hlen, ed, e1, e2, Int.pow_succ, Int.mul_assoc]
        have m1 : (10000 : Int) ^ ds.length * v - 10000 ^ ds.length * (10000 * cr) = 10000 ^ ds.length * (x - y - carry) := by
          rw [← Int.mul_sub]; congr 1
        rw [Int.mul_sub, Int.mul_sub] at m1
        omega)
      rw [hlen] at fin
      exact fin
    refine Br.dec (fun lt => ?_) (fun ge => ?_)
    · refine ⟨_, _, _, (oo.le l12).cell rfl, ?_⟩
      rw [wrap_i64_id (n := x - y - carry + 10000) (by omega) (by omega)]
      exact next _ 1 (by omega) (by omega) (by omega) (by omega) (by omega)
    · exact ⟨_, _, _, (oo.le l12).cell rfl, next _ 0 (by omega) (by omega) (by omega) (by omega) (by omega)⟩
end Go.Proofs.Ytghdadniddoboaa

/- The reference's whole numbers of any size: a sum; how two compare; whether one fits. -/
namespace Go.Proofs.Ytghdadniddoboaa
open Go Go.Sy Go.Value
set_option linter.unusedVariables false
set_option linter.unusedSimpArgs false

theorem S_Add_aux {na nb : Bool} {pa pb : Option Addr} {ca cb : Nat} {da db : List Int} {h : Heap} (ra : Ints .i64 h pa da) (rb : Ints .i64 h pb db) (oa : okD da) (ob : okD db) (la : da.length ≤ 1048000) (lb : db.length ≤ 1048000)
    {m : Nat} (ma : da.length ≤ m) (mb : db.length ≤ m) (mm : (if (db.length : Int) > (da.length : Int) then (db.length : Int) else (da.length : Int)) = (m : Int)) {K : Value → Heap → Prop}
    (rec : na ≠ nb → dig da < dig db → ∀ h', h.le h' → ∀ K' : Value → Heap → Prop, (∀ v h'', h'.le h'' → BigN h'' v (sg na da + sg nb db) (m + 1) → K' v h'') →
      CallA Try.prog fn_ref01_Add [agg #[.bool nb, slice pb db.length cb], agg #[.bool na, slice pa da.length ca]] h' K')
    (k : ∀ v h', h.le h' → BigN h' v (sg na da + sg nb db) (m + 1) → K v h') : CallA Try.prog fn_ref01_Add [agg #[.bool na, slice pa da.length ca], agg #[.bool nb, slice pb db.length cb]] h K := by
  refine F_ref01_Add _ _ _ _ _ _ _ _ _ _ ?_
  unfold F_ref01_AddT
  have hm : m ≤ 1048000 := by
    by_cases hh : (db.length : Int) > (da.length : Int)
    · rw [if_pos hh] at mm; omega
    · rw [if_neg hh] at mm; omega
  intro r hr r1 hr1 r2 hr2
  have aa := ((At.new h r [.bool na, slice pa da.length ca] 102).ins (x := .cells [.bool nb, slice pb db.length cb].toArray 102 (0, 0)) hr1).ins (x := .cells [.bool false, slice none 0 0].toArray 102 (0, 0)) hr2
  have ab := (At.new (h.ins r (.cells [.bool na, slice pa da.length ca].toArray 102 (0, 0))) r1 [.bool nb, slice pb db.length cb] 102).ins (x := .cells [.bool false, slice none 0 0].toArray 102 (0, 0)) hr2
  have tt := At.new ((h.ins r (.cells [.bool na, slice pa da.length ca].toArray 102 (0, 0))).ins r1 (.cells [.bool nb, slice pb db.length cb].toArray 102 (0, 0))) r2 [.bool false, slice none 0 0] 102
  have l1 := le_ins2 (x := .cells [.bool nb, slice pb db.length cb].toArray 102 (0, 0)) (le_ins hr (o := .cells [.bool na, slice pa da.length ca].toArray 102 (0, 0))) hr1
  have l2 := le_ins2 (x := .cells [.bool false, slice none 0 0].toArray 102 (0, 0)) l1 hr2
  have e2 := none_of_le l1 hr2
  generalize hh2 : ((h.ins r (.cells [.bool na, slice pa da.length ca].toArray 102 (0, 0))).ins r1 (.cells [.bool nb, slice pb db.length cb].toArray 102 (0, 0))).ins r2 (.cells [.bool false, slice none 0 0].toArray 102 (0, 0)) = h2 at *
  refine ⟨_, aa.cell rfl, ?_⟩
  intro r3 hr3
  have n1 := aa.ne hr3
  have n2 := ab.ne hr3
  have n3 := tt.ne hr3
  have e3 := none_of_le l2 hr3
  have o3 := At.new h2 r3 [.bool false, slice none 0 0] 102
  have a3 := aa.ins (x := .cells [.bool false, slice none 0 0].toArray 102 (0, 0)) hr3
  have b3 := ab.ins (x := .cells [.bool false, slice none 0 0].toArray 102 (0, 0)) hr3
  have t3 := tt.ins (x := .cells [.bool false, slice none 0 0].toArray 102 (0, 0)) hr3
  have l3 := le_ins2 (x := .cells [.bool false, slice none 0 0].toArray 102 (0, 0)) l2 hr3
  refine ⟨o3.canSt (by simp), ?_⟩
  have oo := o3.set (o := 0) (ws := [.bool na, slice none 0 0])
  have aa := a3.set_ne (o := 0) (ws := [.bool na, slice none 0 0]) n1
  have ab := b3.set_ne (o := 0) (ws := [.bool na, slice none 0 0]) n2
  have tt := t3.set_ne (o := 0) (ws := [.bool na, slice none 0 0]) n3
  have l4 := le_setN (o := 0) (ws := [.bool na, slice none 0 0]) l3 e3
  generalize (h2.ins r3 (.cells [.bool false, slice none 0 0].toArray 102 (0, 0))).setN r3 0 [.bool na, slice none 0 0] = h4 at *
  refine ⟨_, aa.cell rfl, _, ab.cell rfl, ?_⟩
  refine Br.intro (fun same => ?_) (fun differ => ?_)
  · have same : na = nb := by simpa using same
    subst same
    refine add_loop ra rb oa ob e2 e3 n1 n2 n3 ma mb mm (by omega) (fun v h' l' bn => k v h' l' ?_) (m + 1) [] none 0 0 h4 (by simp) l4 aa ab tt oo (OwnL.nil _ _ _) (by simp) (by simp) (by simp) (by simp) (fun d hd => (by cases hd)) (by omega) (by omega) (by simp [dig])
    have e : sg na da + sg na db = if na then -(dig da + dig db) else dig da + dig db := by unfold sg; cases na <;> simp <;> omega
    rw [e]; exact bn
  · have differ : na ≠ nb := by simpa using differ
    refine ⟨_, aa.cell rfl, _, _, _, aa.cell rfl, _, ab.cell rfl, _, _, _, ab.cell rfl, ?_⟩
    refine S_larger (ra.le l4) (rb.le l4) oa ob (by omega) (by omega) fun h5 l5 => ⟨_, rfl, ?_⟩
    have l45 := Heap.le_trans l4 l5
    have aa := aa.le l5
    have ab := ab.le l5
    have tt := tt.le l5
    have oo := oo.le l5
    refine Br.dec (fun lt => ?_) (fun nlt => ?_)
    · have hlt : dig da < dig db := by
        unfold cmpI at lt
        split at lt
        · omega
        · split at lt <;> omega
      refine ⟨_, ab.cell rfl, _, _, _, ab.cell rfl, _, aa.cell rfl, _, _, _, aa.cell rfl, ?_⟩
      refine rec differ hlt h5 l45 _ fun v h6 l6 bn => ?_
      obtain ⟨neg2, p2, c2, ds2, rfl, r2', ok2, x2, c3, b2, nz⟩ := bn
      refine ⟨_, _, _, _, rfl, ret_out e2 (Heap.le_trans l45 l6) (tt.le l6) fun h'' l'' rd => k _ _ l'' ?_⟩
      exact ⟨neg2, p2, c2, ds2, rfl, rd _ _ r2', ok2, x2, c3, b2, nz⟩
    · have hge : dig db ≤ dig da := by
        unfold cmpI at nlt
        split at nlt
        · omega
        · split at nlt <;> omega
      refine sub_loop ra rb oa ob e2 e3 n1 n2 n3 hge (B := m + 1) (by omega) (by omega) (fun v h' l' bn => k v h' l' ?_) da.length [] none 0 0 h5 (by simp) l45 aa ab tt oo (OwnL.nil _ _ _) (by simp) (by simp) (by simp) (by simp) (fun d hd => (by cases hd)) (by omega) (by omega) (by simp [dig])
      have e : sg na da + sg nb db = if na then -(dig da - dig db) else dig da - dig db := by unfold sg; cases na <;> cases nb <;> simp at differ ⊢ <;> omega
      rw [e]; exact bn
theorem max_of (a b : Nat) : ∃ m : Nat, (if (b : Int) > (a : Int) then (b : Int) else (a : Int)) = (m : Int) ∧ a ≤ m ∧ b ≤ m ∧ (m = a ∨ m = b) := by
  by_cases hh : (b : Int) > (a : Int)
  · exact ⟨b, by rw [if_pos hh], by omega, by omega, .inr rfl⟩
  · exact ⟨a, by rw [if_neg hh], by omega, by omega, .inl rfl⟩
theorem S_Add_Big {va vb : Value} {x y : Int} {na nb : Nat} {h : Heap} (ha : BigR h va x na) (hb : BigR h vb y nb) {B : Nat} (ba : na ≤ B) (bb : nb ≤ B) (hB : B ≤ 1048000) {K : Value → Heap → Prop}
    (k : ∀ v h', h.le h' → BigN h' v (x + y) (B + 1) → K v h') : CallA Try.prog fn_ref01_Add [va, vb] h K := by
  obtain ⟨n1, p1, c1, d1, rfl, r1, o1, rfl, lc1, lb1⟩ := ha
  obtain ⟨n2, p2, c2, d2, rfl, r2, o2, rfl, lc2, lb2⟩ := hb
  obtain ⟨m, em, m1, m2, mo⟩ := max_of d1.length d2.length
  have more : ∀ {h' v x m'}, m' ≤ B → BigN h' v x (m' + 1) → BigN h' v x (B + 1) := by
    intro h' v x m' hm ⟨neg, p, c, ds, a1, a2, a3, a4, a5, a6, a7⟩
    exact ⟨neg, p, c, ds, a1, a2, a3, a4, a5, by omega, a7⟩
  refine S_Add_aux r1 r2 o1 o2 (by omega) (by omega) m1 m2 em (fun hne hlt h' l' K' k' => ?_) fun v h' l' bn => k v h' l' (more (by omega) bn)
  obtain ⟨m', em', m1', m2', mo'⟩ := max_of d2.length d1.length
  have : m' = m := by omega
  subst this
  refine S_Add_aux (r2.le l') (r1.le l') o2 o1 (by omega) (by omega) m1' m2' em' (fun _ h3 => by omega) fun v h'' l'' bn => k' v h'' l'' ?_
  rw [Int.add_comm]; exact bn
theorem S_Cmp {va vb : Value} {x y : Int} {na nb : Nat} {h : Heap} (ha : BigR h va x na) (hb : BigR h vb y nb) (la : na ≤ 1000000) (lb : nb ≤ 1000000) {K : Value → Heap → Prop}
    (k : ∀ h', h.le h' → K (int .i64 (cmpI x y)) h') : CallA Try.prog fn_ref01_Cmp [va, vb] h K := by
  obtain ⟨n1, p1, c1, d1, rfl, r1, o1, hx, lc1, lb1⟩ := ha
  obtain ⟨n2, p2, c2, d2, rfl, r2, o2, hy, lc2, lb2⟩ := hb
  refine F_ref01_Cmp _ _ _ _ _ _ _ _ _ _ ?_
  unfold F_ref01_CmpT
  intro r hr q hq
  have aa := (At.new h r [.bool n1, slice p1 d1.length c1] 102).ins (x := .cells [.bool n2, slice p2 d2.length c2].toArray 102 (0, 0)) hq
  have ab := At.new (h.ins r (.cells [.bool n1, slice p1 d1.length c1].toArray 102 (0, 0))) q [.bool n2, slice p2 d2.length c2] 102
  have l1 := le_ins2 (x := .cells [.bool n2, slice p2 d2.length c2].toArray 102 (0, 0)) (le_ins hr (o := .cells [.bool n1, slice p1 d1.length c1].toArray 102 (0, 0))) hq
  refine ⟨_, aa.cell rfl, _, _, _, aa.cell rfl, _, ab.cell rfl, _, _, _, ab.cell rfl, ?_⟩
  refine S_Turned (x := y) (b := nb) ⟨n2, p2, c2, d2, rfl, r2.le l1, o2, hy, lc2, lb2⟩ (by omega) fun v2 h2 l2 bn2 => ?_
  obtain ⟨n3, p3, c3, d3, rfl, r3, o3, hy3, lc3, lb3, _⟩ := bn2
  refine ⟨_, _, _, _, rfl, .inl l2, ?_⟩
  have l12 := Heap.le_trans l1 l2
  refine S_Add_Big (x := x) (y := -y) (na := na) (nb := nb) (B := 1000000) ⟨n1, p1, c1, d1, rfl, r1.le l12, o1, hx, lc1, lb1⟩ ⟨n3, p3, c3, d3, rfl, r3, o3, hy3, lc3, lb3⟩ (by omega) (by omega) (by omega) fun v4 h4 l4 bn4 => ?_
  obtain ⟨n5, p5, c5, d5, rfl, r5, o5, hy5, lc5, lb5, nz5⟩ := bn4
  refine ⟨_, _, _, _, rfl, ?_⟩
  intro u hu
  have uu := At.new h4 u [.bool false, slice none 0 0] 102
  have l14 := Heap.le_trans l12 l4
  have l5 := le_ins2 (x := .cells [.bool false, slice none 0 0].toArray 102 (0, 0)) l14 hu
  have e5 := none_of_le l14 hu
  have u2 := uu.set (o := 0) (ws := [.bool n5, slice p5 d5.length c5])
  have kk := k _ (le_setN (o := 0) (ws := [.bool n5, slice p5 d5.length c5]) l5 e5)
  refine ⟨uu.canSt (by simp), _, _, _, u2.cell rfl, ?_⟩
  have dn := dig_nonneg o5
  refine Br.intro (fun e => Ret.mk ?_) (fun e => ⟨_, u2.cell rfl, Br.intro (fun e6 => Ret.mk ?_) (fun e6 => Ret.mk ?_)⟩)
  · have : d5 = [] := List.length_eq_zero_iff.1 (by simpa using e)
    subst this
    have e0 : sg n5 [] = 0 := by unfold sg; simp [dig]
    have : cmpI x y = 0 := by unfold cmpI; rw [if_neg (by omega), if_neg (by omega)]
    rw [this] at kk; exact kk
  · subst e6
    have hd : dig d5 ≠ 0 := fun z => by have := (nz5 z).2; cases this
    have e0 : sg true d5 = -dig d5 := rfl
    have : cmpI x y = -1 := by unfold cmpI; rw [if_neg (by omega), if_pos (by omega)]
    rw [this] at kk; exact kk
  · subst e6
    have hd : dig d5 ≠ 0 := fun z => by
      have := (nz5 z).1
      subst this
      simp at e
    have e0 : sg false d5 = dig d5 := rfl
    have : cmpI x y = 1 := by unfold cmpI; rw [if_pos (by omega)]
    rw [this] at kk; exact kk
theorem S_Fit {va : Value} {x : Int} {na : Nat} {h : Heap} (ha : BigR h va x na) (la : na ≤ 1000000) {K : Value → Heap → Prop} (k : ∀ h', h.le h' → K (tuple #[int .i64 (fit x).1, int .i64 (fit x).2]) h') :
    CallA Try.prog fn_ref01_Fit [va] h K := by
  obtain ⟨n1, p1, c1, d1, rfl, r1, o1, hx, lc1, lb1⟩ := ha
  refine F_ref01_Fit _ _ _ _ _ _ ?_
  unfold F_ref01_FitT
  intro r hr
  have aa := At.new h r [.bool n1, slice p1 d1.length c1] 102
  have l1 := le_ins hr (o := .cells [.bool n1, slice p1 d1.length c1].toArray 102 (0, 0))
  refine ⟨_, aa.cell rfl, _, _, _, aa.cell rfl, ?_⟩
  refine S_Of ⟨by decide, by decide⟩ fun v2 h2 l2 bn2 => ?_
  obtain ⟨n3, p3, c3, d3, rfl, r3, o3, hy3, lc3, lb3, _⟩ := bn2
  refine ⟨_, _, _, _, rfl, .inl l2, ?_⟩
  have l12 := Heap.le_trans l1 l2
  refine S_Cmp (x := x) (na := na) ⟨n1, p1, c1, d1, rfl, r1.le l12, o1, hx, lc1, lb1⟩ ⟨n3, p3, c3, d3, rfl, r3, o3, hy3, lc3, lb3⟩ la (by omega) fun h3 l3 => ⟨_, rfl, ?_⟩
  have l13 := Heap.le_trans l12 l3
  refine Br.dec (fun lt => Ret.mk ?_) (fun nlt => ?_)
  · have : x < -9223372036854775808 := by
      unfold cmpI at lt
      split at lt
      · omega
      · split at lt <;> omega
    have kk := k h3 l13
    rw [fit_over (by unfold I64; omega)] at kk
    exact kk
  have ge : -9223372036854775808 ≤ x := by
    unfold cmpI at nlt
    split at nlt
    · omega
    · split at nlt <;> omega
  have aa := (aa.le l2).le l3
  refine ⟨_, aa.cell rfl, _, _, _, aa.cell rfl, ?_⟩
  refine S_Of ⟨by decide, by decide⟩ fun v4 h4 l4 bn4 => ?_
  obtain ⟨n5, p5, c5, d5, rfl, r5, o5, hy5, lc5, lb5, _⟩ := bn4
  refine ⟨_, _, _, _, rfl, .inl l4, ?_⟩
  have l14 := Heap.le_trans l13 l4
  refine S_Cmp (x := x) (na := na) ⟨n1, p1, c1, d1, rfl, r1.le l14, o1, hx, lc1, lb1⟩ ⟨n5, p5, c5, d5, rfl, r5, o5, hy5, lc5, lb5⟩ la (by omega) fun h6 l6 => ⟨_, rfl, ?_⟩
  have l16 := Heap.le_trans l14 l6
  refine Br.dec (fun gt => Ret.mk ?_) (fun ngt => ?_)
  · have : x > 9223372036854775807 := by
      unfold cmpI at gt
      split at gt
      · omega
      · split at gt <;> omega
    have kk := k h6 l16
    rw [fit_over (by unfold I64; omega)] at kk
    exact kk
  have le : x ≤ 9223372036854775807 := by
    unfold cmpI at ngt
    split at ngt
    · omega
    · omega
  have aa := (aa.le l4).le l6
  refine ⟨_, _, _, aa.cell rfl, ?_⟩
  have kk := k h6 l16
  rw [fit_ok (by unfold I64; omega)] at kk
  have r6 := r1.le l16
  -- the digits, from the highest on
  have loop : ∀ (n : Nat) (acc : Int), n ≤ d1.length → sg n1 d1 = 10000 ^ n * acc + sg n1 (d1.take n) → (acc = 0 ∨ n1 = (decide (acc < 0))) → L_ref01_Fit_0 r acc ((n : Int) - 1) h6 K := by
    intro n
    induction n with
    | zero =>
      intro acc hn e _
      refine L_ref01_Fit_0r _ _ _ _ _ ?_
      unfold L_ref01_Fit_0T
      refine Br.no (by decide) (Ret.mk ?_)
      have : acc = x := by rw [hx, e]; unfold sg; simp [dig]
      rw [this]; exact kk
    | succ n ih =>
      intro acc hn e hs
      refine L_ref01_Fit_0r _ _ _ _ _ ?_
      unfold L_ref01_Fit_0T
      rw [show (((n + 1 : Nat) : Int) - 1) = (n : Int) from by omega]
      refine Br.yes (decide_eq_true (by omega)) ⟨_, aa.cell rfl, ?_⟩
      have hlt : n < d1.length := by omega
      obtain ⟨b, o, ea, hc⟩ := r6.at hlt
      have gd := o1 _ (List.getElem_mem hlt)
      have et := dig_take_succ (l := d1) hlt
      have tn := dig_nonneg (okD_take o1 n)
      have hP : (0 : Int) < 10000 ^ n := Int.pow_pos (by decide)
      rw [Int.pow_succ, Int.mul_assoc] at e
      generalize hd : d1[n] = d at *
      generalize (10000 : Int) ^ n = P at *
      have hxs : x = sg n1 d1 := hx
      -- what is told stays within an amount's bounds
      refine Br.intro (fun e6 => ⟨_, _, _, aa.cell rfl, by omega, by omega, withAddr_intro ea ⟨_, by rw [Int.toNat_natCast]; exact hc, ?_⟩⟩) (fun e6 => ⟨_, _, _, aa.cell rfl, by omega, by omega, withAddr_intro ea ⟨_, by rw [Int.toNat_natCast]; exact hc, ?_⟩⟩)
      · subst e6
        have e7 : sg true (d1.take (n + 1)) = sg true (d1.take n) - P * d := by unfold sg; simp only [if_true]; omega
        rw [e7] at e
        have e8 : P * (10000 * acc - d) = P * (10000 * acc) - P * d := Int.mul_sub _ _ _
        have e9 : sg true d1 = P * (10000 * acc - d) + sg true (d1.take n) := by omega
        have e10 : sg true (d1.take n) = -dig (d1.take n) := rfl
        have tl := dig_take_lt o1 n
        have hacc : acc ≤ 0 := by
          rcases hs with h | h
          · omega
          · have : acc < 0 := by simpa using h.symm
            omega
        have hb1 : -9223372036854775808 ≤ 10000 * acc - d := by
          refine Classical.byContradiction fun hh => ?_
          have h2 : 10000 * acc - d ≤ -9223372036854775809 := by omega
          have h3 : P * (10000 * acc - d) ≤ 1 * (10000 * acc - d) := by
            have := Int.mul_le_mul_of_nonneg_right (show (1 : Int) ≤ P by omega) (show 0 ≤ -(10000 * acc - d) by omega)
            rw [Int.mul_neg, Int.mul_neg] at this
            omega
          omega
        have w1 : IntKind.wrap .i64 (IntKind.wrap .i64 (10000 * acc) - d) = 10000 * acc - d := by
          rw [wrap_i64_id (n := 10000 * acc) (by omega) (by omega), wrap_i64_id (by omega) (by omega)]
        rw [w1, wrap_i64_id (n := (n : Int) - 1) (by omega) (by omega)]
        refine ih _ (by omega) e9 ?_
        by_cases h0 : 10000 * acc - d = 0
        · exact .inl h0
        · exact .inr (by simp; omega)
      · subst e6
        have e7 : sg false (d1.take (n + 1)) = sg false (d1.take n) + P * d := by unfold sg; simp only [Bool.false_eq_true, if_false]; omega
        rw [e7] at e
        have e8 : P * (10000 * acc + d) = P * (10000 * acc) + P * d := Int.mul_add _ _ _
        have e9 : sg false d1 = P * (10000 * acc + d) + sg false (d1.take n) := by omega
        have e10 : sg false (d1.take n) = dig (d1.take n) := rfl
        have hacc : 0 ≤ acc := by
          rcases hs with h | h
          · omega
          · simpa using h.symm
        have hb1 : 10000 * acc + d ≤ 9223372036854775807 := by
          refine Classical.byContradiction fun hh => ?_
          have h3 : 1 * (10000 * acc + d) ≤ P * (10000 * acc + d) := Int.mul_le_mul_of_nonneg_right (by omega) (by omega)
          omega
        have w1 : IntKind.wrap .i64 (IntKind.wrap .i64 (10000 * acc) + d) = 10000 * acc + d := by
          rw [wrap_i64_id (n := 10000 * acc) (by omega) (by omega), wrap_i64_id (by omega) (by omega)]
        rw [w1, wrap_i64_id (n := (n : Int) - 1) (by omega) (by omega)]
        refine ih _ (by omega) e9 ?_
        by_cases h0 : 10000 * acc + d = 0
        · exact .inl h0
        · exact .inr (by simp; omega)
  have lb := lb1
  rw [wrap_i64_id (by omega) (by omega)]
  exact loop d1.length 0 (Nat.le_refl _) (by rw [List.take_length]; simp) (.inl rfl)
end Go.Proofs.Ytghdadniddoboaa
