/- The reference's whole numbers of any size: from an amount, turned, which is larger. -/
import Derived.Test.YtkcogdmddhkldaaBigOne
namespace Go.Proofs.Ytkcogdmddhkldaa
open Go Go.Sy Go.Value
set_option linter.unusedVariables false
set_option linter.unusedSimpArgs false

theorem td (n : Int) : (0 ≤ n ∧ Int.tdiv n 10000 = n / 10000 ∧ Int.tmod n 10000 = n % 10000) ∨ (n < 0 ∧ Int.tdiv n 10000 = -((-n) / 10000) ∧ Int.tmod n 10000 = -((-n) % 10000)) := by
  by_cases h : 0 ≤ n
  · exact .inl ⟨h, Int.tdiv_eq_ediv_of_nonneg h, Int.tmod_eq_emod_of_nonneg h⟩
  · refine .inr ⟨by omega, ?_, ?_⟩
    · have e : n = -(-n) := by omega
      conv => lhs; rw [e, Int.neg_tdiv, Int.tdiv_eq_ediv_of_nonneg (by omega)]
    · have e : n = -(-n) := by omega
      conv => lhs; rw [e, Int.neg_tmod, Int.tmod_eq_emod_of_nonneg (by omega)]
/-- One digit more behind a number's own list. -/
theorem push_out {h0 h : Heap} {neg : Bool} {out : Nat} {p : Option Addr} {c : Nat} {ds : List Int} {x : Int} (l : h0.le h) (oo : At h out [.bool neg, slice p ds.length c])
    (own : OwnL h0 h [int .i64 0] p c (intsV .i64 ds)) (hp : p ≠ some ⟨out, 0, none⟩) (hn : h0 out = none) (hb : ds.length < 1048576) {J : Heap → Prop}
    (k : ∀ p' c' h', h0.le h' → At h' out [.bool neg, slice p' (ds ++ [x]).length c'] → OwnL h0 h' [int .i64 0] p' c' (intsV .i64 (ds ++ [x])) → p' ≠ some ⟨out, 0, none⟩ →
      (∀ b xs, At h b xs → b ≠ out → p ≠ some ⟨b, 0, none⟩ → At h' b xs ∧ p' ≠ some ⟨b, 0, none⟩) → J h') :
    newB h [int .i64 x] 3 fun (r : Nat) (h : Heap) => AppA [int .i64 0] 3 h p ds.length c 1 (some { block := r, off := 0 }) fun (ap : Option Addr) (cp : Nat) (h : Heap) =>
      Heap.canSt h out 1 1 ∧ J (Heap.setN h out 1 [slice ap (ds.length + 1) cp]) := by
  intro r hr
  have l1 := le_ins2 (x := .cells [int .i64 x].toArray 3 (0, 0)) l hr
  have o1 := oo.ins (x := .cells [int .i64 x].toArray 3 (0, 0)) hr
  have w1 := own.le (le_ins hr (o := .cells [int .i64 x].toArray 3 (0, 0)))
  have s1 : rdL (h.ins r (.cells [int .i64 x].toArray 3 (0, 0))) (some ⟨r, 0, none⟩) (intsV .i64 [x]) := rdL_new _ _ _ _ _
  refine w1.push (by decide) l1 (by omega) (by rw [intsV_length]; rfl) s1 (allCells_ints _ _) (by rw [intsV_length]; simp) ?_
  intro p' c' h' l2 w2 keep how
  have o2 := keep _ _ o1 hp
  have hp' : p' ≠ some ⟨out, 0, none⟩ := by
    rcases how with rfl | ⟨r', rfl, hr'⟩
    · exact hp
    · intro e; cases e; exact o1.ne hr' rfl
  have o3 := o2.set (o := 1) (ws := [slice p' (ds.length + 1) c'])
  rw [← intsV_append] at w2
  refine ⟨o2.canSt (by simp), k p' c' _ (le_setN l2 hn) ?_ (w2.set_ne hp') hp' (fun b xs a hb1 hb2 => ?_)⟩
  · rw [List.length_append]; exact o3
  · have a1 := a.ins (x := .cells [int .i64 x].toArray 3 (0, 0)) hr
    refine ⟨(keep _ _ a1 hb2).set_ne hb1, ?_⟩
    rcases how with rfl | ⟨r', rfl, hr'⟩
    · exact hb2
    · intro e; cases e; exact a1.ne hr' rfl
theorem ints_not_box {h : Heap} {q : Option Addr} {l : List Int} {b : Nat} {x : Bool} {p : Option Addr} {n c : Nat} (r : Ints .i64 h q l) (a : At h b [.bool x, slice p n c]) (hl : l ≠ []) : ∀ o, q ≠ some ⟨b, o, none⟩ := by
  intro o e
  obtain ⟨b', o', e2, hc⟩ := r.at (j := 0) (List.length_pos_iff.2 hl)
  rw [e] at e2
  cases e2
  obtain ⟨T, ea⟩ := a
  unfold Heap.cell at hc
  rw [ea] at hc
  match o with
  | 0 => simp at hc
  | 1 => simp at hc
  | o + 2 => simp at hc
/-- What a number's own list comes to, put into the box of the answer. -/
theorem ret_out {h0 h : Heap} {neg : Bool} {t2 : Nat} {p : Option Addr} {n c : Nat} {K : Value → Heap → Prop} (ht : h0 t2 = none) (l : h0.le h) {x : Bool} {p0 : Option Addr} {n0 c0 : Nat} (tt : At h t2 [.bool x, slice p0 n0 c0])
    (k : ∀ h', h0.le h' → (∀ q l, Ints .i64 h q l → Ints .i64 h' q l) → K (agg #[.bool neg, slice p n c]) h') :
    Heap.canSt h t2 0 2 ∧ ∃ (b_1 : Bool), Heap.cell (Heap.setN h t2 0 [.bool neg, slice p n c]) t2 0 = some (.bool b_1) ∧
      ∃ (a_1 : Option Addr), ∃ (n_1 : Nat), ∃ (m_1 : Nat), Heap.cell (Heap.setN h t2 0 [.bool neg, slice p n c]) t2 1 = some (slice a_1 n_1 m_1) ∧ Ret (Heap.setN h t2 0 [.bool neg, slice p n c]) K (agg #[.bool b_1, slice a_1 n_1 m_1]) := by
  have t3 := tt.set (o := 0) (ws := [.bool neg, slice p n c])
  refine ⟨tt.canSt (by simp), _, t3.cell rfl, _, _, _, t3.cell rfl, Ret.mk (k _ (le_setN l ht) fun q l r => ?_)⟩
  by_cases hl : l = []
  · subst hl; exact .inl rfl
  have hq := ints_not_box r tt hl
  rcases r with r | ⟨b, o, e, r⟩
  · exact .inl r
  · refine .inr ⟨b, o, e, fun j hj => ?_⟩
    have := r j hj
    unfold Heap.cell at this ⊢
    rw [setN_other (fun e2 => hq o (by rw [e, e2]))]
    exact this
theorem of_loop {N : Int} {h0 : Heap} {t2 out : Nat} (ht : h0 t2 = none) (ho : h0 out = none) (hne : t2 ≠ out) {K : Value → Heap → Prop}
    (k : ∀ v h', h0.le h' → BigN h' v N 5 → K v h') : ∀ (f : Nat) (n : Int) (h : Heap) (p : Option Addr) (c : Nat) (ds : List Int), h0.le h → -(10000 : Int) ^ f < n → n < (10000 : Int) ^ f → ds.length + f ≤ 5 → okD ds →
      N = sg (decide (N < 0)) ds + 10000 ^ ds.length * n → (N < 0 → n ≤ 0) → (0 ≤ N → 0 ≤ n) → (N = 0 → ds = []) → I64 n →
      At h out [.bool (decide (N < 0)), slice p ds.length c] → At h t2 [.bool false, slice none 0 0] → OwnL h0 h [int .i64 0] p c (intsV .i64 ds) → p ≠ some ⟨out, 0, none⟩ → p ≠ some ⟨t2, 0, none⟩ →
      L_ref01_Of_0 n t2 out h K := by
  intro f
  induction f with
  | zero =>
    intro n h p c ds l f1 f2 hf ok hN s1 s2 hz hI oo tt own hp1 hp2
    have n0 : n = 0 := by simp at f1 f2; omega
    subst n0
    refine L_ref01_Of_0r _ _ _ _ _ ?_
    unfold L_ref01_Of_0T
    refine Br.no (by decide) ?_
    rw [Int.mul_zero, Int.add_zero] at hN
    refine ⟨_, oo.cell rfl, _, _, _, oo.cell rfl, ret_out ht l tt fun h' l' rd => k _ _ l' ?_⟩
    have hc : ds.length ≤ c := by
      rcases own with ⟨e, _, _⟩ | ⟨r, sp, _, _, _, e⟩
      · have := congrArg List.length e; rw [intsV_length, List.length_nil] at this; omega
      · simp [intsV_length] at e; omega
    refine ⟨_, p, c, ds, rfl, rd _ _ own.rd, ok, hN, hc, by omega, fun z => ?_⟩
    have : N = 0 := by rw [hN]; unfold sg; rw [z]; simp
    exact ⟨hz this, by simp [this]⟩
  | succ f ih =>
    intro n h p c ds l f1 f2 hf ok hN s1 s2 hz hI oo tt own hp1 hp2
    by_cases n0 : n = 0
    · exact (fun x : (-(10000 : Int) ^ f < n ∧ n < (10000 : Int) ^ f) => ih n h p c ds l x.1 x.2 (by omega) ok hN s1 s2 hz hI oo tt own hp1 hp2) (by
        subst n0; have : (0 : Int) < 10000 ^ f := Int.pow_pos (by decide)
        omega)
    refine L_ref01_Of_0r _ _ _ _ _ ?_
    unfold L_ref01_Of_0T
    refine Br.yes (by simpa using n0) ?_
    unfold I64 at hI
    rw [Int.pow_succ] at f1 f2
    generalize hP : (10000 : Int) ^ f = P at *
    -- the next round, whatever the digit
    have next : ∀ (d : Int), 0 ≤ d → d < 10000 → (N < 0 → n = -(d + 10000 * (-(Int.tdiv n 10000)))) → (0 ≤ N → n = d + 10000 * Int.tdiv n 10000) →
        newB h [int .i64 d] 3 fun (r : Nat) (h : Heap) => AppA [int .i64 0] 3 h p ds.length c 1 (some { block := r, off := 0 }) fun (ap : Option Addr) (cp : Nat) (h : Heap) =>
          Heap.canSt h out 1 1 ∧ L_ref01_Of_0 (IntKind.wrap .i64 (Int.tdiv n 10000)) t2 out (Heap.setN h out 1 [slice ap (ds.length + 1) cp]) K := by
      intro d d0 d1 e1 e2
      refine push_out (J := fun h => L_ref01_Of_0 _ t2 out h K) l oo own hp1 ho (by omega) fun p' c' h' l' o' w' hp' keep => ?_
      have tq : I64 (Int.tdiv n 10000) := by unfold I64; rcases td n with ⟨a, b, _⟩ | ⟨a, b, _⟩ <;> rw [b] <;> omega
      rw [wrap_i64_id tq.1 tq.2]
      obtain ⟨t', hp2'⟩ := keep _ _ tt hne hp2
      have hlen : (ds ++ [d]).length = ds.length + 1 := by simp
      refine ih _ h' p' c' (ds ++ [d]) l' ?_ ?_ (by rw [hlen]; omega) (okD_append ok (fun x hx => by simp at hx; omega)) ?_ ?_ ?_ ?_ tq o' t' w' hp' hp2'
      · rcases td n with ⟨a, b, _⟩ | ⟨a, b, _⟩ <;> rw [b] <;> omega
      · rcases td n with ⟨a, b, _⟩ | ⟨a, b, _⟩ <;> rw [b] <;> omega
      · have ed : dig (ds ++ [d]) = dig ds + 10000 ^ ds.length * d := by rw [dig_append]; simp [dig]
        rw [hlen, Int.pow_succ, Int.mul_assoc]
        unfold sg at hN ⊢
        rw [ed]
        by_cases hn : N < 0
        · have e := e1 hn
          simp only [hn, decide_true, if_true] at hN ⊢
          have e3 : 10000 ^ ds.length * n = 10000 ^ ds.length * (10000 * Int.tdiv n 10000) - 10000 ^ ds.length * d := by
            rw [← Int.mul_sub]; congr 1; omega
          omega
        · have e := e2 (by omega)
          simp only [hn, decide_false, Bool.false_eq_true, if_false] at hN ⊢
          have e3 : 10000 ^ ds.length * n = 10000 ^ ds.length * (10000 * Int.tdiv n 10000) + 10000 ^ ds.length * d := by
            rw [← Int.mul_add]; congr 1; omega
          omega
      · intro hn; have := s1 hn; rcases td n with ⟨a, b, _⟩ | ⟨a, b, _⟩ <;> rw [b] <;> omega
      · intro hn; have := s2 hn; rcases td n with ⟨a, b, _⟩ | ⟨a, b, _⟩ <;> rw [b] <;> omega
      · intro hn; have := s2 (by omega); have e := hz hn
        subst e
        simp [sg, dig] at hN
        omega
    refine Br.dec (fun hneg => ?_) (fun hpos => ?_)
    · have hw : IntKind.wrap .i64 (0 - Int.tmod n 10000) = -(Int.tmod n 10000) := by
        rcases td n with ⟨a, _, b⟩ | ⟨a, _, b⟩ <;> rw [wrap_i64_id (by omega) (by omega)] <;> omega
      rw [hw]
      refine ⟨p, _, c, oo.cell rfl, next _ ?_ ?_ ?_ ?_⟩
      · omega
      · rcases td n with ⟨a, _, b⟩ | ⟨a, _, b⟩ <;> rw [b] <;> omega
      · intro _; rcases td n with ⟨a, b, c⟩ | ⟨a, b, c⟩ <;> rw [b, c] <;> omega
      · intro hn; have := s2 hn; rcases td n with ⟨a, b, c⟩ | ⟨a, b, c⟩ <;> omega
    · refine ⟨p, _, c, oo.cell rfl, next _ ?_ ?_ ?_ ?_⟩
      · omega
      · rcases td n with ⟨a, _, b⟩ | ⟨a, _, b⟩ <;> rw [b] <;> omega
      · intro hn; have := s1 hn; rcases td n with ⟨a, b, c⟩ | ⟨a, b, c⟩ <;> rw [b, c] <;> omega
      · intro hn; have := s2 hn; rcases td n with ⟨a, b, c⟩ | ⟨a, b, c⟩ <;> rw [b, c] <;> omega
theorem S_Of {n : Int} (hn : I64 n) {h : Heap} {K : Value → Heap → Prop} (k : ∀ v h', h.le h' → BigN h' v n 5 → K v h') : CallA Try.prog fn_ref01_Of [int .i64 n] h K := by
  refine F_ref01_Of _ _ _ ?_
  unfold F_ref01_OfT
  intro r hr r1 hr1
  have t0 := (At.new h r [.bool false, slice none 0 0] 118).ins (x := .cells [.bool false, slice none 0 0].toArray 118 (0, 0)) hr1
  have o0 := At.new (h.ins r (.cells [.bool false, slice none 0 0].toArray 118 (0, 0))) r1 [.bool false, slice none 0 0] 118
  have l := le_ins2 (x := .cells [.bool false, slice none 0 0].toArray 118 (0, 0)) (le_ins hr (o := .cells [.bool false, slice none 0 0].toArray 118 (0, 0))) hr1
  have hne : r ≠ r1 := (At.new _ _ _ _).ne hr1
  have h1 : h r1 = none := none_of_le (le_ins hr) hr1
  refine ⟨o0.canSt (by simp), ?_⟩
  have o1 := o0.set (o := 0) (ws := [.bool (decide (n < 0)), slice none 0 0])
  unfold I64 at hn
  refine of_loop (N := n) hr h1 hne k 5 n _ none 0 [] (le_setN l h1) (by omega) (by omega) (by simp) (fun d hd => (by cases hd)) (by simp [sg, dig]) (fun h => by omega) (fun h => by omega) (fun _ => rfl) hn o1 (t0.set_ne hne) (OwnL.nil _ _ _) (by simp) (by simp)
theorem S_Turned {v : Value} {x : Int} {b : Nat} {h : Heap} (hv : BigR h v x b) (hb : b ≤ 1048576) {K : Value → Heap → Prop} (k : ∀ v' h', h.le h' → BigN h' v' (-x) b → K v' h') : CallA Try.prog fn_ref01_Turned [v] h K := by
  obtain ⟨neg, p, c, ds, rfl, hr, ok, hx, hc, hl⟩ := hv
  refine F_ref01_Turned _ _ _ _ _ _ ?_
  unfold F_ref01_TurnedT
  intro r hr0 r1 hr1
  have a0 := (At.new h r [.bool neg, slice p ds.length c] 118).ins (x := .cells [.bool false, slice none 0 0].toArray 118 (0, 0)) hr1
  have t0 := At.new (h.ins r (.cells [.bool neg, slice p ds.length c].toArray 118 (0, 0))) r1 [.bool false, slice none 0 0] 118
  have l := le_ins2 (x := .cells [.bool false, slice none 0 0].toArray 118 (0, 0)) (le_ins hr0 (o := .cells [.bool neg, slice p ds.length c].toArray 118 (0, 0))) hr1
  have h1 : h r1 = none := none_of_le (le_ins hr0) hr1
  refine ⟨_, a0.cell rfl, _, _, _, a0.cell rfl, S_trim (hr.le l) ok hc (by omega) fun v' h' l' nb => ?_⟩
  obtain ⟨neg2, p2, c2, ds2, rfl, r2, ok2, x2, c3, b2, nz⟩ := nb
  refine ⟨_, _, _, _, rfl, ret_out h1 (Heap.le_trans l l') (t0.le l') fun h'' l'' rd => k _ _ l'' ?_⟩
  refine ⟨neg2, p2, c2, ds2, rfl, rd _ _ r2, ok2, ?_, c3, by omega, nz⟩
  · rw [hx, ← x2]; unfold sg; cases neg <;> simp
end Go.Proofs.Ytkcogdmddhkldaa
