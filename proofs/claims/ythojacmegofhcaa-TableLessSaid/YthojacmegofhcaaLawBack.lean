/- The law MoneyBack: sums turn round, and step by step is as all at once. -/
import Derived.Test.YthojacmegofhcaaLawMoney
import Derived.Test.YthojacmegofhcaaEqLaw01b
namespace Go.Proofs.Ythojacmegofhcaa
open Go Go.Sy Go.Value
set_option linter.unusedVariables false
set_option linter.unusedSimpArgs false

theorem chain_sum : ∀ (l : List Int) (a : Int), (chainL a l).2 = 0 → (chainL a l).1 = a + sumL l
  | [], a, _ => by simp [chainL, sumL]
  | b :: l, a, h => by
    unfold chainL at h ⊢
    split at h
    · rename_i hc
      rw [if_pos hc, chain_sum l (a + b) h]
      simp only [sumL]; omega
    · cases h
theorem chain_bad : ∀ (l : List Int) (a : Int), (chainL a l).2 ≠ 0 → (chainL a l).1 = 0
  | [], a, h => by simp [chainL] at h
  | b :: l, a, h => by
    unfold chainL at h ⊢
    split at h
    · rename_i hc
      rw [if_pos hc]; exact chain_bad l (a + b) h
    · rename_i hc
      rw [if_neg hc]
theorem chain_I64 : ∀ (l : List Int) (a : Int), I64 a → (chainL a l).2 = 0 → I64 (chainL a l).1
  | [], a, ha, _ => ha
  | b :: l, a, ha, h => by
    unfold chainL at h ⊢
    split at h
    · rename_i hc
      rw [if_pos hc]; exact chain_I64 l (a + b) hc h
    · cases h
def Good (h0 : Heap) (v : Value) (h' : Heap) : Prop := v = .bool true ∧ h0.le h'
theorem Good.ret {h0 h : Heap} (l : h0.le h) : Ret h (Good h0) (.bool true) := ⟨h, h.le_refl, rfl, l⟩
theorem back_tail {h0 h : Heap} (le : h0.le h) {a : Int} (ha : I64 a) {l : List Int} {p : Option Addr} {c : Nat} (hl : l.length ≤ 200) (hI : allI64 l) (i : Ints .i64 h p l) :
    CallA Try.prog fn_money_Chain [int IntKind.i64 a, slice p l.length c] h fun (v : Value) (h : Heap) =>
      ∃ (n : Int), ∃ (n_8 : Int), v = tuple #[int IntKind.i64 n, int IntKind.i64 n_8] ∧
        newB h [int IntKind.i64 a] 2 fun (r : Nat) (h : Heap) =>
          AppA [int IntKind.i64 0] 2 h (some { block := r, off := 0 }) 1 1 l.length p fun (ap : Option Addr) (cp : Nat) (h : Heap) =>
            CallA Try.prog fn_money_Sum [slice ap (1 + l.length) cp] h fun (v : Value) (h : Heap) =>
              ∃ (n_9 : Int), ∃ (n_10 : Int), v = tuple #[int IntKind.i64 n_9, int IntKind.i64 n_10] ∧
                Br (n_8 != 0) (Br (n == 0) (Ret h (Good h0) (Value.bool true)) (Br (n_10 == 0) (Ret h (Good h0) (Value.bool (n == n_9))) (Ret h (Good h0) (Value.bool false))))
                  (Br (n_10 == 0) (Ret h (Good h0) (Value.bool (n == n_9))) (Ret h (Good h0) (Value.bool false))) := by
  refine S_Chain (by omega) hI ha h i _ ⟨_, _, rfl, ?_⟩
  intro r hr
  have i1 : Ints .i64 (h.ins r (.cells [int IntKind.i64 a].toArray 2 (0, 0))) p l := i.le (le_ins hr)
  have n1 : rdL (h.ins r (.cells [int IntKind.i64 a].toArray 2 (0, 0))) (some ⟨r, 0, none⟩) [int IntKind.i64 a] := rdL_new _ _ _ _ _
  refine AppA.mk [int IntKind.i64 a] (intsV .i64 l) (by omega) (by rw [intsV_length]; simp) i1 (allCells_ints _ _) rfl n1 ?_ ?_
  · intro hc
    exact .inl (by have : l = [] := List.length_eq_zero_iff.1 (by omega)
                   subst this; rfl)
  · intro base' cap' h' hcap rd keep _
    have lh : h0.le h' := fun x y hx => keep x y (le_ins hr x y (le x y hx)) (fun o e => by
      cases e
      have := le r y hx
      rw [hr] at this; cases this)
    have i2 : Ints .i64 h' base' (a :: l) := rd
    have hI2 : allI64 (a :: l) := fun n hn => by
      rcases List.mem_cons.1 hn with e | e
      · rw [e]; exact ha
      · exact hI n e
    have e1 : 1 + l.length = (a :: l).length := by simp; omega
    rw [e1]
    refine S_Sum (by simp; omega) hI2 h' i2 _ ⟨_, _, rfl, ?_⟩
    have es : sumL (a :: l) = a + sumL l := rfl
    rw [es]
    by_cases hb : (chainL a l).2 = 0
    · have e2 := chain_sum l a hb
      have e3 := chain_I64 l a ha hb
      rw [e2] at e3
      rw [hb, e2, fit_ok e3]
      refine Br.no rfl (Br.yes rfl ?_)
      have e4 : (a + sumL l == a + sumL l) = true := by simp
      rw [e4]; exact Good.ret lh
    · rw [chain_bad l a hb]
      refine Br.yes (by simpa using hb) (Br.yes rfl (Good.ret lh))
theorem law01_MoneyBack_ok {a b : Int} (ha : I64 a) (hb : I64 b) {l : List Int} {p : Option Addr} {ln c : Nat} {h : Heap} (i : Ints .i64 h p l) (hn : l.length = ln) (hl : ln * 8 ≤ 140737488351232)
    (hI : allI64 l) : CallA Try.prog fn_law01_MoneyBack [int .i64 a, int .i64 b, slice p ln c] h fun v h' => v = .bool true ∧ h.le h' := by
  refine F_law01_MoneyBack _ _ _ _ _ _ _ ?_
  unfold F_law01_MoneyBackT
  show CallA _ _ _ _ _
  have fin : ∀ h', h.le h' → Ret h' (fun v h' => v = .bool true ∧ h.le h') (.bool true) := fun h' l => ⟨h', h'.le_refl, rfl, l⟩
  refine S_law01_awake h _ ⟨_, rfl, Br.no rfl ?_⟩
  refine Br.dec (fun _ => fin _ h.le_refl) (fun h2 => ?_)
  subst hn
  have tail := fun (h : Heap) (le : _) => back_tail (h0 := h) le ha (c := c) (l := l) (p := p) (by omega) hI (h := h)
  refine S_Add ha hb h _ ⟨_, _, rfl, S_Add hb ha h _ ⟨_, _, rfl, S_Mul ha hb h _ ⟨_, _, rfl, S_Mul hb ha h _ ⟨_, _, rfl, ?_⟩⟩⟩⟩
  rw [Int.add_comm b a, Int.mul_comm b a]
  refine Br.no (by simp) (Br.no (by simp) (Br.no (by simp) (Br.no (by simp) ?_)))
  by_cases ho : I64 (a + b)
  · rw [fit_ok ho]
    refine Br.yes rfl ?_
    refine S_Sub ho hb h _ ⟨_, _, rfl, ?_⟩
    rw [show a + b - b = a from by omega, fit_ok ha]
    exact Br.no (by simp) (Br.no rfl (tail h h.le_refl i))
  · rw [fit_over ho]
    exact Br.no rfl (tail h h.le_refl i)
end Go.Proofs.Ythojacmegofhcaa
