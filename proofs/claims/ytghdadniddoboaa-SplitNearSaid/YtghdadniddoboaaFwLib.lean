/- Small words for proofs over evaluated texts: branches, ranges, bits. -/
import Derived.Test.YtghdadniddoboaaFwEval
import Derived.Below
namespace Go.Sy
theorem Br_t {A B : Prop} : Br true A B = A := rfl
theorem Br_f {A B : Prop} : Br false A B = B := rfl
theorem Br.yes {b : Bool} {A B : Prop} (e : b = true) (k : A) : Br b A B := by subst e; exact k
theorem Br.no {b : Bool} {A B : Prop} (e : b = false) (k : B) : Br b A B := by subst e; exact k
theorem Br.dec {p : Prop} [Decidable p] {A B : Prop} (h1 : p → A) (h2 : ¬ p → B) : Br (decide p) A B := by
  by_cases h : p
  · rw [decide_eq_true h]; exact h1 h
  · rw [decide_eq_false h]; exact h2 h
theorem Br.and {a b : Bool} {A B : Prop} : Br (a && b) A B ↔ Br a (Br b A B) B := by cases a <;> exact Iff.rfl

def I64 (n : Int) : Prop := -9223372036854775808 ≤ n ∧ n ≤ 9223372036854775807
def U64 (n : Int) : Prop := 0 ≤ n ∧ n ≤ 18446744073709551615

theorem wrap_u64 (n : Int) : IntKind.wrap IntKind.u64 n = n % 18446744073709551616 := rfl
theorem wrap_i64 (n : Int) : IntKind.wrap IntKind.i64 n = (n + 9223372036854775808) % 18446744073709551616 - 9223372036854775808 := by
  show (if (true && decide (n % 18446744073709551616 ≥ 9223372036854775808)) = true then n % 18446744073709551616 - 18446744073709551616 else n % 18446744073709551616) = _
  by_cases h : n % 18446744073709551616 ≥ 9223372036854775808
  · rw [decide_eq_true h]; simp only [Bool.and_self, if_true]; omega
  · rw [decide_eq_false h]; simp only [Bool.and_false, Bool.false_eq_true, if_false]; omega
theorem wrap_u8 (n : Int) : IntKind.wrap IntKind.u8 n = n % 256 := rfl
theorem wrap_i64_id {n : Int} (h1 : -9223372036854775808 ≤ n) (h2 : n ≤ 9223372036854775807) : IntKind.wrap IntKind.i64 n = n := by rw [wrap_i64]; omega
theorem wrap_u64_id {n : Int} (h1 : 0 ≤ n) (h2 : n ≤ 18446744073709551615) : IntKind.wrap IntKind.u64 n = n := by rw [wrap_u64]; omega

theorem ofInt_toNat64 {a : Int} (h : 0 ≤ a) : (BitVec.ofInt 64 a).toNat = a.toNat % 18446744073709551616 := by
  rw [BitVec.toNat_ofInt]
  omega
/-- the lower half -/
theorem and_low {a : Int} (h : 0 ≤ a) : ((BitVec.ofInt 64 a &&& BitVec.ofInt 64 4294967295).toNat : Int) = a % 4294967296 := by
  rw [BitVec.toNat_and, ofInt_toNat64 h, ofInt_toNat64 (by omega)]
  have e : (Int.toNat 4294967295 % 18446744073709551616) = 2 ^ 32 - 1 := by decide
  rw [e, Nat.and_two_pow_sub_one_eq_mod]
  omega
/-- a half above, a half below -/
theorem or_half {x y : Int} (h1 : 0 ≤ x) (h2 : x < 4294967296) (h3 : 0 ≤ y) (h4 : y < 4294967296) : ((BitVec.ofInt 64 x ||| BitVec.ofInt 64 (y * 4294967296)).toNat : Int) = y * 4294967296 + x := by
  rw [BitVec.toNat_or, ofInt_toNat64 h1, ofInt_toNat64 (by omega)]
  have e1 : x.toNat % 18446744073709551616 = x.toNat := by omega
  have e2 : (y * 4294967296).toNat % 18446744073709551616 = 2 ^ 32 * y.toNat := by omega
  rw [e1, e2, Nat.or_comm, ← Nat.two_pow_add_eq_or_of_lt (by omega)]
  omega
/-- a bit below -/
theorem or_bit {x c : Int} (h1 : 0 ≤ x) (h2 : x % 2 = 0) (h3 : x < 18446744073709551616) (h4 : 0 ≤ c) (h5 : c < 2) : ((BitVec.ofInt 64 x ||| BitVec.ofInt 64 c).toNat : Int) = x + c := by
  rw [BitVec.toNat_or, ofInt_toNat64 h1, ofInt_toNat64 h4]
  have e1 : x.toNat % 18446744073709551616 = 2 ^ 1 * (x.toNat / 2) := by omega
  have e2 : c.toNat % 18446744073709551616 = c.toNat := by omega
  rw [e1, e2, ← Nat.two_pow_add_eq_or_of_lt (by omega)]
  omega

theorem fdiv_pos (a : Int) {b : Int} (h : 0 ≤ b) : Int.fdiv a b = a / b := Int.fdiv_eq_ediv_of_nonneg a h

/-! cells of what was just made or written -/
theorem cell_ins_same (h : Heap) (r o : Nat) (c : List Value) (T : TypeId) (f : Nat × Nat) : (h.ins r (.cells c.toArray T f)).cell r o = c[o]? := by
  unfold Heap.cell Heap.ins; simp
theorem cell_ins_ne (h : Heap) {r b o : Nat} {x : Obj} (e : b ≠ r) : (h.ins r x).cell b o = h.cell b o := by
  unfold Heap.cell Heap.ins; rw [if_neg e]
theorem setN_ins (h : Heap) (r o : Nat) (c vs : List Value) (T : TypeId) (f : Nat × Nat) : (h.ins r (.cells c.toArray T f)).setN r o vs = h.ins r (.cells (setL c o vs).toArray T f) := by
  funext x
  unfold Heap.setN Heap.ins
  cases hx : Nat.beq x r with
  | true =>
    have := Nat.eq_of_beq_eq_true hx
    subst this
    simp
  | false =>
    have : x ≠ r := fun e => by subst e; rw [Nat.beq_refl] at hx; cases hx
    simp [this]
theorem canSt_ins (h : Heap) (r o n : Nat) (c : List Value) (T : TypeId) (e : o + n ≤ c.length) : (h.ins r (.cells c.toArray T (0, 0))).canSt r o n :=
  ⟨c.toArray, T, by unfold Heap.ins; rw [if_pos rfl], by simpa using e⟩
theorem cell_lt {h : Heap} {b o : Nat} {v : Value} (e : h.cell b o = some v) : ∃ x, h b = some x := by
  unfold Heap.cell at e
  cases hb : h b with
  | none => rw [hb] at e; cases e
  | some x => exact ⟨x, rfl⟩
theorem cell_ins {h : Heap} {r b o : Nat} {x : Obj} {v : Value} (e : h.cell b o = some v) (hr : h r = none) : (h.ins r x).cell b o = some v := by
  rw [cell_ins_ne _ (fun e2 => by subst e2; obtain ⟨y, hy⟩ := cell_lt e; rw [hr] at hy; cases hy), e]
theorem cell_le {h h' : Heap} {b o : Nat} {v : Value} (l : h.le h') (e : h.cell b o = some v) : h'.cell b o = some v := by
  obtain ⟨x, hx⟩ := cell_lt e
  unfold Heap.cell at *
  rw [l b x hx]; rw [hx] at e; exact e

/-! lists in memory -/
theorem rdL_le {h h' : Heap} {a : Option Addr} {vs : List Value} (l : h.le h') (r : rdL h a vs) : rdL h' a vs := by
  rcases r with r | ⟨b, o, e, r⟩
  · exact .inl r
  · refine .inr ⟨b, o, e, fun j hj => ?_⟩
    have := r j hj
    rw [List.getElem?_eq_getElem hj] at this ⊢
    exact cell_le l this
/-- whole numbers of a kind -/
def intsV (k : IntKind) : List Int → List Value
  | [] => []
  | n :: l => .int k n :: intsV k l
theorem intsV_map (k : IntKind) : ∀ l, intsV k l = l.map (Value.int k)
  | [] => rfl
  | n :: l => by rw [intsV, intsV_map k l]; rfl
theorem intsV_length (k : IntKind) (l : List Int) : (intsV k l).length = l.length := by rw [intsV_map]; simp
theorem intsV_append (k : IntKind) (l m : List Int) : intsV k (l ++ m) = intsV k l ++ intsV k m := by simp [intsV_map]
theorem allCells_ints (k : IntKind) : ∀ l, allCells (intsV k l) = true
  | [] => rfl
  | n :: l => by rw [intsV, allCells]; exact allCells_ints k l
def Ints (k : IntKind) (h : Heap) (a : Option Addr) (l : List Int) : Prop := rdL h a (intsV k l)
theorem Ints.le {k : IntKind} {h h' : Heap} {a : Option Addr} {l : List Int} (i : Ints k h a l) (e : h.le h') : Ints k h' a l := rdL_le e i
theorem Ints.at {k : IntKind} {h : Heap} {a : Option Addr} {l : List Int} (i : Ints k h a l) {j : Nat} (hj : j < l.length) :
    ∃ b o, a = some ⟨b, o, none⟩ ∧ h.cell b (o + j) = some (.int k l[j]) := by
  rcases i with i | ⟨b, o, e, i⟩
  · have := congrArg List.length i; rw [intsV_length] at this; simp at this; subst this; simp at hj
  · refine ⟨b, o, e, ?_⟩
    rw [i j (by rw [intsV_length]; exact hj), intsV_map]
    simp [hj]
theorem rdL_new (h : Heap) (r : Nat) (c : List Value) (T : TypeId) (f : Nat × Nat) : rdL (h.ins r (.cells c.toArray T f)) (some ⟨r, 0, none⟩) c := by
  refine .inr ⟨r, 0, rfl, fun j hj => ?_⟩
  rw [cell_ins_same, Nat.zero_add]
theorem rdL_take {h : Heap} {a : Option Addr} {vs ws : List Value} (r : rdL h a (vs ++ ws)) : rdL h a vs := by
  rcases r with r | ⟨b, o, e, r⟩
  · exact .inl (List.append_eq_nil_iff.1 r).1
  · refine .inr ⟨b, o, e, fun j hj => ?_⟩
    rw [r j (by rw [List.length_append]; omega), List.getElem?_append_left hj]
theorem setL_get : ∀ (vs c : List Value) (o i : Nat), o + vs.length ≤ c.length → (setL c o vs)[i]? = if o ≤ i ∧ i < o + vs.length then vs[i - o]? else c[i]?
  | [], c, o, i, _ => by simp [setL]; omega
  | v :: vs, c, o, i, h => by
    have hl : (setT c o v).length = c.length := by rw [setT_eq]; simp
    simp only [List.length_cons] at h
    rw [setL, setL_get vs _ (o + 1) i (by rw [hl]; omega), setT_eq]
    by_cases h1 : o + 1 ≤ i ∧ i < o + 1 + vs.length
    · rw [if_pos h1, if_pos (by simp; omega), show i - o = (i - (o + 1)) + 1 from by omega]; rfl
    · rw [if_neg h1]
      by_cases h2 : i = o
      · subst h2
        rw [if_pos (by simp), List.getElem?_set_self (by omega)]
        simp
      · rw [if_neg (by simp; omega), List.getElem?_set_ne (by omega)]
theorem setN_other {h : Heap} {b o r : Nat} {vs : List Value} (e : r ≠ b) : h.setN b o vs r = h r := by
  unfold Heap.setN
  split
  · rename_i hx; exact (e (Nat.eq_of_beq_eq_true hx)).elim
  · rfl
theorem setN_cell {h : Heap} {b o i : Nat} {vs : List Value} (c : h.canSt b o vs.length) : (h.setN b o vs).cell b i = if o ≤ i ∧ i < o + vs.length then vs[i - o]? else h.cell b i := by
  obtain ⟨c, T, hb, hl⟩ := c
  have e : h.setN b o vs b = some (.cells (setL c.toList o vs).toArray T (0, 0)) := by
    unfold Heap.setN
    rw [Nat.beq_refl, hb]
  unfold Heap.cell
  rw [e, hb]
  dsimp only
  rw [List.getElem?_toArray, setL_get _ _ _ _ (by simpa using hl)]
  simp
/-- An append of cells, whether it stays or moves. -/
theorem AppA.mk {z : List Value} {t : TypeId} {h : Heap} {base : Option Addr} {len cap n : Nat} {a : Option Addr} {J : Option Addr → Nat → Heap → Prop} (old vs : List Value)
    (hlen : len + n ≤ 1073741824) (hv : vs.length = n * z.length) (rv : rdL h a vs) (av : allCells vs = true) (ho : old.length = len * z.length) (ro : rdL h base old)
    (room : len + n ≤ cap → vs = [] ∨ ∃ b o, base = some ⟨b, o, none⟩ ∧ h.canSt b (o + len * z.length) vs.length)
    (k : ∀ base' cap' h', len + n ≤ cap' → rdL h' base' (old ++ vs) → (∀ r x, h r = some x → (∀ o, base ≠ some ⟨r, o, none⟩) → h' r = some x) →
      ((base' = base ∧ cap' = cap ∧ (h' = h ∨ ∃ b o, base = some ⟨b, o, none⟩ ∧ h.canSt b (o + len * z.length) vs.length ∧ h' = h.setN b (o + len * z.length) vs)) ∨
        (cap < len + n ∧ ∃ r, base' = some ⟨r, 0, none⟩ ∧ h r = none ∧ h' = h.ins r (.cells (old ++ vs ++ repL (cap' - (len + n)) z).toArray t (0, 0)))) → J base' cap' h') : AppA z t h base len cap n a J := by
  refine ⟨hlen, vs, hv, rv, av, ?_⟩
  by_cases hc : len + n ≤ cap
  · refine .inl ⟨hc, room hc, ?_⟩
    rcases room hc with e | ⟨b, o, e, cs⟩
    · subst e
      refine k base cap h hc ?_ (fun r x hx _ => hx) (.inl ⟨rfl, rfl, .inl rfl⟩)
      rw [List.append_nil]; exact ro
    · subst e
      have main : J (some ⟨b, o, none⟩) cap (h.setN b (o + len * z.length) vs) := by
        refine k _ _ _ hc ?_ (fun r x hx hn => ?_) (.inl ⟨rfl, rfl, .inr ⟨b, o, rfl, cs, rfl⟩⟩)
        · refine .inr ⟨b, o, rfl, fun j hj => ?_⟩
          rw [setN_cell cs]
          rw [List.length_append] at hj
          by_cases hjo : j < old.length
          · rw [if_neg (by omega), List.getElem?_append_left hjo]
            rcases ro with ro | ⟨b', o', e, ro⟩
            · subst ro; simp at hjo
            · cases e; exact ro j hjo
          · rw [if_pos (by omega), List.getElem?_append_right (by omega)]
            congr 1
            omega
        · rw [setN_other (fun e => hn o (by rw [e]))]; exact hx
      cases vs with
      | nil =>
        have : h.setN b (o + len * z.length) [] = h := stOpt_nil h b _
        rw [this] at main
        exact main
      | cons v vs => exact main
  · refine .inr ⟨by omega, old, ho, ro, fun cap' r hcap hr => ?_⟩
    refine k _ _ _ hcap ?_ (fun r' x hx _ => le_ins hr _ _ hx) (.inr ⟨by omega, r, rfl, hr, rfl⟩)
    have := rdL_new h r (old ++ vs ++ repL (cap' - (len + n)) z) t (0, 0)
    exact rdL_take this
/-- What the world holds, all of it. -/
def heapOf (w : World) : Heap := fun r => w.heap[r]?
theorem heapOf_rep (w : World) : Rep (heapOf w) w := fun _ _ e => e
theorem walk_of {P : Program} {f : FuncId} {args : List Value} {w : World} {v0 : Value} (c : CallA P f args (heapOf w) fun v h' => v = v0 ∧ (heapOf w).le h') :
    Calls P f args.toArray w fun e w' => e = .returned v0 ∧ Go.RowKit.Below w.heap.size w w' := by
  refine (c w (heapOf_rep w)).2.mono fun e w' ⟨v, h', he, ⟨hv, hle⟩, r, f⟩ => ⟨by rw [he, hv], ⟨f.os, f.tape, f.output, f.size, fun k hk => ?_⟩⟩
  have hx : w.heap[k]? = some w.heap[k] := Array.getElem?_eq_getElem hk
  rw [hx]
  exact r k _ (hle k _ hx)

theorem I64.of_wf {n : Int} (h : (Lit.int .i64 n).wf = true) : I64 n := by
  have h1 : (decide (IntKind.i64.min ≤ n) && decide (n ≤ IntKind.i64.max)) = true := h
  rw [Bool.and_eq_true, decide_eq_true_eq, decide_eq_true_eq] at h1
  have e1 : IntKind.i64.min = -9223372036854775808 := by decide
  have e2 : IntKind.i64.max = 9223372036854775807 := by decide
  rw [e1, e2] at h1
  exact h1
end Go.Sy
