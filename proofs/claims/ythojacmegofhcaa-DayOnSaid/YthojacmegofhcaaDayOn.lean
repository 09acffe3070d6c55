/- The law DayOn: phases never go back, and each deadline is crossed once. -/
import Derived.Test.YthojacmegofhcaaDayTwo
namespace Go.Proofs.Ythojacmegofhcaa
open Go Go.Sy Go.Value
set_option linter.unusedVariables false
set_option linter.unusedSimpArgs false

theorem ph_mono {c0 c1 a b : Int} (h : a ≤ b) : phT c0 c1 a ≤ phT c0 c1 b := by
  unfold phT
  split <;> split <;> (try split) <;> (try split) <;> omega
theorem ph_le {c0 c1 a : Int} : 0 ≤ phT c0 c1 a ∧ phT c0 c1 a ≤ 2 := by
  unfold phT
  split
  · omega
  · split <;> omega
theorem may_less {p q kind : Int} (h0 : 0 ≤ p) (h : p ≤ q) (hq : q ≤ 2) (m : mayB q kind = true) : mayB p kind = true := by
  have hp : (p = 0 ∨ p = 1 ∨ p = 2) ∧ (q = 0 ∨ q = 1 ∨ q = 2) := by omega
  unfold mayB at *
  generalize (kind == 4 || kind == 9) = x at *
  generalize (kind == 2 || kind == 3 || kind == 5 || kind == 6 || kind == 7 || kind == 8) = y at *
  generalize (kind == 1) = z at *
  obtain ⟨rfl | rfl | rfl, rfl | rfl | rfl⟩ := hp <;> cases x <;> cases y <;> cases z <;> first | rfl | (exfalso; omega) | (simp at m)
/-- of a rising list, what lies between is what lies below, and then what lies above -/
theorem asc_bound {last hi : Int} : ∀ (l : List Int) (last : Int), ascF last hi l = true → ∀ x ∈ l, last < x ∧ x < hi
  | [], _, _, x, hx => by cases hx
  | y :: r, last, ok, x, hx => by
    unfold ascF at ok
    simp only [Bool.and_eq_true, decide_eq_true_eq] at ok
    obtain ⟨a, b, c⟩ := ok
    rcases List.mem_cons.1 hx with rfl | hx
    · exact ⟨a, b⟩
    · have := asc_bound (last := last) r y c x hx
      omega
theorem between {a b c hi : Int} (hab : a ≤ b) (hbc : b ≤ c) : ∀ (l : List Int) (last : Int), ascF last hi l = true → l.filter (inB a b) ++ l.filter (inB b c) = l.filter (inB a c)
  | [], _, _ => rfl
  | x :: r, last, ok => by
    unfold ascF at ok
    simp only [Bool.and_eq_true, decide_eq_true_eq] at ok
    obtain ⟨_, _, ok⟩ := ok
    have ih := between hab hbc r x ok
    have hb := asc_bound (last := x) r x ok
    by_cases h1 : inB a b x = true
    · have h2 : inB b c x = false := by unfold inB at *; simp only [decide_eq_true_eq] at h1; exact decide_eq_false (by omega)
      have h3 : inB a c x = true := by unfold inB at *; simp only [decide_eq_true_eq] at h1; exact decide_eq_true (by omega)
      rw [List.filter_cons_of_pos h1, List.filter_cons_of_neg (by simp [h2]), List.filter_cons_of_pos h3, List.cons_append, ih]
    · by_cases h2 : inB b c x = true
      · have h3 : inB a c x = true := by unfold inB at *; simp only [decide_eq_true_eq] at h2; exact decide_eq_true (by omega)
        have h4 : r.filter (inB a b) = [] := List.filter_eq_nil_iff.2 fun y hy => by
          have := hb y hy
          unfold inB at *
          simp only [decide_eq_true_eq] at h2 ⊢
          omega
        rw [List.filter_cons_of_neg h1, List.filter_cons_of_pos h2, List.filter_cons_of_pos h3, h4, List.nil_append]
        rw [h4, List.nil_append] at ih
        rw [ih]
      · have h3 : ¬ inB a c x = true := by
          unfold inB at *
          simp only [decide_eq_true_eq] at *
          omega
        rw [List.filter_cons_of_neg h1, List.filter_cons_of_neg h2, List.filter_cons_of_neg h3, ih]
theorem above {a b hi : Int} (hab : hi ≤ b) : ∀ (l : List Int) (last : Int), ascF last hi l = true → a ≤ last → l.filter (inB a b) = l := fun l last ok h =>
  List.filter_eq_self.2 fun x hx => by
    have := asc_bound (last := last) l last ok x hx
    unfold inB
    exact decide_eq_true (by omega)
theorem beyond {a b hi : Int} (hab : hi ≤ a) : ∀ (l : List Int) (last : Int), ascF last hi l = true → l.filter (inB a b) = [] := fun l last ok =>
  List.filter_eq_nil_iff.2 fun x hx => by
    have := asc_bound (last := last) l last ok x hx
    unfold inB
    simp only [decide_eq_true_eq]
    omega

section
variable {c0 c1 kind : Int} {l ss : List Int} {p q : Option Addr} {n c m e d : Nat} {h0 : Heap}
def Good18 (h0 : Heap) (v : Value) (h' : Heap) : Prop := v = .bool true ∧ h0.le h'
theorem good18 {h0 h : Heap} (l : h0.le h) : Ret h (Good18 h0) (.bool true) := ⟨h, h.le_refl, rfl, l⟩
theorem on_loop (A : At h0 d [.int .i64 c0, .int .i64 c1, .slice p n c]) (I : Ints .i64 h0 p l) (hn : l.length = n) (hs : n ≤ 40) (J : Ints .u16 h0 q ss) (hm : ss.length = m) (hms : m ≤ 40) (hw : ∀ s ∈ ss, 0 ≤ s ∧ s ≤ 65535)
    (w0 : 0 ≤ c0) (w1 : c0 < c1) (w2 : c1 ≤ 2147483647) (ok : ascF (c0 - 1) c1 l = true) :
    ∀ (f j : Nat) (now : Int) (out : Option Addr) (oc : Nat) (ws : List Int) (h : Heap), f + j = m → -1 ≤ now → now ≤ 65535 * j → h0.le h → OwnL h0 h [int .i64 0] out oc (intsV .i64 ws) → ws = l.filter (inB (-1) now) →
      L_law18_DayOn_0 kind d now (phT c0 c1 now) out ws.length oc q m e m j h (Good18 h0) := by
  intro f
  induction f with
  | zero =>
    intro j now out oc ws h hj n0 n1 lh own ew
    refine L_law18_DayOn_0r _ _ _ _ _ _ _ _ _ _ _ _ _ _ ?_
    unfold L_law18_DayOn_0T
    have A1 := A.le lh
    refine Br.no (by simp; omega) ⟨_, A1.cell rfl, _, A1.cell rfl, _, _, _, A1.cell rfl, _, A1.cell rfl, S_day_Crossed (I.le lh) hn (by omega) fun p2 k2 h2 l2 i2 => ⟨_, _, _, rfl, ?_⟩⟩
    have hwl : ws.length ≤ 40 := by rw [ew]; exact Nat.le_trans (List.length_filter_le _ _) (by omega)
    have hfl : (l.filter (inB now c1)).length ≤ 40 := Nat.le_trans (List.length_filter_le _ _) (by omega)
    refine (own.le l2).push (by decide) (Heap.le_trans lh l2) (by omega) (by rw [intsV_length]; simp) i2 (allCells_ints _ _) (by rw [intsV_length]; simp) ?_
    intro p3 k3 h3 l3 w3 _ _
    have A3 := A.le l3
    have I3 := I.le l3
    rw [← intsV_append] at w3
    have all : ws ++ l.filter (inB now c1) = l := by
      rw [ew]
      by_cases hc : now ≤ c1
      · rw [between n0 hc l _ ok, above (Int.le_refl _) l _ ok (by omega)]
      · rw [beyond (a := now) (b := c1) (by omega) l _ ok, List.append_nil, above (by omega) l _ ok (by omega)]
    refine ⟨_, _, _, A3.cell rfl, S_Same w3.rd I3 (by rw [List.length_append]) hn (by omega) ⟨_, rfl, Br.yes (by rw [all]; simp) ?_⟩⟩
    refine ⟨_, A3.cell rfl, _, A3.cell rfl, _, _, _, A3.cell rfl, _, A3.cell rfl, S_day_Phase fun h4 l4 => ⟨_, rfl, Br.yes (by unfold phT; rw [if_neg (by omega), if_neg (by omega)]; rfl) ?_⟩⟩
    have A4 := A3.le l4
    refine ⟨_, A4.cell rfl, _, A4.cell rfl, _, _, _, A4.cell rfl, _, A4.cell rfl, S_day_Phase fun h5 l5 => ⟨_, rfl, ?_⟩⟩
    have : (phT c0 c1 c0 == 1) = true := by unfold phT; rw [if_neg (by omega), if_pos (by omega)]; rfl
    rw [this]
    exact good18 (Heap.le_trans l3 (Heap.le_trans l4 l5))
  | succ f ih =>
    intro j now out oc ws h hj n0 n1 lh own ew
    refine L_law18_DayOn_0r _ _ _ _ _ _ _ _ _ _ _ _ _ _ ?_
    unfold L_law18_DayOn_0T
    have hjl : j < ss.length := by omega
    have hx : ss[j]? = some ss[j] := List.getElem?_eq_getElem hjl
    obtain ⟨s0, s1⟩ := hw ss[j] (List.getElem_mem hjl)
    generalize ss[j] = s at *
    have A1 := A.le lh
    refine Br.yes (by simp; omega) (ix (J.le lh) hm rfl hx ?_)
    have hjm : (j : Int) ≤ 40 := by omega
    have hmul : (65535 : Int) * j ≤ 2621400 := by omega
    rw [wrap_i64_id (n := s) (by omega) (by omega), wrap_i64_id (n := now + s) (by omega) (by omega), wrap_i64_id (n := (j : Int) + 1) (by omega) (by omega)]
    refine ⟨_, A1.cell rfl, _, A1.cell rfl, _, _, _, A1.cell rfl, S_day_Phase fun h2 l2 => ⟨_, rfl, ?_⟩⟩
    have mono : phT c0 c1 now ≤ phT c0 c1 (now + s) := ph_mono (by omega)
    have b1 := ph_le (c0 := c0) (c1 := c1) (a := now)
    have b2 := ph_le (c0 := c0) (c1 := c1) (a := now + s)
    have lh2 := Heap.le_trans lh l2
    have own2 := own.le l2
    have A2 := A.le lh2
    have hwl : ws.length ≤ 40 := by rw [ew]; exact Nat.le_trans (List.length_filter_le _ _) (by omega)
    refine Br.no (by simp; omega) (Br.no (by simp; omega) (S_day_May ⟨_, rfl, ?_⟩))
    have rest : ∃ (n_5 : Int), Heap.cell h2 d 0 = some (int IntKind.i64 n_5) ∧ ∃ (n_6 : Int), Heap.cell h2 d 1 = some (int IntKind.i64 n_6) ∧ ∃ (a : Option Addr), ∃ (n_7 : Nat), ∃ (m_1 : Nat), Heap.cell h2 d 2 = some (slice a n_7 m_1) ∧
        CallA Try.prog fn_day_Crossed [agg #[int IntKind.i64 n_5, int IntKind.i64 n_6, slice a n_7 m_1], int IntKind.i64 now, int IntKind.i64 (now + s)] h2 fun (v : Value) (h : Heap) =>
          ∃ (a : Option Addr), ∃ (n_8 : Nat), ∃ (m_1 : Nat), v = slice a n_8 m_1 ∧ AppA [int IntKind.i64 0] 3 h out ws.length oc n_8 a fun (ap : Option Addr) (cp : Nat) (h : Heap) =>
            L_law18_DayOn_0 kind d (now + s) (phT c0 c1 (now + s)) ap (ws.length + n_8) cp q m e m ((j : Int) + 1) h (Good18 h0) := by
      refine ⟨_, A2.cell rfl, _, A2.cell rfl, _, _, _, A2.cell rfl, S_day_Crossed (I.le lh2) hn (by omega) fun p3 k3 h3 l3 i3 => ⟨_, _, _, rfl, ?_⟩⟩
      have hfl : (l.filter (inB now (now + s))).length ≤ 40 := Nat.le_trans (List.length_filter_le _ _) (by omega)
      refine (own2.le l3).push (by decide) (Heap.le_trans lh2 l3) (by omega) (by rw [intsV_length]; simp) i3 (allCells_ints _ _) (by rw [intsV_length]; simp) ?_
      intro p4 k4 h4 l4 w4 _ _
      rw [← intsV_append] at w4
      have := ih (j + 1) (now + s) p4 k4 _ h4 (by omega) (by omega) (by rw [show ((j + 1 : Nat) : Int) = (j : Int) + 1 from by omega]; omega) l4 w4 (by rw [ew]; exact between (by omega) (by omega) l _ ok)
      rw [List.length_append] at this
      exact this
    refine Br.intro (fun mk => S_day_May ⟨_, rfl, Br.no ?_ rest⟩) (fun _ => rest)
    rw [may_less b1.1 mono b2.2 mk]; rfl
end
theorem law18_DayOn_ok {h : Heap} {cs : List Value} (H : daySh.Has h cs) {q : Option Addr} {m e : Nat} (HS : (Sh.sl (.int .u16)).Has h [.slice q m e]) {kind : Int} (hk : I64 kind) :
    CallA Try.prog fn_law18_DayOn [agg cs.toArray, slice q m e, int .i64 kind] h fun v h' => v = .bool true ∧ h.le h' := by
  obtain ⟨_, _, rfl, _, ⟨c0, rfl, _⟩, _, _, rfl, _, ⟨c1, rfl, _⟩, _, _, rfl, _, hsl, rfl⟩ := H
  have hsl2 := hsl
  obtain ⟨p, n, c, rfl, _⟩ := hsl2
  obtain ⟨_, _, l, hn, I, _⟩ := hsl.ints
  obtain ⟨_, _, ss, hm, J, hw⟩ := HS.ints
  clear hsl
  refine F_law18_DayOn _ _ _ _ _ _ _ _ _ _ _ ?_
  unfold F_law18_DayOnT
  intro d hd
  have A := At.new h d [int .i64 c0, int .i64 c1, slice p n c] 24
  have l1 : h.le (h.ins d (.cells [int .i64 c0, int .i64 c1, slice p n c].toArray 24 (0, 0))) := le_ins hd
  generalize h.ins d (.cells [int .i64 c0, int .i64 c1, slice p n c].toArray 24 (0, 0)) = h1 at *
  refine S_law18_awake fun h2 l2 => ⟨_, rfl, Br.no rfl ?_⟩
  have A := A.le l2
  have l12 := Heap.le_trans l1 l2
  have I := I.le l12
  have J := J.le l12
  have good : ∀ h', h.le h' → Ret h' (fun v h' => v = .bool true ∧ h.le h') (.bool true) := fun h' l => ⟨h', h'.le_refl, rfl, l⟩
  refine ⟨_, _, _, A.cell rfl, Br.dec (fun _ => good _ l12) fun g => Br.dec (fun _ => good _ l12) fun g2 => ?_⟩
  refine ⟨_, A.cell rfl, _, A.cell rfl, _, _, _, A.cell rfl, S_day_Check I hn fun h3 l3 => ⟨_, rfl, Br.intro (fun _ => good _ (Heap.le_trans l12 l3)) fun ek => ?_⟩⟩
  have ok : dayOK c0 c1 l = true := by
    have ek : dayE c0 c1 l = 0 := by simpa using ek
    unfold dayE at ek
    split at ek
    · assumption
    · cases ek
  unfold dayOK at ok
  simp only [Bool.and_eq_true, decide_eq_true_eq] at ok
  obtain ⟨⟨w0, w1, w2, _, _⟩, ok⟩ := ok
  have l13 := Heap.le_trans l12 l3
  have hw2 : ∀ s ∈ ss, 0 ≤ s ∧ s ≤ 65535 := fun s hs => by
    have h1 : (decide (IntKind.u16.min ≤ s) && decide (s ≤ IntKind.u16.max)) = true := hw s hs
    rw [Bool.and_eq_true, decide_eq_true_eq, decide_eq_true_eq] at h1
    have e1 : IntKind.u16.min = 0 := by decide
    have e2 : IntKind.u16.max = 65535 := by decide
    rw [e1, e2] at h1
    exact h1
  have fl : l.filter (inB (-1) (-1)) = [] := List.filter_eq_nil_iff.2 fun x _ => by unfold inB; simp only [decide_eq_true_eq]; omega
  have main := on_loop (kind := kind) (e := e) (A.le l3) (I.le l3) hn (by omega) (J.le l3) hm (by omega) hw2 w0 w1 w2 ok m 0 (-1) none 0 [] h3 (by omega) (by omega) (by omega) (Heap.le_refl _) (OwnL.nil _ _ _) fl.symm
  have e0 : phT c0 c1 (-1) = 0 := by unfold phT; rw [if_pos (by omega)]
  rw [e0] at main
  exact LoopAt.mono main fun v h' ⟨e, l⟩ => ⟨e, Heap.le_trans l13 l⟩
end Go.Proofs.Ythojacmegofhcaa
