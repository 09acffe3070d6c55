/- The day's functions, and the reference's: what each answers. -/
import Derived.Test.YthojacmegofhcaaEqDay
import Derived.Test.YthojacmegofhcaaFwOff
import Derived.Test.YthojacmegofhcaaFwShape
namespace Go.Proofs.Ythojacmegofhcaa
open Go Go.Sy Go.Value
set_option linter.unusedVariables false
set_option linter.unusedSimpArgs false

/-- an element of a list in memory, read -/
theorem ix {k : IntKind} {h : Heap} {a : Option Addr} {l : List Int} {N : Nat} (I : Ints k h a l) (hn : l.length = N) {j : Nat} {i : Int} (hi : i = (j : Int)) {x : Int} (hx : l[j]? = some x) {Q : Int → Prop} (kk : Q x) :
    0 ≤ i ∧ i < (N : Int) ∧ withAddr a fun b o => ∃ n, h.cell b (o + i.toNat) = some (.int k n) ∧ Q n := by
  subst hi hn
  have hj : j < l.length := (List.getElem?_eq_some_iff.1 hx).1
  obtain ⟨b, o, e, hc⟩ := I.at hj
  refine ⟨by omega, by omega, withAddr_intro e ⟨x, ?_, kk⟩⟩
  have : l[j] = x := by rw [List.getElem?_eq_getElem hj] at hx; exact Option.some.inj hx
  rw [Int.toNat_natCast, hc, this]
theorem ix0 {k : IntKind} {h : Heap} {a : Option Addr} {l : List Int} {N : Nat} (I : Ints k h a l) (hn : l.length = N) {x : Int} (hx : l[0]? = some x) {Q : Int → Prop} (kk : Q x) :
    (0 : Int) ≤ 0 ∧ (0 : Int) < (N : Int) ∧ withAddr a fun b o => ∃ n, h.cell b o = some (.int k n) ∧ Q n := by
  have := ix I hn (i := 0) (j := 0) rfl hx kk
  exact this

/-! what a day is -/
def ascF (last hi : Int) : List Int → Bool
  | [] => true
  | x :: r => decide (last < x) && (decide (x < hi) && ascF x hi r)
def ascO (last : Int) : List Int → Bool
  | [] => true
  | x :: r => decide (last < x) && ascO x r
def dayOK (c0 c1 : Int) (l : List Int) : Bool := decide (0 ≤ c0 ∧ c0 < c1 ∧ c1 ≤ 2147483647 ∧ 1 ≤ l.length ∧ l.length ≤ 16) && ascF (c0 - 1) c1 l
def dayE (c0 c1 : Int) (l : List Int) : Int := if dayOK c0 c1 l then 0 else 1
def errB (b : Bool) : Int := if b then 0 else 1
theorem asc_last : ∀ (r : List Int) (x hi y : Int), (x :: r).getLast? = some y → (ascO x r && decide (y < hi)) = (decide (x < hi) && ascF x hi r)
  | [], x, hi, y, e => by
    simp at e
    subst e
    simp [ascO, ascF]
  | z :: r, x, hi, y, e => by
    rw [List.getLast?_cons_cons] at e
    have ih := asc_last r z hi y e
    simp only [ascO, ascF]
    rw [Bool.and_assoc, ih]
    by_cases h1 : x < z <;> by_cases h2 : z < hi <;> simp [h1, h2]
    omega
def phT (c0 c1 now : Int) : Int := if now < c0 then 0 else if now < c1 then 1 else 2
def mayB (phase kind : Int) : Bool :=
  bif kind == 4 || kind == 9 then phase == 2 || phase == 1 || phase == 0
  else bif kind == 2 || kind == 3 || kind == 5 || kind == 6 || kind == 7 || kind == 8 then phase == 1 || phase == 0
  else bif kind == 1 then phase == 0 else false
def inB (f t x : Int) : Bool := decide (f < x ∧ x ≤ t)

section
variable {c0 c1 : Int} {l : List Int} {p : Option Addr} {n c : Nat} {K : Value → Heap → Prop} {h : Heap}
theorem dc_loop {d : Nat} (A : At h d [.int .i64 c0, .int .i64 c1, .slice p n c]) (I : Ints .i64 h p l) (hn : l.length = n) (hs : n ≤ 1000) :
    ∀ (m j : Nat) (x : Int), m + j = l.length → 1 ≤ j → l[j - 1]? = some x → Ret h K (.int .i64 (errB (ascO x (l.drop j)))) → L_day_Check_0 d n j h K := by
  intro m
  induction m with
  | zero =>
    intro j x hj h1 hx k
    refine L_day_Check_0r _ _ _ _ _ ?_
    unfold L_day_Check_0T
    refine Br.no (by simp; omega) ?_
    rw [List.drop_eq_nil_of_le (by omega)] at k
    exact k
  | succ m ih =>
    intro j x hj h1 hx k
    refine L_day_Check_0r _ _ _ _ _ ?_
    unfold L_day_Check_0T
    refine Br.yes (by simp; omega) ?_
    have hy : l[j]? = some l[j] := List.getElem?_eq_getElem (by omega)
    have ej : IntKind.wrap .i64 ((j : Int) - 1) = ((j - 1 : Nat) : Int) := by rw [wrap_i64_id (by omega) (by omega)]; omega
    have ej2 : IntKind.wrap .i64 ((j : Int) + 1) = ((j + 1 : Nat) : Int) := by rw [wrap_i64_id (by omega) (by omega)]; omega
    refine ⟨_, _, _, A.cell rfl, ix I hn rfl hy ⟨_, _, _, A.cell rfl, ?_⟩⟩
    rw [ej]
    refine ix I hn rfl hx ?_
    rw [List.drop_eq_getElem_cons (by omega : j < l.length)] at k
    unfold ascO at k
    refine Br.dec (fun hc => ?_) (fun hc => ?_)
    · rw [decide_eq_false (by omega)] at k
      exact k
    · rw [decide_eq_true (by omega), Bool.true_and] at k
      rw [ej2]
      exact ih (j + 1) _ (by omega) (by omega) (by rw [Nat.add_sub_cancel]; exact hy) k
theorem S_day_Check (I : Ints .i64 h p l) (hn : l.length = n) (k : ∀ h', h.le h' → K (.int .i64 (dayE c0 c1 l)) h') :
    CallA Try.prog fn_day_Check [agg #[int .i64 c0, int .i64 c1, slice p n c]] h K := by
  refine F_day_Check _ _ _ _ _ _ _ ?_
  unfold F_day_CheckT
  intro r hr
  have A := At.new h r [int .i64 c0, int .i64 c1, slice p n c] 24
  have lh : h.le (h.ins r (.cells [int .i64 c0, int .i64 c1, slice p n c].toArray 24 (0, 0))) := le_ins hr
  generalize h.ins r (.cells [int .i64 c0, int .i64 c1, slice p n c].toArray 24 (0, 0)) = h1 at *
  have I := I.le lh
  have fin := k h1 lh
  have no : ∀ {P : Prop}, (P → dayOK c0 c1 l = false) → P → Ret h1 K (.int .i64 1) := fun hp x => by
    unfold dayE at fin
    rw [hp x] at fin
    exact Ret.mk fin
  refine ⟨_, _, _, A.cell rfl, _, A.cell rfl, Br.dec (no fun x => by simp [dayOK]; intros; omega) fun g0 => ?_⟩
  refine ⟨_, A.cell rfl, _, A.cell rfl, Br.dec (no fun x => by simp [dayOK]; intros; omega) fun g1 => ?_⟩
  refine ⟨_, A.cell rfl, Br.dec (no fun x => by simp [dayOK]; intros; omega) fun g2 => ?_⟩
  refine Br.dec (no fun x => by simp [dayOK]; intros; omega) fun g3 => ?_
  refine Br.dec (no fun x => by simp [dayOK]; intros; omega) fun g4 => ?_
  match l, hn, I, fin, @no with
  | [], hn, I, fin, no => simp at hn; omega
  | x :: r', hn, I, fin, no =>
    obtain ⟨y, hy⟩ : ∃ y, (x :: r')[n - 1]? = some y := ⟨_, List.getElem?_eq_getElem (by omega)⟩
    have hlast : (x :: r').getLast? = some y := by rw [List.getLast?_eq_getElem?, hn]; exact hy
    have al := asc_last r' x c1 y hlast
    have en : IntKind.wrap .i64 ((n : Int) - 1) = ((n - 1 : Nat) : Int) := by rw [wrap_i64_id (by omega) (by omega)]; omega
    have ok : dayOK c0 c1 (x :: r') = (decide (c0 - 1 < x) && (decide (x < c1) && ascF x c1 r')) := by
      unfold dayOK
      rw [decide_eq_true (by omega), Bool.true_and]
      rfl
    refine ⟨_, _, _, A.cell rfl, ix0 I hn (x := x) rfl ⟨_, A.cell rfl, Br.dec (no fun hx => by rw [ok, decide_eq_false (by omega)]; rfl) fun g5 => ?_⟩⟩
    refine ⟨_, _, _, A.cell rfl, ?_⟩
    rw [en]
    refine ix I hn rfl hy ⟨_, A.cell rfl, Br.dec (no fun hx => by
      rw [ok, ← al, decide_eq_false (p := y < c1) (by omega), Bool.and_false, Bool.and_false]) fun g6 => ?_⟩
    refine dc_loop A I hn (by omega) (n - 1) 1 x (by rw [hn]; omega) (by omega) rfl ?_
    unfold dayE at fin
    rw [ok, ← al, decide_eq_true (by omega), decide_eq_true (by omega), Bool.true_and, Bool.and_true] at fin
    exact Ret.mk fin
theorem rc_loop {d : Nat} (A : At h d [.int .i64 c0, .int .i64 c1, .slice p n c]) (I : Ints .i64 h p l) (hn : l.length = n) (hs : n ≤ 1000) :
    ∀ (m j : Nat) (x : Int), m + j = l.length → Ret h K (.int .i64 (errB (ascF x c1 (l.drop j)))) → L_ref18_Check_0 d x j h K := by
  intro m
  induction m with
  | zero =>
    intro j x hj k
    refine L_ref18_Check_0r _ _ _ _ _ ?_
    unfold L_ref18_Check_0T
    refine ⟨_, _, _, A.cell rfl, Br.no (by simp; omega) ?_⟩
    rw [List.drop_eq_nil_of_le (by omega)] at k
    exact k
  | succ m ih =>
    intro j x hj k
    refine L_ref18_Check_0r _ _ _ _ _ ?_
    unfold L_ref18_Check_0T
    have hy : l[j]? = some l[j] := List.getElem?_eq_getElem (by omega)
    have ej2 : IntKind.wrap .i64 ((j : Int) + 1) = ((j + 1 : Nat) : Int) := by rw [wrap_i64_id (by omega) (by omega)]; omega
    rw [List.drop_eq_getElem_cons (by omega : j < l.length)] at k
    unfold ascF at k
    refine ⟨_, _, _, A.cell rfl, Br.yes (by simp; omega) ⟨_, _, _, A.cell rfl, ix I hn rfl hy ?_⟩⟩
    refine Br.dec (fun hc => ?_) (fun hc => ?_)
    · rw [decide_eq_false (by omega)] at k
      exact k
    · rw [decide_eq_true (by omega), Bool.true_and] at k
      refine ⟨_, _, _, A.cell rfl, ix I hn rfl hy ⟨_, A.cell rfl, Br.dec (fun hd => ?_) (fun hd => ?_)⟩⟩
      · rw [decide_eq_false (by omega)] at k
        exact k
      · rw [decide_eq_true (by omega), Bool.true_and] at k
        refine ⟨_, _, _, A.cell rfl, ix I hn rfl hy ?_⟩
        rw [ej2]
        exact ih (j + 1) _ (by omega) k
theorem S_ref18_Check (I : Ints .i64 h p l) (hn : l.length = n) (k : ∀ h', h.le h' → K (.int .i64 (dayE c0 c1 l)) h') :
    CallA Try.prog fn_ref18_Check [agg #[int .i64 c0, int .i64 c1, slice p n c]] h K := by
  refine F_ref18_Check _ _ _ _ _ _ _ ?_
  unfold F_ref18_CheckT
  intro r hr
  have A := At.new h r [int .i64 c0, int .i64 c1, slice p n c] 29
  have lh : h.le (h.ins r (.cells [int .i64 c0, int .i64 c1, slice p n c].toArray 29 (0, 0))) := le_ins hr
  generalize h.ins r (.cells [int .i64 c0, int .i64 c1, slice p n c].toArray 29 (0, 0)) = h1 at *
  have I := I.le lh
  have fin := k h1 lh
  have no : ∀ {P : Prop}, (P → dayOK c0 c1 l = false) → P → Ret h1 K (.int .i64 1) := fun hp x => by
    unfold dayE at fin
    rw [hp x] at fin
    exact Ret.mk fin
  refine ⟨_, A.cell rfl, Br.dec (no fun x => by simp [dayOK]; intros; omega) fun g0 => ?_⟩
  refine ⟨_, A.cell rfl, _, A.cell rfl, Br.dec (no fun x => by simp [dayOK]; intros; omega) fun g1 => ?_⟩
  refine ⟨_, A.cell rfl, Br.dec (no fun x => by simp [dayOK]; intros; omega) fun g2 => ?_⟩
  refine ⟨_, _, _, A.cell rfl, Br.intro (fun x => no (P := n = 0) (fun x => by simp [dayOK]; intros; omega) (by simpa using x)) fun g3 => ?_⟩
  refine ⟨_, _, _, A.cell rfl, Br.dec (no fun x => by simp [dayOK]; intros; omega) fun g4 => ?_⟩
  have g3' : n ≠ 0 := by simpa using g3
  refine ⟨_, A.cell rfl, ?_⟩
  rw [wrap_i64_id (by omega) (by omega)]
  refine rc_loop A I hn (by omega) n 0 _ (by omega) ?_
  unfold dayE dayOK at fin
  rw [decide_eq_true (by omega), Bool.true_and] at fin
  exact Ret.mk fin
theorem S_day_Phase {now : Int} (k : ∀ h', h.le h' → K (.int .i64 (phT c0 c1 now)) h') :
    CallA Try.prog fn_day_Phase [agg #[int .i64 c0, int .i64 c1, slice p n c], int .i64 now] h K := by
  refine F_day_Phase _ _ _ _ _ _ _ _ ?_
  unfold F_day_PhaseT
  intro r hr
  have A := At.new h r [int .i64 c0, int .i64 c1, slice p n c] 24
  have fin := k _ (le_ins hr (o := .cells [int .i64 c0, int .i64 c1, slice p n c].toArray 24 (0, 0)))
  unfold phT at fin
  refine ⟨_, A.cell rfl, Br.dec (fun g => ?_) fun g => ⟨_, A.cell rfl, Br.dec (fun g2 => ?_) fun g2 => ?_⟩⟩
  · rw [if_pos g] at fin; exact Ret.mk fin
  · rw [if_neg g, if_pos g2] at fin; exact Ret.mk fin
  · rw [if_neg g, if_neg g2] at fin; exact Ret.mk fin
theorem S_ref18_Phase {now : Int} (hc : c0 < c1) (k : ∀ h', h.le h' → K (.int .i64 (phT c0 c1 now)) h') :
    CallA Try.prog fn_ref18_Phase [agg #[int .i64 c0, int .i64 c1, slice p n c], int .i64 now] h K := by
  refine F_ref18_Phase _ _ _ _ _ _ _ _ ?_
  unfold F_ref18_PhaseT
  intro r hr
  have A := At.new h r [int .i64 c0, int .i64 c1, slice p n c] 29
  have fin := k _ (le_ins hr (o := .cells [int .i64 c0, int .i64 c1, slice p n c].toArray 29 (0, 0)))
  unfold phT at fin
  refine ⟨_, A.cell rfl, Br.dec (fun g => ⟨_, A.cell rfl, Br.dec (fun g2 => ?_) fun g2 => ?_⟩) fun g => ⟨_, A.cell rfl, Br.dec (fun g2 => ?_) fun g2 => ?_⟩⟩
  · rw [if_neg (by omega), if_neg (by omega)] at fin; exact Ret.mk fin
  · rw [if_neg (by omega), if_pos (by omega)] at fin; exact Ret.mk fin
  · omega
  · rw [if_pos (by omega)] at fin; exact Ret.mk fin
theorem S_day_May {phase kind : Int} (k : K (.bool (mayB phase kind)) h) : CallA Try.prog fn_day_May [int .i64 phase, int .i64 kind] h K := by
  refine F_day_May _ _ _ _ ?_
  unfold F_day_MayT
  have hp : phase = 0 ∨ phase = 1 ∨ phase = 2 ∨ ((phase == 0) = false ∧ (phase == 1) = false ∧ (phase == 2) = false) := by simp only [beq_eq_false_iff_ne]; omega
  have hk : kind = 1 ∨ kind = 2 ∨ kind = 3 ∨ kind = 4 ∨ kind = 5 ∨ kind = 6 ∨ kind = 7 ∨ kind = 8 ∨ kind = 9 ∨ ((kind == 1) = false ∧ (kind == 2) = false ∧ (kind == 3) = false ∧ (kind == 4) = false ∧ (kind == 5) = false ∧ (kind == 6) = false ∧ (kind == 7) = false ∧ (kind == 8) = false ∧ (kind == 9) = false) := by
    simp only [beq_eq_false_iff_ne]; omega
  have fin : Ret h K (.bool (mayB phase kind)) := Ret.mk k
  clear k
  rcases hp with rfl | rfl | rfl | ⟨p0, p1, p2⟩ <;> rcases hk with rfl | rfl | rfl | rfl | rfl | rfl | rfl | rfl | rfl | ⟨q1, q2, q3, q4, q5, q6, q7, q8, q9⟩ <;>
    simp_all only [mayB, Br_t, Br_f, Bool.or_false, Bool.or_true, Bool.false_or, Bool.true_or, cond_true, cond_false, Int.reduceBEq]
/-- one of these letters -/
def anyK (kind : Int) : List UInt8 → Bool
  | [] => false
  | c :: r => ((c.toNat : Int) - 48 == kind) || anyK kind r
theorem may_loop {phase kind : Int} {r : Nat} {f : Nat} {s : ByteArray} {vs : List Value} (hp : phase = (f : Int)) (hf : f < 3) (A : At h r vs) (hv : vs[f]? = some (.string s)) (hs : s.size ≤ 100) :
    ∀ (m j : Nat), m + j = s.size → Ret h K (.bool (anyK kind (s.data.toList.drop j))) → L_ref18_May_0 phase kind (some ⟨r, 0, none⟩) 3 3 j h K := by
  subst hp
  have hsz : s.data.toList.length = s.size := by rw [Array.length_toList]; rfl
  have c1 : h.cell r (0 + f) = some (.string s) := by rw [Nat.zero_add]; exact A.cell hv
  intro m
  induction m with
  | zero =>
    intro j hj k
    refine L_ref18_May_0r _ _ _ _ _ _ _ _ ?_
    unfold L_ref18_May_0T
    refine ⟨by omega, by omega, withAddr_intro rfl ⟨s, ?_, Br.no (by simp; omega) ?_⟩⟩
    · rw [Int.toNat_natCast]; exact c1
    · rw [List.drop_eq_nil_of_le (by omega)] at k
      exact k
  | succ m ih =>
    intro j hj k
    refine L_ref18_May_0r _ _ _ _ _ _ _ _ ?_
    unfold L_ref18_May_0T
    have hjl : j < s.data.toList.length := by omega
    refine ⟨by omega, by omega, withAddr_intro rfl ⟨s, ?_, Br.yes (by simp; omega) ⟨by omega, by omega, withAddr_intro rfl ⟨s, ?_, by omega, s.data.toList[j], ?_, ?_⟩⟩⟩⟩
    · rw [Int.toNat_natCast]; exact c1
    · rw [Int.toNat_natCast]; exact c1
    · rw [Int.toNat_natCast]
      rw [getElem?_pos s j (by omega)]
      rfl
    · rw [List.drop_eq_getElem_cons hjl] at k
      unfold anyK at k
      have hc := (s.data.toList[j]).toNat_lt
      generalize s.data.toList[j] = ch at *
      rw [wrap_i64_id (n := (ch.toNat : Int)) (by omega) (by omega), wrap_i64_id (by omega) (by omega)]
      refine Br.intro (fun e => ?_) (fun e => ?_)
      · rw [e] at k; exact k
      · rw [e, Bool.false_or] at k
        rw [wrap_i64_id (by omega) (by omega)]
        exact ih (j + 1) (by omega) k
theorem S_ref18_May {phase kind : Int} (k : ∀ h', h.le h' → K (.bool (mayB phase kind)) h') : CallA Try.prog fn_ref18_May [int .i64 phase, int .i64 kind] h K := by
  refine F_ref18_May _ _ _ _ ?_
  unfold F_ref18_MayT
  intro r hr
  have A := At.new h r [string { data := #[49, 50, 51, 52, 53, 54, 55, 56, 57] }, string { data := #[50, 51, 52, 53, 54, 55, 56, 57] }, string { data := #[52, 57] }] 9
  have fin := k _ (le_ins hr (o := .cells [string { data := #[49, 50, 51, 52, 53, 54, 55, 56, 57] }, string { data := #[50, 51, 52, 53, 54, 55, 56, 57] }, string { data := #[52, 57] }].toArray 9 (0, 0)))
  generalize Heap.ins h r _ = h1 at *
  have no : mayB phase kind = false → Ret h1 K (.bool false) := fun e => by rw [e] at fin; exact Ret.mk fin
  refine Br.dec (fun g => no ?_) fun g0 => Br.dec (fun g => no ?_) fun g1 => Br.dec (fun g => no ?_) fun g2 => Br.dec (fun g => no ?_) fun g3 => ?_
  · have e0 : (phase == 0) = false := by simp; omega
    have e1 : (phase == 1) = false := by simp; omega
    have e2 : (phase == 2) = false := by simp; omega
    simp [mayB, e0, e1, e2, Bool.cond_self]
  · have e0 : (phase == 0) = false := by simp; omega
    have e1 : (phase == 1) = false := by simp; omega
    have e2 : (phase == 2) = false := by simp; omega
    simp [mayB, e0, e1, e2, Bool.cond_self]
  · have e : ∀ i : Int, 1 ≤ i → (kind == i) = false := fun i hi => by simp; omega
    simp [mayB, e]
  · have e : ∀ i : Int, i ≤ 9 → (kind == i) = false := fun i hi => by simp; omega
    simp [mayB, e]
  · have hp : phase = 0 ∨ phase = 1 ∨ phase = 2 := by omega
    have hk : kind = 1 ∨ kind = 2 ∨ kind = 3 ∨ kind = 4 ∨ kind = 5 ∨ kind = 6 ∨ kind = 7 ∨ kind = 8 ∨ kind = 9 := by omega
    have fin := Ret.mk fin
    clear k no
    rcases hp with rfl | rfl | rfl
    · refine may_loop (f := 0) rfl (by omega) A rfl (by decide) 9 0 rfl ?_
      rcases hk with rfl | rfl | rfl | rfl | rfl | rfl | rfl | rfl | rfl <;> exact fin
    · refine may_loop (f := 1) rfl (by omega) A rfl (by decide) 8 0 rfl ?_
      rcases hk with rfl | rfl | rfl | rfl | rfl | rfl | rfl | rfl | rfl <;> exact fin
    · refine may_loop (f := 2) rfl (by omega) A rfl (by decide) 2 0 rfl ?_
      rcases hk with rfl | rfl | rfl | rfl | rfl | rfl | rfl | rfl | rfl <;> exact fin
end
section
variable {K : Value → Heap → Prop} {h : Heap}
theorem same_loop {a b : Option Addr} {la lb : List Int} {n ac bc : Nat} (Ia : Ints .i64 h a la) (Ib : Ints .i64 h b lb) (ha : la.length = n) (hb : lb.length = n) (hs : n ≤ 1099511627776) :
    ∀ (m j : Nat), m + j = n → Ret h K (.bool (decide (la.drop j = lb.drop j))) → L_ref11_Same_0 a n ac b n bc j h K := by
  intro m
  induction m with
  | zero =>
    intro j hj k
    refine L_ref11_Same_0r _ _ _ _ _ _ _ _ _ ?_
    unfold L_ref11_Same_0T
    refine Br.no (by simp; omega) ?_
    rw [List.drop_eq_nil_of_le (by omega), List.drop_eq_nil_of_le (by omega)] at k
    exact k
  | succ m ih =>
    intro j hj k
    refine L_ref11_Same_0r _ _ _ _ _ _ _ _ _ ?_
    unfold L_ref11_Same_0T
    have ea : la[j]? = some la[j] := List.getElem?_eq_getElem (by omega)
    have eb : lb[j]? = some lb[j] := List.getElem?_eq_getElem (by omega)
    rw [List.drop_eq_getElem_cons (by omega : j < la.length), List.drop_eq_getElem_cons (by omega : j < lb.length)] at k
    refine Br.yes (by simp; omega) (ix Ia ha rfl ea (ix Ib hb rfl eb ?_))
    refine Br.intro (fun e => ?_) (fun e => ?_)
    · have : la[j] ≠ lb[j] := by simpa using e
      rw [decide_eq_false (fun x => this (List.cons.inj x).1)] at k
      exact k
    · have e : la[j] = lb[j] := by simpa using e
      rw [wrap_i64_id (by omega) (by omega)]
      refine ih (j + 1) (by omega) ?_
      have e0 : ∀ (a b : Int) (x y : List Int), a = b → ((a :: x = b :: y) ↔ x = y) := by rintro a _ x y rfl; simp
      have := e0 _ _ (la.drop (j + 1)) (lb.drop (j + 1)) e
      rw [decide_eq_decide.2 this] at k
      exact k
theorem S_Same {a b : Option Addr} {la lb : List Int} {n m ac bc : Nat} (Ia : Ints .i64 h a la) (Ib : Ints .i64 h b lb) (ha : la.length = n) (hb : lb.length = m) (hs : n ≤ 1099511627776) (k : K (.bool (decide (la = lb))) h) :
    CallA Try.prog fn_ref11_Same [slice a n ac, slice b m bc] h K := by
  refine F_ref11_Same _ _ _ _ _ _ _ _ ?_
  unfold F_ref11_SameT
  refine Br.intro (fun e => ?_) (fun e => ?_)
  · have : n ≠ m := by intro e2; subst e2; simp at e
    rw [decide_eq_false (fun x => this (by rw [← ha, ← hb, x]))] at k
    exact Ret.mk k
  · have : n = m := by simp at e; omega
    subst this
    refine same_loop Ia Ib ha hb hs n 0 (by omega) ?_
    simpa using Ret.mk k
theorem S_out {t f to : Int} {r1 r2 : Nat} (A1 : At h r1 [.int .i64 f]) (A2 : At h r2 [.int .i64 to]) (k : K (.bool (!inB f to t)) h) :
    CallA Try.prog fn_day_Crossed_1 [int .i64 t, pointer (some ⟨r1, 0, none⟩), pointer (some ⟨r2, 0, none⟩)] h K := by
  refine F_day_Crossed_1 _ _ _ _ _ ?_
  unfold F_day_Crossed_1T
  unfold inB at k
  refine ⟨_, A1.cell rfl, Br.dec (fun e => ?_) (fun e => ⟨_, A2.cell rfl, ?_⟩)⟩
  · rw [decide_eq_false (by omega)] at k; exact Ret.mk k
  · have : decide (t > to) = !(decide (f < t ∧ t ≤ to)) := by
      by_cases g : t > to
      · rw [decide_eq_true g, decide_eq_false (by omega)]; rfl
      · rw [decide_eq_false g, decide_eq_true (by omega)]; rfl
    rw [this]; exact Ret.mk k
/-- where the first one stands that is to go -/
def goI (f t : Int) : List Int → Option Nat
  | [] => none
  | x :: r => if inB f t x then (goI f t r).map (· + 1) else some 0
theorem go_loop {p : Option Addr} {l : List Int} {n c : Nat} {f to : Int} {r1 r2 : Nat} (I : Ints .i64 h p l) (hn : l.length = n) (A1 : At h r1 [.int .i64 f]) (A2 : At h r2 [.int .i64 to]) (hs : n ≤ 1099511627776) :
    ∀ (m j : Nat), m + j = n → Ret h K (.int .i64 (match goI f to (l.drop j) with | some i => ((i + j : Nat) : Int) | none => -1)) → L_slices_IndexFunc_int_int_0 p n c r1 r2 n j h K := by
  intro m
  induction m with
  | zero =>
    intro j hj k
    refine L_slices_IndexFunc_int_int_0r _ _ _ _ _ _ _ _ _ ?_
    unfold L_slices_IndexFunc_int_int_0T
    refine Br.no (by simp; omega) ?_
    rw [List.drop_eq_nil_of_le (by omega)] at k
    exact k
  | succ m ih =>
    intro j hj k
    refine L_slices_IndexFunc_int_int_0r _ _ _ _ _ _ _ _ _ ?_
    unfold L_slices_IndexFunc_int_int_0T
    have ea : l[j]? = some l[j] := List.getElem?_eq_getElem (by omega)
    rw [List.drop_eq_getElem_cons (by omega : j < l.length)] at k
    unfold goI at k
    refine Br.yes (by simp; omega) (ix I hn rfl ea (S_out A1 A2 ⟨_, rfl, ?_⟩))
    cases e : inB f to l[j] with
    | true =>
      rw [e, if_pos rfl] at k
      refine Br.no rfl ?_
      rw [wrap_i64_id (by omega) (by omega)]
      refine ih (j + 1) (by omega) ?_
      cases e2 : goI f to (l.drop (j + 1)) with
      | none => rw [e2] at k; exact k
      | some i =>
        rw [e2] at k
        have : i + 1 + j = i + (j + 1) := by omega
        dsimp only [Option.map_some] at k
        rw [this] at k
        exact k
    | false =>
      rw [e, if_neg (by decide)] at k
      refine Br.yes rfl ?_
      dsimp only at k
      rw [Nat.zero_add] at k
      exact k
theorem S_IndexOut {p : Option Addr} {l : List Int} {n c : Nat} {f to : Int} {r1 r2 : Nat} (I : Ints .i64 h p l) (hn : l.length = n) (A1 : At h r1 [.int .i64 f]) (A2 : At h r2 [.int .i64 to]) (hs : n ≤ 1099511627776)
    (k : K (.int .i64 (match goI f to l with | some i => (i : Int) | none => -1)) h) :
    CallA Try.prog fn_slices_IndexFunc_int_int [slice p n c, func (Fn.func fn_day_Crossed_1) #[] #[pointer (some ⟨r1, 0, none⟩), pointer (some ⟨r2, 0, none⟩)]] h K := by
  refine F_slices_IndexFunc_int_int _ _ _ _ _ _ _ ?_
  unfold F_slices_IndexFunc_int_intT
  refine go_loop I hn A1 A2 hs n 0 (by omega) ?_
  simpa using Ret.mk k
end
end Go.Proofs.Ythojacmegofhcaa
