/- The laws TableTells, TableWorth and TableBack. -/
import Derived.Test.YtkcogdmddhkldaaTabThree
namespace Go.Proofs.Ytkcogdmddhkldaa
open Go Go.Sy Go.Value
set_option linter.unusedVariables false
set_option linter.unusedSimpArgs false

/-- a table, as it is handed over -/
def curSh : Sh := .sl (.two .str (.two (.int .i64) (.two (.int .i64) .nil)))
theorem curs_of {h : Heap} {p : Option Addr} {n c : Nat} (H : curSh.Has h [.slice p n c]) : n ≤ 9223372036854775807 ∧ ∃ l : List Cur, l.length = n ∧ Curs h p l ∧ ∀ x ∈ l, I64 x.rate ∧ I64 x.cut := by
  obtain ⟨h1, h2, L, hL, hA, hR⟩ := Sh.Has.list H
  refine ⟨by omega, ?_⟩
  have : ∀ L : List (List Value), (∀ vs ∈ L, vs.length = (Sh.two .str (.two (.int .i64) (.two (.int .i64) .nil))).n ∧ (Sh.two .str (.two (.int .i64) (.two (.int .i64) .nil))).Has h vs) →
      ∃ l : List Cur, l.length = L.length ∧ L.flatten = curV l ∧ ∀ x ∈ l, I64 x.rate ∧ I64 x.cut := by
    intro L
    induction L with
    | nil => exact fun _ => ⟨[], rfl, rfl, fun _ hn => (by cases hn)⟩
    | cons a L ih =>
      intro hA
      obtain ⟨l, e1, e2, e3⟩ := ih (fun vs hv => hA vs (List.mem_cons_of_mem _ hv))
      obtain ⟨_, _, ea, _, ⟨s, rfl, _⟩, _, _, rfl, _, ⟨r, rfl, wr⟩, _, _, rfl, _, ⟨t, rfl, wt⟩, rfl⟩ := (hA a (List.mem_cons_self ..)).2
      subst ea
      refine ⟨⟨s, r, t⟩ :: l, by simp [e1], by rw [List.flatten_cons, e2]; rfl, fun x hx => ?_⟩
      rcases List.mem_cons.1 hx with rfl | hx
      · exact ⟨I64.of_wf wr, I64.of_wf wt⟩
      · exact e3 x hx
  obtain ⟨l, e1, e2, e3⟩ := this L hA
  exact ⟨l, by rw [e1, hL], by unfold Curs; rw [← e2]; exact hR, e3⟩
def GoodT (h0 : Heap) (v : Value) (h' : Heap) : Prop := v = .bool true ∧ h0.le h'
theorem goodT {h0 h : Heap} (l : h0.le h) : Ret h (GoodT h0) (.bool true) := ⟨h, h.le_refl, rfl, l⟩
section
variable {K : Value → Heap → Prop} {h h0 : Heap} {p : Option Addr} {l : List Cur} {n c : Nat}
theorem all_inb (h : tabE l = 0) : l.all inbB = true := by
  obtain ⟨_, _, _, _, h5⟩ := tab_parts h
  match l, h5 with
  | [], _ => rfl
  | x :: r, h5 =>
    rw [fitsF_cons, Bool.and_eq_true, fitsF_succ] at h5
    rw [List.all_cons, fits_inb h5.1, h5.2]; rfl
theorem S_RChange {f t a : Int} {up : Bool} (C : Curs h p l) (hn : l.length = n) (ok : l.all inbB = true) (ha : I64 a) (k : ∀ h', h.le h' → K (tuple #[.int .i64 (changeR l f t a up).1, .int .i64 (changeR l f t a up).2]) h') :
    CallA Try.prog fn_ref03_Change [slice p n c, .int .i64 f, .int .i64 t, .int .i64 a, .bool up] h K := by
  refine F_ref03_Change _ _ _ _ _ _ _ _ _ ?_
  unfold F_ref03_ChangeT
  unfold changeR at k
  by_cases hc : 0 ≤ f ∧ f < (n : Int)
  · obtain ⟨j, x, rfl, hx, e⟩ := curAt_some hn hc
    rw [e] at k
    refine Br.no (decide_eq_false (by omega)) (Br.no (decide_eq_false (by omega)) ?_)
    by_cases hd : 0 ≤ t ∧ t < (n : Int)
    · obtain ⟨i, y, rfl, hy, e2⟩ := curAt_some hn hd
      rw [e2] at k
      exact Br.no (decide_eq_false (by omega)) (Br.no (decide_eq_false (by omega)) (cx1 C hn rfl hx (cx1 C hn rfl hy (S_RMulDiv ha (rate_I64 (inb_of ok hx)) (rate_I64 (inb_of ok hy)) fun h' l' => ⟨_, _, rfl, Ret.mk (k h' l')⟩))))
    · rw [curAt_none hn hd] at k
      exact Br.dec (fun _ => Ret.mk (k h h.le_refl)) fun _ => Br.yes (decide_eq_true (by omega)) (Ret.mk (k h h.le_refl))
  · rw [curAt_none hn hc] at k
    have k' : ∀ h', h.le h' → K (tuple #[.int .i64 0, .int .i64 1]) h' := k
    exact Br.dec (fun _ => Ret.mk (k' h h.le_refl)) fun _ => Br.yes (decide_eq_true (by omega)) (Ret.mk (k' h h.le_refl))
theorem worth_tail {a r q : Int} {x : Cur} (ha : I64 a) (hr : r = x.rate) (hr64 : I64 r) (hq : q = partC x a) (hq64 : I64 q) (k : ∀ h', h.le h' → K (tuple #[.int .i64 (md a (x.rate * partC x a) 100000000 false).1, .int .i64 (md a (x.rate * partC x a) 100000000 false).2]) h') :
    CallA Try.prog fn_ref01_Of [int IntKind.i64 a] h fun (v : Value) (h_1 : Heap) => ∃ (b : Bool), ∃ (a : Option Addr), ∃ (n_2 : Nat), ∃ (m : Nat), v = agg #[Value.bool b, slice a n_2 m] ∧ Heap.le h h_1 ∧
      CallA Try.prog fn_ref01_Of [int IntKind.i64 r] h_1 fun (v : Value) (h : Heap) => ∃ (b_1 : Bool), ∃ (a_1 : Option Addr), ∃ (n_3 : Nat), ∃ (m_1 : Nat), v = agg #[Value.bool b_1, slice a_1 n_3 m_1] ∧
        CallA Try.prog fn_ref01_Mul [agg #[Value.bool b, slice a n_2 m], agg #[Value.bool b_1, slice a_1 n_3 m_1]] h fun (v : Value) (h : Heap) => ∃ (b : Bool), ∃ (a : Option Addr), ∃ (n_4 : Nat), ∃ (m : Nat), v = agg #[Value.bool b, slice a n_4 m] ∧
          CallA Try.prog fn_ref01_Of [int IntKind.i64 q] h fun (v : Value) (h : Heap) => ∃ (b_2 : Bool), ∃ (a_2 : Option Addr), ∃ (n : Nat), ∃ (m_2 : Nat), v = agg #[Value.bool b_2, slice a_2 n m_2] ∧
            CallA Try.prog fn_ref01_Mul [agg #[Value.bool b, slice a n_4 m], agg #[Value.bool b_2, slice a_2 n m_2]] h fun (v : Value) (h : Heap) => ∃ (b : Bool), ∃ (a : Option Addr), ∃ (n : Nat), ∃ (m : Nat), v = agg #[Value.bool b, slice a n m] ∧
              newB h [Value.bool false, slice none 0 0] 118 fun (r : Nat) (h : Heap) => Heap.canSt h r 0 2 ∧ ∃ (b_3 : Bool), Heap.cell (Heap.setN h r 0 [Value.bool b, slice a n m]) r 0 = some (Value.bool b_3) ∧
                ∃ (a_3 : Option Addr), ∃ (n_5 : Nat), ∃ (m_3 : Nat), Heap.cell (Heap.setN h r 0 [Value.bool b, slice a n m]) r 1 = some (slice a_3 n_5 m_3) ∧
                  CallA Try.prog fn_ref01_Of [int IntKind.i64 100000000] (Heap.setN h r 0 [Value.bool b, slice a n m]) fun (v : Value) (h_2 : Heap) => ∃ (b_4 : Bool), ∃ (a_4 : Option Addr), ∃ (n_6 : Nat), ∃ (m_4 : Nat), v = agg #[Value.bool b_4, slice a_4 n_6 m_4] ∧ Heap.le (Heap.setN h r 0 [Value.bool b, slice a n m]) h_2 ∧
                    CallA Try.prog fn_ref01_Div [agg #[Value.bool b_3, slice a_3 n_5 m_3], agg #[Value.bool b_4, slice a_4 n_6 m_4], Value.bool false] h_2 fun (v : Value) (h : Heap) => ∃ (b : Bool), ∃ (a : Option Addr), ∃ (n : Nat), ∃ (m : Nat), v = agg #[Value.bool b, slice a n m] ∧
                      CallA Try.prog fn_ref01_Fit [agg #[Value.bool b, slice a n m]] h fun (v : Value) (h : Heap) => ∃ (n : Int), ∃ (n_7 : Int), v = tuple #[int IntKind.i64 n, int IntKind.i64 n_7] ∧ Ret h K (tuple #[int IntKind.i64 n, int IntKind.i64 n_7]) := by
  refine S_Of ha fun v1 h1 l1 bn1 => ?_
  have br1 := bn1.raw
  obtain ⟨n1, p1, c1, d1, rfl, _⟩ := bn1
  refine ⟨_, _, _, _, rfl, l1, ?_⟩
  refine S_Of hr64 fun v2 h2 l2 bn2 => ?_
  have br2 := bn2.raw
  obtain ⟨n2, p2, c2, d2, rfl, _⟩ := bn2
  refine ⟨_, _, _, _, rfl, ?_⟩
  refine S_Mul_Big (br1.le l2) br2 (by omega) fun v3 h3 l3 bn3 => ?_
  have br3 := bn3.raw
  obtain ⟨n3, p3, c3, d3, rfl, _⟩ := bn3
  refine ⟨_, _, _, _, rfl, ?_⟩
  refine S_Of hq64 fun v4 h4 l4 bn4 => ?_
  have br4 := bn4.raw
  obtain ⟨n4, p4, c4, d4, rfl, _⟩ := bn4
  refine ⟨_, _, _, _, rfl, ?_⟩
  refine S_Mul_Big (br3.le l4) br4 (by omega) fun v5 h5 l5 bn5 => ?_
  have br5 := bn5.raw
  obtain ⟨n5, p5, c5, d5, rfl, _⟩ := bn5
  refine ⟨_, _, _, _, rfl, ?_⟩
  intro s hs
  have A0 := At.new h5 s [Value.bool false, slice none 0 0] 118
  have m1 : h5.le (h5.ins s (.cells [Value.bool false, slice none 0 0].toArray 118 (0, 0))) := le_ins hs
  generalize h5.ins s (.cells [Value.bool false, slice none 0 0].toArray 118 (0, 0)) = h6 at *
  refine ⟨A0.canSt (by decide), ?_⟩
  have A := A0.set (o := 0) (ws := [Value.bool n5, slice p5 d5.length c5])
  have m2 : h5.le (h6.setN s 0 [Value.bool n5, slice p5 d5.length c5]) := le_setN m1 hs
  generalize h6.setN s 0 [Value.bool n5, slice p5 d5.length c5] = h7 at *
  refine ⟨_, A.cell rfl, _, _, _, A.cell rfl, S_Of (show I64 100000000 from ⟨by decide, by decide⟩) fun v8 h8 l8 bn8 => ?_⟩
  have br8 := bn8.raw
  obtain ⟨n8, p8, c8, d8, rfl, _⟩ := bn8
  refine ⟨_, _, _, _, rfl, l8, ?_⟩
  refine S_Div_Big ((br5.le m2).le l8) br8 (by omega) (by omega) (by decide) fun v9 h9 l9 bn9 => ?_
  have br9 := bn9.raw
  obtain ⟨n9, p9, c9, d9, rfl, _⟩ := bn9
  refine ⟨_, _, _, _, rfl, ?_⟩
  refine S_Fit br9 (by omega) fun h10 l10 => ⟨_, _, rfl, Ret.mk ?_⟩
  have := k h10 (Heap.le_trans l1 (Heap.le_trans l2 (Heap.le_trans l3 (Heap.le_trans l4 (Heap.le_trans l5 (Heap.le_trans m2 (Heap.le_trans l8 (Heap.le_trans l9 l10))))))))
  subst hr hq
  unfold md at this
  rw [if_neg (by decide), ← Int.mul_assoc] at this
  exact this
end
theorem fit_cases (x : Int) : (I64 x ∧ fit x = (x, 0)) ∨ (¬ I64 x ∧ fit x = (0, 3)) := by
  by_cases h : I64 x
  · exact .inl ⟨h, fit_ok h⟩
  · exact .inr ⟨h, fit_over h⟩
end Go.Proofs.Ytkcogdmddhkldaa
