import Derived.Test.YtghdadniddoboaaM10
import Derived.Test.YtghdadniddoboaaM08
import Derived.Test.YtghdadniddoboaaM07
/- The laws TableTells, TableWorth and TableBack. -/
namespace Go.Proofs.Ytghdadniddoboaa
open Go Go.Sy Go.Value
set_option linter.unusedVariables false
set_option linter.unusedSimpArgs false

/-- a table, as it is handed over -/
def curSh : Sh := .sl (.two .str (.two (.int .i64) (.two (.int .i64) .nil)))
theorem curs_of {h : Heap} {p : Option Addr} {n c : Nat} (H : curSh.Has h [.slice p n c]) : n ≤ 9223372036854775807 ∧ ∃ l : List Cur, l.length = n ∧ Curs h p l ∧ ∀ x ∈ l, I64 x.rate ∧ I64 x.cut := by
  obtain ⟨h1, h2, L, hL, hA, hR⟩ := Sh.Has.list H
  refine ⟨by omega, ?_⟩
  have : ∀ L : List (List Value), (∀ vs ∈ L, vs.length = (Sh.two .str (.two (.int .i64) (.two (.int .i64) .nil))).n ∧ (Sh.two .str (.two (.int .i64) (.two (.int .i64) .nil))).Has h vs) →
      ∃ l : List Cur, l.length = L.length ∧ L.flatten = curV l ∧ ∀ x ∈ l, I64 x.rate ∧ I64 x.cut := by
    intro L
    induction L with
    | nil => exact fun _ => ⟨[], rfl, rfl, fun _ hn => (by cases hn)⟩
    | cons a L ih =>
      intro hA
      obtain ⟨l, e1, e2, e3⟩ := ih (fun vs hv => hA vs (List.mem_cons_of_mem _ hv))
      obtain ⟨_, _, ea, _, ⟨s, rfl, _⟩, _, _, rfl, _, ⟨r, rfl, wr⟩, _, _, rfl, _, ⟨t, rfl, wt⟩, rfl⟩ := (hA a (List.mem_cons_self ..)).2
      subst ea
      refine ⟨⟨s, r, t⟩ :: l, by simp [e1], by rw [List.flatten_cons, e2]; rfl, fun x hx => ?_⟩
      rcases List.mem_cons.1 hx with rfl | hx
      · exact ⟨I64.of_wf wr, I64.of_wf wt⟩
      · exact e3 x hx
  obtain ⟨l, e1, e2, e3⟩ := this L hA
  exact ⟨l, by rw [e1, hL], by unfold Curs; rw [← e2]; exact hR, e3⟩
def GoodT (h0 : Heap) (v : Value) (h' : Heap) : Prop := v = .bool true ∧ h0.le h'
theorem goodT {h0 h : Heap} (l : h0.le h) : Ret h (GoodT h0) (.bool true) := ⟨h, h.le_refl, rfl, l⟩
theorem tells_tail {h0 h : Heap} (lh : h0.le h) {p : Option Addr} {l : List Cur} {tn tc : Nat} (C : Curs h p l) (hn : l.length = tn) (hs : tn ≤ 20) {cur n x y : Int}
    (hx : rWith l cur n x = wRate l cur n) (hy : rWith l cur y n = wCut l cur n) :
    CallA Try.prog fn_table_WithRate [slice p tn tc, .int .i64 cur, .int .i64 n] h fun (v : Value) (h : Heap) => ∃ (a : Option Addr), ∃ (n_8 : Nat), ∃ (m : Nat), ∃ (n_9 : Int), v = tuple #[slice a n_8 m, .int .i64 n_9] ∧
      CallA Try.prog fn_ref03_With [slice p tn tc, .int .i64 cur, .int .i64 n, .int .i64 x] h fun (v : Value) (h : Heap) => ∃ (a_1 : Option Addr), ∃ (n_10 : Nat), ∃ (m_1 : Nat), ∃ (n_11 : Int), v = tuple #[slice a_1 n_10 m_1, .int .i64 n_11] ∧
        CallA Try.prog fn_table_WithCut [slice p tn tc, .int .i64 cur, .int .i64 n] h fun (v : Value) (h : Heap) => ∃ (a_2 : Option Addr), ∃ (n_12 : Nat), ∃ (m_2 : Nat), ∃ (n_13 : Int), v = tuple #[slice a_2 n_12 m_2, .int .i64 n_13] ∧
          CallA Try.prog fn_ref03_With [slice p tn tc, .int .i64 cur, .int .i64 y, .int .i64 n] h fun (v : Value) (h : Heap) => ∃ (a_3 : Option Addr), ∃ (n : Nat), ∃ (m_3 : Nat), ∃ (n_14 : Int), v = tuple #[slice a_3 n m_3, .int .i64 n_14] ∧
            CallA Try.prog fn_ref03_Same [slice a n_8 m, slice a_1 n_10 m_1] h fun (v : Value) (h : Heap) => ∃ (b : Bool), v = Value.bool b ∧
              Br b (Br (n_9 == n_11) (CallA Try.prog fn_ref03_Same [slice a_2 n_12 m_2, slice a_3 n m_3] h fun (v : Value) (h : Heap) => ∃ (b : Bool), v = Value.bool b ∧ Br b (Ret h (GoodT h0) (Value.bool (n_13 == n_14))) (Ret h (GoodT h0) (Value.bool false))) (Ret h (GoodT h0) (Value.bool false))) (Ret h (GoodT h0) (Value.bool false)) := by
  refine S_WithRate C hn (by omega) fun p1 n1 c1 e1 h1 l1 w1 => ⟨_, _, _, _, rfl, ?_⟩
  refine S_RWith (C.le l1) hn (by omega) fun p2 n2 c2 e2 h2 l2 w2 => ⟨_, _, _, _, rfl, ?_⟩
  refine S_WithCut ((C.le l1).le l2) hn (by omega) fun p3 n3 c3 e3 h3 l3 w3 => ⟨_, _, _, _, rfl, ?_⟩
  refine S_RWith (((C.le l1).le l2).le l3) hn (by omega) fun p4 n4 c4 e4 h4 l4 w4 => ⟨_, _, _, _, rfl, ?_⟩
  rw [hx] at w2
  rw [hy] at w4
  have b1 : n1 ≤ 1099511627776 := by
    revert w1
    unfold wRate withL
    split
    · split
      · split
        · rintro ⟨_, e, _⟩; rw [List.length_set] at e; omega
        · rintro ⟨_, e, _⟩; omega
      · rintro ⟨_, e, _⟩; omega
    · rintro ⟨_, e, _⟩; omega
  have b3 : n3 ≤ 1099511627776 := by
    revert w3
    unfold wCut withL
    split
    · split
      · split
        · rintro ⟨_, e, _⟩; rw [List.length_set] at e; omega
        · rintro ⟨_, e, _⟩; omega
      · rintro ⟨_, e, _⟩; omega
    · rintro ⟨_, e, _⟩; omega
  have ee := w1.err w2
  have ff := w3.err w4
  subst ee ff
  have l04 := Heap.le_trans lh (Heap.le_trans l1 (Heap.le_trans l2 (Heap.le_trans l3 l4)))
  refine S_RSame (((w1.le l2).le l3).le l4) ((w2.le l3).le l4) b1 ⟨_, rfl, Br.yes rfl (Br.yes (by simp) (S_RSame (w3.le l4) w4 b3 ⟨_, rfl, Br.yes rfl ?_⟩))⟩
  have : (e3 == e3) = true := by simp
  rw [this]
  exact goodT l04
section
variable {K : Value → Heap → Prop} {h h0 : Heap} {p : Option Addr} {l : List Cur} {n c : Nat}
theorem all_inb (h : tabE l = 0) : l.all inbB = true := by
  obtain ⟨_, _, _, _, h5⟩ := tab_parts h
  match l, h5 with
  | [], _ => rfl
  | x :: r, h5 =>
    rw [fitsF_cons, Bool.and_eq_true, fitsF_succ] at h5
    rw [List.all_cons, fits_inb h5.1, h5.2]; rfl
theorem S_RPlain {cur a : Int} (C : Curs h p l) (hn : l.length = n) (ok : l.all inbB = true) (ha : I64 a) (k : ∀ h', h.le h' → K (tuple #[.int .i64 (plainR l cur a).1, .int .i64 (plainR l cur a).2]) h') :
    CallA Try.prog fn_ref03_Plain [slice p n c, .int .i64 cur, .int .i64 a] h K := by
  refine F_ref03_Plain _ _ _ _ _ _ _ ?_
  unfold F_ref03_PlainT
  unfold plainR at k
  by_cases hc : 0 ≤ cur ∧ cur < (n : Int)
  · obtain ⟨j, x, rfl, hx, e⟩ := curAt_some hn hc
    rw [e] at k
    exact Br.no (decide_eq_false (by omega)) (Br.no (decide_eq_false (by omega)) (cx1 C hn rfl hx (S_RMulDiv ha (rate_I64 (inb_of ok hx)) ⟨by decide, by decide⟩ fun h' l' => ⟨_, _, rfl, Ret.mk (k h' l')⟩)))
  · rw [curAt_none hn hc] at k
    exact Br.dec (fun _ => Ret.mk (k h h.le_refl)) fun _ => Br.yes (decide_eq_true (by omega)) (Ret.mk (k h h.le_refl))
theorem cx1B (C : Curs h p l) (hn : l.length = n) {j : Nat} {i : Int} (hi : i = (j : Int)) {x : Cur} (hx : l[j]? = some x) {Q : Nat → Int → Prop} (kk : ∀ b, Q b x.rate) :
    0 ≤ i ∧ i < (n : Int) ∧ withAddr p fun b o => ∃ s, h.cell b (o + i.toNat * 3 + 1) = some (.int .i64 s) ∧ Q b s := by
  subst hi hn
  have hj : j < l.length := (List.getElem?_eq_some_iff.1 hx).1
  obtain ⟨b, o, e, h1, h2, h3⟩ := C.at hx
  exact ⟨by omega, by omega, withAddr_intro e ⟨_, h2, kk b⟩⟩
theorem worth_tail {a r q : Int} {bb : Nat} {x : Cur} (ha : I64 a) (hr : r = x.rate) (hr64 : I64 r) (hq : q = partC x a) (hq64 : I64 q) (k : ∀ h', h.le h' → K (tuple #[.int .i64 (md a (x.rate * partC x a) 100000000 false).1, .int .i64 (md a (x.rate * partC x a) 100000000 false).2]) h') :
    CallA Try.prog fn_ref01_Of [int IntKind.i64 a] h fun (v : Value) (h_1 : Heap) => ∃ (b : Bool), ∃ (a : Option Addr), ∃ (n_2 : Nat), ∃ (m : Nat), v = agg #[Value.bool b, slice a n_2 m] ∧ (Heap.le h h_1 ∨ Keeps [bb] h h_1) ∧
      CallA Try.prog fn_ref01_Of [int IntKind.i64 r] h_1 fun (v : Value) (h : Heap) => ∃ (b_1 : Bool), ∃ (a_1 : Option Addr), ∃ (n_3 : Nat), ∃ (m_1 : Nat), v = agg #[Value.bool b_1, slice a_1 n_3 m_1] ∧
        CallA Try.prog fn_ref01_Mul [agg #[Value.bool b, slice a n_2 m], agg #[Value.bool b_1, slice a_1 n_3 m_1]] h fun (v : Value) (h : Heap) => ∃ (b : Bool), ∃ (a : Option Addr), ∃ (n_4 : Nat), ∃ (m : Nat), v = agg #[Value.bool b, slice a n_4 m] ∧
          CallA Try.prog fn_ref01_Of [int IntKind.i64 q] h fun (v : Value) (h : Heap) => ∃ (b_2 : Bool), ∃ (a_2 : Option Addr), ∃ (n : Nat), ∃ (m_2 : Nat), v = agg #[Value.bool b_2, slice a_2 n m_2] ∧
            CallA Try.prog fn_ref01_Mul [agg #[Value.bool b, slice a n_4 m], agg #[Value.bool b_2, slice a_2 n m_2]] h fun (v : Value) (h : Heap) => ∃ (b : Bool), ∃ (a : Option Addr), ∃ (n : Nat), ∃ (m : Nat), v = agg #[Value.bool b, slice a n m] ∧
              newB h [Value.bool false, slice none 0 0] 102 fun (r : Nat) (h : Heap) => Heap.canSt h r 0 2 ∧ ∃ (b_3 : Bool), Heap.cell (Heap.setN h r 0 [Value.bool b, slice a n m]) r 0 = some (Value.bool b_3) ∧
                ∃ (a_3 : Option Addr), ∃ (n_5 : Nat), ∃ (m_3 : Nat), Heap.cell (Heap.setN h r 0 [Value.bool b, slice a n m]) r 1 = some (slice a_3 n_5 m_3) ∧
                  CallA Try.prog fn_ref01_Of [int IntKind.i64 100000000] (Heap.setN h r 0 [Value.bool b, slice a n m]) fun (v : Value) (h_2 : Heap) => ∃ (b_4 : Bool), ∃ (a_4 : Option Addr), ∃ (n_6 : Nat), ∃ (m_4 : Nat), v = agg #[Value.bool b_4, slice a_4 n_6 m_4] ∧ (Heap.le (Heap.setN h r 0 [Value.bool b, slice a n m]) h_2 ∨ Keeps [r] (Heap.setN h r 0 [Value.bool b, slice a n m]) h_2) ∧
                    CallA Try.prog fn_ref01_Div [agg #[Value.bool b_3, slice a_3 n_5 m_3], agg #[Value.bool b_4, slice a_4 n_6 m_4], Value.bool false] h_2 fun (v : Value) (h : Heap) => ∃ (b : Bool), ∃ (a : Option Addr), ∃ (n : Nat), ∃ (m : Nat), v = agg #[Value.bool b, slice a n m] ∧
                      CallA Try.prog fn_ref01_Fit [agg #[Value.bool b, slice a n m]] h fun (v : Value) (h : Heap) => ∃ (n : Int), ∃ (n_7 : Int), v = tuple #[int IntKind.i64 n, int IntKind.i64 n_7] ∧ Ret h K (tuple #[int IntKind.i64 n, int IntKind.i64 n_7]) := by
  refine S_Of ha fun v1 h1 l1 bn1 => ?_
  have br1 := bn1.raw
  obtain ⟨n1, p1, c1, d1, rfl, _⟩ := bn1
  refine ⟨_, _, _, _, rfl, .inl l1, ?_⟩
  refine S_Of hr64 fun v2 h2 l2 bn2 => ?_
  have br2 := bn2.raw
  obtain ⟨n2, p2, c2, d2, rfl, _⟩ := bn2
  refine ⟨_, _, _, _, rfl, ?_⟩
  refine S_Mul_Big (br1.le l2) br2 (by omega) fun v3 h3 l3 bn3 => ?_
  have br3 := bn3.raw
  obtain ⟨n3, p3, c3, d3, rfl, _⟩ := bn3
  refine ⟨_, _, _, _, rfl, ?_⟩
  refine S_Of hq64 fun v4 h4 l4 bn4 => ?_
  have br4 := bn4.raw
  obtain ⟨n4, p4, c4, d4, rfl, _⟩ := bn4
  refine ⟨_, _, _, _, rfl, ?_⟩
  refine S_Mul_Big (br3.le l4) br4 (by omega) fun v5 h5 l5 bn5 => ?_
  have br5 := bn5.raw
  obtain ⟨n5, p5, c5, d5, rfl, _⟩ := bn5
  refine ⟨_, _, _, _, rfl, ?_⟩
  intro s hs
  have A0 := At.new h5 s [Value.bool false, slice none 0 0] 102
  have m1 : h5.le (h5.ins s (.cells [Value.bool false, slice none 0 0].toArray 102 (0, 0))) := le_ins hs
  generalize h5.ins s (.cells [Value.bool false, slice none 0 0].toArray 102 (0, 0)) = h6 at *
  refine ⟨A0.canSt (by decide), ?_⟩
  have A := A0.set (o := 0) (ws := [Value.bool n5, slice p5 d5.length c5])
  have m2 : h5.le (h6.setN s 0 [Value.bool n5, slice p5 d5.length c5]) := le_setN m1 hs
  generalize h6.setN s 0 [Value.bool n5, slice p5 d5.length c5] = h7 at *
  refine ⟨_, A.cell rfl, _, _, _, A.cell rfl, S_Of (show I64 100000000 from ⟨by decide, by decide⟩) fun v8 h8 l8 bn8 => ?_⟩
  have br8 := bn8.raw
  obtain ⟨n8, p8, c8, d8, rfl, _⟩ := bn8
  refine ⟨_, _, _, _, rfl, .inl l8, ?_⟩
  refine S_Div_Big ((br5.le m2).le l8) br8 (by omega) (by omega) (by decide) fun v9 h9 l9 bn9 => ?_
  have br9 := bn9.raw
  obtain ⟨n9, p9, c9, d9, rfl, _⟩ := bn9
  refine ⟨_, _, _, _, rfl, ?_⟩
  refine S_Fit br9 (by omega) fun h10 l10 => ⟨_, _, rfl, Ret.mk ?_⟩
  have := k h10 (Heap.le_trans l1 (Heap.le_trans l2 (Heap.le_trans l3 (Heap.le_trans l4 (Heap.le_trans l5 (Heap.le_trans m2 (Heap.le_trans l8 (Heap.le_trans l9 l10))))))))
  subst hr hq
  unfold md at this
  rw [if_neg (by decide), ← Int.mul_assoc] at this
  exact this
theorem S_RWorth {cur a : Int} (C : Curs h p l) (hn : l.length = n) (ok : l.all inbB = true) (ha : I64 a) (k : ∀ h', h.le h' → K (tuple #[.int .i64 (worthR l cur a).1, .int .i64 (worthR l cur a).2]) h') :
    CallA Try.prog fn_ref03_Worth [slice p n c, .int .i64 cur, .int .i64 a] h K := by
  refine F_ref03_Worth _ _ _ _ _ _ _ ?_
  unfold F_ref03_WorthT
  unfold worthR at k
  by_cases hc : 0 ≤ cur ∧ cur < (n : Int)
  · obtain ⟨j, x, rfl, hx, e⟩ := curAt_some hn hc
    rw [e] at k
    have b := inb_of ok hx
    have hr64 := rate_I64 b
    obtain ⟨p1, p2, _, _⟩ := part_bound b a
    refine Br.no (decide_eq_false (by omega)) (Br.no (decide_eq_false (by omega)) (cx2 C hn rfl hx (Br.dec (fun g => ?_) (fun g => ?_))))
    · have e1 : IntKind.wrap .i64 (10000 + x.cut) = partC x a := by rw [wrap_i64_id (by omega) (by omega)]; unfold partC; rw [if_pos g]
      refine cx2 C hn rfl hx (cx1B C hn rfl hx fun b => worth_tail ha rfl hr64 e1 ⟨by omega, by omega⟩ k)
    · have e1 : IntKind.wrap .i64 (10000 - x.cut) = partC x a := by rw [wrap_i64_id (by omega) (by omega)]; unfold partC; rw [if_neg g]
      exact cx1B C hn rfl hx fun b => worth_tail ha rfl hr64 e1 ⟨by omega, by omega⟩ k
  · rw [curAt_none hn hc] at k
    exact Br.dec (fun _ => Ret.mk (k h h.le_refl)) fun _ => Br.yes (decide_eq_true (by omega)) (Ret.mk (k h h.le_refl))
end
theorem fit_cases (x : Int) : (I64 x ∧ fit x = (x, 0)) ∨ (¬ I64 x ∧ fit x = (0, 3)) := by
  by_cases h : I64 x
  · exact .inl ⟨h, fit_ok h⟩
  · exact .inr ⟨h, fit_over h⟩
end Go.Proofs.Ytghdadniddoboaa

/- Tables of whole numbers: rows, columns, what is written; and all rows in a row. -/
namespace Go.Proofs.Ytghdadniddoboaa
open Go Go.Sy Go.Value
set_option linter.unusedVariables false
set_option linter.unusedSimpArgs false

abbrev Mx := List (List Int)
def rdM (M : Mx) (i c : Nat) : Int := (M.getD i []).getD c 0
def wrM (M : Mx) (i c : Nat) (v : Int) : Mx := M.set i ((M.getD i []).set c v)
theorem fit_in {x : Int} (h : ¬ (fit x).2 ≠ 0) : I64 x := Classical.byContradiction fun hx => h (by rw [fit_over hx]; decide)
/-! reading and writing -/
def shM (M : Mx) (n w : Nat) : Prop := M.length = n ∧ ∀ r ∈ M, r.length = w
theorem shM.row {M : Mx} {n w i : Nat} (s : shM M n w) (h : i < n) : (M.getD i []).length = w := by
  rw [List.getD_eq_getElem?_getD, List.getElem?_eq_getElem (by rw [s.1]; exact h)]
  exact s.2 _ (List.getElem_mem _)
theorem shM.wr {M : Mx} {n w i c : Nat} {v : Int} (s : shM M n w) (h : i < n) : shM (wrM M i c v) n w := by
  refine ⟨by unfold wrM; rw [List.length_set]; exact s.1, fun r hr => ?_⟩
  unfold wrM at hr
  rcases List.mem_or_eq_of_mem_set hr with e | e
  · exact s.2 r e
  · rw [e, List.length_set]; exact s.row h
theorem rd_wr {M : Mx} {n w i c : Nat} {v : Int} (s : shM M n w) (h : i < n) (hc : c < w) (j d : Nat) : rdM (wrM M i c v) j d = if j = i ∧ d = c then v else rdM M j d := by
  unfold rdM wrM
  have hr := s.row h
  have hl : i < M.length := by rw [s.1]; exact h
  by_cases hj : j = i
  · subst hj
    have e1 : (M.set j ((M.getD j []).set c v)).getD j [] = (M.getD j []).set c v := by
      rw [List.getD_eq_getElem?_getD, List.getElem?_set_self hl]; rfl
    rw [e1]
    by_cases hd : d = c
    · subst hd
      rw [if_pos ⟨rfl, rfl⟩, List.getD_eq_getElem?_getD, List.getElem?_set_self (by omega)]; rfl
    · rw [if_neg (fun x => hd x.2), List.getD_eq_getElem?_getD, List.getElem?_set_ne (fun x => hd x.symm), ← List.getD_eq_getElem?_getD]
  · rw [if_neg (fun x => hj x.1)]
    have e1 : (M.set i ((M.getD i []).set c v)).getD j [] = M.getD j [] := by
      rw [List.getD_eq_getElem?_getD, List.getElem?_set_ne (fun x => hj x.symm), ← List.getD_eq_getElem?_getD]
    rw [e1]
/-- a column -/
def colM (M : Mx) (c : Nat) : List Int := M.map fun r => r.getD c 0
theorem colM_get (M : Mx) (c i : Nat) (h : i < M.length) : (colM M c)[i]? = some (rdM M i c) := by
  have e : M.getD i [] = M[i] := by rw [List.getD_eq_getElem?_getD, List.getElem?_eq_getElem h]; rfl
  unfold colM rdM
  rw [List.getElem?_map, List.getElem?_eq_getElem h, e]; rfl
theorem sum_set : ∀ (l : List Int) (i : Nat) (v : Int), i < l.length → sumL (l.set i v) = sumL l - l.getD i 0 + v
  | [], _, _, h => by simp at h
  | a :: l, 0, v, _ => by simp [sumL]; omega
  | a :: l, i + 1, v, h => by
    have := sum_set l i v (by simpa using h)
    simp only [List.set_cons_succ, sumL, List.getD_cons_succ]
    omega
theorem col_wr {M : Mx} {n w i c : Nat} {v : Int} (s : shM M n w) (h : i < n) (hc : c < w) (d : Nat) : sumL (colM (wrM M i c v) d) = if d = c then sumL (colM M d) - rdM M i d + v else sumL (colM M d) := by
  have hl : i < M.length := by rw [s.1]; exact h
  have e : colM (wrM M i c v) d = (colM M d).set i (if d = c then v else rdM M i d) := by
    refine List.ext_getElem? fun j => ?_
    by_cases hj : j < M.length
    · rw [colM_get _ _ _ (by unfold wrM; rw [List.length_set]; exact hj), rd_wr s h hc]
      by_cases hji : j = i
      · subst hji
        rw [List.getElem?_set_self (by unfold colM; rw [List.length_map]; exact hj)]
        by_cases hd : d = c
        · rw [if_pos ⟨rfl, hd⟩, if_pos hd]
        · rw [if_neg (fun x => hd x.2), if_neg hd]
      · rw [if_neg (fun x => hji x.1), List.getElem?_set_ne (fun x => hji x.symm), colM_get _ _ _ hj]
    · rw [List.getElem?_eq_none (by unfold colM wrM; rw [List.length_map, List.length_set]; omega), List.getElem?_eq_none (by rw [List.length_set]; unfold colM; rw [List.length_map]; omega)]
  rw [e, sum_set _ _ _ (by unfold colM; rw [List.length_map]; exact hl)]
  have g : (colM M d).getD i 0 = rdM M i d := by rw [List.getD_eq_getElem?_getD, colM_get _ _ _ hl]; rfl
  rw [g]
  split <;> omega
/-! all rows in a row -/
theorem flat_len {w : Nat} : ∀ {M : Mx}, (∀ r ∈ M, r.length = w) → M.flatten.length = M.length * w
  | [], _ => by simp
  | r :: M, h => by
    rw [List.flatten_cons, List.length_append, h r (List.mem_cons_self ..), flat_len (M := M) (fun x hx => h x (List.mem_cons_of_mem _ hx)), List.length_cons, Nat.succ_mul]
    omega
theorem flat_get {w : Nat} : ∀ {M : Mx}, (∀ r ∈ M, r.length = w) → ∀ {i c : Nat}, i < M.length → c < w → M.flatten[i * w + c]? = some (rdM M i c)
  | [], _, _, _, hi, _ => by simp at hi
  | r :: M, h, 0, c, _, hc => by
    have hr := h r (List.mem_cons_self ..)
    rw [List.flatten_cons, Nat.zero_mul, Nat.zero_add, List.getElem?_append_left (by omega)]
    unfold rdM
    rw [List.getD_cons_zero, List.getD_eq_getElem?_getD, List.getElem?_eq_getElem (by omega)]; rfl
  | r :: M, h, i + 1, c, hi, hc => by
    have hr := h r (List.mem_cons_self ..)
    have := flat_get (M := M) (fun x hx => h x (List.mem_cons_of_mem _ hx)) (i := i) (c := c) (by simpa using hi) hc
    rw [List.flatten_cons, List.getElem?_append_right (by rw [hr, Nat.succ_mul]; omega), hr, Nat.succ_mul, show i * w + w + c - w = i * w + c by omega, this]
    rfl
theorem flat_set {w : Nat} {v : Int} : ∀ {M : Mx}, (∀ r ∈ M, r.length = w) → ∀ {i c : Nat}, i < M.length → c < w → (wrM M i c v).flatten = M.flatten.set (i * w + c) v
  | [], _, _, _, hi, _ => by simp at hi
  | r :: M, h, 0, c, _, hc => by
    have hr := h r (List.mem_cons_self ..)
    show ((r.set c v) :: M).flatten = _
    rw [List.flatten_cons, List.flatten_cons, Nat.zero_mul, Nat.zero_add, List.set_append_left _ _ (by omega)]
  | r :: M, h, i + 1, c, hi, hc => by
    have hr := h r (List.mem_cons_self ..)
    have := flat_set (v := v) (M := M) (fun x hx => h x (List.mem_cons_of_mem _ hx)) (i := i) (c := c) (by simpa using hi) hc
    show (r :: wrM M i c v).flatten = _
    rw [List.flatten_cons, List.flatten_cons, this, List.set_append_right _ _ (by rw [hr, Nat.succ_mul]; omega), hr, Nat.succ_mul, show i * w + w + c - w = i * w + c by omega]
theorem wr_rd_self {M : Mx} {n w i c : Nat} (s : shM M n w) (h : i < n) (hc : c < w) : wrM M i c (rdM M i c) = M := by
  unfold wrM
  have hl : i < M.length := by rw [s.1]; exact h
  have hr := s.row h
  have e : (M.getD i []).set c (rdM M i c) = M.getD i [] := by
    unfold rdM
    rw [List.getD_eq_getElem?_getD (l := M.getD i []), List.getElem?_eq_getElem (by omega)]
    exact List.set_getElem_self _
  rw [e, List.getD_eq_getElem?_getD, List.getElem?_eq_getElem hl]
  exact List.set_getElem_self _
theorem wr_wr {M : Mx} {n w i c : Nat} {u v : Int} (s : shM M n w) (h : i < n) : wrM (wrM M i c u) i c v = wrM M i c v := by
  have hl : i < M.length := by rw [s.1]; exact h
  unfold wrM
  rw [List.set_set]
  congr 1
  rw [List.getD_eq_getElem?_getD, List.getElem?_set_self hl]
  simp only [Option.getD_some, List.set_set]
theorem mx_ext {A B : Mx} {n w : Nat} (a : shM A n w) (b : shM B n w) (h : ∀ i c, i < n → c < w → rdM A i c = rdM B i c) : A = B := by
  refine List.ext_getElem (by rw [a.1, b.1]) fun i h1 h2 => ?_
  have hi : i < n := by rw [← a.1]; exact h1
  have e1 : A.getD i [] = A[i] := by rw [List.getD_eq_getElem?_getD, List.getElem?_eq_getElem h1]; rfl
  have e2 : B.getD i [] = B[i] := by rw [List.getD_eq_getElem?_getD, List.getElem?_eq_getElem h2]; rfl
  have r1 := a.row hi
  have r2 := b.row hi
  rw [e1] at r1
  rw [e2] at r2
  refine List.ext_getElem (by omega) fun c h3 h4 => ?_
  have := h i c hi (by omega)
  unfold rdM at this
  rw [e1, e2, List.getD_eq_getElem?_getD, List.getD_eq_getElem?_getD, List.getElem?_eq_getElem h3, List.getElem?_eq_getElem h4] at this
  exact this
theorem rd_out {M : Mx} {n w i c : Nat} (s : shM M n w) (h : ¬ (i < n ∧ c < w)) : rdM M i c = 0 := by
  unfold rdM
  by_cases hi : i < n
  · have := s.row hi
    rw [List.getD_eq_getElem?_getD (l := M.getD i []), List.getElem?_eq_none (by omega)]; rfl
  · have : M.getD i [] = [] := by rw [List.getD_eq_getElem?_getD, List.getElem?_eq_none (by rw [s.1]; omega)]; rfl
    rw [this]; rfl
end Go.Proofs.Ytghdadniddoboaa

/- A ledger, in plain words: what each operation answers and leaves; of each currency the balances are together the nostro; a batch and what takes it off. -/
namespace Go.Proofs.Ytghdadniddoboaa
open Go Go.Sy Go.Value
set_option linter.unusedVariables false
set_option linter.unusedSimpArgs false

structure Lg where
  M : Mx
  N : List Int
  cur : Nat
structure Pst where
  m : Int
  c : Int
  a : Int
/-- the sizes of a ledger -/
structure Lg.Sz (S : Lg) : Prop where
  n1 : 1 ≤ S.M.length
  n16 : S.M.length ≤ 16
  c1 : 1 ≤ S.cur
  c8 : S.cur ≤ 8
  sh : shM S.M S.M.length 8
  N8 : S.N.length = 8
  i64 : ∀ i c, I64 (rdM S.M i c)
  n64 : ∀ c, I64 (S.N.getD c 0)
/-- what always holds of it -/
structure Lg.Ok (S : Lg) : Prop extends S.Sz where
  z : ∀ i c, S.cur ≤ c → rdM S.M i c = 0
  zN : ∀ c, S.cur ≤ c → S.N.getD c 0 = 0
  sum : ∀ c, sumL (colM S.M c) = S.N.getD c 0
  pos : ∀ c, 0 ≤ S.N.getD c 0
def newG (n c : Nat) : Lg := ⟨List.replicate n (List.replicate 8 0), List.replicate 8 0, c⟩
def hasB (S : Lg) (m c : Int) : Bool := decide (0 ≤ m ∧ m < (S.M.length : Int) ∧ 0 ≤ c ∧ c < (S.cur : Int))
theorem hasB_t {S : Lg} {m c : Int} (h : hasB S m c = true) : ∃ i j : Nat, m = (i : Int) ∧ c = (j : Int) ∧ i < S.M.length ∧ j < S.cur := by
  unfold hasB at h
  have := of_decide_eq_true h
  exact ⟨m.toNat, c.toNat, by omega, by omega, by omega, by omega⟩
def getG (S : Lg) (m c : Int) : Int := if hasB S m c = true then rdM S.M m.toNat c.toNat else 0
def nosG (S : Lg) (c : Int) : Int := if hasB S 0 c = true then S.N.getD c.toNat 0 else 0
def wrG (S : Lg) (i c : Nat) (v : Int) : Lg := ⟨wrM S.M i c v, S.N, S.cur⟩
def wnG (S : Lg) (c : Nat) (v : Int) : Lg := ⟨S.M, S.N.set c v, S.cur⟩
def inG (S : Lg) (m c a : Int) : Int × Lg :=
  if hasB S m c = false then (1, S) else if a < 1 then (1, S)
  else if (fit (rdM S.M m.toNat c.toNat + a)).2 ≠ 0 then (3, S) else if (fit (S.N.getD c.toNat 0 + a)).2 ≠ 0 then (3, S)
  else (0, wnG (wrG S m.toNat c.toNat (rdM S.M m.toNat c.toNat + a)) c.toNat (S.N.getD c.toNat 0 + a))
def outG (S : Lg) (m c a : Int) : Int × Lg :=
  if hasB S m c = false then (1, S) else if a < 1 then (1, S)
  else if rdM S.M m.toNat c.toNat < a then (10, S) else if S.N.getD c.toNat 0 < a then (10, S)
  else (0, wnG (wrG S m.toNat c.toNat (rdM S.M m.toNat c.toNat - a)) c.toNat (S.N.getD c.toNat 0 - a))
def swapG (S : Lg) (m get give got given : Int) : Int × Lg :=
  if hasB S m get = false then (1, S) else if hasB S m give = false then (1, S) else if get = give then (1, S) else if got < 1 then (1, S) else if given < 1 then (1, S)
  else if S.N.getD give.toNat 0 < given then (10, S)
  else if (fit (rdM S.M m.toNat get.toNat + got)).2 ≠ 0 then (3, S) else if (fit (S.N.getD get.toNat 0 + got)).2 ≠ 0 then (3, S) else if (fit (rdM S.M m.toNat give.toNat - given)).2 ≠ 0 then (3, S)
  else (0, wnG (wrG (wnG (wrG S m.toNat get.toNat (rdM S.M m.toNat get.toNat + got)) get.toNat (S.N.getD get.toNat 0 + got)) m.toNat give.toNat (rdM S.M m.toNat give.toNat - given)) give.toNat (S.N.getD give.toNat 0 - given))
/-- the amounts of one currency -/
def ofCur (b : List Pst) (c : Int) : List Int := (b.filter fun p => decide (p.c = c)).map (·.a)
def evenB (S : Lg) (b : List Pst) : Bool := (List.range S.cur).all fun c => decide (sumL (ofCur b (c : Int)) = 0)
def addsM : List Pst → Mx → Int × Mx
  | [], M => (0, M)
  | p :: r, M => if (fit (rdM M p.m.toNat p.c.toNat + p.a)).2 ≠ 0 then (3, M) else addsM r (wrM M p.m.toNat p.c.toNat (rdM M p.m.toNat p.c.toNat + p.a))
def postG (S : Lg) (b : List Pst) : Int × Lg :=
  if b.any (fun p => !hasB S p.m p.c) = true then (1, S) else if evenB S b = false then (12, S)
  else if (addsM b S.M).1 ≠ 0 then ((addsM b S.M).1, S) else (0, ⟨(addsM b S.M).2, S.N, S.cur⟩)
theorem fit_e {x : Int} (h : ¬ (fit x).2 ≠ 0) : (fit x).1 = x := by rw [fit_ok (fit_in h)]
theorem fit_3 {x : Int} (h : (fit x).2 ≠ 0) : (fit x).2 = 3 := by
  unfold fit at *
  split
  · rename_i g; rw [if_pos g] at h; exact (h rfl).elim
  · rfl
theorem I64_0 : I64 0 := ⟨by decide, by decide⟩
theorem getD_set (l : List Int) (i j : Nat) (v : Int) (h : i < l.length) : (l.set i v).getD j 0 = if j = i then v else l.getD j 0 := by
  by_cases e : j = i
  · subst e
    rw [if_pos rfl, List.getD_eq_getElem?_getD, List.getElem?_set_self h]; rfl
  · rw [if_neg e, List.getD_eq_getElem?_getD, List.getElem?_set_ne (fun x => e x.symm), ← List.getD_eq_getElem?_getD]
theorem newG_ok {n c : Nat} (h1 : 1 ≤ n) (h2 : n ≤ 16) (h3 : 1 ≤ c) (h4 : c ≤ 8) : (newG n c).Ok := by
  have sh : shM (List.replicate n (List.replicate 8 (0 : Int))) n 8 := ⟨by simp, fun r hr => by rw [List.eq_of_mem_replicate hr]; simp⟩
  have r0 : ∀ i d, rdM (List.replicate n (List.replicate 8 (0 : Int))) i d = 0 := fun i d => by
    unfold rdM
    rw [List.getD_eq_getElem?_getD (l := List.replicate n _), List.getElem?_replicate]
    split
    · show (List.replicate 8 (0 : Int)).getD d 0 = 0
      rw [List.getD_eq_getElem?_getD, List.getElem?_replicate]
      split <;> rfl
    · rfl
  have n0 : ∀ d, (List.replicate 8 (0 : Int)).getD d 0 = 0 := fun d => by
    rw [List.getD_eq_getElem?_getD, List.getElem?_replicate]
    split <;> rfl
  have s0 : ∀ (n d : Nat), sumL (colM (List.replicate n (List.replicate 8 (0 : Int))) d) = 0 := fun n d => by
    induction n with
    | zero => rfl
    | succ n ih =>
      rw [List.replicate_succ]
      unfold colM at *
      rw [List.map_cons, sumL, ih, n0 d]; rfl
  refine { n1 := by simp [newG]; omega, n16 := by simp [newG]; omega, c1 := h3, c8 := h4, sh := by simp only [newG, List.length_replicate]; exact sh, N8 := by simp [newG], i64 := fun i d => ?_, n64 := fun d => ?_, z := fun i d _ => r0 i d, zN := fun d _ => n0 d, sum := fun d => ?_, pos := fun d => ?_ }
  · show I64 (rdM (List.replicate n (List.replicate 8 (0 : Int))) i d)
    rw [r0]; exact I64_0
  · show I64 ((List.replicate 8 (0 : Int)).getD d 0)
    rw [n0]; exact I64_0
  · show sumL (colM (List.replicate n (List.replicate 8 (0 : Int))) d) = (List.replicate 8 (0 : Int)).getD d 0
    rw [s0, n0]
  · show 0 ≤ (List.replicate 8 (0 : Int)).getD d 0
    rw [n0]; exact Int.le_refl 0
/-- one cell, and its nostro, by as much -/
theorem Lg.Ok.both {S : Lg} (o : S.Ok) {i c : Nat} {d : Int} (hi : i < S.M.length) (hc : c < S.cur) (h1 : I64 (rdM S.M i c + d)) (h2 : I64 (S.N.getD c 0 + d)) (h3 : 0 ≤ S.N.getD c 0 + d) :
    (wnG (wrG S i c (rdM S.M i c + d)) c (S.N.getD c 0 + d)).Ok := by
  have hc8 : c < 8 := by have := o.c8; omega
  have e1 : ∀ j d', rdM (wrM S.M i c (rdM S.M i c + d)) j d' = if j = i ∧ d' = c then rdM S.M i c + d else rdM S.M j d' := fun j d' => rd_wr o.sh hi hc8 j d'
  have e2 : ∀ d', (S.N.set c (S.N.getD c 0 + d)).getD d' 0 = if d' = c then S.N.getD c 0 + d else S.N.getD d' 0 := fun d' => getD_set _ _ _ _ (by rw [o.N8]; exact hc8)
  have hl : (wrM S.M i c (rdM S.M i c + d)).length = S.M.length := (o.sh.wr hi).1
  refine { n1 := by show 1 ≤ (wrM S.M i c _).length; rw [hl]; exact o.n1, n16 := by show (wrM S.M i c _).length ≤ 16; rw [hl]; exact o.n16, c1 := o.c1, c8 := o.c8, sh := by show shM (wrM S.M i c _) (wrM S.M i c _).length 8; rw [hl]; exact o.sh.wr hi, N8 := by show (S.N.set c _).length = 8; rw [List.length_set]; exact o.N8, i64 := fun j d' => ?_, n64 := fun d' => ?_, z := fun j d' h => ?_, zN := fun d' h => ?_, sum := fun d' => ?_, pos := fun d' => ?_ }
  · show I64 (rdM (wrM S.M i c _) j d')
    rw [e1]; split
    · exact h1
    · exact o.i64 j d'
  · show I64 ((S.N.set c _).getD d' 0)
    rw [e2]; split
    · exact h2
    · exact o.n64 d'
  · show rdM (wrM S.M i c _) j d' = 0
    have h : S.cur ≤ d' := h
    rw [e1, if_neg (by omega)]
    exact o.z j d' h
  · show (S.N.set c _).getD d' 0 = 0
    have h : S.cur ≤ d' := h
    rw [e2, if_neg (by omega)]
    exact o.zN d' h
  · show sumL (colM (wrM S.M i c _) d') = (S.N.set c _).getD d' 0
    rw [e2, col_wr o.sh hi hc8 d']
    have := o.sum d'
    split
    · rename_i e; subst e; omega
    · exact this
  · show 0 ≤ (S.N.set c _).getD d' 0
    rw [e2]; split
    · exact h3
    · exact o.pos d'
theorem inG_ok {S : Lg} (o : S.Ok) (m c a : Int) : (inG S m c a).2.Ok := by
  unfold inG
  split
  · exact o
  split
  · exact o
  split
  · exact o
  split
  · exact o
  rename_i h1 h2 h3 h4
  obtain ⟨i, j, rfl, rfl, hi, hj⟩ := hasB_t (by simpa using h1)
  simp only [Int.toNat_natCast] at h3 h4 ⊢
  have := o.pos j
  exact o.both hi hj (fit_in h3) (fit_in h4) (by omega)
theorem outG_ok {S : Lg} (o : S.Ok) (m c a : Int) : (outG S m c a).2.Ok := by
  unfold outG
  split
  · exact o
  split
  · exact o
  split
  · exact o
  split
  · exact o
  rename_i h1 h2 h3 h4
  obtain ⟨i, j, rfl, rfl, hi, hj⟩ := hasB_t (by simpa using h1)
  simp only [Int.toNat_natCast] at h3 h4 ⊢
  have g1 := o.i64 i j
  have g2 := o.n64 j
  unfold I64 at g1 g2
  exact o.both hi hj (d := -a) (by unfold I64; omega) (by unfold I64; omega) (by omega)
theorem swapG_ok {S : Lg} (o : S.Ok) (m get give got given : Int) : (swapG S m get give got given).2.Ok := by
  unfold swapG
  split
  · exact o
  split
  · exact o
  split
  · exact o
  split
  · exact o
  split
  · exact o
  split
  · exact o
  split
  · exact o
  split
  · exact o
  split
  · exact o
  rename_i h1 h2 h3 h4 h5 h6 h7 h8 h9
  obtain ⟨i, j, rfl, rfl, hi, hj⟩ := hasB_t (by simpa using h1)
  obtain ⟨i', j', e, rfl, _, hj'⟩ := hasB_t (S := S) (m := (i : Int)) (c := give) (by simpa using h2)
  simp only [Int.toNat_natCast] at h6 h7 h8 h9 ⊢
  have hne : j' ≠ j := fun e => h3 (by rw [e])
  have p := o.pos j
  have o1 := o.both hi hj (fit_in h7) (fit_in h8) (by omega)
  have hc8 : j < 8 := by have := o.c8; omega
  have e1 : rdM (wnG (wrG S i j (rdM S.M i j + got)) j (S.N.getD j 0 + got)).M i j' = rdM S.M i j' := by
    show rdM (wrM S.M i j _) i j' = _
    rw [rd_wr o.sh hi hc8, if_neg (fun x => hne x.2)]
  have e2 : (wnG (wrG S i j (rdM S.M i j + got)) j (S.N.getD j 0 + got)).N.getD j' 0 = S.N.getD j' 0 := by
    show (S.N.set j _).getD j' 0 = _
    rw [getD_set _ _ _ _ (by rw [o.N8]; exact hc8), if_neg hne]
  have g2 := o.n64 j'
  unfold I64 at g2
  have := o1.both (i := i) (c := j') (d := -given) (by rw [show (wnG (wrG S i j (rdM S.M i j + got)) j (S.N.getD j 0 + got)).M.length = S.M.length from (o.sh.wr hi).1]; exact hi) hj' (by rw [e1]; exact fit_in h9) (by rw [e2]; unfold I64; omega) (by rw [e2]; omega)
  rw [e1, e2] at this
  exact this
theorem ofCur_cons (p : Pst) (b : List Pst) (c : Int) : sumL (ofCur (p :: b) c) = (if p.c = c then p.a else 0) + sumL (ofCur b c) := by
  unfold ofCur
  rw [List.filter_cons]
  by_cases h : p.c = c
  · rw [if_pos h, decide_eq_true h, if_pos rfl, List.map_cons, sumL]
  · rw [if_neg h, decide_eq_false h, if_neg (by decide)]; omega
/-- what a batch that goes through leaves -/
theorem addsM_ok {n w : Nat} : ∀ (b : List Pst) {M : Mx}, shM M n w → (∀ i c, I64 (rdM M i c)) → (∀ p ∈ b, 0 ≤ p.m ∧ p.m < (n : Int) ∧ 0 ≤ p.c ∧ p.c < (w : Int)) → (addsM b M).1 = 0 →
    shM (addsM b M).2 n w ∧ (∀ i c, I64 (rdM (addsM b M).2 i c)) ∧ (∀ c : Nat, sumL (colM (addsM b M).2 c) = sumL (colM M c) + sumL (ofCur b (c : Int))) ∧ (∀ i c : Nat, (∀ p ∈ b, p.c ≠ (c : Int)) → rdM (addsM b M).2 i c = rdM M i c)
  | [], M, s, hi, _, _ => ⟨s, hi, fun c => by show _ = _ + sumL []; rw [show sumL [] = 0 from rfl]; exact (Int.add_zero _).symm, fun _ _ _ => rfl⟩
  | p :: r, M, s, hi, hb, e => by
    have hp := hb p (List.mem_cons_self ..)
    rw [addsM] at e ⊢
    split at e
    · cases e
    · rename_i h
      rw [if_neg h]
      have hm : p.m.toNat < n := by omega
      have hc : p.c.toNat < w := by omega
      have key := addsM_ok r (s.wr (c := p.c.toNat) (v := rdM M p.m.toNat p.c.toNat + p.a) hm) (fun i c => by
        rw [rd_wr s hm hc]; split
        · exact fit_in h
        · exact hi i c) (fun q hq => hb q (List.mem_cons_of_mem _ hq)) e
      obtain ⟨k1, k2, k3, k4⟩ := key
      refine ⟨k1, k2, fun c => ?_, fun i c hn => ?_⟩
      · rw [k3 c, col_wr s hm hc, ofCur_cons]
        by_cases hcc : c = p.c.toNat
        · subst hcc
          rw [if_pos rfl, if_pos (by omega)]; omega
        · rw [if_neg hcc, if_neg (by omega)]; omega
      · rw [k4 i c (fun q hq => hn q (List.mem_cons_of_mem _ hq)), rd_wr s hm hc, if_neg]
        have := hn p (List.mem_cons_self ..)
        omega
theorem any_has {S : Lg} {b : List Pst} (h : ¬ b.any (fun p => !hasB S p.m p.c) = true) : ∀ p ∈ b, hasB S p.m p.c = true := fun p hp => by
  have h : b.any (fun p => !hasB S p.m p.c) = false := by simpa using h
  rw [List.any_eq_false] at h
  have := h p hp
  simpa using this
theorem has_in {S : Lg} {b : List Pst} (h8 : S.cur ≤ 8) (h : ∀ p ∈ b, hasB S p.m p.c = true) : ∀ p ∈ b, 0 ≤ p.m ∧ p.m < (S.M.length : Int) ∧ 0 ≤ p.c ∧ p.c < ((8 : Nat) : Int) := fun p hp => by
  have := of_decide_eq_true (h p hp)
  omega
theorem postG_ok {S : Lg} (o : S.Ok) (b : List Pst) : (postG S b).2.Ok := by
  unfold postG
  split
  · exact o
  split
  · exact o
  split
  · exact o
  rename_i h1 h2 h3
  have hh := any_has h1
  obtain ⟨k1, k2, k3, k4⟩ := addsM_ok b o.sh o.i64 (has_in o.c8 hh) (by simpa using h3)
  have hl := k1.1
  have ev : ∀ c, c < S.cur → sumL (ofCur b (c : Int)) = 0 := fun c hc => by
    have h2 : evenB S b = true := by simpa using h2
    unfold evenB at h2
    rw [List.all_eq_true] at h2
    exact of_decide_eq_true (h2 c (List.mem_range.2 hc))
  have far : ∀ c : Nat, S.cur ≤ c → ∀ p ∈ b, p.c ≠ (c : Int) := fun c hc p hp => by
    have := of_decide_eq_true (hh p hp)
    omega
  refine { n1 := by show 1 ≤ (addsM b S.M).2.length; rw [hl]; exact o.n1, n16 := by show (addsM b S.M).2.length ≤ 16; rw [hl]; exact o.n16, c1 := o.c1, c8 := o.c8, sh := by show shM (addsM b S.M).2 (addsM b S.M).2.length 8; rw [hl]; exact k1, N8 := o.N8, i64 := k2, n64 := o.n64, z := fun i c hc => ?_, zN := o.zN, sum := fun c => ?_, pos := o.pos }
  · show rdM (addsM b S.M).2 i c = 0
    rw [k4 i c (far c hc)]; exact o.z i c hc
  · show sumL (colM (addsM b S.M).2 c) = S.N.getD c 0
    rw [k3 c, o.sum c]
    by_cases hc : c < S.cur
    · rw [ev c hc]; omega
    · have : ofCur b (c : Int) = [] := by
        unfold ofCur
        rw [List.map_eq_nil_iff, List.filter_eq_nil_iff]
        intro p hp
        have := far c (by omega) p hp
        simpa using this
      rw [this]; exact Int.add_zero _
/-- errors change nothing -/
theorem inG_err {S : Lg} {m c a : Int} : (inG S m c a).1 ≠ 0 → (inG S m c a).2 = S := by
  unfold inG
  repeat' split
  all_goals first
    | (intro _; rfl)
    | (intro h; exact (h rfl).elim)
theorem outG_err {S : Lg} {m c a : Int} : (outG S m c a).1 ≠ 0 → (outG S m c a).2 = S := by
  unfold outG
  repeat' split
  all_goals first
    | (intro _; rfl)
    | (intro h; exact (h rfl).elim)
theorem swapG_err {S : Lg} {m g v x y : Int} : (swapG S m g v x y).1 ≠ 0 → (swapG S m g v x y).2 = S := by
  unfold swapG
  repeat' split
  all_goals first
    | (intro _; rfl)
    | (intro h; exact (h rfl).elim)
theorem postG_err {S : Lg} {b : List Pst} : (postG S b).1 ≠ 0 → (postG S b).2 = S := by
  unfold postG
  repeat' split
  all_goals first
    | (intro _; rfl)
    | (intro h; exact (h rfl).elim)
/-! a batch, and what takes it off -/
theorem addsM_app : ∀ (a b : List Pst) (M : Mx), addsM (a ++ b) M = if (addsM a M).1 ≠ 0 then addsM a M else addsM b (addsM a M).2
  | [], b, M => by simp [addsM]
  | p :: r, b, M => by
    rw [List.cons_append, addsM, addsM]
    by_cases h : (fit (rdM M p.m.toNat p.c.toNat + p.a)).2 ≠ 0
    · rw [if_pos h, if_pos h, if_pos (show (3 : Int) ≠ 0 by decide)]
    · rw [if_neg h, if_neg h]
      exact addsM_app r b _
def negP (p : Pst) : Pst := ⟨p.m, p.c, -p.a⟩
theorem adds_back {n w : Nat} : ∀ (b : List Pst) {M : Mx}, shM M n w → (∀ i c, I64 (rdM M i c)) → (∀ p ∈ b, 0 ≤ p.m ∧ p.m < (n : Int) ∧ 0 ≤ p.c ∧ p.c < (w : Int)) → (addsM b M).1 = 0 → addsM (b.reverse.map negP) (addsM b M).2 = (0, M)
  | [], M, _, _, _, _ => rfl
  | p :: r, M, s, hi, hb, e => by
    have hp := hb p (List.mem_cons_self ..)
    rw [addsM] at e ⊢
    split at e
    · cases e
    · rename_i h
      rw [if_neg h]
      have hm : p.m.toNat < n := by omega
      have hc : p.c.toNat < w := by omega
      have i2 : ∀ i c, I64 (rdM (wrM M p.m.toNat p.c.toNat (rdM M p.m.toNat p.c.toNat + p.a)) i c) := fun i c => by
        rw [rd_wr s hm hc]; split
        · exact fit_in h
        · exact hi i c
      have s2 := s.wr (c := p.c.toNat) (v := rdM M p.m.toNat p.c.toNat + p.a) hm
      have ih := adds_back r s2 i2 (fun q hq => hb q (List.mem_cons_of_mem _ hq)) e
      rw [List.reverse_cons, List.map_append, addsM_app, ih, if_neg (by simp)]
      show addsM [negP p] _ = _
      have e1 : rdM (wrM M p.m.toNat p.c.toNat (rdM M p.m.toNat p.c.toNat + p.a)) p.m.toNat p.c.toNat = rdM M p.m.toNat p.c.toNat + p.a := by
        rw [rd_wr s hm hc, if_pos ⟨rfl, rfl⟩]
      have e2 : ∀ A : Mx, addsM [negP p] A = if (fit (rdM A p.m.toNat p.c.toNat + -p.a)).2 ≠ 0 then (3, A) else (0, wrM A p.m.toNat p.c.toNat (rdM A p.m.toNat p.c.toNat + -p.a)) := fun _ => rfl
      rw [e2]
      dsimp only
      rw [e1, show rdM M p.m.toNat p.c.toNat + p.a + -p.a = rdM M p.m.toNat p.c.toNat by omega, fit_ok (hi _ _), if_neg (by simp), wr_wr s hm, wr_rd_self s hm hc]
theorem sum_ofCur_neg : ∀ (b : List Pst) (c : Int), sumL (ofCur (b.reverse.map negP) c) = - sumL (ofCur b c) := by
  have app : ∀ (a b : List Pst) (c : Int), sumL (ofCur (a ++ b) c) = sumL (ofCur a c) + sumL (ofCur b c) := fun a b c => by
    unfold ofCur
    rw [List.filter_append, List.map_append, sumL_append]
  intro b c
  induction b with
  | nil => rfl
  | cons p r ih =>
    rw [List.reverse_cons, List.map_append, app, ih, ofCur_cons, List.map_cons, List.map_nil, ofCur_cons]
    show _ + ((if p.c = c then -p.a else 0) + sumL []) = _
    rw [show sumL [] = 0 from rfl]
    split <;> omega
theorem post_back {S : Lg} (o : S.Ok) {b : List Pst} (h : (postG S b).1 = 0) : postG (postG S b).2 (b.reverse.map negP) = (0, S) := by
  unfold postG at h ⊢
  by_cases h1 : b.any (fun p => !hasB S p.m p.c) = true
  · rw [if_pos h1] at h; cases h
  rw [if_neg h1] at h ⊢
  by_cases h2 : evenB S b = false
  · rw [if_pos h2] at h; cases h
  rw [if_neg h2] at h ⊢
  by_cases h3 : (addsM b S.M).1 ≠ 0
  · rw [if_pos h3] at h; exact (h3 h).elim
  rw [if_neg h3]
  have hh := any_has h1
  have h3' : (addsM b S.M).1 = 0 := by simpa using h3
  obtain ⟨k1, k2, k3, k4⟩ := addsM_ok b o.sh o.i64 (has_in o.c8 hh) h3'
  have back := adds_back b o.sh o.i64 (has_in o.c8 hh) h3'
  have g1 : ¬ (b.reverse.map negP).any (fun p => !hasB ⟨(addsM b S.M).2, S.N, S.cur⟩ p.m p.c) = true := by
    simp only [Bool.not_eq_true, List.any_eq_false]
    intro q hq
    obtain ⟨p, hp, rfl⟩ := List.mem_map.1 hq
    have hp2 := of_decide_eq_true (hh p (List.mem_reverse.1 hp))
    have e : hasB ⟨(addsM b S.M).2, S.N, S.cur⟩ (negP p).m (negP p).c = true := by
      unfold hasB
      refine decide_eq_true ?_
      show 0 ≤ p.m ∧ p.m < ((addsM b S.M).2.length : Int) ∧ 0 ≤ p.c ∧ p.c < (S.cur : Int)
      rw [k1.1]; exact hp2
    rw [e]; decide
  have g2 : ¬ evenB ⟨(addsM b S.M).2, S.N, S.cur⟩ (b.reverse.map negP) = false := by
    have h2 : evenB S b = true := by simpa using h2
    unfold evenB at h2 ⊢
    rw [List.all_eq_true] at h2
    simp only [Bool.not_eq_false, List.all_eq_true]
    intro c hc
    have := of_decide_eq_true (h2 c hc)
    exact decide_eq_true (by rw [sum_ofCur_neg, this]; rfl)
  dsimp only at back ⊢
  rw [if_neg g1, if_neg g2, back, if_neg (by simp)]
theorem in_out {S : Lg} (o : S.Ok) {m c a : Int} (h : (inG S m c a).1 = 0) (hg : 0 ≤ getG S m c) : outG (inG S m c a).2 m c a = (0, S) := by
  unfold inG at h ⊢
  by_cases h1 : hasB S m c = false
  · rw [if_pos h1] at h; cases h
  rw [if_neg h1] at h ⊢
  by_cases h2 : a < 1
  · rw [if_pos h2] at h; cases h
  rw [if_neg h2] at h ⊢
  by_cases h3 : (fit (rdM S.M m.toNat c.toNat + a)).2 ≠ 0
  · rw [if_pos h3] at h; cases h
  rw [if_neg h3] at h ⊢
  by_cases h4 : (fit (S.N.getD c.toNat 0 + a)).2 ≠ 0
  · rw [if_pos h4] at h; cases h
  rw [if_neg h4]
  have h1 : hasB S m c = true := by simpa using h1
  obtain ⟨i, j, rfl, rfl, hi, hj⟩ := hasB_t h1
  unfold getG at hg
  rw [if_pos h1] at hg
  simp only [Int.toNat_natCast] at hg ⊢
  have hc8 : j < 8 := by have := o.c8; omega
  have pn := o.pos j
  have hl : (wrM S.M i j (rdM S.M i j + a)).length = S.M.length := (o.sh.wr hi).1
  unfold outG
  have g1 : ¬ hasB (wnG (wrG S i j (rdM S.M i j + a)) j (S.N.getD j 0 + a)) (i : Int) (j : Int) = false := by
    unfold hasB at h1 ⊢
    show ¬ decide (0 ≤ (i : Int) ∧ (i : Int) < ((wrM S.M i j (rdM S.M i j + a)).length : Int) ∧ 0 ≤ (j : Int) ∧ (j : Int) < (S.cur : Int)) = false
    rw [hl, h1]; decide
  rw [if_neg g1, if_neg h2]
  simp only [Int.toNat_natCast]
  have e1 : rdM (wnG (wrG S i j (rdM S.M i j + a)) j (S.N.getD j 0 + a)).M i j = rdM S.M i j + a := by
    show rdM (wrM S.M i j _) i j = _
    rw [rd_wr o.sh hi hc8, if_pos ⟨rfl, rfl⟩]
  have e2 : (wnG (wrG S i j (rdM S.M i j + a)) j (S.N.getD j 0 + a)).N.getD j 0 = S.N.getD j 0 + a := by
    show (S.N.set j _).getD j 0 = _
    rw [getD_set _ _ _ _ (by rw [o.N8]; exact hc8), if_pos rfl]
  rw [e1, e2, if_neg (by omega), if_neg (by omega)]
  congr 1
  have hN : j < S.N.length := by rw [o.N8]; exact hc8
  unfold wnG wrG
  simp only [Int.add_sub_cancel, wr_wr o.sh hi, wr_rd_self o.sh hi hc8, List.set_set]
  cases S with
  | mk M N cur =>
    simp only [Lg.mk.injEq, true_and, and_true]
    dsimp only at hN
    rw [List.getD_eq_getElem?_getD, List.getElem?_eq_getElem hN]
    exact List.set_getElem_self _
end Go.Proofs.Ytghdadniddoboaa

/- What accounts are worth, in plain words. -/
namespace Go.Proofs.Ytghdadniddoboaa
open Go Go.Sy Go.Value
set_option linter.unusedVariables false
set_option linter.unusedSimpArgs false

abbrev Td := Int × Int
def toldW (T : List Cur) (c : Nat) (b : Int) : Td := worthR T (c : Int) b
def toldS (T : List Cur) (c : Nat) (b : Int) : Td := if b < 0 then ((fit (0 - (plainR T (c : Int) b).1)).1, if (plainR T (c : Int) b).2 < (fit (0 - (plainR T (c : Int) b).1)).2 then (fit (0 - (plainR T (c : Int) b).1)).2 else (plainR T (c : Int) b).2) else (0, 0)
def rowF (f : Nat → Int → Td) : Nat → List Int → List Td
  | _, [] => []
  | c, b :: r => f c b :: rowF f (c + 1) r
def chainT : Int → List Td → Td
  | s, [] => (s, 0)
  | s, x :: r => if x.2 ≠ 0 then (0, 3) else if (fit (s + x.1)).2 ≠ 0 then (0, 3) else chainT (s + x.1) r
def netW (T : List Cur) (row : List Int) : Td := chainT 0 (rowF (toldW T) 0 row)
def shW (T : List Cur) (row : List Int) : Td := chainT 0 (rowF (toldS T) 0 row)
theorem rowF_len (f : Nat → Int → Td) : ∀ (row : List Int) (c : Nat), (rowF f c row).length = row.length
  | [], _ => rfl
  | b :: r, c => by rw [rowF, List.length_cons, rowF_len f r, List.length_cons]
theorem rowF_get (f : Nat → Int → Td) : ∀ (row : List Int) (c j : Nat), j < row.length → (rowF f c row)[j]? = some (f (c + j) (row.getD j 0))
  | [], _, _, h => by simp at h
  | b :: r, c, 0, _ => rfl
  | b :: r, c, j + 1, h => by
    rw [rowF, List.getElem?_cons_succ, rowF_get f r (c + 1) j (by simpa using h), List.getD_cons_succ, show c + 1 + j = c + (j + 1) by omega]
theorem rowF_ext {f g : Nat → Int → Td} : ∀ (row : List Int) (c : Nat), (∀ j, c ≤ j → j < c + row.length → ∀ b, f j b = g j b) → rowF f c row = rowF g c row
  | [], _, _ => rfl
  | b :: r, c, h => by
    rw [rowF, rowF, h c (Nat.le_refl _) (by simp) b, rowF_ext r (c + 1) fun j h1 h2 => h j (by omega) (by simp; omega)]
theorem rowF_snoc (f : Nat → Int → Td) : ∀ (row : List Int) (c : Nat) (b : Int), rowF f c (row ++ [b]) = rowF f c row ++ [f (c + row.length) b]
  | [], c, b => rfl
  | a :: r, c, b => by rw [List.cons_append, rowF, rowF_snoc f r, rowF, List.cons_append, List.length_cons, show c + 1 + r.length = c + (r.length + 1) by omega]
theorem rowF_set {f : Nat → Int → Td} {k : Nat} {g : Nat → Int → Td} : ∀ (row : List Int) (c : Nat), (∀ j b, j ≠ k → f j b = g j b) → c ≤ k → k < c + row.length → rowF g c row = (rowF f c row).set (k - c) (g k (row.getD (k - c) 0))
  | [], c, _, h1, h2 => by simp at h2; omega
  | a :: r, c, h, h1, h2 => by
    by_cases e : k = c
    · subst e
      rw [rowF, rowF, Nat.sub_self, List.set_cons_zero, List.getD_cons_zero, rowF_ext r (k + 1) fun j h3 _ b => h j b (by omega)]
    · rw [rowF, rowF, show k - c = (k - (c + 1)) + 1 by omega, List.set_cons_succ, List.getD_cons_succ, h c a (by omega), rowF_set r (c + 1) h (by omega) (by simp at h2; omega)]
theorem md_I (a b c : Int) (up : Bool) : I64 (md a b c up).1 := by
  unfold md
  split
  · exact I64_0
  · unfold fit; split
    · assumption
    · exact I64_0
theorem fit_I' (a : Int) : I64 (fit a).1 := by
  unfold fit
  split
  · assumption
  · exact I64_0
theorem worthR_I (T : List Cur) (c a : Int) : I64 (worthR T c a).1 := by
  unfold worthR
  split
  · exact md_I _ _ _ _
  · exact I64_0
theorem plainR_I (T : List Cur) (c a : Int) : I64 (plainR T c a).1 := by
  unfold plainR
  split
  · exact md_I _ _ _ _
  · exact I64_0
theorem toldS_I (T : List Cur) (c : Nat) (a : Int) : I64 (toldS T c a).1 := by
  unfold toldS
  split
  · exact fit_I' _
  · exact I64_0
theorem chainT_I : ∀ (l : List Td) (s : Int), I64 s → I64 (chainT s l).1
  | [], s, h => h
  | x :: r, s, h => by
    rw [chainT]
    split
    · exact I64_0
    split
    · exact I64_0
    · rename_i g; exact chainT_I r _ (fit_in g)
theorem chainT_e : ∀ (l : List Td) (s : Int), (chainT s l).2 = 0 ∨ chainT s l = (0, 3)
  | [], s => .inl rfl
  | x :: r, s => by
    rw [chainT]
    split
    · exact .inr rfl
    split
    · exact .inr rfl
    · exact chainT_e r _
/-- postings of one member -/
def movedW (m : Int) : List Pst → List Int → Option (List Int)
  | [], r => some r
  | p :: b, r => if p.m ≠ m then movedW m b r else if (fit (r.getD p.c.toNat 0 + p.a)).2 ≠ 0 then none else movedW m b (r.set p.c.toNat (r.getD p.c.toNat 0 + p.a))
def badC (w : Nat) (b : List Pst) : Bool := b.any fun p => decide (p.c < 0) || decide (p.c ≥ (w : Int))
def ifW (T : List Cur) (row : List Int) (m : Int) (b : List Pst) : Int × Int × Int :=
  if badC row.length b = true then (0, 0, 1) else match movedW m b row with
    | none => (0, 0, 3)
    | some r => if (netW T r).2 ≠ 0 then (0, 0, 3) else if (shW T r).2 ≠ 0 then (0, 0, 3) else ((netW T r).1, (shW T r).1, 0)
theorem movedW_len (m : Int) : ∀ (b : List Pst) (r r' : List Int), movedW m b r = some r' → r'.length = r.length
  | [], r, r', e => by cases e; rfl
  | p :: b, r, r', e => by
    rw [movedW] at e
    split at e
    · exact movedW_len m b r r' e
    split at e
    · cases e
    · rw [movedW_len m b _ r' e, List.length_set]
theorem movedW_I (m : Int) : ∀ (b : List Pst) (r r' : List Int), (∀ i, I64 (r.getD i 0)) → movedW m b r = some r' → ∀ i, I64 (r'.getD i 0)
  | [], r, r', h, e => by cases e; exact h
  | p :: b, r, r', h, e => by
    rw [movedW] at e
    split at e
    · exact movedW_I m b r r' h e
    split at e
    · cases e
    · rename_i g
      refine movedW_I m b _ r' (fun i => ?_) e
      by_cases hp : p.c.toNat < r.length
      · rw [getD_set _ _ _ _ hp]; split
        · exact fit_in g
        · exact h i
      · rw [List.set_eq_of_length_le (by omega)]; exact h i
/-! tables with one currency turned -/
theorem curAt_set {T : List Cur} {k : Nat} {x : Cur} {j : Nat} (h : j ≠ k) : curAt (T.set k x) (j : Int) = curAt T (j : Int) := by
  unfold curAt
  rw [if_pos (by omega), if_pos (by omega), Int.toNat_natCast, List.getElem?_set_ne (fun e => h e.symm)]
theorem toldW_set {T : List Cur} {k : Nat} {x : Cur} {j : Nat} (h : j ≠ k) (b : Int) : toldW (T.set k x) j b = toldW T j b := by unfold toldW worthR; rw [curAt_set h]
theorem toldS_set {T : List Cur} {k : Nat} {x : Cur} {j : Nat} (h : j ≠ k) (b : Int) : toldS (T.set k x) j b = toldS T j b := by unfold toldS plainR; rw [curAt_set h]
/-- a state: the table, and balances as they were told, member by member -/
structure Wo where
  T : List Cur
  B : Mx
structure Wo.Ok (S : Wo) : Prop where
  t : tabE S.T = 0
  n1 : 1 ≤ S.B.length
  n16 : S.B.length ≤ 16
  sh : shM S.B S.B.length S.T.length
  i64 : ∀ i c, I64 (rdM S.B i c)
end Go.Proofs.Ytghdadniddoboaa

/- Blocks of one thing: numbered, each in a place of its own, with what stands in each. -/
namespace Go.Proofs.Ytghdadniddoboaa
open Go Go.Sy Go.Value
set_option linter.unusedVariables false

def updF {α : Type} (f : Nat → α) (i : Nat) (v : α) : Nat → α := fun j => if j = i then v else f j
theorem updF_same {α : Type} (f : Nat → α) (i : Nat) (v : α) : updF f i v i = v := if_pos rfl
theorem updF_ne {α : Type} (f : Nat → α) {i j : Nat} (v : α) (e : j ≠ i) : updF f i v j = f j := if_neg e
structure Fam (h : Heap) (N : Nat) (b : Nat → Nat) (c : Nat → List Value) : Prop where
  at' : ∀ i, i < N → At h (b i) (c i)
  inj : ∀ i j, i < N → j < N → b i = b j → i = j
def famD (N : Nat) (b : Nat → Nat) (x : Nat) : Bool := (List.range N).any fun i => b i == x
theorem famD_i {N : Nat} {b : Nat → Nat} {i : Nat} (h : i < N) : famD N b (b i) = true := List.any_eq_true.2 ⟨i, List.mem_range.2 h, by simp⟩
theorem famD_t {N : Nat} {b : Nat → Nat} {x : Nat} (h : famD N b x = true) : ∃ i, i < N ∧ b i = x := by
  obtain ⟨i, hi, e⟩ := List.any_eq_true.1 h
  exact ⟨i, List.mem_range.1 hi, by simpa using e⟩
theorem famD_f {N : Nat} {b : Nat → Nat} {x : Nat} (h : famD N b x = false) {i : Nat} (hi : i < N) : b i ≠ x := fun e => by rw [← e, famD_i hi] at h; cases h
theorem famD_no {N : Nat} {b : Nat → Nat} {x : Nat} (h : ∀ i, i < N → b i ≠ x) : famD N b x = false := by
  cases hd : famD N b x with
  | false => rfl
  | true => obtain ⟨i, hi, e⟩ := famD_t hd; exact (h i hi e).elim
section
variable {h h' : Heap} {N : Nat} {b : Nat → Nat} {c : Nat → List Value}
theorem Fam.mv (F : Fam h N b c) (k : ∀ x xs, famD N b x = true → At h x xs → At h' x xs) : Fam h' N b c := ⟨fun i hi => k _ _ (famD_i hi) (F.at' i hi), F.inj⟩
theorem Fam.le (F : Fam h N b c) (l : h.le h') : Fam h' N b c := F.mv fun x xs _ a => a.le l
theorem Fam.at (F : Fam h N b c) {x : Nat} (e : famD N b x = true) : ∃ xs, At h x xs := by
  obtain ⟨i, hi, rfl⟩ := famD_t e
  exact ⟨_, F.at' i hi⟩
theorem Fam.fresh (F : Fam h N b c) {x : Nat} (e : h x = none) : famD N b x = false := famD_no fun i hi e2 => (F.at' i hi).ne e e2
theorem Fam.set (F : Fam h N b c) {i o : Nat} {ws : List Value} (hi : i < N) : Fam (h.setN (b i) o ws) N b (updF c i (setL (c i) o ws)) := by
  refine ⟨fun j hj => ?_, F.inj⟩
  by_cases e : j = i
  · subst e
    rw [updF_same]; exact (F.at' j hj).set
  · rw [updF_ne _ _ e]; exact (F.at' j hj).set_ne fun e2 => e (F.inj j i hj hi e2)
/-- another block takes the place of one -/
theorem Fam.swap (F : Fam h N b c) {i r : Nat} {xs : List Value} (hr : famD N b r = false) (a : At h r xs) : Fam h N (updF b i r) (updF c i xs) := by
  refine ⟨fun j hj => ?_, fun j k hj hk e => ?_⟩
  · by_cases e : j = i
    · subst e
      rw [updF_same, updF_same]; exact a
    · rw [updF_ne _ _ e, updF_ne _ _ e]; exact F.at' j hj
  · by_cases e1 : j = i
    · by_cases e2 : k = i
      · omega
      · rw [e1, updF_same, updF_ne _ _ e2] at e; exact (famD_f hr hk e.symm).elim
    · by_cases e2 : k = i
      · rw [e2, updF_same, updF_ne _ _ e1] at e; exact (famD_f hr hj e).elim
      · rw [updF_ne _ _ e1, updF_ne _ _ e2] at e; exact F.inj j k hj hk e
theorem Fam.more (F : Fam h N b c) {r : Nat} {xs : List Value} (hr : famD N b r = false) (a : At h r xs) : Fam h (N + 1) (updF b N r) (updF c N xs) := by
  refine ⟨fun j hj => ?_, fun j k hj hk e => ?_⟩
  · by_cases e : j = N
    · subst e
      rw [updF_same, updF_same]; exact a
    · rw [updF_ne _ _ e, updF_ne _ _ e]; exact F.at' j (by omega)
  · by_cases e1 : j = N
    · by_cases e2 : k = N
      · omega
      · rw [e1, updF_same, updF_ne _ _ e2] at e; exact (famD_f hr (by omega) e.symm).elim
    · by_cases e2 : k = N
      · rw [e2, updF_same, updF_ne _ _ e1] at e; exact (famD_f hr (by omega) e).elim
      · rw [updF_ne _ _ e1, updF_ne _ _ e2] at e; exact F.inj j k (by omega) (by omega) e
theorem Fam.congr {c' : Nat → List Value} (F : Fam h N b c) (e : ∀ i, i < N → c i = c' i) : Fam h N b c' := ⟨fun i hi => by rw [← e i hi]; exact F.at' i hi, F.inj⟩
theorem Fam.nil (h : Heap) (b : Nat → Nat) (c : Nat → List Value) : Fam h 0 b c := ⟨fun i hi => absurd hi (by omega), fun i j hi => absurd hi (by omega)⟩
theorem famD_swap {i r x : Nat} (h : famD N (updF b i r) x = true) : x = r ∨ famD N b x = true := by
  obtain ⟨j, hj, e⟩ := famD_t h
  by_cases e1 : j = i
  · subst e1
    rw [updF_same] at e; exact .inl e.symm
  · rw [updF_ne _ _ e1] at e; exact .inr (by rw [← e]; exact famD_i hj)
theorem famD_more {r x : Nat} (h : famD (N + 1) (updF b N r) x = true) : x = r ∨ famD N b x = true := by
  obtain ⟨j, hj, e⟩ := famD_t h
  by_cases e1 : j = N
  · subst e1
    rw [updF_same] at e; exact .inl e.symm
  · rw [updF_ne _ _ e1] at e; exact .inr (by rw [← e]; exact famD_i (by omega))
end
end Go.Proofs.Ytghdadniddoboaa
