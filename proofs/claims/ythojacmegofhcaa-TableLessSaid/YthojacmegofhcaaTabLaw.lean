/- The laws TableTells, TableWorth and TableBack. -/
import Derived.Test.YthojacmegofhcaaTabThree
namespace Go.Proofs.Ythojacmegofhcaa
open Go Go.Sy Go.Value
set_option linter.unusedVariables false
set_option linter.unusedSimpArgs false

/-- a table, as it is handed over -/
def curSh : Sh := .sl (.two .str (.two (.int .i64) (.two (.int .i64) .nil)))
theorem curs_of {h : Heap} {p : Option Addr} {n c : Nat} (H : curSh.Has h [.slice p n c]) : n ≤ 9223372036854775807 ∧ ∃ l : List Cur, l.length = n ∧ Curs h p l ∧ ∀ x ∈ l, I64 x.rate ∧ I64 x.cut := by
  obtain ⟨h1, h2, L, hL, hA, hR⟩ := Sh.Has.list H
  refine ⟨by omega, ?_⟩
  have : ∀ L : List (List Value), (∀ vs ∈ L, vs.length = (Sh.two .str (.two (.int .i64) (.two (.int .i64) .nil))).n ∧ (Sh.two .str (.two (.int .i64) (.two (.int .i64) .nil))).Has h vs) →
      ∃ l : List Cur, l.length = L.length ∧ L.flatten = curV l ∧ ∀ x ∈ l, I64 x.rate ∧ I64 x.cut := by
    intro L
    induction L with
    | nil => exact fun _ => ⟨[], rfl, rfl, fun _ hn => (by cases hn)⟩
    | cons a L ih =>
      intro hA
      obtain ⟨l, e1, e2, e3⟩ := ih (fun vs hv => hA vs (List.mem_cons_of_mem _ hv))
      obtain ⟨_, _, ea, _, ⟨s, rfl, _⟩, _, _, rfl, _, ⟨r, rfl, wr⟩, _, _, rfl, _, ⟨t, rfl, wt⟩, rfl⟩ := (hA a (List.mem_cons_self ..)).2
      subst ea
      refine ⟨⟨s, r, t⟩ :: l, by simp [e1], by rw [List.flatten_cons, e2]; rfl, fun x hx => ?_⟩
      rcases List.mem_cons.1 hx with rfl | hx
      · exact ⟨I64.of_wf wr, I64.of_wf wt⟩
      · exact e3 x hx
  obtain ⟨l, e1, e2, e3⟩ := this L hA
  exact ⟨l, by rw [e1, hL], by unfold Curs; rw [← e2]; exact hR, e3⟩
def GoodT (h0 : Heap) (v : Value) (h' : Heap) : Prop := v = .bool true ∧ h0.le h'
theorem goodT {h0 h : Heap} (l : h0.le h) : Ret h (GoodT h0) (.bool true) := ⟨h, h.le_refl, rfl, l⟩
theorem tells_tail {h0 h : Heap} (lh : h0.le h) {p : Option Addr} {l : List Cur} {tn tc : Nat} (C : Curs h p l) (hn : l.length = tn) (hs : tn ≤ 20) {cur n x y : Int}
    (hx : rWith l cur n x = wRate l cur n) (hy : rWith l cur y n = wCut l cur n) :
    CallA Try.prog fn_table_WithRate [slice p tn tc, .int .i64 cur, .int .i64 n] h fun (v : Value) (h : Heap) => ∃ (a : Option Addr), ∃ (n_8 : Nat), ∃ (m : Nat), ∃ (n_9 : Int), v = tuple #[slice a n_8 m, .int .i64 n_9] ∧
      CallA Try.prog fn_ref03_With [slice p tn tc, .int .i64 cur, .int .i64 n, .int .i64 x] h fun (v : Value) (h : Heap) => ∃ (a_1 : Option Addr), ∃ (n_10 : Nat), ∃ (m_1 : Nat), ∃ (n_11 : Int), v = tuple #[slice a_1 n_10 m_1, .int .i64 n_11] ∧
        CallA Try.prog fn_table_WithCut [slice p tn tc, .int .i64 cur, .int .i64 n] h fun (v : Value) (h : Heap) => ∃ (a_2 : Option Addr), ∃ (n_12 : Nat), ∃ (m_2 : Nat), ∃ (n_13 : Int), v = tuple #[slice a_2 n_12 m_2, .int .i64 n_13] ∧
          CallA Try.prog fn_ref03_With [slice p tn tc, .int .i64 cur, .int .i64 y, .int .i64 n] h fun (v : Value) (h : Heap) => ∃ (a_3 : Option Addr), ∃ (n : Nat), ∃ (m_3 : Nat), ∃ (n_14 : Int), v = tuple #[slice a_3 n m_3, .int .i64 n_14] ∧
            CallA Try.prog fn_ref03_Same [slice a n_8 m, slice a_1 n_10 m_1] h fun (v : Value) (h : Heap) => ∃ (b : Bool), v = Value.bool b ∧
              Br b (Br (n_9 == n_11) (CallA Try.prog fn_ref03_Same [slice a_2 n_12 m_2, slice a_3 n m_3] h fun (v : Value) (h : Heap) => ∃ (b : Bool), v = Value.bool b ∧ Br b (Ret h (GoodT h0) (Value.bool (n_13 == n_14))) (Ret h (GoodT h0) (Value.bool false))) (Ret h (GoodT h0) (Value.bool false))) (Ret h (GoodT h0) (Value.bool false)) := by
  refine S_WithRate C hn (by omega) fun p1 n1 c1 e1 h1 l1 w1 => ⟨_, _, _, _, rfl, ?_⟩
  refine S_RWith (C.le l1) hn (by omega) fun p2 n2 c2 e2 h2 l2 w2 => ⟨_, _, _, _, rfl, ?_⟩
  refine S_WithCut ((C.le l1).le l2) hn (by omega) fun p3 n3 c3 e3 h3 l3 w3 => ⟨_, _, _, _, rfl, ?_⟩
  refine S_RWith (((C.le l1).le l2).le l3) hn (by omega) fun p4 n4 c4 e4 h4 l4 w4 => ⟨_, _, _, _, rfl, ?_⟩
  rw [hx] at w2
  rw [hy] at w4
  have b1 : n1 ≤ 1099511627776 := by
    revert w1
    unfold wRate withL
    split
    · split
      · split
        · rintro ⟨_, e, _⟩; rw [List.length_set] at e; omega
        · rintro ⟨_, e, _⟩; omega
      · rintro ⟨_, e, _⟩; omega
    · rintro ⟨_, e, _⟩; omega
  have b3 : n3 ≤ 1099511627776 := by
    revert w3
    unfold wCut withL
    split
    · split
      · split
        · rintro ⟨_, e, _⟩; rw [List.length_set] at e; omega
        · rintro ⟨_, e, _⟩; omega
      · rintro ⟨_, e, _⟩; omega
    · rintro ⟨_, e, _⟩; omega
  have ee := w1.err w2
  have ff := w3.err w4
  subst ee ff
  have l04 := Heap.le_trans lh (Heap.le_trans l1 (Heap.le_trans l2 (Heap.le_trans l3 l4)))
  refine S_RSame (((w1.le l2).le l3).le l4) ((w2.le l3).le l4) b1 ⟨_, rfl, Br.yes rfl (Br.yes (by simp) (S_RSame (w3.le l4) w4 b3 ⟨_, rfl, Br.yes rfl ?_⟩))⟩
  have : (e3 == e3) = true := by simp
  rw [this]
  exact goodT l04
theorem law03_TableTells_ok {h : Heap} {p : Option Addr} {tn tc : Nat} (H : curSh.Has h [.slice p tn tc]) {code : ByteArray} (hcode : code.size ≤ maxLen) {cur n : Int} (hcur : I64 cur) (hn64 : I64 n) :
    CallA Try.prog fn_law03_TableTells [slice p tn tc, string code, .int .i64 cur, .int .i64 n] h fun v h' => v = .bool true ∧ h.le h' := by
  obtain ⟨hmax, l, hn, C, hI⟩ := curs_of H
  refine F_law03_TableTells _ _ _ _ _ _ _ _ ?_
  unfold F_law03_TableTellsT
  refine S_law03_awake fun h1 l1 => ⟨_, rfl, Br.no rfl ?_⟩
  refine S_large (C.le l1) hn hmax fun b hb => ⟨_, rfl, ?_⟩
  cases b with
  | true => exact Br.yes rfl (goodT l1)
  | false =>
    have hs := hb rfl
    refine Br.no rfl (Br.dec (fun _ => goodT l1) fun _ => ?_)
    refine S_Find (C.le l1) hn (by omega) fun h2 l2 => ⟨_, _, rfl, ?_⟩
    refine S_RFind ((C.le l1).le l2) hn (by omega) ⟨_, _, rfl, ?_⟩
    refine S_Check ((C.le l1).le l2) hn fun h3 l3 => ⟨_, rfl, ?_⟩
    have C3 := ((C.le l1).le l2).le l3
    have l13 := Heap.le_trans l1 (Heap.le_trans l2 l3)
    refine S_RCheck C3 hn ⟨_, rfl, Br.no (by simp) (Br.no (by simp) (Br.no (by simp) (S_RCheck C3 hn ⟨_, rfl, Br.intro (fun _ => goodT l13) fun ek => ?_⟩)))⟩
    have ek : tabE l = 0 := by simpa using ek
    refine Br.dec (fun g1 => Br.dec (fun g2 => ?_) fun g2 => ?_) fun g1 => ?_
    · obtain ⟨j, rfl⟩ := Int.eq_ofNat_of_zero_le g1
      have hx : l[j]? = some l[j] := List.getElem?_eq_getElem (by omega)
      refine cx2 C3 hn rfl hx (cx1 C3 hn rfl hx ?_)
      exact tells_tail l13 C3 hn hs (rWith_rate ek fun y _ hy => by rw [Int.toNat_natCast, hx] at hy; cases hy; rfl) (rWith_cut ek fun y _ hy => by rw [Int.toNat_natCast, hx] at hy; cases hy; rfl)
    · have no : ∀ y, 0 ≤ cur → l[cur.toNat]? = some y → False := fun y _ hy => by rw [List.getElem?_eq_none (by omega)] at hy; cases hy
      exact tells_tail l13 C3 hn hs (rWith_rate ek fun y a hy => (no y a hy).elim) (rWith_cut ek fun y a hy => (no y a hy).elim)
    · have no : ∀ y, 0 ≤ cur → l[cur.toNat]? = some y → False := fun y a hy => absurd a g1
      exact tells_tail l13 C3 hn hs (rWith_rate ek fun y a hy => (no y a hy).elim) (rWith_cut ek fun y a hy => (no y a hy).elim)
section
variable {K : Value → Heap → Prop} {h h0 : Heap} {p : Option Addr} {l : List Cur} {n c : Nat}
theorem all_inb (h : tabE l = 0) : l.all inbB = true := by
  obtain ⟨_, _, _, _, h5⟩ := tab_parts h
  match l, h5 with
  | [], _ => rfl
  | x :: r, h5 =>
    rw [fitsF_cons, Bool.and_eq_true, fitsF_succ] at h5
    rw [List.all_cons, fits_inb h5.1, h5.2]; rfl
theorem S_RPlain {cur a : Int} (C : Curs h p l) (hn : l.length = n) (ok : l.all inbB = true) (ha : I64 a) (k : ∀ h', h.le h' → K (tuple #[.int .i64 (plainR l cur a).1, .int .i64 (plainR l cur a).2]) h') :
    CallA Try.prog fn_ref03_Plain [slice p n c, .int .i64 cur, .int .i64 a] h K := by
  refine F_ref03_Plain _ _ _ _ _ _ _ ?_
  unfold F_ref03_PlainT
  unfold plainR at k
  by_cases hc : 0 ≤ cur ∧ cur < (n : Int)
  · obtain ⟨j, x, rfl, hx, e⟩ := curAt_some hn hc
    rw [e] at k
    exact Br.no (decide_eq_false (by omega)) (Br.no (decide_eq_false (by omega)) (cx1 C hn rfl hx (S_RMulDiv ha (rate_I64 (inb_of ok hx)) ⟨by decide, by decide⟩ fun h' l' => ⟨_, _, rfl, Ret.mk (k h' l')⟩)))
  · rw [curAt_none hn hc] at k
    exact Br.dec (fun _ => Ret.mk (k h h.le_refl)) fun _ => Br.yes (decide_eq_true (by omega)) (Ret.mk (k h h.le_refl))
theorem S_RChange {f t a : Int} {up : Bool} (C : Curs h p l) (hn : l.length = n) (ok : l.all inbB = true) (ha : I64 a) (k : ∀ h', h.le h' → K (tuple #[.int .i64 (changeR l f t a up).1, .int .i64 (changeR l f t a up).2]) h') :
    CallA Try.prog fn_ref03_Change [slice p n c, .int .i64 f, .int .i64 t, .int .i64 a, .bool up] h K := by
  refine F_ref03_Change _ _ _ _ _ _ _ _ _ ?_
  unfold F_ref03_ChangeT
  unfold changeR at k
  by_cases hc : 0 ≤ f ∧ f < (n : Int)
  · obtain ⟨j, x, rfl, hx, e⟩ := curAt_some hn hc
    rw [e] at k
    refine Br.no (decide_eq_false (by omega)) (Br.no (decide_eq_false (by omega)) ?_)
    by_cases hd : 0 ≤ t ∧ t < (n : Int)
    · obtain ⟨i, y, rfl, hy, e2⟩ := curAt_some hn hd
      rw [e2] at k
      exact Br.no (decide_eq_false (by omega)) (Br.no (decide_eq_false (by omega)) (cx1 C hn rfl hx (cx1 C hn rfl hy (S_RMulDiv ha (rate_I64 (inb_of ok hx)) (rate_I64 (inb_of ok hy)) fun h' l' => ⟨_, _, rfl, Ret.mk (k h' l')⟩))))
    · rw [curAt_none hn hd] at k
      exact Br.dec (fun _ => Ret.mk (k h h.le_refl)) fun _ => Br.yes (decide_eq_true (by omega)) (Ret.mk (k h h.le_refl))
  · rw [curAt_none hn hc] at k
    have k' : ∀ h', h.le h' → K (tuple #[.int .i64 0, .int .i64 1]) h' := k
    exact Br.dec (fun _ => Ret.mk (k' h h.le_refl)) fun _ => Br.yes (decide_eq_true (by omega)) (Ret.mk (k' h h.le_refl))
theorem worth_tail {a r q : Int} {x : Cur} (ha : I64 a) (hr : r = x.rate) (hr64 : I64 r) (hq : q = partC x a) (hq64 : I64 q) (k : ∀ h', h.le h' → K (tuple #[.int .i64 (md a (x.rate * partC x a) 100000000 false).1, .int .i64 (md a (x.rate * partC x a) 100000000 false).2]) h') :
    CallA Try.prog fn_ref01_Of [int IntKind.i64 a] h fun (v : Value) (h_1 : Heap) => ∃ (b : Bool), ∃ (a : Option Addr), ∃ (n_2 : Nat), ∃ (m : Nat), v = agg #[Value.bool b, slice a n_2 m] ∧ Heap.le h h_1 ∧
      CallA Try.prog fn_ref01_Of [int IntKind.i64 r] h_1 fun (v : Value) (h : Heap) => ∃ (b_1 : Bool), ∃ (a_1 : Option Addr), ∃ (n_3 : Nat), ∃ (m_1 : Nat), v = agg #[Value.bool b_1, slice a_1 n_3 m_1] ∧
        CallA Try.prog fn_ref01_Mul [agg #[Value.bool b, slice a n_2 m], agg #[Value.bool b_1, slice a_1 n_3 m_1]] h fun (v : Value) (h : Heap) => ∃ (b : Bool), ∃ (a : Option Addr), ∃ (n_4 : Nat), ∃ (m : Nat), v = agg #[Value.bool b, slice a n_4 m] ∧
          CallA Try.prog fn_ref01_Of [int IntKind.i64 q] h fun (v : Value) (h : Heap) => ∃ (b_2 : Bool), ∃ (a_2 : Option Addr), ∃ (n : Nat), ∃ (m_2 : Nat), v = agg #[Value.bool b_2, slice a_2 n m_2] ∧
            CallA Try.prog fn_ref01_Mul [agg #[Value.bool b, slice a n_4 m], agg #[Value.bool b_2, slice a_2 n m_2]] h fun (v : Value) (h : Heap) => ∃ (b : Bool), ∃ (a : Option Addr), ∃ (n : Nat), ∃ (m : Nat), v = agg #[Value.bool b, slice a n m] ∧
              newB h [Value.bool false, slice none 0 0] 44 fun (r : Nat) (h : Heap) => Heap.canSt h r 0 2 ∧ ∃ (b_3 : Bool), Heap.cell (Heap.setN h r 0 [Value.bool b, slice a n m]) r 0 = some (Value.bool b_3) ∧
                ∃ (a_3 : Option Addr), ∃ (n_5 : Nat), ∃ (m_3 : Nat), Heap.cell (Heap.setN h r 0 [Value.bool b, slice a n m]) r 1 = some (slice a_3 n_5 m_3) ∧
                  CallA Try.prog fn_ref01_Of [int IntKind.i64 100000000] (Heap.setN h r 0 [Value.bool b, slice a n m]) fun (v : Value) (h_2 : Heap) => ∃ (b_4 : Bool), ∃ (a_4 : Option Addr), ∃ (n_6 : Nat), ∃ (m_4 : Nat), v = agg #[Value.bool b_4, slice a_4 n_6 m_4] ∧ Heap.le (Heap.setN h r 0 [Value.bool b, slice a n m]) h_2 ∧
                    CallA Try.prog fn_ref01_Div [agg #[Value.bool b_3, slice a_3 n_5 m_3], agg #[Value.bool b_4, slice a_4 n_6 m_4], Value.bool false] h_2 fun (v : Value) (h : Heap) => ∃ (b : Bool), ∃ (a : Option Addr), ∃ (n : Nat), ∃ (m : Nat), v = agg #[Value.bool b, slice a n m] ∧
                      CallA Try.prog fn_ref01_Fit [agg #[Value.bool b, slice a n m]] h fun (v : Value) (h : Heap) => ∃ (n : Int), ∃ (n_7 : Int), v = tuple #[int IntKind.i64 n, int IntKind.i64 n_7] ∧ Ret h K (tuple #[int IntKind.i64 n, int IntKind.i64 n_7]) := by
  refine S_Of ha fun v1 h1 l1 bn1 => ?_
  have br1 := bn1.raw
  obtain ⟨n1, p1, c1, d1, rfl, _⟩ := bn1
  refine ⟨_, _, _, _, rfl, l1, ?_⟩
  refine S_Of hr64 fun v2 h2 l2 bn2 => ?_
  have br2 := bn2.raw
  obtain ⟨n2, p2, c2, d2, rfl, _⟩ := bn2
  refine ⟨_, _, _, _, rfl, ?_⟩
  refine S_Mul_Big (br1.le l2) br2 (by omega) fun v3 h3 l3 bn3 => ?_
  have br3 := bn3.raw
  obtain ⟨n3, p3, c3, d3, rfl, _⟩ := bn3
  refine ⟨_, _, _, _, rfl, ?_⟩
  refine S_Of hq64 fun v4 h4 l4 bn4 => ?_
  have br4 := bn4.raw
  obtain ⟨n4, p4, c4, d4, rfl, _⟩ := bn4
  refine ⟨_, _, _, _, rfl, ?_⟩
  refine S_Mul_Big (br3.le l4) br4 (by omega) fun v5 h5 l5 bn5 => ?_
  have br5 := bn5.raw
  obtain ⟨n5, p5, c5, d5, rfl, _⟩ := bn5
  refine ⟨_, _, _, _, rfl, ?_⟩
  intro s hs
  have A0 := At.new h5 s [Value.bool false, slice none 0 0] 44
  have m1 : h5.le (h5.ins s (.cells [Value.bool false, slice none 0 0].toArray 44 (0, 0))) := le_ins hs
  generalize h5.ins s (.cells [Value.bool false, slice none 0 0].toArray 44 (0, 0)) = h6 at *
  refine ⟨A0.canSt (by decide), ?_⟩
  have A := A0.set (o := 0) (ws := [Value.bool n5, slice p5 d5.length c5])
  have m2 : h5.le (h6.setN s 0 [Value.bool n5, slice p5 d5.length c5]) := le_setN m1 hs
  generalize h6.setN s 0 [Value.bool n5, slice p5 d5.length c5] = h7 at *
  refine ⟨_, A.cell rfl, _, _, _, A.cell rfl, S_Of (show I64 100000000 from ⟨by decide, by decide⟩) fun v8 h8 l8 bn8 => ?_⟩
  have br8 := bn8.raw
  obtain ⟨n8, p8, c8, d8, rfl, _⟩ := bn8
  refine ⟨_, _, _, _, rfl, l8, ?_⟩
  refine S_Div_Big ((br5.le m2).le l8) br8 (by omega) (by omega) (by decide) fun v9 h9 l9 bn9 => ?_
  have br9 := bn9.raw
  obtain ⟨n9, p9, c9, d9, rfl, _⟩ := bn9
  refine ⟨_, _, _, _, rfl, ?_⟩
  refine S_Fit br9 (by omega) fun h10 l10 => ⟨_, _, rfl, Ret.mk ?_⟩
  have := k h10 (Heap.le_trans l1 (Heap.le_trans l2 (Heap.le_trans l3 (Heap.le_trans l4 (Heap.le_trans l5 (Heap.le_trans m2 (Heap.le_trans l8 (Heap.le_trans l9 l10))))))))
  subst hr hq
  unfold md at this
  rw [if_neg (by decide), ← Int.mul_assoc] at this
  exact this
theorem S_RWorth {cur a : Int} (C : Curs h p l) (hn : l.length = n) (ok : l.all inbB = true) (ha : I64 a) (k : ∀ h', h.le h' → K (tuple #[.int .i64 (worthR l cur a).1, .int .i64 (worthR l cur a).2]) h') :
    CallA Try.prog fn_ref03_Worth [slice p n c, .int .i64 cur, .int .i64 a] h K := by
  refine F_ref03_Worth _ _ _ _ _ _ _ ?_
  unfold F_ref03_WorthT
  unfold worthR at k
  by_cases hc : 0 ≤ cur ∧ cur < (n : Int)
  · obtain ⟨j, x, rfl, hx, e⟩ := curAt_some hn hc
    rw [e] at k
    have b := inb_of ok hx
    have hr64 := rate_I64 b
    obtain ⟨p1, p2, _, _⟩ := part_bound b a
    refine Br.no (decide_eq_false (by omega)) (Br.no (decide_eq_false (by omega)) (cx2 C hn rfl hx (Br.dec (fun g => ?_) (fun g => ?_))))
    · have e1 : IntKind.wrap .i64 (10000 + x.cut) = partC x a := by rw [wrap_i64_id (by omega) (by omega)]; unfold partC; rw [if_pos g]
      refine cx2 C hn rfl hx (cx1 C hn rfl hx (worth_tail ha rfl hr64 e1 ⟨by omega, by omega⟩ k))
    · have e1 : IntKind.wrap .i64 (10000 - x.cut) = partC x a := by rw [wrap_i64_id (by omega) (by omega)]; unfold partC; rw [if_neg g]
      exact cx1 C hn rfl hx (worth_tail ha rfl hr64 e1 ⟨by omega, by omega⟩ k)
  · rw [curAt_none hn hc] at k
    exact Br.dec (fun _ => Ret.mk (k h h.le_refl)) fun _ => Br.yes (decide_eq_true (by omega)) (Ret.mk (k h h.le_refl))
end
theorem law03_TableWorth_ok {h : Heap} {p : Option Addr} {tn tc : Nat} (H : curSh.Has h [.slice p tn tc]) {cur to a : Int} (hcur : I64 cur) (hto : I64 to) (ha : I64 a) (up : Bool) :
    CallA Try.prog fn_law03_TableWorth [slice p tn tc, .int .i64 cur, .int .i64 to, .int .i64 a, .bool up] h fun v h' => v = .bool true ∧ h.le h' := by
  obtain ⟨hmax, l, hn, C, hI⟩ := curs_of H
  refine F_law03_TableWorth _ _ _ _ _ _ _ _ _ ?_
  unfold F_law03_TableWorthT
  refine S_law03_awake fun h1 l1 => ⟨_, rfl, Br.no rfl ?_⟩
  refine S_large (C.le l1) hn hmax fun b hb => ⟨_, rfl, ?_⟩
  cases b with
  | true => exact Br.yes rfl (goodT l1)
  | false =>
    refine Br.no rfl (S_RCheck (C.le l1) hn ⟨_, rfl, Br.intro (fun _ => goodT l1) fun ek => ?_⟩)
    have ek : tabE l = 0 := by simpa using ek
    have ok := all_inb ek
    refine S_Worth (C.le l1) hn ok ha ⟨_, _, rfl, S_RWorth (C.le l1) hn ok ha fun h2 l2 => ⟨_, _, rfl, ?_⟩⟩
    have C2 := (C.le l1).le l2
    refine S_Plain C2 hn ok ha ⟨_, _, rfl, S_RPlain C2 hn ok ha fun h3 l3 => ⟨_, _, rfl, ?_⟩⟩
    have C3 := C2.le l3
    refine S_Change C3 hn ok ha ⟨_, _, rfl, S_RChange C3 hn ok ha fun h4 l4 => ⟨_, _, rfl, ?_⟩⟩
    refine Br.yes (by simp) (Br.yes (by simp) (Br.yes (by simp) (Br.yes (by simp) (Br.yes (by simp) ?_))))
    have : ∀ e : Int, (e == e) = true := fun e => by simp
    rw [this]
    exact goodT (Heap.le_trans l1 (Heap.le_trans l2 (Heap.le_trans l3 l4)))
theorem fit_cases (x : Int) : (I64 x ∧ fit x = (x, 0)) ∨ (¬ I64 x ∧ fit x = (0, 3)) := by
  by_cases h : I64 x
  · exact .inl ⟨h, fit_ok h⟩
  · exact .inr ⟨h, fit_over h⟩
theorem law03_TableBack_ok {h : Heap} {p : Option Addr} {tn tc : Nat} (H : curSh.Has h [.slice p tn tc]) {f t a : Int} (hf : I64 f) (ht : I64 t) (ha : I64 a) :
    CallA Try.prog fn_law03_TableBack [slice p tn tc, .int .i64 f, .int .i64 t, .int .i64 a] h fun v h' => v = .bool true ∧ h.le h' := by
  obtain ⟨hmax, l, hn, C, hI⟩ := curs_of H
  refine F_law03_TableBack _ _ _ _ _ _ _ _ ?_
  unfold F_law03_TableBackT
  refine S_law03_awake fun h1 l1 => ⟨_, rfl, Br.no rfl ?_⟩
  refine S_large (C.le l1) hn hmax fun b hb => ⟨_, rfl, ?_⟩
  cases b with
  | true => exact Br.yes rfl (goodT l1)
  | false =>
    refine Br.no rfl (S_Check (C.le l1) hn fun h2 l2 => ⟨_, rfl, ?_⟩)
    have l12 := Heap.le_trans l1 l2
    refine Br.intro (fun _ => goodT l12) fun ek => ?_
    have ek : tabE l = 0 := by simpa using ek
    have ok := all_inb ek
    have C2 := (C.le l1).le l2
    refine Br.dec (fun _ => goodT l12) fun g0 => Br.dec (fun _ => goodT l12) fun g1 => Br.dec (fun _ => goodT l12) fun g2 => Br.dec (fun _ => goodT l12) fun g3 => Br.dec (fun _ => goodT l12) fun g4 => ?_
    obtain ⟨i, x, rfl, hx, ex⟩ := curAt_some hn (show 0 ≤ f ∧ f < (tn : Int) by omega)
    obtain ⟨j, y, rfl, hy, ey⟩ := curAt_some hn (show 0 ≤ t ∧ t < (tn : Int) by omega)
    have bx := inb_of ok hx
    have by' := inb_of ok hy
    have ch1 : ∀ a up, changeR l (i : Int) (j : Int) a up = fit (dv (a * x.rate) y.rate up) := fun a up => by
      unfold changeR; rw [ex, ey]; unfold md; exact if_neg (by omega)
    have ch2 : ∀ a up, changeR l (j : Int) (i : Int) a up = fit (dv (a * y.rate) x.rate up) := fun a up => by
      unfold changeR; rw [ex, ey]; unfold md; exact if_neg (by omega)
    have I0 : I64 0 := ⟨by decide, by decide⟩
    have If : ∀ z, I64 (fit z).1 := fun z => by
      rcases fit_cases z with ⟨h, e⟩ | ⟨_, e⟩ <;> rw [e]
      · exact h
      · exact I0
    refine S_Change C2 hn ok ha ⟨_, _, rfl, ?_⟩
    rw [ch1]
    refine S_Change C2 hn ok (If _) ⟨_, _, rfl, S_Change C2 hn ok ha ⟨_, _, rfl, ?_⟩⟩
    rw [ch1, ch2]
    refine S_Change C2 hn ok (If _) ⟨_, _, rfl, ?_⟩
    rw [ch2]
    -- up each time: no less
    have hup : Br ((fit (dv (a * x.rate) y.rate true)).2 != 0) (Ret h2 (GoodT h) (Value.bool true)) (Br ((fit (dv ((fit (dv (a * x.rate) y.rate true)).1 * y.rate) x.rate true)).2 != 0) (Ret h2 (GoodT h) (Value.bool true)) (Ret h2 (GoodT h) (Value.bool (decide ((fit (dv ((fit (dv (a * x.rate) y.rate true)).1 * y.rate) x.rate true)).1 ≥ a))))) := by
      rcases fit_cases (dv (a * x.rate) y.rate true) with ⟨u1, e1⟩ | ⟨u1, e1⟩ <;> rw [e1]
      · refine Br.no rfl ?_
        rcases fit_cases (dv (dv (a * x.rate) y.rate true * y.rate) x.rate true) with ⟨u2, e2⟩ | ⟨u2, e2⟩ <;> rw [e2]
        · refine Br.no rfl ?_
          have : dv (dv (a * x.rate) y.rate true * y.rate) x.rate true ≥ a := by
            unfold dv
            simp only [if_true]
            have h1 := Int.mul_ediv_add_emod (-(a * x.rate)) y.rate
            have h2 := Int.emod_nonneg (-(a * x.rate)) (show y.rate ≠ 0 by omega)
            generalize -(a * x.rate) / y.rate = q at *
            have h3 := Int.mul_ediv_add_emod (-(-q * y.rate)) x.rate
            have h4 := Int.emod_nonneg (-(-q * y.rate)) (show x.rate ≠ 0 by omega)
            have h5 := Int.emod_lt_of_pos (-(-q * y.rate)) (show 0 < x.rate by omega)
            generalize -(-q * y.rate) / x.rate = w at *
            -- x w = q y - r ≤ -(a x)
            have h6 : x.rate * w ≤ x.rate * (-a) := by
              have e1 : -q * y.rate = -(y.rate * q) := by rw [Int.neg_mul, Int.mul_comm]
              have e2 : x.rate * (-a) = -(a * x.rate) := by rw [Int.mul_neg, Int.mul_comm]
              rw [e2]
              rw [e1] at h3 h4 h5
              omega
            have := Int.le_of_mul_le_mul_left h6 (by omega)
            omega
          rw [decide_eq_true this]
          exact goodT l12
        · exact Br.yes rfl (goodT l12)
      · exact Br.yes rfl (goodT l12)
    rcases fit_cases (dv (a * x.rate) y.rate false) with ⟨u1, e1⟩ | ⟨u1, e1⟩ <;> rw [e1]
    · refine Br.no rfl ?_
      have lo : 0 ≤ dv (dv (a * x.rate) y.rate false * y.rate) x.rate false ∧ dv (dv (a * x.rate) y.rate false * y.rate) x.rate false ≤ a := by
        have e : ∀ n c : Int, dv n c false = n / c := fun n c => rfl
        rw [e, e]
        have h0 : 0 ≤ a * x.rate := Int.mul_nonneg (by omega) (by omega)
        have h1 : 0 ≤ a * x.rate / y.rate := Int.ediv_nonneg h0 (by omega)
        have h2 : a * x.rate / y.rate * y.rate ≤ a * x.rate := Int.ediv_mul_le _ (by omega)
        refine ⟨Int.ediv_nonneg (Int.mul_nonneg h1 (by omega)) (by omega), ?_⟩
        have h3 := Int.ediv_le_ediv (show 0 < x.rate by omega) h2
        rw [Int.mul_ediv_cancel _ (by omega)] at h3
        exact h3
      unfold I64 at ha
      rw [fit_ok (n := dv (dv (a * x.rate) y.rate false * y.rate) x.rate false) ⟨by omega, by omega⟩]
      exact Br.yes rfl (Br.yes (by simpa using lo.2) (Br.yes (by simpa using lo.1) hup))
    · exact Br.yes rfl hup
end Go.Proofs.Ythojacmegofhcaa
