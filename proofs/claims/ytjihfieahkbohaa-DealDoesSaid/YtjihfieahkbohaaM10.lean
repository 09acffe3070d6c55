import Derived.Test.YtjihfieahkbohaaM09
import Derived.Test.YtjihfieahkbohaaM04
import Derived.Test.YtjihfieahkbohaaM05
import Derived.Sort.AssemblyPlain
/- The reference's book of instructions: made, asked, changed. -/
namespace Go.Proofs.Ytjihfieahkbohaa
open Go Go.Sy Go.Value
set_option linter.unusedVariables false
set_option linter.unusedSimpArgs false

def rA (x : En) : Value := agg #[.int .i64 x.d.id, .int .i64 x.d.a, .int .i64 x.d.b, .int .i64 x.d.sc, .int .i64 x.d.bc, .int .i64 x.d.sell, .int .i64 x.d.buy, .int .i64 x.st, .bool (byA x), .bool (byB x), .int .i64 x.ord]
theorem allCells_app : ∀ (a b : List Value), allCells a = true → allCells b = true → allCells (a ++ b) = true
  | [], b, _, h => h
  | v :: a, b, h1, h2 => by
    rw [List.cons_append]
    unfold allCells at h1 ⊢
    split at h1
    · exact allCells_app a b h1 h2
    · cases h1
theorem allCells_rows : ∀ L : List En, allCells (L.flatMap rV) = true
  | [] => rfl
  | x :: L => by rw [List.flatMap_cons]; exact allCells_app _ _ rfl (allCells_rows L)
def atI (id : Int) (L : List En) : Int := match posE id L with
  | some i => (i : Int)
  | none => -1
section
variable {h : Heap} {K : Value → Heap → Prop} {q : Nat} {S : Bk} {lp : Option Addr} {c : Nat}
theorem S_RNew {m cu : Int} (k0 : ¬ ((1 ≤ m ∧ m ≤ 16) ∧ 1 ≤ cu ∧ cu ≤ 8) → K (tuple #[pointer none, .int .i64 1]) h)
    (k1 : (1 ≤ m ∧ m ≤ 16) ∧ 1 ≤ cu ∧ cu ≤ 8 → ∀ p h', h.le h' → RB h' p ⟨m, cu, [], 0⟩ → K (tuple #[pointer (some ⟨p, 0, none⟩), .int .i64 0]) h') : CallA Try.prog fn_ref11_New [.int .i64 m, .int .i64 cu] h K := by
  refine F_ref11_New _ _ _ _ ?_
  unfold F_ref11_NewT
  refine Br.dec (fun g => Ret.mk (k0 (by omega))) fun g1 => Br.dec (fun g => Ret.mk (k0 (by omega))) fun g2 => Br.dec (fun g => Ret.mk (k0 (by omega))) fun g3 => Br.dec (fun g => Ret.mk (k0 (by omega))) fun g4 => ?_
  refine newB_at fun r2 h2 hr2 l2 A2 => Ret.mk (k1 (by omega) _ _ l2 ⟨?_, none, 0, ⟨A2, .nil _ _ _, fun e => by cases e⟩⟩)
  exact { m1 := by dsimp only; omega, c1 := by dsimp only; omega, n := Nat.zero_le _, may := fun _ x => (by cases x), i64 := fun _ x => (by cases x), nd := fun i x e => (by simp at e), could := fun _ x => (by cases x), ords := .refl _ }
theorem S_RMay (B : RBk h q S lp c) {d : Dl} (k : ∀ h', h.le h' → K (.bool (decide (mayD S.mem S.cur d))) h') : CallA Try.prog fn_pref11_Book_May [pointer (some ⟨q, 0, none⟩), dA d] h K := by
  refine F_pref11_Book_May _ _ _ _ _ _ _ _ _ _ ?_
  unfold F_pref11_Book_MayT
  refine newB_at fun r h1 hr l1 A => ?_
  have B1 := B.le l1
  have no : ¬ mayD S.mem S.cur d → Ret h1 K (.bool false) := fun g => by
    have := k h1 l1
    rw [decide_eq_false g] at this; exact Ret.mk this
  have yes : mayD S.mem S.cur d → Ret h1 K (.bool true) := fun g => by
    have := k h1 l1
    rw [decide_eq_true g] at this; exact Ret.mk this
  have tw : ∀ {a b m : Int}, twoB a b m = true ↔ 0 ≤ a ∧ 0 ≤ b ∧ a < m ∧ b < m ∧ a ≠ b := by intro a b m; unfold twoB; rw [decide_eq_true_eq]
  refine ⟨_, A.cell rfl, Br.dec (fun g => no fun m => by have := m.1; omega) fun g1 => ⟨_, A.cell rfl, Br.dec (fun g => no fun m => by have := m.2.1; omega) fun g2 => ⟨_, A.cell rfl, Br.dec (fun g => no fun m => by have := m.2.2.2.2.1; omega) fun g3 => ⟨_, A.cell rfl, Br.dec (fun g => no fun m => by have := m.2.2.2.2.2; omega) fun g4 => ?_⟩⟩⟩⟩
  refine ⟨_, A.cell rfl, _, A.cell rfl, Br.intro (fun g => no fun m => (tw.1 m.2.2.1).2.2.2.2 (by simpa using g)) fun g5 => ⟨_, A.cell rfl, _, A.cell rfl, Br.intro (fun g => no fun m => (tw.1 m.2.2.2.1).2.2.2.2 (by simpa using g)) fun g6 => ?_⟩⟩
  have g5 : d.a ≠ d.b := by simpa using g5
  have g6 : d.sc ≠ d.bc := by simpa using g6
  refine ⟨_, A.cell rfl, Br.dec (fun g => no fun m => by have := tw.1 m.2.2.1; omega) fun g7 => ⟨_, A.cell rfl, withAddr_intro rfl ⟨_, B1.ap.cell rfl, Br.dec (fun g => no fun m => by have := tw.1 m.2.2.1; omega) fun g8 => ?_⟩⟩⟩
  refine ⟨_, A.cell rfl, Br.dec (fun g => no fun m => by have := tw.1 m.2.2.1; omega) fun g9 => ⟨_, A.cell rfl, withAddr_intro rfl ⟨_, B1.ap.cell rfl, Br.dec (fun g => no fun m => by have := tw.1 m.2.2.1; omega) fun g10 => ?_⟩⟩⟩
  refine ⟨_, A.cell rfl, Br.dec (fun g11 => ⟨_, A.cell rfl, withAddr_intro rfl ⟨_, B1.ap.cell rfl, Br.dec (fun g12 => ⟨_, A.cell rfl, Br.dec (fun g13 => ⟨_, A.cell rfl, withAddr_intro rfl ⟨_, B1.ap.cell rfl, ?_⟩⟩) fun g => no fun m => by have := tw.1 m.2.2.2.1; omega⟩) fun g => no fun m => by have := tw.1 m.2.2.2.1; omega⟩⟩) fun g => no fun m => by have := tw.1 m.2.2.2.1; omega⟩
  by_cases g14 : d.bc < S.cur
  · rw [decide_eq_true g14]
    exact yes ⟨by omega, by omega, tw.2 ⟨by omega, by omega, by omega, by omega, g5⟩, tw.2 ⟨by omega, by omega, g12, g14, g6⟩, by omega, by omega⟩
  · rw [decide_eq_false g14]
    exact no fun m => g14 (tw.1 m.2.2.2.1).2.2.2.1
theorem rat_0 (B : RBk h q S lp c) {id : Int} (hn : S.L.length ≤ 1000) (k : K (.int .i64 (atI id S.L)) h) : ∀ (m j : Nat), m + j = S.L.length → posE id S.L = (posE id (S.L.drop j)).map (· + j) → L_pref11_Book_At_0 (some ⟨q, 0, none⟩) id (j : Int) h K := by
  intro m
  induction m with
  | zero =>
    intro j hj e
    refine L_pref11_Book_At_0r _ _ _ _ _ ?_
    unfold L_pref11_Book_At_0T
    rw [List.drop_eq_nil_of_le (by omega)] at e
    have e : posE id S.L = none := e
    unfold atI at k
    rw [e] at k
    exact withAddr_intro rfl ⟨_, _, _, B.ap.cell rfl, Br.no (by simp; omega) (Ret.mk k)⟩
  | succ m ih =>
    intro j hj e
    refine L_pref11_Book_At_0r _ _ _ _ _ ?_
    unfold L_pref11_Book_At_0T
    have hjl : j < S.L.length := by omega
    rw [List.drop_eq_getElem_cons hjl, posE] at e
    refine withAddr_intro rfl ⟨_, _, _, B.ap.cell rfl, Br.yes (decide_eq_true (by omega)) (withAddr_intro rfl ⟨_, _, _, B.ap.cell rfl, ax rV_len B.arr rfl rfl (List.getElem?_eq_getElem hjl) (by decide) fun b o hb hc => ⟨_, hc 0 (by decide), Br.intro (fun g => ?_) fun g => ?_⟩⟩)⟩
    · rw [if_pos (by simpa using g)] at e
      have e : posE id S.L = some (0 + j) := e
      unfold atI at k
      rw [e, Nat.zero_add] at k
      exact Ret.mk k
    · rw [if_neg (by simpa using g)] at e
      rw [wrap_i64_id (n := (j : Int) + 1) (by omega) (by omega)]
      refine ih (j + 1) (by omega) ?_
      rw [e]
      cases posE id (S.L.drop (j + 1)) with
      | none => rfl
      | some i => show some (i + 1 + j) = some (i + (j + 1)); congr 1; omega
theorem S_RAt (B : RBk h q S lp c) {id : Int} (hn : S.L.length ≤ 1000) (k : K (.int .i64 (atI id S.L)) h) : CallA Try.prog fn_pref11_Book_At [pointer (some ⟨q, 0, none⟩), .int .i64 id] h K := by
  refine F_pref11_Book_At _ _ _ _ ?_
  unfold F_pref11_Book_AtT
  refine rat_0 B hn k S.L.length 0 (by omega) ?_
  rw [List.drop_zero]
  cases posE id S.L <;> rfl
/-- an entry is another one -/
theorem S_Rset (B : RBk h q S lp c) {i : Nat} {x y : En} (hx : S.L[i]? = some x) (hn : S.L.length ≤ 1000)
    (k : ∀ h' lp' c', RBk h' q { S with L := S.L.set i y } lp' c' → (∀ b xs, At h b xs → b ≠ q → At h' b xs ∧ lp' ≠ some ⟨b, 0, none⟩) → K (tuple #[]) h') :
    CallA Try.prog fn_pref11_Book_set [pointer (some ⟨q, 0, none⟩), .int .i64 (i : Int), rA y] h K := by
  refine F_pref11_Book_set _ _ _ _ _ _ _ _ _ _ _ _ _ _ _ ?_
  unfold F_pref11_Book_setT
  refine newB_at fun r1 h1 hr1 l1 A1 => ?_
  intro r2 hr2
  have ow := own_new (T := 73) (z := z11) hr2
  have l2 : h1.le (h1.ins r2 (.cells [].toArray 73 (0, 0))) := le_ins hr2
  have a2 := At.new h1 r2 [] 73
  generalize h1.ins r2 (.cells [].toArray 73 (0, 0)) = h2 at *
  have B2 := (B.le l1).le l2
  have hi := (List.getElem?_eq_some_iff.1 hx).1
  refine withAddr_intro rfl ⟨_, _, _, B2.ap.cell rfl, ?_⟩
  refine ow.push (n := S.L.length) (ws := S.L.flatMap rV) (by decide) l2 (by omega) (by rw [arr_len rV_len]; rfl) B2.arr (allCells_rows _) rfl fun p' c' h3 l3 ow3 keep how => ?_
  have At3 : ∀ b xs, At h1 b xs → At h3 b xs := fun b xs a => a.le l3
  have A3 := At3 _ _ A1
  refine ⟨_, A3.cell rfl, _, A3.cell rfl, _, A3.cell rfl, _, A3.cell rfl, _, A3.cell rfl, _, A3.cell rfl, _, A3.cell rfl, _, A3.cell rfl, _, A3.cell rfl, _, A3.cell rfl, _, A3.cell rfl, by omega, by omega, ?_⟩
  rcases ow3 with ⟨e, _, _⟩ | ⟨s, sp, rfl, hs, a3, ek⟩
  · have := congrArg List.length e
    rw [List.nil_append, arr_len rV_len, List.length_nil] at this
    omega
  rw [List.nil_append] at a3 ek
  have hne : ∀ b xs, At h1 b xs → b ≠ s := fun b xs a g => by subst g; exact a.ne hs rfl
  have aq := At3 _ _ (B.le l1).ap
  have nq := hne _ _ (B.le l1).ap
  refine withAddr_intro rfl ?_
  rw [Int.toNat_natCast, Nat.zero_add]
  refine ⟨a3.canSt (by rw [List.length_append, arr_len rV_len]; omega), withAddr_intro rfl ⟨(aq.set_ne nq).canSt (by simp), Ret.mk (k _ (some ⟨s, 0, none⟩) c' ⟨?_, .inr ⟨s, sp, rfl, rfl, ?_, ?_⟩, fun e => nq (by simpa using e.symm)⟩ fun b xs a hb => ?_)⟩⟩
  · have := (aq.set_ne (o := i * 11) (ws := rV y) nq).set (o := 2) (ws := [.slice (some ⟨s, 0, none⟩) (0 + S.L.length) c'])
    show At _ q [.int .i64 S.mem, .int .i64 S.cur, .slice (some ⟨s, 0, none⟩) (S.L.set i y).length c', .int .i64 (S.mat : Int)]
    rw [List.length_set]
    simp only [Nat.zero_add] at this ⊢
    exact this
  · have := a3.set (o := i * 11 + 0) (ws := rV y)
    rw [setL_rowR hx (by rw [rV_len]; omega) (y := y) rfl] at this
    exact this.set_ne (Ne.symm nq)
  · rw [ek, List.length_append, List.length_append, arr_len rV_len, arr_len rV_len, List.length_set]
  · have h1b := a.le l1
    exact ⟨((At3 _ _ h1b).set_ne (hne _ _ h1b)).set_ne hb, fun e => hne _ _ h1b (by simpa using e.symm)⟩
end
end Go.Proofs.Ytjihfieahkbohaa

/- The reference's book of instructions: submitted to, rescinded, settled. -/
namespace Go.Proofs.Ytjihfieahkbohaa
open Go Go.Sy Go.Value
set_option linter.unusedVariables false
set_option linter.unusedSimpArgs false

theorem RBk.oth {h : Heap} {q : Nat} {S : Bk} {lp : Option Addr} {c b o : Nat} {ws : List Value} (B : RBk h q S lp c) (h1 : q ≠ b) (h2 : lp ≠ some ⟨b, 0, none⟩) : RBk (h.setN b o ws) q S lp c := ⟨B.ap.set_ne h1, B.ol.set_ne h2, B.np⟩
theorem RBk.wrM {h : Heap} {q : Nat} {S : Bk} {lp : Option Addr} {c : Nat} (B : RBk h q S lp c) (m : Nat) : RBk (h.setN q 3 [.int .i64 (m : Int)]) q { S with mat := m } lp c := ⟨B.ap.set (o := 3) (ws := [.int .i64 (m : Int)]), B.ol.set_ne B.np, B.np⟩
section
variable {h : Heap} {K : Value → Heap → Prop} {q : Nat} {S : Bk} {lp : Option Addr} {c : Nat}
theorem atI_some {id : Int} {L : List En} {i : Nat} (h : posE id L = some i) : atI id L = (i : Int) := by unfold atI; rw [h]
theorem atI_none {id : Int} {L : List En} (h : posE id L = none) : atI id L = -1 := by unfold atI; rw [h]
theorem S_RSubmit (P : RB h q S) {d : Dl} (hi : I64d d) (k : ∀ h', RB h' q (submitM S d).2.2 → K (tuple #[.bool (submitM S d).1, .int .i64 (submitM S d).2.1]) h') :
    CallA Try.prog fn_pref11_Book_Submit [pointer (some ⟨q, 0, none⟩), dA d] h K := by
  obtain ⟨ok, lp, c, B⟩ := P
  have hn := ok.n
  refine F_pref11_Book_Submit _ _ _ _ _ _ _ _ _ _ ?_
  unfold F_pref11_Book_SubmitT
  unfold submitM at k
  refine newB_at fun r h1 hr l1 A => ⟨_, A.cell rfl, _, A.cell rfl, _, A.cell rfl, _, A.cell rfl, _, A.cell rfl, _, A.cell rfl, _, A.cell rfl, ?_⟩
  refine S_RMay (d := d) (B.le l1) fun h2 l2 => ⟨_, rfl, ?_⟩
  have nq : q ≠ r := B.ap.ne hr
  have A := A.le l2
  have B := B.le (Heap.le_trans l1 l2)

  by_cases gm : mayD S.mem S.cur d
  rotate_left
  · rw [decide_eq_false gm]
    rw [if_neg gm] at k
    exact Br.yes rfl (Ret.mk (k _ ⟨ok, lp, c, B⟩))
  rw [decide_eq_true gm]
  rw [if_pos gm] at k
  refine Br.no rfl ⟨_, A.cell rfl, S_RAt B (by omega) ⟨_, rfl, ?_⟩⟩
  cases hp : posE d.id S.L with
  | none =>
    rw [hp] at k
    dsimp only at k
    rw [atI_none hp]
    refine Br.yes (by decide) (withAddr_intro rfl ⟨_, _, _, B.ap.cell rfl, Br.dec (fun g => ?_) fun g => ?_⟩)
    · rw [if_pos (by omega)] at k
      exact Ret.mk (k _ ⟨ok, lp, c, B⟩)
    rw [if_neg (by omega)] at k
    refine withAddr_intro rfl ⟨_, _, _, B.ap.cell rfl, _, A.cell rfl, _, A.cell rfl, _, A.cell rfl, _, A.cell rfl, _, A.cell rfl, _, A.cell rfl, _, A.cell rfl, ?_⟩
    intro r2 hr2
    have ow := own_new (T := 73) (z := z11) hr2
    have l2 : h2.le (h2.ins r2 (.cells [].toArray 73 (0, 0))) := le_ins hr2
    generalize h2.ins r2 (.cells [].toArray 73 (0, 0)) = h3 at *
    have ne2 : ∀ b y, h2 b = some y → (some (⟨r2, 0, none⟩ : Addr)) ≠ some ⟨b, 0, none⟩ := fun b y e g => by
      have g : r2 = b := by simpa using g
      rw [← g, hr2] at e; cases e
    refine ow.push2 (n := S.L.length) (ws := S.L.flatMap rV) (by decide) l2 (by omega) (by rw [arr_len rV_len]; rfl) (B.le l2).arr (allCells_rows _) rfl fun p' c' h4 l4 ow4 keep how => ⟨.inr fun x hx y hy => ?_, ?_⟩
    · rw [List.mem_singleton] at hx
      subst hx
      refine keep x y hy ?_
      obtain ⟨T, ea⟩ := A
      exact ne2 x _ ea
    rw [List.nil_append] at ow4
    have aq : At h4 q _ := B.ap.le l4
    have np4 : p' ≠ some ⟨q, 0, none⟩ := by
      obtain ⟨T, ea⟩ := B.ap
      rcases how with rfl | ⟨s, rfl, hs⟩
      · exact ne2 q _ ea
      · intro e
        have e : s = q := by simpa using e
        rw [e, l2 q _ ea] at hs; cases hs
    refine push1 ow4 (by decide) l4 (by omega) rfl rfl (by rw [arr_len rV_len, Nat.zero_add]; rfl) fun r5 h5 p6 c6 h6 hr5 l5 l6 ow6 keep6 how6 => ?_
    have ap6 := keepAt keep6 (aq.le l5) np4
    have np6 := push_ne how6 (aq.le l5) np4
    refine withAddr_intro rfl ⟨ap6.canSt (by simp), Ret.mk (k _ ⟨ok.snoc gm hi (by omega) hp, p6, c6, ?_, ?_, np6⟩)⟩
    · have := ap6.set (o := 2) (ws := [.slice p6 (0 + S.L.length + 1) c6])
      have e : (S.L ++ [(⟨d, 1, 0, 0⟩ : En)]).length = 0 + S.L.length + 1 := by simp
      dsimp only
      rw [e]
      exact this
    · have e : (S.L ++ [(⟨d, 1, 0, 0⟩ : En)]).flatMap rV = S.L.flatMap rV ++ rV ⟨d, 1, 0, 0⟩ := by rw [List.flatMap_append]; simp
      dsimp only
      rw [e]
      have w : OwnL nulH h6 z11 p6 c6 (S.L.flatMap rV ++ rV ⟨d, 1, 0, 0⟩) := by
        rcases ow6 with x | ⟨s, sp, e1, _, a, k2⟩
        · exact .inl x
        · exact .inr ⟨s, sp, e1, rfl, a, k2⟩
      exact w.set_ne (o := 2) (ws := [.slice p6 (0 + S.L.length + 1) c6]) np6
  | some i =>
    obtain ⟨x, hx, hid⟩ := posE_some hp
    have hil := (List.getElem?_eq_some_iff.1 hx).1
    rw [hp] at k
    dsimp only at k
    rw [hx] at k
    dsimp only at k
    rw [atI_some hp]
    refine Br.no (by simp) (withAddr_intro rfl ⟨_, _, _, B.ap.cell rfl, ax rV_len B.arr rfl rfl hx (by decide) fun b o hb hc => ?_⟩)
    refine ⟨_, hc 0 (by decide), _, hc 1 (by decide), _, hc 2 (by decide), _, hc 3 (by decide), _, hc 4 (by decide), _, hc 5 (by decide), _, hc 6 (by decide), _, hc 7 (by decide), _, hc 8 (by decide), _, hc 9 (by decide), _, hc 10 (by decide), newB_cp (vs := rV x) rfl fun r2 h3 hr2 l3 A2 cs => ⟨cs, ?_⟩⟩
    have n2 : q ≠ r2 := B.ap.ne hr2
    have m2 : lp ≠ some ⟨r2, 0, none⟩ := B.ol.fresh hr2
    have n12 : r ≠ r2 := A.ne hr2
    have A1 := A.le l3
    have B1 := B.le l3
    have done : ∀ (e : Int), K (tuple #[.bool false, .int .i64 e]) (h3.setN r2 0 (rV x)) → Ret (h3.setN r2 0 (rV x)) K (tuple #[.bool false, .int .i64 e]) := fun e x => Ret.mk x
    refine ⟨_, A2.cell rfl, Br.intro (fun g => ?_) fun g => ?_⟩
    · rw [if_pos (.inl (by simpa using g))] at k
      exact Ret.mk (k _ ⟨ok, lp, c, B1⟩)
    have g1 : x.st = 1 := by simpa using g
    refine ⟨_, A2.cell rfl, _, A1.cell rfl, Br.intro (fun g => ?_) fun g => ?_⟩
    · rw [if_pos (.inr (by simpa using g))] at k
      exact Ret.mk (k _ ⟨ok, lp, c, B1⟩)
    have g2 : x.d.a ≠ d.a := by simpa using g
    rw [if_neg (by simp [g1, g2])] at k
    have bad : x.d ≠ mirD d → K (tuple #[.bool false, .int .i64 12]) (h3.setN r2 0 (rV x)) := fun e => by
      have : eqD x.d (mirD d) = false := by
        cases he : eqD x.d (mirD d) with
        | false => rfl
        | true => exact (e (eqD_iff.1 he)).elim
      rw [if_pos this] at k
      exact k _ ⟨ok, lp, c, B1⟩
    refine ⟨_, A2.cell rfl, _, A1.cell rfl, Br.intro (fun g => Ret.mk (bad fun e => by simp [e, mirD] at g)) fun g3 => ?_⟩
    refine ⟨_, A2.cell rfl, _, A1.cell rfl, Br.intro (fun g => Ret.mk (bad fun e => by simp [e, mirD] at g)) fun g4 => ?_⟩
    refine ⟨_, A2.cell rfl, _, A1.cell rfl, Br.intro (fun g => Ret.mk (bad fun e => by simp [e, mirD] at g)) fun g5 => ?_⟩
    refine ⟨_, A2.cell rfl, _, A1.cell rfl, Br.intro (fun g => Ret.mk (bad fun e => by simp [e, mirD] at g)) fun g6 => ?_⟩
    refine ⟨_, A2.cell rfl, _, A1.cell rfl, Br.intro (fun g => Ret.mk (bad fun e => by simp [e, mirD] at g)) fun g7 => ?_⟩
    refine ⟨_, A2.cell rfl, _, A1.cell rfl, Br.intro (fun g => Ret.mk (bad fun e => by simp [e, mirD] at g)) fun g8 => ?_⟩
    have he : x.d = mirD d := by
      have e3 : x.d.a = d.b := by simpa using g3
      have e4 : x.d.b = d.a := by simpa using g4
      have e5 : x.d.sc = d.bc := by simpa using g5
      have e6 : x.d.bc = d.sc := by simpa using g6
      have e7 : x.d.sell = d.buy := by simpa using g7
      have e8 : x.d.buy = d.sell := by simpa using g8
      unfold mirD
      rw [← hid, ← e3, ← e4, ← e5, ← e6, ← e7, ← e8]
    rw [if_neg (by rw [eqD_iff.2 he]; decide)] at k
    have hm := ok.mat
    have w : IntKind.wrap .i64 ((S.mat : Int) + 1) = ((S.mat + 1 : Nat) : Int) := by rw [wrap_i64_id (by omega) (by omega)]; omega
    have B3 := B1.wrM (S.mat + 1)
    have A3 := A2.set_ne (o := 3) (ws := [.int .i64 ((S.mat + 1 : Nat) : Int)]) (Ne.symm n2)
    refine withAddr_intro rfl ⟨_, B1.ap.cell rfl, withAddr_intro rfl ⟨B1.ap.canSt (by simp), ?_⟩⟩
    rw [w]
    have A4 := A3.set (o := 7) (ws := [.int .i64 2])
    have B4 := B3.oth (o := 7) (ws := [.int .i64 2]) n2 m2
    have A5 := A4.set (o := 10) (ws := [.int .i64 ((S.mat + 1 : Nat) : Int)])
    have B5 := B4.oth (o := 10) (ws := [.int .i64 ((S.mat + 1 : Nat) : Int)]) n2 m2
    refine ⟨A3.canSt (by rw [rV_len]; omega), withAddr_intro rfl ⟨_, B4.ap.cell rfl, A4.canSt (by simp [setL, setT, rV]), ?_⟩⟩
    refine ⟨_, A5.cell rfl, _, A5.cell rfl, _, A5.cell rfl, _, A5.cell rfl, _, A5.cell rfl, _, A5.cell rfl, _, A5.cell rfl, _, A5.cell rfl, _, A5.cell rfl, _, A5.cell rfl, _, A5.cell rfl, ?_⟩
    refine S_Rset (y := { x with st := 2, ord := ((S.mat + 1 : Nat) : Int) }) B5 hx (by show S.L.length ≤ 1000; omega) fun h' lp' c' B6 _ => ⟨rfl, Ret.mk (k _ ⟨ok.match hx g1, lp', c', B6⟩)⟩
theorem S_RSettle (P : RB h q S) {id : Int} (k : ∀ h', RB h' q (settleM S id).2 → K (.int .i64 (settleM S id).1) h') : CallA Try.prog fn_pref11_Book_Settle [pointer (some ⟨q, 0, none⟩), .int .i64 id] h K := by
  obtain ⟨ok, lp, c, B⟩ := P
  have hn := ok.n
  refine F_pref11_Book_Settle _ _ _ _ ?_
  unfold F_pref11_Book_SettleT
  unfold settleM at k
  refine S_RAt B (by omega) ⟨_, rfl, ?_⟩
  cases hp : posE id S.L with
  | none =>
    rw [hp] at k
    rw [atI_none hp]
    exact Br.yes (by decide) (Ret.mk (k _ ⟨ok, lp, c, B⟩))
  | some i =>
    obtain ⟨x, hx, hid⟩ := posE_some hp
    rw [hp] at k
    dsimp only at k
    rw [hx] at k
    dsimp only at k
    rw [atI_some hp]
    refine Br.no (by simp) (withAddr_intro rfl ⟨_, _, _, B.ap.cell rfl, ax rV_len B.arr rfl rfl hx (by decide) fun b o hb hc => ?_⟩)
    refine ⟨_, hc 0 (by decide), _, hc 1 (by decide), _, hc 2 (by decide), _, hc 3 (by decide), _, hc 4 (by decide), _, hc 5 (by decide), _, hc 6 (by decide), _, hc 7 (by decide), _, hc 8 (by decide), _, hc 9 (by decide), _, hc 10 (by decide), newB_cp (vs := rV x) rfl fun r2 h3 hr2 l3 A2 cs => ⟨cs, ?_⟩⟩
    have n2 : q ≠ r2 := B.ap.ne hr2
    have m2 : lp ≠ some ⟨r2, 0, none⟩ := B.ol.fresh hr2
    have B1 := B.le l3
    refine ⟨_, A2.cell rfl, Br.intro (fun g => ?_) fun g => ?_⟩
    · rw [if_pos (by simpa using g)] at k
      exact Ret.mk (k _ ⟨ok, lp, c, B1⟩)
    have g : x.st = 2 := by simpa using g
    rw [if_neg (by simp [g])] at k
    have A4 := A2.set (o := 7) (ws := [.int .i64 3])
    have B4 := B1.oth (o := 7) (ws := [.int .i64 3]) n2 m2
    refine ⟨A2.canSt (by rw [rV_len]; omega), _, A4.cell rfl, _, A4.cell rfl, _, A4.cell rfl, _, A4.cell rfl, _, A4.cell rfl, _, A4.cell rfl, _, A4.cell rfl, _, A4.cell rfl, _, A4.cell rfl, _, A4.cell rfl, _, A4.cell rfl, ?_⟩
    refine S_Rset (y := { x with st := 3 }) B4 hx (by omega) fun h' lp' c' B6 _ => ⟨rfl, Ret.mk (k _ ⟨?_, lp', c', B6⟩)⟩
    have := ok.could x (List.mem_of_getElem? hx)
    refine ok.chg hx rfl rfl (.inr (.inl ⟨.inr rfl, ?_⟩))
    unfold couldE at this
    dsimp only
    omega
end
end Go.Proofs.Ytjihfieahkbohaa

/- Entries put in order by the how-manieth they were to be matched: the order, and a list of them in memory. -/
namespace Go.Proofs.Ytjihfieahkbohaa
open Go Go.Sy Go.Value
set_option linter.unusedVariables false
set_option linter.unusedSimpArgs false

def en0 : En := ⟨⟨0, 0, 0, 0, 0, 0, 0⟩, 0, 0, 0⟩
def enAt (F : List En) (i : Int) : En := F.getD i.toNat en0
def ltOE (F : List En) (i k : Int) : Bool := decide ((enAt F i).ord < (enAt F k).ord)
theorem swoOE (F : List En) : Go.Sort.SWO (ltOE F) where
  irrefl x := by unfold ltOE; rw [decide_eq_false_iff_not]; omega
  trans x y z := by unfold ltOE; rw [decide_eq_true_eq, decide_eq_true_eq, decide_eq_true_eq]; omega
  ntrans x y z := by unfold ltOE; rw [decide_eq_false_iff_not, decide_eq_false_iff_not, decide_eq_false_iff_not]; omega
def lstI (F : List En) (d : List Int) : List En := d.map (enAt F)
theorem lstI_len (F : List En) (d : List Int) : (lstI F d).length = d.length := List.length_map ..
def iota (n : Nat) : List Int := (List.range n).map fun (i : Nat) => (i : Int)
theorem iota_len (n : Nat) : (iota n).length = n := by unfold iota; rw [List.length_map, List.length_range]
theorem lstI_iota (F : List En) : lstI F (iota F.length) = F := by
  refine List.ext_getElem? fun i => ?_
  unfold lstI iota
  rw [List.getElem?_map, List.getElem?_map]
  by_cases h : i < F.length
  · rw [List.getElem?_range h]
    simp only [Option.map_some, enAt, Int.toNat_natCast]
    rw [List.getD_eq_getElem?_getD, List.getElem?_eq_getElem h]; rfl
  · rw [List.getElem?_eq_none (by rw [List.length_range]; omega), List.getElem?_eq_none (by omega)]; rfl
theorem getE? {d : Array Int} {i : Nat} (h : i < d.size) : d.toList[i]? = some d[i]! := by
  rw [List.getElem?_eq_getElem (by simpa using h), getElem!_pos d i h]; simp
/-- what comes out of it -/
theorem sort_list {F : List En} {n : Nat} {d : Array Int} (hn : F.length = n) (hp : Go.Sort.PermIn 0 n (iota n).toArray d) (hs : Go.Sort.SortedIn (ltOE F) 0 n d) :
    (lstI F d.toList).Perm F ∧ (lstI F d.toList).Pairwise fun x y => x.ord ≤ y.ord := by
  have hz : d.size = n := by rw [hp.1]; simp [iota_len]
  constructor
  · have h1 := hp.2.2
    have e1 : (d.extract 0 n).toList = d.toList := by rw [← hz]; simp
    have e2 : ((iota n).toArray.extract 0 n).toList = iota n := by
      have := iota_len n
      simp [List.take_of_length_le (Nat.le_of_eq this)]
    rw [e1, e2] at h1
    have h2 := h1.map (enAt F)
    rw [← hn] at h2
    have h3 := lstI_iota F
    unfold lstI at h3 ⊢
    rw [h3] at h2
    exact h2
  · unfold lstI
    rw [List.pairwise_map, List.pairwise_iff_getElem]
    intro i j hi hj hij
    have hi' : i < d.size := by simpa using hi
    have hj' : j < d.size := by simpa using hj
    have := hs i j (Nat.zero_le _) hij (by omega)
    unfold ltOE at this
    rw [decide_eq_false_iff_not, getElem!_pos d i hi', getElem!_pos d j hj'] at this
    have e1 : d.toList[i] = d[i] := by simp
    have e2 : d.toList[j] = d[j] := by simp
    rw [e1, e2]; omega

/-- a list of ones own at B, that is put in order: g0 is all else -/
structure DaE (F : List En) (g0 : Heap) (B m n : Nat) (sp : List Value) (h : Heap) (d : Array Int) : Prop where
  le : g0.le h
  at_ : At h B ((lstI F d.toList).flatMap eV ++ sp)
  sz : d.size = n
  rg : m = m
section
variable {F : List En} {g0 h : Heap} {B m n : Nat} {sp : List Value} {d : Array Int}
theorem DaE.el (D : DaE F g0 B m n sp h d) {i : Nat} (hi : i < n) : (lstI F d.toList)[i]? = some (enAt F d[i]!) := by
  have hi : i < d.size := by rw [D.sz]; exact hi
  unfold lstI
  rw [List.getElem?_map, getE? hi]; rfl
theorem DaE.get (D : DaE F g0 B m n sp h d) {i o : Nat} (hi : i < n) (ho : o < 10) : h.cell B (i * 10 + o) = (eV (enAt F d[i]!))[o]? := by
  have g := arr_get eV_len _ i o _ (D.el hi) ho
  have hlt : o < (eV (enAt F d[i]!)).length := ho
  have hs := D.sz
  rw [List.getElem?_eq_getElem hlt] at g ⊢
  refine D.at_.cell ?_
  rw [List.getElem?_append_left (by rw [arr_len eV_len, lstI_len]; simp only [Array.length_toList]; omega), g]
theorem DaE.mv (D : DaE F g0 B m n sp h d) {h' : Heap} (l : h.le h') : DaE F g0 B m n sp h' d := ⟨Heap.le_trans D.le l, D.at_.le l, D.sz, rfl⟩
theorem DaE.st (D : DaE F g0 B m n sp h d) (e0 : g0 B = none) {i : Nat} {x : Int} (hi : i < n) : DaE F g0 B m n sp (h.setN B (i * 10) (eV (enAt F x))) (d.setIfInBounds i x) := by
  have hs := D.sz
  refine ⟨le_setN D.le e0, ?_, by simpa using D.sz, rfl⟩
  have := D.at_.set (o := i * 10 + 0) (ws := eV (enAt F x))
  rw [setL_row (D.el hi) (by rw [eV_len]; omega) (y := enAt F x) rfl] at this
  have e : (lstI F d.toList).set i (enAt F x) = lstI F (d.setIfInBounds i x).toList := by
    unfold lstI
    rw [Array.toList_setIfInBounds, List.map_set]
  rw [e] at this
  exact this
theorem DaE.can (D : DaE F g0 B m n sp h d) {i : Nat} (hi : i < n) : h.canSt B (i * 10) 10 := D.at_.canSt (by
  have := D.sz
  rw [List.length_append, arr_len eV_len, lstI_len]; simp only [Array.length_toList]; omega)
end
/-- an entry, loaded -/
theorem ldE {h : Heap} {x : En} {a b : Nat} {J : Int → Int → Int → Int → Int → Int → Int → Int → Int → Int → Prop} (hc : ∀ o, o < 10 → h.cell b (a + o) = (eV x)[o]?) (k : J x.d.id x.d.a x.d.b x.d.sc x.d.bc x.d.sell x.d.buy x.st x.ask x.ord) : LdJ10 h b a J :=
  ⟨_, hc 0 (by decide), _, hc 1 (by decide), _, hc 2 (by decide), _, hc 3 (by decide), _, hc 4 (by decide), _, hc 5 (by decide), _, hc 6 (by decide), _, hc 7 (by decide), _, hc 8 (by decide), _, hc 9 (by decide), k⟩
def eA (x : En) : Value := agg #[.int .i64 x.d.id, .int .i64 x.d.a, .int .i64 x.d.b, .int .i64 x.d.sc, .int .i64 x.d.bc, .int .i64 x.d.sell, .int .i64 x.d.buy, .int .i64 x.st, .int .i64 x.ask, .int .i64 x.ord]
def cmpI (x y : Int) : Int := if x < y then -1 else if x > y then 1 else 0
theorem cmpI_lt {x y : Int} : cmpI x y < 0 ↔ x < y := by unfold cmpI; split <;> (try split) <;> omega
section
variable {h : Heap} {K : Value → Heap → Prop}
theorem S_nanI {x : Int} (k : K (.bool false) h) : CallA Try.prog fn_cmp_isNaN_int [.int .i64 x] h K := by
  refine F_cmp_isNaN_int _ _ _ ?_
  unfold F_cmp_isNaN_intT
  refine Ret.mk ?_
  rw [show (x != x) = false by simp]; exact k
theorem S_cmpI {x y : Int} (k : K (.int .i64 (cmpI x y)) h) : CallA Try.prog fn_cmp_Compare_int [.int .i64 x, .int .i64 y] h K := by
  refine F_cmp_Compare_int _ _ _ _ ?_
  unfold F_cmp_Compare_intT
  unfold cmpI at k
  refine S_nanI ⟨_, rfl, S_nanI ⟨_, rfl, Br.no rfl (Br.no rfl (Br.dec (fun g => ?_) fun g => Br.dec (fun g2 => ?_) fun g2 => ?_))⟩⟩
  · rw [if_pos g] at k; exact Ret.mk k
  · rw [if_neg g, if_pos g2] at k; exact Ret.mk k
  · rw [if_neg g, if_neg g2] at k; exact Ret.mk k
theorem S_lessI {x y : Int} (k : K (.bool (decide (x < y))) h) : CallA Try.prog fn_cmp_Less_int [.int .i64 x, .int .i64 y] h K := by
  refine F_cmp_Less_int _ _ _ _ ?_
  unfold F_cmp_Less_intT
  exact S_nanI ⟨_, rfl, Br.no rfl (Ret.mk k)⟩
theorem S_cmpE {x y : En} (k : ∀ h', h.le h' → K (.int .i64 (cmpI x.ord y.ord)) h') : CallA Try.prog fn_pdeal_Book_All_1 [eA x, eA y] h K := by
  refine F_pdeal_Book_All_1 _ _ _ _ _ _ _ _ _ _ _ _ _ _ _ _ _ _ _ _ _ _ ?_
  unfold F_pdeal_Book_All_1T
  refine newB_at fun r1 h1 hr1 l1 A1 => newB_at fun r2 h2 hr2 l2 A2 => ?_
  exact ⟨_, (A1.le l2).cell rfl, _, A2.cell rfl, S_cmpI ⟨_, rfl, Ret.mk (k _ (Heap.le_trans l1 l2))⟩⟩
end
section
variable {F : List En} {g0 h : Heap} {B m n : Nat} {sp : List Value} {d : Array Int}
/-- two of it are compared -/
theorem lessAE (D : DaE F g0 B m n sp h d) (hm : F.length = m) (I : True) {X Y : Int} {i j : Nat} (hX : X = (i : Int)) (hY : Y = (j : Int)) (hi : i < n) (hj : j < n) {P Q : Heap → Prop}
    (k : ∀ h', DaE F g0 B m n sp h' d → Br (ltOE F d[i]! d[j]!) (P h') (Q h')) :
    (0 : Int) ≤ X ∧ X < (n : Int) ∧ withAddr (some ⟨B, 0, none⟩) fun b o => LdJ10 h b (o + X.toNat * 10) fun x0 x1 x2 x3 x4 x5 x6 x7 x8 x9 => (0 : Int) ≤ Y ∧ Y < (n : Int) ∧ withAddr (some ⟨B, 0, none⟩) fun b o => LdJ10 h b (o + Y.toNat * 10) fun y0 y1 y2 y3 y4 y5 y6 y7 y8 y9 =>
      CallA Try.prog fn_pdeal_Book_All_1 [agg #[.int .i64 x0, .int .i64 x1, .int .i64 x2, .int .i64 x3, .int .i64 x4, .int .i64 x5, .int .i64 x6, .int .i64 x7, .int .i64 x8, .int .i64 x9], agg #[.int .i64 y0, .int .i64 y1, .int .i64 y2, .int .i64 y3, .int .i64 y4, .int .i64 y5, .int .i64 y6, .int .i64 y7, .int .i64 y8, .int .i64 y9]] h fun v h => ∃ r, v = .int .i64 r ∧ Br (decide (r < 0)) (P h) (Q h) := by
  subst hX hY
  have e : ∀ z : Nat, 0 + ((z : Nat) : Int).toNat * 10 = z * 10 := fun z => by rw [Int.toNat_natCast, Nat.zero_add]
  refine ⟨by omega, by omega, withAddr_intro rfl ?_⟩
  rw [e]
  refine ldE (fun o ho => D.get hi ho) ⟨by omega, by omega, withAddr_intro rfl ?_⟩
  rw [e]
  refine ldE (fun o ho => D.get hj ho) ?_
  refine S_cmpE (x := enAt F d[i]!) (y := enAt F d[j]!) fun h' l' => ⟨_, rfl, ?_⟩
  have := k h' (D.mv l')
  have e3 : ltOE F d[i]! d[j]! = decide (cmpI (enAt F d[i]!).ord (enAt F d[j]!).ord < 0) := by unfold ltOE; rw [decide_eq_decide]; exact cmpI_lt.symm
  rw [e3] at this
  exact this
theorem lessNE (D : DaE F g0 B m n sp h d) (hm : F.length = m) (I : True) {X Y : Int} {i j : Nat} (hX : X = (i : Int)) (hY : Y = (j : Int)) (hi : i < n) (hj : j < n) {P Q : Heap → Prop}
    (k : ∀ h', DaE F g0 B m n sp h' d → Br (!ltOE F d[i]! d[j]!) (P h') (Q h')) :
    (0 : Int) ≤ X ∧ X < (n : Int) ∧ withAddr (some ⟨B, 0, none⟩) fun b o => LdJ10 h b (o + X.toNat * 10) fun x0 x1 x2 x3 x4 x5 x6 x7 x8 x9 => (0 : Int) ≤ Y ∧ Y < (n : Int) ∧ withAddr (some ⟨B, 0, none⟩) fun b o => LdJ10 h b (o + Y.toNat * 10) fun y0 y1 y2 y3 y4 y5 y6 y7 y8 y9 =>
      CallA Try.prog fn_pdeal_Book_All_1 [agg #[.int .i64 x0, .int .i64 x1, .int .i64 x2, .int .i64 x3, .int .i64 x4, .int .i64 x5, .int .i64 x6, .int .i64 x7, .int .i64 x8, .int .i64 x9], agg #[.int .i64 y0, .int .i64 y1, .int .i64 y2, .int .i64 y3, .int .i64 y4, .int .i64 y5, .int .i64 y6, .int .i64 y7, .int .i64 y8, .int .i64 y9]] h fun v h => ∃ r, v = .int .i64 r ∧ Br (!decide (r < 0)) (P h) (Q h) := by
  subst hX hY
  have e : ∀ z : Nat, 0 + ((z : Nat) : Int).toNat * 10 = z * 10 := fun z => by rw [Int.toNat_natCast, Nat.zero_add]
  refine ⟨by omega, by omega, withAddr_intro rfl ?_⟩
  rw [e]
  refine ldE (fun o ho => D.get hi ho) ⟨by omega, by omega, withAddr_intro rfl ?_⟩
  rw [e]
  refine ldE (fun o ho => D.get hj ho) ?_
  refine S_cmpE (x := enAt F d[i]!) (y := enAt F d[j]!) fun h' l' => ⟨_, rfl, ?_⟩
  have := k h' (D.mv l')
  have e3 : ltOE F d[i]! d[j]! = decide (cmpI (enAt F d[i]!).ord (enAt F d[j]!).ord < 0) := by unfold ltOE; rw [decide_eq_decide]; exact cmpI_lt.symm
  rw [e3] at this
  exact this
theorem lessRE (D : DaE F g0 B m n sp h d) (hm : F.length = m) (I : True) {r : Nat} {vs : List Value} (A : At h r vs) {X Y : Int} {i j : Nat} (hX : X = (i : Int)) (hY : Y = (j : Int)) (hi : i < n) (hj : j < n) {P Q : Heap → Prop}
    (k : ∀ h', DaE F g0 B m n sp h' d → At h' r vs → Br (ltOE F d[i]! d[j]!) (P h') (Q h')) :
    (0 : Int) ≤ X ∧ X < (n : Int) ∧ withAddr (some ⟨B, 0, none⟩) fun b o => LdJ10 h b (o + X.toNat * 10) fun x0 x1 x2 x3 x4 x5 x6 x7 x8 x9 => (0 : Int) ≤ Y ∧ Y < (n : Int) ∧ withAddr (some ⟨B, 0, none⟩) fun b o => LdJ10 h b (o + Y.toNat * 10) fun y0 y1 y2 y3 y4 y5 y6 y7 y8 y9 =>
      CallA Try.prog fn_pdeal_Book_All_1 [agg #[.int .i64 x0, .int .i64 x1, .int .i64 x2, .int .i64 x3, .int .i64 x4, .int .i64 x5, .int .i64 x6, .int .i64 x7, .int .i64 x8, .int .i64 x9], agg #[.int .i64 y0, .int .i64 y1, .int .i64 y2, .int .i64 y3, .int .i64 y4, .int .i64 y5, .int .i64 y6, .int .i64 y7, .int .i64 y8, .int .i64 y9]] h fun v h => ∃ r, v = .int .i64 r ∧ Br (decide (r < 0)) (P h) (Q h) := by
  subst hX hY
  have e : ∀ z : Nat, 0 + ((z : Nat) : Int).toNat * 10 = z * 10 := fun z => by rw [Int.toNat_natCast, Nat.zero_add]
  refine ⟨by omega, by omega, withAddr_intro rfl ?_⟩
  rw [e]
  refine ldE (fun o ho => D.get hi ho) ⟨by omega, by omega, withAddr_intro rfl ?_⟩
  rw [e]
  refine ldE (fun o ho => D.get hj ho) ?_
  refine S_cmpE (x := enAt F d[i]!) (y := enAt F d[j]!) fun h' l' => ⟨_, rfl, ?_⟩
  have := k h' (D.mv l') (A.le l')
  have e3 : ltOE F d[i]! d[j]! = decide (cmpI (enAt F d[i]!).ord (enAt F d[j]!).ord < 0) := by unfold ltOE; rw [decide_eq_decide]; exact cmpI_lt.symm
  rw [e3] at this
  exact this
/-- two of it are swapped -/
theorem swapAE (D : DaE F g0 B m n sp h d) (e0 : g0 B = none) {X Y : Int} {i j : Nat} (hX : X = (i : Int)) (hY : Y = (j : Int)) (hi : i < n) (hj : j < n) {J : Heap → Prop}
    (k : ∀ h', DaE F g0 B m n sp h' (Go.Sort.swp d j i) → J h') :
    (0 : Int) ≤ X ∧ X < (n : Int) ∧ withAddr (some ⟨B, 0, none⟩) fun b o => LdJ10 h b (o + X.toNat * 10) fun x0 x1 x2 x3 x4 x5 x6 x7 x8 x9 => (0 : Int) ≤ Y ∧ Y < (n : Int) ∧ withAddr (some ⟨B, 0, none⟩) fun b o => LdJ10 h b (o + Y.toNat * 10) fun y0 y1 y2 y3 y4 y5 y6 y7 y8 y9 =>
      (0 : Int) ≤ Y ∧ Y < (n : Int) ∧ withAddr (some ⟨B, 0, none⟩) fun b o => h.canSt b (o + Y.toNat * 10) 10 ∧ (0 : Int) ≤ X ∧ X < (n : Int) ∧ withAddr (some ⟨B, 0, none⟩) fun b1 o1 => (h.setN b (o + Y.toNat * 10) [.int .i64 x0, .int .i64 x1, .int .i64 x2, .int .i64 x3, .int .i64 x4, .int .i64 x5, .int .i64 x6, .int .i64 x7, .int .i64 x8, .int .i64 x9]).canSt b1 (o1 + X.toNat * 10) 10 ∧
        J ((h.setN b (o + Y.toNat * 10) [.int .i64 x0, .int .i64 x1, .int .i64 x2, .int .i64 x3, .int .i64 x4, .int .i64 x5, .int .i64 x6, .int .i64 x7, .int .i64 x8, .int .i64 x9]).setN b1 (o1 + X.toNat * 10) [.int .i64 y0, .int .i64 y1, .int .i64 y2, .int .i64 y3, .int .i64 y4, .int .i64 y5, .int .i64 y6, .int .i64 y7, .int .i64 y8, .int .i64 y9]) := by
  subst hX hY
  have D1 := D.st e0 hj (x := d[i]!)
  have D2 := D1.st e0 hi (x := d[j]!)
  have e : ∀ z : Nat, 0 + ((z : Nat) : Int).toNat * 10 = z * 10 := fun z => by rw [Int.toNat_natCast, Nat.zero_add]
  refine ⟨by omega, by omega, withAddr_intro rfl ?_⟩
  rw [e]
  refine ldE (fun o ho => D.get hi ho) ⟨by omega, by omega, withAddr_intro rfl ?_⟩
  rw [e]
  refine ldE (fun o ho => D.get hj ho) ⟨by omega, by omega, withAddr_intro rfl ?_⟩
  rw [e]
  refine ⟨D.can hj, by omega, by omega, withAddr_intro rfl ?_⟩
  rw [e]
  exact ⟨D1.can hi, k _ D2⟩
theorem swapRE (D : DaE F g0 B m n sp h d) (e0 : g0 B = none) {r : Nat} {vs : List Value} (A : At h r vs) (hbr : B ≠ r) {X Y : Int} {i j : Nat} (hX : X = (i : Int)) (hY : Y = (j : Int)) (hi : i < n) (hj : j < n) {J : Heap → Prop}
    (k : ∀ h', DaE F g0 B m n sp h' (Go.Sort.swp d j i) → At h' r vs → J h') :
    (0 : Int) ≤ X ∧ X < (n : Int) ∧ withAddr (some ⟨B, 0, none⟩) fun b o => LdJ10 h b (o + X.toNat * 10) fun x0 x1 x2 x3 x4 x5 x6 x7 x8 x9 => (0 : Int) ≤ Y ∧ Y < (n : Int) ∧ withAddr (some ⟨B, 0, none⟩) fun b o => LdJ10 h b (o + Y.toNat * 10) fun y0 y1 y2 y3 y4 y5 y6 y7 y8 y9 =>
      (0 : Int) ≤ Y ∧ Y < (n : Int) ∧ withAddr (some ⟨B, 0, none⟩) fun b o => h.canSt b (o + Y.toNat * 10) 10 ∧ (0 : Int) ≤ X ∧ X < (n : Int) ∧ withAddr (some ⟨B, 0, none⟩) fun b1 o1 => (h.setN b (o + Y.toNat * 10) [.int .i64 x0, .int .i64 x1, .int .i64 x2, .int .i64 x3, .int .i64 x4, .int .i64 x5, .int .i64 x6, .int .i64 x7, .int .i64 x8, .int .i64 x9]).canSt b1 (o1 + X.toNat * 10) 10 ∧
        J ((h.setN b (o + Y.toNat * 10) [.int .i64 x0, .int .i64 x1, .int .i64 x2, .int .i64 x3, .int .i64 x4, .int .i64 x5, .int .i64 x6, .int .i64 x7, .int .i64 x8, .int .i64 x9]).setN b1 (o1 + X.toNat * 10) [.int .i64 y0, .int .i64 y1, .int .i64 y2, .int .i64 y3, .int .i64 y4, .int .i64 y5, .int .i64 y6, .int .i64 y7, .int .i64 y8, .int .i64 y9]) := by
  subst hX hY
  have D1 := D.st e0 hj (x := d[i]!)
  have D2 := D1.st e0 hi (x := d[j]!)
  have e : ∀ z : Nat, 0 + ((z : Nat) : Int).toNat * 10 = z * 10 := fun z => by rw [Int.toNat_natCast, Nat.zero_add]
  refine ⟨by omega, by omega, withAddr_intro rfl ?_⟩
  rw [e]
  refine ldE (fun o ho => D.get hi ho) ⟨by omega, by omega, withAddr_intro rfl ?_⟩
  rw [e]
  refine ldE (fun o ho => D.get hj ho) ⟨by omega, by omega, withAddr_intro rfl ?_⟩
  rw [e]
  refine ⟨D.can hj, by omega, by omega, withAddr_intro rfl ?_⟩
  rw [e]
  exact ⟨D1.can hi, k _ D2 ((A.set_ne (Ne.symm hbr)).set_ne (Ne.symm hbr))⟩
end
end Go.Proofs.Ytjihfieahkbohaa

/- A list put in order: by insertion, by a heap; turned about. -/
namespace Go.Proofs.Ytjihfieahkbohaa
open Go Go.Sy Go.Value Go.Sort
set_option linter.unusedVariables false
set_option linter.unusedSimpArgs false

theorem wp1E {j : Nat} (h : j ≤ 4000000000) : IntKind.wrap .i64 ((j : Int) + 1) = ((j + 1 : Nat) : Int) := by rw [wrap_i64_id (by omega) (by omega)]; omega
theorem wm1E {j : Nat} (h : j ≤ 4000000000) : IntKind.wrap .i64 (((j + 1 : Nat) : Int) - 1) = (j : Int) := by rw [wrap_i64_id (by omega) (by omega)]; omega
theorem widE {x : Int} (h1 : -4000000000 ≤ x) (h2 : x ≤ 40000000000) : IntKind.wrap .i64 x = x := wrap_i64_id (by omega) (by omega)

section
variable {g0 : Heap} {B m n c : Nat} {sp : List Value} {left : List En} {K : Value → Heap → Prop} (e0 : g0 B = none) (hm : left.length = m) (I : True) (hn : n ≤ 1000000)
include e0 hm I hn
/-! by insertion -/
theorem ins_inE {a b i : Nat} (hi : i < n) : ∀ (j : Nat) (h : Heap) (d : Array Int), DaE left g0 B m n sp h d → j ≤ i →
    (∀ h', DaE left g0 B m n sp h' (insInner (ltOE left) a j d) → L_slices_insertionSortCmpFunc_deal_entry_0 (some ⟨B, 0, none⟩) n c (a : Int) (b : Int) ((i + 1 : Nat) : Int) h' K) →
    L_slices_insertionSortCmpFunc_deal_entry_1 (some ⟨B, 0, none⟩) n c (a : Int) (b : Int) (i : Int) (j : Int) h K := by
  intro j
  induction j with
  | zero =>
    intro h d D hj k
    refine L_slices_insertionSortCmpFunc_deal_entry_1r _ _ _ _ _ _ _ _ _ ?_
    unfold L_slices_insertionSortCmpFunc_deal_entry_1T
    rw [wp1E (by omega)]
    exact Br.no (by simp) (k h D)
  | succ j ih =>
    intro h d D hj k
    refine L_slices_insertionSortCmpFunc_deal_entry_1r _ _ _ _ _ _ _ _ _ ?_
    unfold L_slices_insertionSortCmpFunc_deal_entry_1T
    rw [wp1E (by omega), wm1E (by omega)]
    rw [insInner] at k
    refine Br.dec (fun g => lessAE D hm I rfl rfl (by omega) (by omega) fun h' D' => Br.intro (fun g2 => ?_) fun g2 => ?_) fun g => ?_
    · refine swapAE (J := fun h => L_slices_insertionSortCmpFunc_deal_entry_1 (some ⟨B, 0, none⟩) n c (a : Int) (b : Int) (i : Int) (j : Int) h K) D' e0 rfl rfl (by omega) (by omega) fun h'' D'' => ih h'' _ D'' (by omega) ?_
      rw [if_pos (by rw [g2, Bool.and_true]; exact decide_eq_true (by omega))] at k
      exact k
    · rw [if_neg (by rw [g2]; simp)] at k
      exact k h' D'
    · rw [if_neg (by simp; omega)] at k
      exact k h D
theorem ins_outE {a b : Nat} (hb : b ≤ n) : ∀ (q i : Nat) (h : Heap) (d : Array Int), b - i ≤ q → DaE left g0 B m n sp h d →
    (∀ h', DaE left g0 B m n sp h' (insOuter (ltOE left) a b i d) → K (tuple #[]) h') → i ≤ 2000000 →
    L_slices_insertionSortCmpFunc_deal_entry_0 (some ⟨B, 0, none⟩) n c (a : Int) (b : Int) (i : Int) h K := by
  intro q
  induction q with
  | zero =>
    intro i h d hq D k hi
    refine L_slices_insertionSortCmpFunc_deal_entry_0r _ _ _ _ _ _ _ _ ?_
    unfold L_slices_insertionSortCmpFunc_deal_entry_0T
    rw [insOuter, if_neg (by omega)] at k
    exact Br.no (by simp; omega) (Ret.mk (k h D))
  | succ q ih =>
    intro i h d hq D k hi
    refine L_slices_insertionSortCmpFunc_deal_entry_0r _ _ _ _ _ _ _ _ ?_
    unfold L_slices_insertionSortCmpFunc_deal_entry_0T
    rw [insOuter] at k
    refine Br.dec (fun g => ins_inE e0 hm I hn (by omega) i h d D (Nat.le_refl _) fun h' D' => ih (i + 1) h' _ (by omega) D' ?_ (by omega)) fun g => ?_
    · rw [if_pos (by omega)] at k; exact k
    · rw [if_neg (by omega)] at k; exact Ret.mk (k h D)
theorem S_insertionE {h : Heap} {d : Array Int} {a b : Nat} (ha : a ≤ n) (hb : b ≤ n) (D : DaE left g0 B m n sp h d) (k : ∀ h', DaE left g0 B m n sp h' (insertionSort (ltOE left) d a b) → K (tuple #[]) h') :
    CallA Try.prog fn_slices_insertionSortCmpFunc_deal_entry [slice (some ⟨B, 0, none⟩) n c, .int .i64 (a : Int), .int .i64 (b : Int), func (Fn.func fn_pdeal_Book_All_1) #[] #[]] h K := by
  refine F_slices_insertionSortCmpFunc_deal_entry _ _ _ _ _ _ _ ?_
  unfold F_slices_insertionSortCmpFunc_deal_entryT
  rw [wp1E (by omega)]
  exact ins_outE e0 hm I hn hb _ _ _ _ (Nat.le_refl _) D k (by omega)
/-! by a heap -/
theorem sift_inE {hi first : Nat} (hf : first + hi ≤ n) : ∀ (q root : Nat) (h : Heap) (d : Array Int), hi - root ≤ q → root ≤ 1000000 → DaE left g0 B m n sp h d →
    (∀ h', DaE left g0 B m n sp h' (siftDown (ltOE left) hi first root d) → K (tuple #[]) h') →
    L_slices_siftDownCmpFunc_deal_entry_0 (some ⟨B, 0, none⟩) n c (hi : Int) (first : Int) (root : Int) h K := by
  intro q
  induction q with
  | zero =>
    intro root h d hq hr D k
    refine L_slices_siftDownCmpFunc_deal_entry_0r _ _ _ _ _ _ _ _ ?_
    unfold L_slices_siftDownCmpFunc_deal_entry_0T
    rw [siftDown, dif_pos (by omega)] at k
    rw [widE (x := 2 * (root : Int)) (by omega) (by omega), widE (x := 2 * (root : Int) + 1) (by omega) (by omega)]
    exact Br.yes (decide_eq_true (by omega)) (Ret.mk (k h D))
  | succ q ih =>
    intro root h d hq hr D k
    refine L_slices_siftDownCmpFunc_deal_entry_0r _ _ _ _ _ _ _ _ ?_
    unfold L_slices_siftDownCmpFunc_deal_entry_0T
    have w1 : IntKind.wrap .i64 (2 * (root : Int)) = ((2 * root : Nat) : Int) := by rw [widE (by omega) (by omega)]; omega
    have w2 : IntKind.wrap .i64 (((2 * root : Nat) : Int) + 1) = ((2 * root + 1 : Nat) : Int) := by rw [widE (by omega) (by omega)]; omega
    have w3 : IntKind.wrap .i64 (((2 * root + 1 : Nat) : Int) + 1) = ((2 * root + 2 : Nat) : Int) := by rw [widE (by omega) (by omega)]; omega
    have w4 : IntKind.wrap .i64 ((first : Int) + ((2 * root + 1 : Nat) : Int)) = ((first + (2 * root + 1) : Nat) : Int) := by rw [widE (by omega) (by omega)]; omega
    have w5 : IntKind.wrap .i64 ((first : Int) + ((2 * root + 2 : Nat) : Int)) = ((first + (2 * root + 2) : Nat) : Int) := by rw [widE (by omega) (by omega)]; omega
    have w6 : IntKind.wrap .i64 (((first + (2 * root + 1) : Nat) : Int) + 1) = ((first + (2 * root + 1) + 1 : Nat) : Int) := by rw [widE (by omega) (by omega)]; omega
    have w7 : IntKind.wrap .i64 ((first : Int) + (root : Int)) = ((first + root : Nat) : Int) := by rw [widE (by omega) (by omega)]; omega
    rw [w1, w2, w3, w4, w5, w6, w7]
    rw [siftDown] at k
    have low : ∀ (h : Heap), DaE left g0 B m n sp h d → 2 * root + 1 < hi →
        (∀ h', DaE left g0 B m n sp h' (if !ltOE left d[first + root]! d[first + (2 * root + 1)]! then d else siftDown (ltOE left) hi first (2 * root + 1) (swp d (first + root) (first + (2 * root + 1)))) → K (tuple #[]) h') →
        ∀ h', DaE left g0 B m n sp h' d → Br (!ltOE left d[first + root]! d[first + (2 * root + 1)]!) (Ret h' K (tuple #[])) (∀ h'', DaE left g0 B m n sp h'' (swp d (first + root) (first + (2 * root + 1))) → L_slices_siftDownCmpFunc_deal_entry_0 (some ⟨B, 0, none⟩) n c (hi : Int) (first : Int) ((2 * root + 1 : Nat) : Int) h'' K) := by
      intro h D g k h' D'
      refine Br.intro (fun g2 => ?_) fun g2 => fun h'' D'' => ?_
      · rw [if_pos g2] at k; exact Ret.mk (k h' D')
      · rw [if_neg (by rw [g2]; simp)] at k
        exact ih _ h'' _ (by omega) (by omega) D'' k
    refine Br.dec (fun g => ?_) fun g => ?_
    · rw [dif_pos (by omega)] at k
      exact Ret.mk (k h D)
    rw [dif_neg (by omega)] at k
    refine Br.dec (fun g1 => lessAE D hm I rfl rfl (by omega) (by omega) fun h' D' => Br.intro (fun g2 => ?_) fun g2 => ?_) fun g1 => ?_
    · rw [if_pos (by rw [g2, Bool.and_true]; exact decide_eq_true (by omega))] at k
      refine lessNE D' hm I rfl rfl (by omega) (by omega) fun h2 D2 => Br.intro (fun g3 => ?_) fun g3 => ?_
      · rw [if_pos g3] at k; exact Ret.mk (k h2 D2)
      rw [if_neg (by rw [g3]; simp), dif_pos (by omega)] at k
      exact swapAE (J := fun h => L_slices_siftDownCmpFunc_deal_entry_0 (some ⟨B, 0, none⟩) n c (hi : Int) (first : Int) ((2 * root + 2 : Nat) : Int) h K) D2 e0 rfl rfl (by omega) (by omega) fun h3 D3 => ih _ h3 _ (by omega) (by omega) D3 k
    · rw [if_neg (by rw [g2, Bool.and_false]; simp)] at k
      refine lessNE D' hm I rfl rfl (by omega) (by omega) fun h2 D2 => Br.intro (fun g3 => ?_) fun g3 => ?_
      · rw [if_pos g3] at k; exact Ret.mk (k h2 D2)
      rw [if_neg (by rw [g3]; simp)] at k
      exact swapAE (J := fun h => L_slices_siftDownCmpFunc_deal_entry_0 (some ⟨B, 0, none⟩) n c (hi : Int) (first : Int) ((2 * root + 1 : Nat) : Int) h K) D2 e0 rfl rfl (by omega) (by omega) fun h3 D3 => ih _ h3 _ (by omega) (by omega) D3 k
    · rw [if_neg (by rw [decide_eq_false (by omega)]; simp)] at k
      refine lessNE D hm I rfl rfl (by omega) (by omega) fun h2 D2 => Br.intro (fun g3 => ?_) fun g3 => ?_
      · rw [if_pos g3] at k; exact Ret.mk (k h2 D2)
      rw [if_neg (by rw [g3]; simp)] at k
      exact swapAE (J := fun h => L_slices_siftDownCmpFunc_deal_entry_0 (some ⟨B, 0, none⟩) n c (hi : Int) (first : Int) ((2 * root + 1 : Nat) : Int) h K) D2 e0 rfl rfl (by omega) (by omega) fun h3 D3 => ih _ h3 _ (by omega) (by omega) D3 k
theorem S_siftE {h : Heap} {d : Array Int} {lo hi first : Nat} (hf : first + hi ≤ n) (hl : lo ≤ 1000000) (D : DaE left g0 B m n sp h d) (k : ∀ h', DaE left g0 B m n sp h' (siftDown (ltOE left) hi first lo d) → K (tuple #[]) h') :
    CallA Try.prog fn_slices_siftDownCmpFunc_deal_entry [slice (some ⟨B, 0, none⟩) n c, .int .i64 (lo : Int), .int .i64 (hi : Int), .int .i64 (first : Int), func (Fn.func fn_pdeal_Book_All_1) #[] #[]] h K := by
  refine F_slices_siftDownCmpFunc_deal_entry _ _ _ _ _ _ _ _ ?_
  unfold F_slices_siftDownCmpFunc_deal_entryT
  exact sift_inE e0 hm I hn hf _ _ _ _ (Nat.le_refl _) hl D k
theorem heap_popE {first : Nat} : ∀ (q : Nat) (h : Heap) (d : Array Int), first + q ≤ n → DaE left g0 B m n sp h d →
    (∀ h', DaE left g0 B m n sp h' (heapPop (ltOE left) first q d) → K (tuple #[]) h') →
    L_slices_heapSortCmpFunc_deal_entry_1 (some ⟨B, 0, none⟩) n c (first : Int) 0 ((q : Int) - 1) h K := by
  intro q
  induction q with
  | zero =>
    intro h d hf D k
    refine L_slices_heapSortCmpFunc_deal_entry_1r _ _ _ _ _ _ _ _ ?_
    unfold L_slices_heapSortCmpFunc_deal_entry_1T
    exact Br.no (by decide) (Ret.mk (k h D))
  | succ q ih =>
    intro h d hf D k
    refine L_slices_heapSortCmpFunc_deal_entry_1r _ _ _ _ _ _ _ _ ?_
    unfold L_slices_heapSortCmpFunc_deal_entry_1T
    have w0 : (((q + 1 : Nat) : Int) - 1) = (q : Int) := by omega
    have w1 : IntKind.wrap .i64 ((first : Int) + (q : Int)) = ((first + q : Nat) : Int) := by rw [widE (by omega) (by omega)]; omega
    have w2 : IntKind.wrap .i64 ((q : Int) - 1) = (q : Int) - 1 := widE (by omega) (by omega)
    rw [w0, w1, w2]
    rw [heapPop] at k
    refine Br.yes (decide_eq_true (by omega)) (swapAE (J := fun h => CallA Try.prog fn_slices_siftDownCmpFunc_deal_entry [slice (some ⟨B, 0, none⟩) n c, .int .i64 0, .int .i64 (q : Int), .int .i64 (first : Int), func (Fn.func fn_pdeal_Book_All_1) #[] #[]] h fun v h => v = tuple #[] ∧ L_slices_heapSortCmpFunc_deal_entry_1 (some ⟨B, 0, none⟩) n c (first : Int) 0 ((q : Int) - 1) h K) D e0 rfl rfl (by omega) (by omega) fun h1 D1 => ?_)
    exact S_siftE (lo := 0) e0 hm I hn (by omega) (by omega) D1 fun h2 D2 => ⟨rfl, ih h2 _ (by omega) D2 k⟩
theorem heap_buildE {first hi : Nat} (hf : first + hi ≤ n) : ∀ (q : Nat) (h : Heap) (d : Array Int), q ≤ 1000000 → DaE left g0 B m n sp h d →
    (∀ h', DaE left g0 B m n sp h' (heapPop (ltOE left) first hi (heapBuild (ltOE left) hi first q d)) → K (tuple #[]) h') →
    L_slices_heapSortCmpFunc_deal_entry_0 (some ⟨B, 0, none⟩) n c (first : Int) 0 (hi : Int) ((q : Int) - 1) h K := by
  intro q
  induction q with
  | zero =>
    intro h d hq D k
    refine L_slices_heapSortCmpFunc_deal_entry_0r _ _ _ _ _ _ _ _ _ ?_
    unfold L_slices_heapSortCmpFunc_deal_entry_0T
    rw [widE (x := (hi : Int) - 1) (by omega) (by omega)]
    rw [heapBuild] at k
    exact Br.no (by decide) (heap_popE e0 hm I hn _ _ _ hf D k)
  | succ q ih =>
    intro h d hq D k
    refine L_slices_heapSortCmpFunc_deal_entry_0r _ _ _ _ _ _ _ _ _ ?_
    unfold L_slices_heapSortCmpFunc_deal_entry_0T
    have w0 : (((q + 1 : Nat) : Int) - 1) = (q : Int) := by omega
    have w2 : IntKind.wrap .i64 ((q : Int) - 1) = (q : Int) - 1 := widE (by omega) (by omega)
    rw [w0, w2]
    rw [heapBuild] at k
    refine Br.yes (decide_eq_true (by omega)) ?_
    exact S_siftE (lo := q) e0 hm I hn hf (by omega) D fun h2 D2 => ⟨rfl, ih h2 _ (by omega) D2 k⟩
theorem S_heapE {h : Heap} {d : Array Int} {a b : Nat} (hab : a < b) (hb : b ≤ n) (D : DaE left g0 B m n sp h d) (k : ∀ h', DaE left g0 B m n sp h' (heapSort (ltOE left) d a b) → K (tuple #[]) h') :
    CallA Try.prog fn_slices_heapSortCmpFunc_deal_entry [slice (some ⟨B, 0, none⟩) n c, .int .i64 (a : Int), .int .i64 (b : Int), func (Fn.func fn_pdeal_Book_All_1) #[] #[]] h K := by
  refine F_slices_heapSortCmpFunc_deal_entry _ _ _ _ _ _ _ ?_
  unfold F_slices_heapSortCmpFunc_deal_entryT
  have w1 : IntKind.wrap .i64 ((b : Int) - (a : Int)) = ((b - a : Nat) : Int) := by rw [widE (by omega) (by omega)]; omega
  have w2 : IntKind.wrap .i64 (((b - a : Nat) : Int) - 1) = ((b - a - 1 : Nat) : Int) := by rw [widE (by omega) (by omega)]; omega
  have w3 : Int.tdiv ((b - a - 1 : Nat) : Int) 2 = (((b - a - 1) / 2 + 1 : Nat) : Int) - 1 := by
    rw [Int.tdiv_eq_ediv_of_nonneg (by omega)]; omega
  rw [w1, w2, w3, widE (by omega) (by omega)]
  unfold heapSort at k
  exact heap_buildE e0 hm I hn (by omega) _ _ _ (by omega) D k
/-! turned about -/
omit hm I in
theorem rev_inE : ∀ (q i j : Nat) (h : Heap) (d : Array Int), j - i ≤ q → i ≤ 1000000 → j < n → DaE left g0 B m n sp h d →
    (∀ h', DaE left g0 B m n sp h' (reverseLoop i j d) → K (tuple #[]) h') →
    L_slices_reverseRangeCmpFunc_deal_entry_0 (some ⟨B, 0, none⟩) n c (i : Int) (j : Int) h K := by
  intro q
  induction q with
  | zero =>
    intro i j h d hq hi hj D k
    refine L_slices_reverseRangeCmpFunc_deal_entry_0r _ _ _ _ _ _ _ ?_
    unfold L_slices_reverseRangeCmpFunc_deal_entry_0T
    rw [reverseLoop, if_neg (by omega)] at k
    exact Br.no (decide_eq_false (by omega)) (Ret.mk (k h D))
  | succ q ih =>
    intro i j h d hq hi hj D k
    refine L_slices_reverseRangeCmpFunc_deal_entry_0r _ _ _ _ _ _ _ ?_
    unfold L_slices_reverseRangeCmpFunc_deal_entry_0T
    rw [reverseLoop] at k
    refine Br.dec (fun g => ?_) fun g => ?_
    · rw [if_pos (by omega)] at k
      have w2 : IntKind.wrap .i64 ((j : Int) - 1) = ((j - 1 : Nat) : Int) := by rw [widE (by omega) (by omega)]; omega
      rw [wp1E (by omega), w2]
      exact swapAE (J := fun h => L_slices_reverseRangeCmpFunc_deal_entry_0 (some ⟨B, 0, none⟩) n c ((i + 1 : Nat) : Int) ((j - 1 : Nat) : Int) h K) D e0 rfl rfl (by omega) (by omega) fun h1 D1 => ih _ _ h1 _ (by omega) (by omega) (by omega) D1 k
    · rw [if_neg (by omega)] at k
      exact Ret.mk (k h D)
omit hm I in
theorem S_reverseE {h : Heap} {d : Array Int} {a b : Nat} (hab : a < b) (hb : b ≤ n) (D : DaE left g0 B m n sp h d) (k : ∀ h', DaE left g0 B m n sp h' (reverseRange d a b) → K (tuple #[]) h') :
    CallA Try.prog fn_slices_reverseRangeCmpFunc_deal_entry [slice (some ⟨B, 0, none⟩) n c, .int .i64 (a : Int), .int .i64 (b : Int), func (Fn.func fn_pdeal_Book_All_1) #[] #[]] h K := by
  refine F_slices_reverseRangeCmpFunc_deal_entry _ _ _ _ _ _ _ ?_
  unfold F_slices_reverseRangeCmpFunc_deal_entryT
  have w2 : IntKind.wrap .i64 ((b : Int) - 1) = ((b - 1 : Nat) : Int) := by rw [widE (by omega) (by omega)]; omega
  rw [w2]
  exact rev_inE e0 hn _ _ _ _ _ (Nat.le_refl _) (by omega) (by omega) D k
end
end Go.Proofs.Ytjihfieahkbohaa
