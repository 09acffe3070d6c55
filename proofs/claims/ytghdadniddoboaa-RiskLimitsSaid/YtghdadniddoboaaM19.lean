import Derived.Test.YtghdadniddoboaaM18
import Derived.Test.YtghdadniddoboaaM05
import Derived.Test.YtghdadniddoboaaM06
/- Operations of a guard, and the laws' first question. -/
namespace Go.Proofs.Ytghdadniddoboaa
open Go Go.Sy Go.Value
set_option linter.unusedVariables false
set_option linter.unusedSimpArgs false

def GuF.E (x : GuF) (N b : Nat) : Bool := LWD x.p x.B x.f N b || b == x.fb
section
variable {h0 h : Heap} {K : Value → Heap → Prop} {x : GuF} {u : Gu}
theorem GR.outE (G : GR h0 h x u) {b : Nat} (e : h b = none) : x.E u.S.M.length b = false := by
  unfold GuF.E
  rw [Bool.or_eq_false_iff]
  exact ⟨G.W.out e, by simpa using fun e2 => G.f.ne e e2.symm⟩
theorem GD.top (G : GD h0 h x u) : h0.le (h.wo (x.E u.S.M.length)) ∧ GD (h.wo (x.E u.S.M.length)) h { x with c := h.wo (x.E u.S.M.length), k := h.wo (LWD x.p x.B x.f u.S.M.length) } u := by
  have lc : x.c.le (h.wo (x.E u.S.M.length)) := le_wo G.ch fun b hb => by
    unfold GuF.E at hb
    rw [Bool.or_eq_true] at hb
    rcases hb with hb | hb
    · exact none_of_le G.ck (G.outK hb)
    · have hb : b = x.fb := by simpa using hb
      rw [hb]; exact G.nf
  refine ⟨Heap.le_trans G.base lc, ?_⟩
  exact { base := Heap.le_refl _, ck := wo_wo fun b hb => by unfold GuF.E at hb; rw [Bool.or_eq_false_iff] at hb; exact hb.1, nf := wo_none (by unfold GuF.E; simp), ag := G.ag.le lc, al := G.al.le lc, il := fun y hy => (G.il y hy).le lc, el := G.el, af := G.f.wo (noD fun hd => G.af.ne (G.outK hd) rfl), ew := G.ew, W := G.W.off, ok := G.ok, told := G.told }
theorem GD.topX (G : GD h0 h x u) : ∃ h1 y, h0.le h1 ∧ GD h1 h y u ∧ y.g = x.g ∧ y.p = x.p ∧ (∀ b xs, x.E u.S.M.length b = false → At h b xs → At h1 b xs) :=
  ⟨_, { x with c := h.wo (x.E u.S.M.length), k := h.wo (LWD x.p x.B x.f u.S.M.length) }, G.top.1, G.top.2, rfl, rfl, fun b xs e a => a.wo e⟩
theorem GD.relay (G : GD h0 h x u) {h' : Heap} (l : (h.wo fun b => b == x.p || b == x.B).le h') (LA : LedAt h' x.p x.B x.C x.sp u.S) : GD h0 h' x u := by
  have D3 : ∀ b, (b == x.p || b == x.B) = true → b = x.p ∨ b = x.B := fun b hb => by simpa using hb
  have lk : x.k.le h' := Heap.le_trans (le_wo G.W.base fun b hb => by
    rcases D3 b hb with rfl | rfl
    · exact G.W.np
    · exact G.W.nB) l
  refine { G with W := { G.W with LA := LA, base := lk, X := { G.W.X with fam := G.W.X.fam.mv fun b xs hb a => (a.wo ?_).le l } } }
  refine noD fun hd => ?_
  obtain ⟨i, hi, rfl⟩ := famD_t hb
  have := G.W.dp i hi
  rcases D3 _ hd with e | e
  · exact this.1 e
  · exact this.2 e
theorem S_do10 (G : GD h0 h x u) {o : OpR} (Xb : Pos h0 o.p o.b) (hI : OpI o) (hb : o.b.length ≤ 20) (k : ∀ h' x', GD h0 h' x' (doR u o).2 → x'.g = x.g → x'.p = x.p → K (.int .i64 (doR u o).1) h') :
    CallA Try.prog fn_law10_do [pointer (some ⟨x.g, 0, none⟩), agg #[.int .i64 o.d, .int .i64 o.m, .int .i64 o.c, .int .i64 o.g, .int .i64 o.a, .int .i64 o.gv, .slice o.p o.b.length o.cp]] h K := by
  refine F_law10_do _ _ _ _ _ _ _ _ _ _ _ _ ?_
  unfold F_law10_doT
  refine newB_at fun r h1 zr l1 A => ⟨_, A.cell rfl, ?_⟩
  have G1 := G.le l1
  unfold doR at k
  by_cases d0 : o.d = 0
  · rw [if_pos d0] at k
    exact Br.yes (by simpa using d0) ⟨_, A.cell rfl, _, A.cell rfl, _, A.cell rfl, S_gIn G1 hI.a fun h' x' G' e1 e2 => ⟨_, rfl, Ret.mk (k h' x' G' e1 e2)⟩⟩
  rw [if_neg d0] at k
  refine Br.no (by simpa using d0) ?_
  by_cases d1 : o.d = 1
  · rw [if_pos d1] at k
    exact Br.yes (by simpa using d1) ⟨_, A.cell rfl, _, A.cell rfl, _, A.cell rfl, S_gOut G1 hI.a fun h' x' G' e1 e2 => ⟨_, rfl, Ret.mk (k h' x' G' e1 e2)⟩⟩
  rw [if_neg d1] at k
  refine Br.no (by simpa using d1) ?_
  by_cases d2 : o.d = 2
  · rw [if_pos d2] at k
    exact Br.yes (by simpa using d2) ⟨_, A.cell rfl, _, A.cell rfl, S_gRate G1 fun h' x' G' e1 e2 => ⟨_, rfl, Ret.mk (k h' x' G' e1 e2)⟩⟩
  rw [if_neg d2] at k
  refine Br.no (by simpa using d2) ?_
  by_cases d3 : o.d = 3
  · rw [if_pos d3] at k
    exact Br.yes (by simpa using d3) ⟨_, A.cell rfl, _, A.cell rfl, S_gCut G1 fun h' x' G' e1 e2 => ⟨_, rfl, Ret.mk (k h' x' G' e1 e2)⟩⟩
  rw [if_neg d3] at k
  refine Br.no (by simpa using d3) ?_
  by_cases d5 : o.d = 5
  · rw [if_pos d5] at k
    exact Br.yes (by simpa using d5) ⟨_, _, _, A.cell rfl, S_gTake G1 Xb rfl (by omega) hI.b fun h' x' G' e1 e2 => ⟨_, rfl, Ret.mk (k h' x' G' e1 e2)⟩⟩
  rw [if_neg d5] at k
  refine Br.no (by simpa using d5) ?_
  by_cases d6 : o.d = 6
  · rw [if_pos d6] at k
    exact Br.yes (by simpa using d6) ⟨_, A.cell rfl, _, A.cell rfl, _, A.cell rfl, _, A.cell rfl, _, A.cell rfl, S_gSwap G1 hI.a hI.gv fun h' x' G' e1 e2 => ⟨_, rfl, Ret.mk (k h' x' G' e1 e2)⟩⟩
  rw [if_neg d6] at k
  exact Br.no (by simpa using d6) ⟨_, _, _, A.cell rfl, S_gBook G1 Xb rfl (by omega) hI.b fun h' x' G' e1 e2 => ⟨_, rfl, Ret.mk (k h' x' G' e1 e2)⟩⟩
end
section
variable {h : Heap} {K : Value → Heap → Prop}
theorem S_large10 {tp : Option Addr} {tn tc : Nat} {lq : Option Addr} {ls : List LmV} {ln lc : Nat} (Xl : Arr lmV h lq ls) (hl : ls.length = ln) (hls : ln ≤ 9223372036854775807) {q : Option Addr} {l : List OpR} {n c : Nat} (X : Ops h q l) (hn : l.length = n) (hs : n ≤ 9223372036854775807)
    (k : ∀ b : Bool, (b = false → n ≤ 30 ∧ tn ≤ 20 ∧ ln ≤ 20 ∧ (∀ x ∈ l, x.b.length ≤ 20) ∧ ∀ y ∈ ls, y.l.sh.length ≤ 20) → K (.bool b) h) :
    CallA Try.prog fn_law10_large [slice tp tn tc, slice lq ln lc, slice q n c] h K := by
  refine F_law10_large _ _ _ _ _ _ _ _ _ _ _ ?_
  unfold F_law10_largeT
  have w2 : ∀ {j n : Nat}, n ≤ 9223372036854775807 → j < n → IntKind.wrap .i64 ((j : Int) + 1) = ((j + 1 : Nat) : Int) := fun h1 h2 => by rw [wrap_i64_id (by omega) (by omega)]; omega
  have loop1 : (∀ x ∈ l, x.b.length ≤ 20) → ∀ (m j : Nat), m + j = ln → (∀ y ∈ ls.take j, y.l.sh.length ≤ 20) → L_law10_large_1 tp tn tc lq ln lc q n c (ln : Int) (j : Int) h K := by
    intro hb m
    induction m with
    | zero =>
      intro j hj e
      refine L_law10_large_1r _ _ _ _ _ _ _ _ _ _ _ _ _ ?_
      unfold L_law10_large_1T
      rw [List.take_of_length_le (by omega)] at e
      refine Br.no (by simp; omega) (Br.dec (fun _ => Ret.mk (k true fun e => by cases e)) fun g1 => Br.dec (fun _ => Ret.mk (k true fun e => by cases e)) fun g2 => Ret.mk (k _ fun g3 => ?_))
      have := of_decide_eq_false g3
      exact ⟨by omega, by omega, by omega, hb, e⟩
    | succ m ih =>
      intro j hj e
      refine L_law10_large_1r _ _ _ _ _ _ _ _ _ _ _ _ _ ?_
      unfold L_law10_large_1T
      have hx : ls[j]? = some ls[j] := List.getElem?_eq_getElem (by omega)
      have htk : ls.take (j + 1) = ls.take j ++ [ls[j]] := by rw [List.take_add_one, hx]; rfl
      generalize ls[j] = y at *
      refine Br.yes (by simp; omega) (lx0 Xl hl rfl hx (Br.dec (fun _ => Ret.mk (k true fun e => by cases e)) fun g => ?_))
      rw [w2 hls (by omega)]
      refine ih (j + 1) (by omega) fun z hz => ?_
      rw [htk] at hz
      rcases List.mem_append.1 hz with hz | hz
      · exact e z hz
      · rw [List.mem_singleton] at hz; subst hz; omega
  have loop0 : ∀ (m j : Nat), m + j = n → (∀ x ∈ l.take j, x.b.length ≤ 20) → L_law10_large_0 tp tn tc lq ln lc q n c (n : Int) (j : Int) h K := by
    intro m
    induction m with
    | zero =>
      intro j hj e
      refine L_law10_large_0r _ _ _ _ _ _ _ _ _ _ _ _ _ ?_
      unfold L_law10_large_0T
      rw [List.take_of_length_le (by omega)] at e
      exact Br.no (by simp; omega) (loop1 e ln 0 rfl fun y hy => by simp at hy)
    | succ m ih =>
      intro j hj e
      refine L_law10_large_0r _ _ _ _ _ _ _ _ _ _ _ _ _ ?_
      unfold L_law10_large_0T
      have hx : l[j]? = some l[j] := List.getElem?_eq_getElem (by omega)
      have htk : l.take (j + 1) = l.take j ++ [l[j]] := by rw [List.take_add_one, hx]; rfl
      generalize l[j] = y at *
      refine Br.yes (by simp; omega) (ox6 X hn rfl hx (Br.dec (fun _ => Ret.mk (k true fun e => by cases e)) fun g => ?_))
      rw [w2 hs (by omega)]
      refine ih (j + 1) (by omega) fun z hz => ?_
      rw [htk] at hz
      rcases List.mem_append.1 hz with hz | hz
      · exact e z hz
      · rw [List.mem_singleton] at hz; subst hz; omega
  exact loop0 n 0 rfl fun x hx => by simp at hx
theorem made_n {T : List Cur} {n tn : Nat} {ls : List LmV} (g : 1 ≤ n ∧ n ≤ 16 ∧ newE T (newG n tn) ls = 0) : 1 ≤ (n : Int) ∧ (n : Int) ≤ 16 ∧ 1 ≤ (tn : Int) ∧ (tn : Int) ≤ 8 := by
  obtain ⟨g1, g2, g3⟩ := g
  unfold newE at g3
  by_cases e1 : tabE T ≠ 0
  · rw [if_pos e1] at g3; exact (e1 g3).elim
  rw [if_neg e1] at g3
  have e1 : tabE T = 0 := Classical.byContradiction e1
  by_cases e2 : (newG n tn).cur ≠ T.length
  · rw [if_pos e2] at g3; cases g3
  have e2 : (newG n tn).cur = T.length := Classical.byContradiction e2
  have e2 : tn = T.length := e2
  obtain ⟨t1, t8, _⟩ := tab_parts e1
  omega
theorem S_made10X {h0 : Heap} {T : List Cur} {tp : Option Addr} {tn tc : Nat} {q : Option Addr} {ls : List LmV} {n qc : Nat} (l0 : h0.le h) (CT : Curs h0 tp T) (hT : T.length = tn) (hts : tn ≤ 1000000) (A : Arr lmV h0 q ls) (hn : ls.length = n) (hs : n ≤ 1000000) (hI : ∀ y ∈ ls, LmI h0 y) (hsh : ∀ y ∈ ls, y.l.sh.length ≤ 1000000)
    (k0 : ¬ (1 ≤ n ∧ n ≤ 16 ∧ newE T (newG n tn) ls = 0) → ∀ h', h.le h' → K (pointer none) h') (k1 : ∀ h' x, GD h h' x (newU T (newG n tn) ls) → 1 ≤ n → n ≤ 16 → newE T (newG n tn) ls = 0 → (∀ b, x.cB b → h b = none) → K (pointer (some ⟨x.g, 0, none⟩)) h') :
    CallA Try.prog fn_law10_made [slice tp tn tc, slice q n qc] h K := by
  refine F_law10_made _ _ _ _ _ _ _ _ ?_
  unfold F_law10_madeT
  refine S_lNew (fun hb => ⟨_, _, rfl, Br.yes rfl (Ret.mk (k0 (fun g => hb (made_n g)) h h.le_refl))⟩) fun n' w' en ew n1 n16 w1 w8 h2 p B C sp l2 A2 np nB => ⟨_, _, rfl, Br.no rfl ?_⟩
  have en : n' = n := by omega
  have ew : w' = tn := by omega
  subst en ew
  exact S_rNewX l2 (CT.le (Heap.le_trans l0 l2)) hT hts A2 np nB (newG_ok n1 n16 w1 w8) (A.le l0) hn hs (fun y hy => (hI y hy).le l0) hsh (fun ne h' l' _ => ⟨_, _, rfl, Ret.mk (k0 (fun g => ne g.2.2) h' l')⟩) fun e h' x G ep fr => ⟨_, _, rfl, Ret.mk (k1 h' x G n1 n16 e fr)⟩
theorem S_made10 {h0 : Heap} {T : List Cur} {tp : Option Addr} {tn tc : Nat} {q : Option Addr} {ls : List LmV} {n qc : Nat} (l0 : h0.le h) (CT : Curs h0 tp T) (hT : T.length = tn) (hts : tn ≤ 1000000) (A : Arr lmV h0 q ls) (hn : ls.length = n) (hs : n ≤ 1000000) (hI : ∀ y ∈ ls, LmI h0 y) (hsh : ∀ y ∈ ls, y.l.sh.length ≤ 1000000)
    (k0 : ∀ h', h.le h' → K (pointer none) h') (k1 : ∀ h' x, GD h h' x (newU T (newG n tn) ls) → 1 ≤ n → n ≤ 16 → newE T (newG n tn) ls = 0 → K (pointer (some ⟨x.g, 0, none⟩)) h') :
    CallA Try.prog fn_law10_made [slice tp tn tc, slice q n qc] h K := S_made10X l0 CT hT hts A hn hs hI hsh (fun _ => k0) fun h' x G n1 n16 e _ => k1 h' x G n1 n16 e
end
/-! the first question -/
def gT : List Cur := [⟨⟨#[69, 85, 82]⟩, 10000, 0⟩, ⟨⟨#[85, 83, 68]⟩, 12500, 0⟩]
def gL : List Lm := [⟨[0, 100], 50⟩, ⟨[0, 0], 0⟩]
def gu0 : Gu := Gu.judge ⟨newG 2 2, gT, gL, List.replicate 2 false⟩
def gu1 : Gu := (rIn gu0 0 0 100).2
def gu2 : Gu := (rIn gu1 1 1 100).2
def gb1 : List Pst := [⟨0, 0, -90⟩, ⟨0, 1, -60⟩]
def gb2 : List Pst := [⟨0, 1, -40⟩, ⟨1, 1, 40⟩]
def gb3 : List Pst := [⟨0, 1, -1⟩, ⟨1, 1, 1⟩]
def gu3 : Gu := (rBook gu2 gb2).2
def gu4 : Gu := (rBook gu3 gb3).2
def gu5 : Gu := (rTurn gu4 (wRate gu4.T 1 12600)).2
def gu6 : Gu := (rOut gu5 0 0 1).2
def gu7 : Gu := (rOut gu6 1 1 10).2
theorem g_tab : tabE gT = 0 := by decide +kernel
theorem g_1 : (rIn gu0 0 0 100).1 = 0 := by decide +kernel
theorem g_2 : (rIn gu1 1 1 100).1 = 0 := by decide +kernel
theorem g_f : gu2.fails 0 gb1 = 5 := by decide +kernel
theorem g_3 : (rBook gu2 gb2).1 = 0 := by decide +kernel
theorem g_4 : (rBook gu3 gb3).1 = 10 := by decide +kernel
theorem g_5 : (rTurn gu4 (wRate gu4.T 1 12600)).1 = 0 := by decide +kernel
theorem g_6 : (rOut gu5 0 0 1).1 = 10 := by decide +kernel
theorem g_7 : (rOut gu6 1 1 10).1 = 0 := by decide +kernel
theorem g_f0 : gu7.flag 0 = true := by decide +kernel
theorem g_f1 : gu7.flag 1 = false := by decide +kernel
theorem g_f2 : gu7.flag 2 = false := by decide +kernel
theorem g_get : getG gu7.S 1 1 = 130 := by decide +kernel
end Go.Proofs.Ytghdadniddoboaa

/- The law RiskHolds. -/
namespace Go.Proofs.Ytghdadniddoboaa
open Go Go.Sy Go.Value
set_option linter.unusedVariables false
set_option linter.unusedSimpArgs false

theorem S_law10_awake {h : Heap} {K : Value → Heap → Prop} (k : ∀ h', h.le h' → K (.bool true) h') : CallA Try.prog fn_law10_awake [] h K := by
  refine F_law10_awake _ _ ?_
  unfold F_law10_awakeT
  refine newB_at fun r h1 hr l1 Ar => ?_
  have Ct : Curs h1 (some ⟨r, 0, none⟩) gT := (show At h1 r (curV gT ++ []) from Ar).toRd
  refine S_lNew (fun e => absurd e (by decide)) fun n w en ew _ _ _ _ h2 p B C sp l2 A2 np nB => ⟨_, _, rfl, ?_⟩
  have en : n = 2 := by omega
  have ew : w = 2 := by omega
  subst en ew
  refine Br.no rfl (newB_at fun r1 h3 z1 l3 A3 => newB_at fun r2 h4 z2 l4 A4 => newB_at fun r3 h5 z3 l5 A5 => ?_)
  have l25 := Heap.le_trans l3 (Heap.le_trans l4 l5)
  have hE : ∀ {b : Nat}, h2 b = none → (fun b => b == p || b == B) b = false := fun e => by
    have e1 := A2.ap.ne e
    have e2 := A2.ab.ne e
    show (_ == p || _ == B) = false
    rw [Bool.or_eq_false_iff]
    exact ⟨by simpa using fun e => e1 e.symm, by simpa using fun e => e2 e.symm⟩
  have z2' := none_of_le l3 z2
  have z3' := none_of_le l3 (none_of_le l4 z3)
  have X1 := At.wo (D := fun b => b == p || b == B) (A3.le (Heap.le_trans l4 l5)) (hE z1)
  have X2 := At.wo (D := fun b => b == p || b == B) (A4.le l5) (hE z2')
  have X3 := At.wo (D := fun b => b == p || b == B) A5 (hE z3')
  have l15 : h1.le (h5.wo fun b => b == p || b == B) := le_wo (Heap.le_trans l2 l25) fun b hb => by
    have hb : b = p ∨ b = B := by simpa using hb
    rcases hb with rfl | rfl
    · exact np
    · exact nB
  have lg : h.le (h5.wo fun b => b == p || b == B) := Heap.le_trans l1 l15
  have ip : ∀ a : Int, -1000 ≤ a → a ≤ 1000 → I64 a := fun a h1 h2 => by unfold I64; omega
  have iA : ∀ {g : Heap}, At g r1 [.int .i64 0, .int .i64 100] → LmI g ⟨some ⟨r1, 0, none⟩, 2, ⟨[0, 100], 50⟩⟩ := fun a => ⟨at_rd0 a, fun y hy => (by
    simp only [List.mem_cons, List.not_mem_nil, or_false] at hy
    rcases hy with rfl | rfl <;> exact ip _ (by decide) (by decide)), ip 50 (by decide) (by decide)⟩
  have iB : ∀ {g : Heap}, At g r2 [.int .i64 0, .int .i64 0] → LmI g ⟨some ⟨r2, 0, none⟩, 2, ⟨[0, 0], 0⟩⟩ := fun a => ⟨at_rd0 a, fun y hy => (by
    simp only [List.mem_cons, List.not_mem_nil, or_false] at hy
    rcases hy with rfl | rfl <;> exact ip _ (by decide) (by decide)), ip 0 (by decide) (by decide)⟩
  have e0 : newE gT (newG 2 2) [⟨some ⟨r1, 0, none⟩, 2, ⟨[0, 100], 50⟩⟩, ⟨some ⟨r2, 0, none⟩, 2, ⟨[0, 0], 0⟩⟩] = 0 := by kernel_rfl
  have e1 : newE gT (newG 2 2) [⟨some ⟨r1, 0, none⟩, 2, ⟨[0, 100], 50⟩⟩] = 1 := by kernel_rfl
  refine S_rNew (h0 := h5.wo fun b => b == p || b == B) (T := gT) (S := newG 2 2) (l0 := [⟨some ⟨r1, 0, none⟩, 2, ⟨[0, 100], 50⟩⟩, ⟨some ⟨r2, 0, none⟩, 2, ⟨[0, 0], 0⟩⟩]) (wo_le _ _) (Ct.le (Heap.le_trans l2 l25)) rfl (by decide) (A2.le l25) (wo_none (by simp)) (wo_none (by simp)) (newG_ok (by decide) (by decide) (by decide) (by decide)) (at_rd0 X3) rfl (by decide) (fun y hy => ?_) (fun y hy => ?_) (fun e => absurd e0 e) fun _ h6 x G ep => ⟨_, _, rfl, by decide, by decide, ?_⟩
  · simp only [List.mem_cons, List.not_mem_nil, or_false] at hy
    rcases hy with rfl | rfl
    · exact iA X1
    · exact iB X2
  · simp only [List.mem_cons, List.not_mem_nil, or_false] at hy
    rcases hy with rfl | rfl <;> exact (show 2 ≤ 1000000 by decide)
  have G : GD _ h6 x gu0 := G
  generalize (h5.wo fun b => b == p || b == B) = g0 at *
  subst ep
  have nE : ∀ {b : Nat} {vs : List Value}, At g0 b vs → (fun b => b == x.p || b == x.B) b = false := fun a => by
    have lk := Heap.le_trans G.base G.ck
    have e1 := a.ne (none_of_le lk G.W.np)
    have e2 := a.ne (none_of_le lk G.W.nB)
    show (_ == x.p || _ == x.B) = false
    rw [Bool.or_eq_false_iff]
    exact ⟨by simpa using e1, by simpa using e2⟩
  have b6 := G.b
  refine S_rNew (h0 := h6.wo fun b => b == x.p || b == x.B) (T := gT) (S := newG 2 2) (l0 := [⟨some ⟨r1, 0, none⟩, 2, ⟨[0, 100], 50⟩⟩]) (wo_le _ _) (Ct.le (Heap.le_trans l15 b6)) rfl (by decide) G.W.LA (wo_none (by simp)) (wo_none (by simp)) (newG_ok (by decide) (by decide) (by decide) (by decide)) (show At _ r3 ([slice (some ⟨r1, 0, none⟩) 2 2, .int .i64 50] ++ [slice (some ⟨r2, 0, none⟩) 2 2, .int .i64 0]) from At.wo (D := fun b => b == x.p || b == x.B) (X3.le b6) (nE X3)).toRd rfl (by decide) (fun y hy => ?_) (fun y hy => ?_) (fun _ h7 l7 LA7 => ⟨_, _, rfl, Br.no rfl ?_⟩) (fun e => by rw [e1] at e; cases e)
  · rw [List.mem_singleton] at hy
    subst hy
    exact iA (At.wo (D := fun b => b == x.p || b == x.B) (X1.le b6) (nE X1))
  · rw [List.mem_singleton] at hy
    subst hy
    exact (show 2 ≤ 1000000 by decide)
  rw [e1]
  have G7 := G.relay l7 LA7
  refine S_gIn G7 (ip _ (by decide) (by decide)) fun h8 x8 G8 a8 q8 => ⟨_, rfl, ?_⟩
  have G8 : GD _ h8 x8 gu1 := G8
  rw [show (rIn gu0 0 0 100).1 = 0 from g_1, ← a8]
  refine S_gIn G8 (ip _ (by decide) (by decide)) fun h9 x9 G9 a9 q9 => ⟨_, rfl, newB_at fun s1 h10 s1z l10 As1 => ?_⟩
  have G9 : GD _ h9 x9 gu2 := G9
  rw [show (rIn gu1 1 1 100).1 = 0 from g_2, ← a9]
  have pI : ∀ (b : List Pst), (∀ y ∈ b, -1000 ≤ y.m ∧ y.m ≤ 1000 ∧ -1000 ≤ y.c ∧ y.c ≤ 1000 ∧ -1000 ≤ y.a ∧ y.a ≤ 1000) → ∀ y ∈ b, I64 y.m ∧ I64 y.c ∧ I64 y.a := fun b hb y hy => by
    have := hb y hy
    exact ⟨ip _ (by omega) (by omega), ip _ (by omega) (by omega), ip _ (by omega) (by omega)⟩
  have i1 := pI gb1 (by decide)
  have i2 := pI gb2 (by decide)
  have i3 := pI gb3 (by decide)
  refine S_gFails (b := gb1) (G9.le l10) (at_rd0 As1) rfl (by decide) (fun y hy => (i1 y hy).2.2) fun h11 l11 => ⟨_, rfl, newB_at fun s2 h12 s2z l12 As2 => ?_⟩
  rw [g_f]
  have G12 := (G9.le l10).le l11
  obtain ⟨g1, y1, lt1, Gt1, yg1, yp1, kp1⟩ := (G12.le l12).topX
  rw [← yg1]
  refine S_gBook (b := gb2) Gt1 (at_rd0 (kp1 _ _ (G12.toGR.outE s2z) As2)) rfl (by decide) i2 fun h13 x13 G13 a13 q13 => ⟨_, rfl, newB_at fun s3 h14 s3z l14 As3 => ?_⟩
  have G13 : GD _ h13 x13 gu3 := G13
  rw [show (rBook gu2 gb2).1 = 0 from g_3]
  rw [← a13]
  obtain ⟨g2, y2, lt2, Gt2, yg2, yp2, kp2⟩ := (G13.le l14).topX
  rw [← yg2]
  refine S_gBook (b := gb3) Gt2 (at_rd0 (kp2 _ _ (G13.toGR.outE s3z) As3)) rfl (by decide) i3 fun h15 x15 G15 a15 q15 => ⟨_, rfl, ?_⟩
  have G15 : GD _ h15 x15 gu4 := G15
  rw [show (rBook gu3 gb3).1 = 10 from g_4]
  rw [← a15]
  refine S_gRate G15 fun h16 x16 G16 a16 q16 => ⟨_, rfl, ?_⟩
  have G16 : GD _ h16 x16 gu5 := G16
  rw [show (rTurn gu4 (wRate gu4.T 1 12600)).1 = 0 from g_5, ← a16]
  refine S_gOut G16 (ip _ (by decide) (by decide)) fun h17 x17 G17 a17 q17 => ⟨_, rfl, ?_⟩
  have G17 : GD _ h17 x17 gu6 := G17
  rw [show (rOut gu5 0 0 1).1 = 10 from g_6, ← a17]
  refine S_gOut G17 (ip _ (by decide) (by decide)) fun h18 x18 G18 a18 q18 => ⟨_, rfl, ?_⟩
  have G18 : GD _ h18 x18 gu7 := G18
  rw [show (rOut gu6 1 1 10).1 = 0 from g_7, ← a18]
  have q : x18.p = x.p := q18.trans (q17.trans (q16.trans ((q15.trans yp2).trans ((q13.trans yp1).trans (q9.trans q8)))))
  refine Br.yes rfl (Br.yes rfl (Br.yes rfl (Br.yes rfl (Br.yes rfl (Br.yes rfl (Br.yes rfl (Br.yes rfl (S_gFlagged G18.toGR ⟨_, rfl, Br.yes g_f0 (S_gFlagged G18.toGR ⟨_, rfl, Br.yes (by rw [g_f1]; rfl) (S_gFlagged G18.toGR ⟨_, rfl, Br.yes (by rw [g_f2]; rfl) (Br.yes rfl (Br.yes rfl ?_))⟩)⟩)⟩))))))))
  rw [← q]
  refine S_lGet G18.W.LA ⟨_, rfl, Ret.mk ?_⟩
  rw [g_get]
  exact k h18 (Heap.le_trans lg (Heap.le_trans lt1 (Heap.le_trans lt2 G18.b)))
def GoodR (h0 : Heap) (v : Value) (h' : Heap) : Prop := v = .bool true ∧ h0.le h'
theorem goodR {h0 h : Heap} (l : h0.le h) : Ret h (GoodR h0) (.bool true) := Ret.mk ⟨rfl, l⟩
theorem bx {h : Heap} {p : Option Addr} {l : List Bool} {N : Nat} (I : rdL h p (boV l)) (hn : l.length = N) {j : Nat} {i : Int} (hi : i = (j : Int)) (hj : j < N) {Q : Bool → Prop} (kk : Q (l.getD j false)) :
    0 ≤ i ∧ i < (N : Int) ∧ withAddr p fun b o => ∃ v, h.cell b (o + i.toNat) = some (.bool v) ∧ Q v := by
  subst hi
  rcases I with e | ⟨b, o, e, r⟩
  · have := congrArg List.length e
    rw [boV_len, List.length_nil] at this
    omega
  · refine ⟨by omega, by omega, withAddr_intro e ⟨_, ?_, kk⟩⟩
    rw [Int.toNat_natCast, r j (by rw [boV_len]; omega), boV_get (by omega)]
theorem flag_at {u : Gu} {m : Nat} (hm : m < u.fl.length) : u.flag (m : Int) = u.fl.getD m false := by
  unfold Gu.flag
  rw [decide_eq_true (by omega), Bool.true_and, Int.toNat_natCast]
theorem doR_len (u : Gu) (o : u.Ok) (x : OpR) : (doR u x).2.fl.length = u.fl.length ∧ (doR u x).2.Ok := by
  have j : ∀ v : Gu, v.judge.fl.length = v.fl.length := fun v => by show (List.map _ _).length = _; rw [List.length_map, List.length_range]
  have tn : ∀ t : Option (List Cur), (∀ T, t = some T → tabE T = 0 ∧ T.length = u.T.length) → (rTurn u t).2.fl.length = u.fl.length ∧ (rTurn u t).2.Ok := fun t ht => by
    unfold rTurn
    cases t with
    | none => exact ⟨rfl, o⟩
    | some T => exact ⟨j _, (o.setT (ht T rfl).1 (ht T rfl).2).judge⟩
  have an : ∀ r : Int × Lg, r.2.Ok → szB u.S r.2 → (rAnew u r).2.fl.length = u.fl.length ∧ (rAnew u r).2.Ok := fun r ho hz => by
    unfold rAnew
    dsimp only
    split
    · exact ⟨j _, (o.setS ho hz).judge⟩
    · exact ⟨rfl, o⟩
  unfold doR
  split
  · by_cases e : (rIn u x.m x.c x.a).1 = 0
    · obtain ⟨i, _, hi, _, _, e2⟩ := rIn_ok e
      rw [e2]
      exact ⟨List.length_set, (o.setS (inG_ok o.o _ _ _) (inG_sz _ _ _ _)).setF _ _⟩
    · rw [rIn_err e]; exact ⟨rfl, o⟩
  split
  · by_cases e : (rOut u x.m x.c x.a).1 = 0
    · obtain ⟨i, _, hi, _, _, _, e2⟩ := rOut_ok e
      rw [e2]
      exact ⟨rfl, o.setS (outG_ok o.o _ _ _) (outG_sz _ _ _ _)⟩
    · rw [rOut_err e]; exact ⟨rfl, o⟩
  split
  · exact tn _ fun T e => by have := wRate_tab o.tab x.c x.a; rw [e] at this; exact this
  split
  · exact tn _ fun T e => by have := wCut_tab o.tab x.c x.a; rw [e] at this; exact this
  split
  · exact an _ (postG_ok o.o _) (postG_sz _ _)
  split
  · exact an _ (swapG_ok o.o _ _ _ _ _) (swapG_sz _ _ _ _ _ _)
  · by_cases e : (rBook u x.b).1 = 0
    · obtain ⟨_, _, e2⟩ := rBook_ok e
      rw [e2]
      exact ⟨rfl, o.setS (postG_ok o.o _) (postG_sz _ _)⟩
    · rw [rBook_err e]; exact ⟨rfl, o⟩
section
variable {K : Value → Heap → Prop} {lq : Option Addr} {N lc : Nat} {q : Option Addr} {l : List OpR} {n qc : Nat}
theorem holds_2 {h0 : Heap} {x : GuF} {u v : Gu} {o : OpR} {r : Nat} {wp : Option Addr} {wc : Nat} {j0 : Int} (hN : u.fl.length = N) (hN2 : v.fl.length = N) (h16 : N ≤ 16) (hd : v.held) (Ar : At h0 r (opV1 o)) (Iw : rdL h0 wp (boV u.fl)) (hf : o.d ≠ 2 → o.d ≠ 3 → o.d ≠ 5 → o.d ≠ 6 → ∀ m : Nat, v.fl.getD m false = true → u.fl.getD m false = true)
    (k : ∀ h', GD h0 h' x v → L_law10_RiskHolds_0 lq N lc (some ⟨x.g, 0, none⟩) q n qc (n : Int) (IntKind.wrap .i64 (j0 + 1)) h' K) :
    ∀ (d j : Nat) (h : Heap), d + j = N → GD h0 h x v → L_law10_RiskHolds_2 lq N lc (some ⟨x.g, 0, none⟩) r wp N wc q n qc (n : Int) j0 (N : Int) (j : Int) h K := by
  intro d
  induction d with
  | zero =>
    intro j h hj G
    refine L_law10_RiskHolds_2r _ _ _ _ _ _ _ _ _ _ _ _ _ _ _ _ _ ?_
    unfold L_law10_RiskHolds_2T
    exact Br.no (by simp; omega) (k h G)
  | succ d ih =>
    intro j h hj G
    refine L_law10_RiskHolds_2r _ _ _ _ _ _ _ _ _ _ _ _ _ _ _ _ _ ?_
    unfold L_law10_RiskHolds_2T
    have hjv : j < v.fl.length := by omega
    have next : ∀ h', GD h0 h' x v → L_law10_RiskHolds_2 lq N lc (some ⟨x.g, 0, none⟩) r wp N wc q n qc (n : Int) j0 (N : Int) (IntKind.wrap .i64 ((j : Int) + 1)) h' K := fun h' G' => by
      rw [w1 (by omega)]
      exact ih (j + 1) h' (by omega) G'
    refine Br.yes (by simp; omega) (S_gFlagged G.toGR ⟨_, rfl, ?_⟩)
    rw [flag_at hjv]
    cases hb : v.fl.getD j false with
    | false =>
      refine Br.yes rfl (S_gFails G (b := []) (.inl rfl) rfl (by decide) (fun y hy => by cases hy) fun h1 l1 => ⟨_, rfl, ?_⟩)
      rw [hd j hjv hb]
      exact Br.no rfl (Br.no rfl (next h1 (G.le l1)))
    | true =>
      have A := Ar.le G.b
      refine Br.no rfl (Br.yes rfl (bx (rdL_le G.b Iw) hN rfl (by omega) ?_))
      cases hu : u.fl.getD j false with
      | true => exact Br.no rfl (next h G)
      | false =>
        refine Br.yes rfl ⟨_, A.cell rfl, ?_⟩
        by_cases e2 : o.d = 2
        · exact Br.no (by simp [e2]) (next h G)
        refine Br.yes (by simpa using e2) ⟨_, A.cell rfl, ?_⟩
        by_cases e3 : o.d = 3
        · exact Br.no (by simp [e3]) (next h G)
        refine Br.yes (by simpa using e3) ⟨_, A.cell rfl, ?_⟩
        by_cases e5 : o.d = 5
        · exact Br.no (by simp [e5]) (next h G)
        refine Br.yes (by simpa using e5) ⟨_, A.cell rfl, ?_⟩
        by_cases e6 : o.d = 6
        · exact Br.no (by simp [e6]) (next h G)
        have := hf e2 e3 e5 e6 j hb
        rw [hu] at this
        cases this
theorem holds_1 {h0 H : Heap} {x : GuF} {u : Gu} {r : Nat} {j0 : Int} (hN : u.fl.length = N) (h16 : N ≤ 16) (G : GD h0 H x u)
    (k : ∀ h' wp wc, H.le h' → OwnL H h' [.bool false] wp wc (boV u.fl) → L_law10_RiskHolds_1 lq N lc (some ⟨x.g, 0, none⟩) r wp N wc q n qc (n : Int) j0 (N : Int) ((N : Nat) : Int) h' K) :
    ∀ (d j : Nat) (h : Heap) (wp : Option Addr) (wc : Nat), d + j = N → H.le h → OwnL H h [.bool false] wp wc (boV (u.fl.take j)) → L_law10_RiskHolds_1 lq N lc (some ⟨x.g, 0, none⟩) r wp j wc q n qc (n : Int) j0 (N : Int) (j : Int) h K := by
  intro d
  induction d with
  | zero =>
    intro j h wp wc hj l own
    obtain rfl : j = N := by omega
    rw [List.take_of_length_le (by omega)] at own
    exact k h wp wc l own
  | succ d ih =>
    intro j h wp wc hj l own
    refine L_law10_RiskHolds_1r _ _ _ _ _ _ _ _ _ _ _ _ _ _ _ _ _ ?_
    unfold L_law10_RiskHolds_1T
    refine Br.yes (by simp; omega) (S_gFlagged (G.le l).toGR ⟨_, rfl, ?_⟩)
    rw [flag_at (by omega)]
    refine push1 own (by decide) l (by omega) rfl rfl (by rw [boV_len, List.length_take]; simp; omega) fun r2 h2 p' c' h3 hr2 l2 l3 own' _ _ => ?_
    rw [w1 (by omega)]
    refine ih (j + 1) h3 p' c' (by omega) l3 ?_
    have hx : u.fl[j]? = some (u.fl.getD j false) := by rw [List.getD_eq_getElem?_getD, List.getElem?_eq_getElem (by omega)]; rfl
    have htk : boV (u.fl.take (j + 1)) = boV (u.fl.take j) ++ [.bool (u.fl.getD j false)] := by
      rw [List.take_add_one, hx]
      unfold boV
      rw [List.map_append]; rfl
    rw [htk]
    exact own'
theorem holds_0 {he : Heap} (X : Ops he q l) (hn : l.length = n) (hs : n ≤ 1000) (hI : ∀ y ∈ l, OpI y) (hb : ∀ y ∈ l, y.b.length ≤ 20) (h16 : N ≤ 16) :
    ∀ (m j : Nat) (h0 h : Heap) (x : GuF) (u : Gu), m + j = n → he.le h0 → GD h0 h x u → u.held → u.fl.length = N → L_law10_RiskHolds_0 lq N lc (some ⟨x.g, 0, none⟩) q n qc (n : Int) (j : Int) h (GoodR he) := by
  intro m
  induction m with
  | zero =>
    intro j h0 h x u hj l0 G hd hN
    refine L_law10_RiskHolds_0r _ _ _ _ _ _ _ _ _ _ _ ?_
    unfold L_law10_RiskHolds_0T
    exact Br.no (by simp; omega) (goodR (Heap.le_trans l0 G.b))
  | succ m ih =>
    intro j h0 h x u hj l0 G hd hN
    refine L_law10_RiskHolds_0r _ _ _ _ _ _ _ _ _ _ _ ?_
    unfold L_law10_RiskHolds_0T
    have hx : l[j]? = some l[j] := List.getElem?_eq_getElem (by omega)
    have hmem : l[j] ∈ l := List.getElem_mem _
    generalize l[j] = o at *
    refine Br.yes (by simp; omega) (ox (X.le (Heap.le_trans l0 G.b)) hn rfl hx (newB_cp (vs := opV1 o) rfl fun r h1 hr l1 A cs => ⟨cs, ?_⟩))
    show L_law10_RiskHolds_1 lq N lc (some ⟨x.g, 0, none⟩) r none 0 0 q n qc (n : Int) (j : Int) (N : Int) ((0 : Nat) : Int) (h1.setN r 0 (opV1 o)) (GoodR he)
    generalize h1.setN r 0 (opV1 o) = H at *
    have G1 := G.le l1
    refine holds_1 hN h16 G1 (fun h2 wp wc l2 own => ?_) N 0 H none 0 rfl H.le_refl (by rw [List.take_zero]; exact OwnL.nil _ _ _)
    refine L_law10_RiskHolds_1r _ _ _ _ _ _ _ _ _ _ _ _ _ _ _ _ _ ?_
    unfold L_law10_RiskHolds_1T
    have G2 := G1.le l2
    have A2 := A.le l2
    obtain ⟨g1, y, lt, Gt, yg, yp, keep⟩ := G2.topX
    have At1 : At g1 r (opV1 o) := keep _ _ (G.toGR.outE hr) A2
    have Iw : rdL g1 wp (boV u.fl) := by
      rcases own with ⟨e, _, _⟩ | ⟨p5, sp5, e5, z5, a5, _⟩
      · rw [e]; exact .inl rfl
      · rw [e5]; exact (keep _ _ (G1.toGR.outE z5) a5).toRd
    have lx1 := Heap.le_trans l0 lt
    obtain ⟨len', ok'⟩ := doR_len u G.ok o
    have hd' := doR_held G.ok hd o
    rw [← yg]
    refine Br.no (by simp) ⟨_, A2.cell rfl, _, A2.cell rfl, _, A2.cell rfl, _, A2.cell rfl, _, A2.cell rfl, _, A2.cell rfl, _, _, _, A2.cell rfl, S_do10 Gt (rdL_le lx1 (X.2 o hmem)) (hI o hmem) (hb o hmem) fun h3 x3 G3 e3 p3 => ⟨_, rfl, _, (At1.le G3.b).cell rfl, ?_⟩⟩
    rw [← e3]
    have fin : L_law10_RiskHolds_2 lq N lc (some ⟨x3.g, 0, none⟩) r wp N wc q n qc (n : Int) (j : Int) (N : Int) ((0 : Nat) : Int) h3 (GoodR he) := by
      refine holds_2 hN (len'.trans hN) h16 hd' At1 Iw (fun e2 e3 e5 e6 m hm => doR_flag e2 e3 e5 e6 hm) (fun h4 G4 => ?_) N 0 h3 rfl G3
      rw [w1 (by omega)]
      exact ih (j + 1) g1 h4 x3 _ (by omega) lx1 G4 hd' (len'.trans hN)
    refine Br.intro (fun g0 => ?_) fun _ => fin
    have g0 : o.d = 0 := by simpa using g0
    refine Br.no ?_ fin
    have : (doR u o).1 = (rIn u o.m o.c o.a).1 := by unfold doR; rw [if_pos g0]
    rw [this]
    have := rIn_10 (u := u) o.m o.c o.a
    simpa using this
end
theorem newU_held (T : List Cur) (S : Lg) (ls : List LmV) : (newU T S ls).held := judge_held _
theorem newU_len (T : List Cur) {n w : Nat} (ls : List LmV) : (newU T (newG n w) ls).fl.length = n := by
  show (List.map _ (List.range (List.replicate (newG n w).M.length false).length)).length = n
  rw [List.length_map, List.length_range, List.length_replicate]
  unfold newG
  rw [List.length_replicate]
theorem law10_RiskHolds_ok {h : Heap} {tp : Option Addr} {tn tc : Nat} (HT : curSh.Has h [.slice tp tn tc]) {lq : Option Addr} {ln lc : Nat} (HL : (Sh.sl lmSt).Has h [.slice lq ln lc]) {q : Option Addr} {n qc : Nat} (HO : opsSh.Has h [.slice q n qc]) :
    CallA Try.prog fn_law10_RiskHolds [slice tp tn tc, slice lq ln lc, slice q n qc] h fun v h' => v = .bool true ∧ h.le h' := by
  obtain ⟨tmax, T, hT, CT, _⟩ := curs_of HT
  obtain ⟨lmax, ls, hls, XL, hLI⟩ := lm_of HL
  obtain ⟨omax, l, hl, X, hI, _⟩ := ops_of HO
  refine F_law10_RiskHolds _ _ _ _ _ _ _ _ _ _ _ ?_
  unfold F_law10_RiskHoldsT
  refine S_law10_awake fun h1 l1 => ⟨_, rfl, Br.no rfl (S_large10 (XL.le l1) hls lmax (X.le l1) hl omax fun b hb => ⟨_, rfl, ?_⟩)⟩
  cases b with
  | true => exact Br.yes rfl (goodR l1)
  | false =>
    obtain ⟨h30, t20, l20, hb20, hs20⟩ := hb rfl
    refine Br.no rfl (S_made10 l1 CT hT (by omega) XL hls (by omega) hLI (fun y hy => by have := hs20 y hy; omega) (fun h2 l2 => ⟨_, rfl, Br.yes rfl (goodR (Heap.le_trans l1 l2))⟩) fun h2 x G n1 n16 _ => ⟨_, rfl, Br.no rfl ?_⟩)
    exact holds_0 X hl (by omega) hI hb20 n16 n 0 h1 h2 x _ rfl l1 G (newU_held _ _ _) (newU_len _ _)
end Go.Proofs.Ytghdadniddoboaa

/- Two guards side by side; greater limits. -/
namespace Go.Proofs.Ytghdadniddoboaa
open Go Go.Sy Go.Value
set_option linter.unusedVariables false
set_option linter.unusedSimpArgs false

section
variable {h0 h : Heap} {K : Value → Heap → Prop} {x y : GuF} {u v : Gu}
theorem GuF.E_t {x : GuF} {N b : Nat} (h : x.E N b = true) : LWD x.p x.B x.f N b = true ∨ b = x.fb := by
  unfold GuF.E at h
  rw [Bool.or_eq_true] at h
  exact h.imp_right fun h => by simpa using h
theorem GuF.E_f {x : GuF} {N b : Nat} (h : x.E N b = false) : LWD x.p x.B x.f N b = false ∧ b ≠ x.fb := by
  unfold GuF.E at h
  rw [Bool.or_eq_false_iff] at h
  exact ⟨h.1, by simpa using h.2⟩
theorem GuF.E_L {x : GuF} {N b : Nat} (h : LWD x.p x.B x.f N b = true) : x.E N b = true := by unfold GuF.E; rw [h, Bool.true_or]
theorem GuF.E_fb (x : GuF) (N : Nat) : x.E N x.fb = true := by unfold GuF.E; simp
theorem GR.atE (G : GR h0 h x u) {b : Nat} (hb : x.E u.S.M.length b = true) : ∃ xs, At h b xs := by
  rcases GuF.E_t hb with hb | rfl
  · exact G.W.at' hb
  · exact ⟨_, G.f⟩
theorem GR.noneE (G : GR h0 h x u) {b : Nat} (hb : x.E u.S.M.length b = true) : x.c b = none := by
  rcases GuF.E_t hb with hb | rfl
  · exact none_of_le G.ck (G.outK hb)
  · exact G.nf
structure Two (h0 h : Heap) (x : GuF) (u : Gu) (y : GuF) (v : Gu) : Prop where
  gx : GD h0 h x u
  gy : GD h0 h y v
  xy : ∀ b, x.E u.S.M.length b = true → y.c b = none ∧ y.E v.S.M.length b = false
  yx : ∀ b, y.E v.S.M.length b = true → x.c b = none ∧ x.E u.S.M.length b = false
theorem Two.symm (T : Two h0 h x u y v) : Two h0 h y v x u := ⟨T.gy, T.gx, T.yx, T.xy⟩
theorem Two.le {h' : Heap} (T : Two h0 h x u y v) (l : h.le h') : Two h0 h' x u y v := { T with gx := T.gx.le l, gy := T.gy.le l }
theorem rIn_n (m c a : Int) : (rIn u m c a).2.S.M.length = u.S.M.length := by
  by_cases e : (rIn u m c a).1 = 0
  · obtain ⟨i, _, hi, _, _, e2⟩ := rIn_ok e
    rw [e2]
    exact (inG_sz u.S (i : Int) c a).1
  · rw [rIn_err e]
theorem S_two (T : Two h0 h x u y v) {m c a : Int} (ha : I64 a) (k : ∀ h' x' y', Two h0 h' x' (rIn u m c a).2 y' v → x'.g = x.g → y'.g = y.g → (∀ b o, h b = some o → x.E u.S.M.length b = false → h' b = some o) → K (.int .i64 (rIn u m c a).1) h') :
    CallA Try.prog fn_prisk_Guard_In [pointer (some ⟨x.g, 0, none⟩), .int .i64 m, .int .i64 c, .int .i64 a] h K := by
  refine S_gInX (x := { x with k := h.wo (LWD x.p x.B x.f u.S.M.length) }) T.gx.up ha fun h' x' G' sm => ?_
  have eN := rIn_n (u := u) m c a
  have smk : ∀ b, b ≠ x.fb → x'.k b = (h.wo (LWD x.p x.B x.f u.S.M.length)) b := sm.k
  have smc : x'.c = x.c := sm.c
  have smfb : x'.fb = x.fb := sm.fb
  have smg : x'.g = x.g := sm.g
  have keep : ∀ b o, h b = some o → x.E u.S.M.length b = false → h' b = some o := fun b o hb he => by
    obtain ⟨e1, e2⟩ := GuF.E_f he
    refine G'.W.base b o ?_
    rw [smk b e2, wo_get e1]
    exact hb
  have newE : ∀ b, x'.E u.S.M.length b = true → x.E u.S.M.length b = true ∨ h b = none := fun b hb => by
    rcases GuF.E_t hb with hb | hb
    · by_cases e : b = x.fb
      · rw [e]; exact .inl (x.E_fb _)
      · have z := G'.W.none' (by rw [eN]; exact hb)
        rw [smk b e] at z
        cases hd : LWD x.p x.B x.f u.S.M.length b with
        | true => exact .inl (GuF.E_L hd)
        | false => rw [wo_get hd] at z; exact .inr z
    · rw [hb, smfb]; exact .inl (x.E_fb _)
  have keepY : ∀ b xs, y.E v.S.M.length b = true → At h b xs → At h' b xs := fun b xs hb a => by
    obtain ⟨Ty, e⟩ := a
    exact ⟨Ty, keep b _ e (T.yx b hb).2⟩
  have cy : y.c.le h' := fun b o hb => by
    refine keep b o (T.gy.ch b o hb) (noD fun hd => ?_)
    rw [(T.xy b hd).1] at hb
    cases hb
  have GY : GD h0 h' { y with k := h'.wo (LWD y.p y.B y.f v.S.M.length) } v :=
    { T.gy with ck := le_wo cy fun b hb => T.gy.noneE (GuF.E_L hb), af := (keepY _ _ (y.E_fb _) T.gy.f).wo (noD fun hd => T.gy.af.ne (T.gy.outK hd) rfl), W := T.gy.W.mv (wo_le _ _) (fun b xs hb a => keepY b xs (GuF.E_L hb) a) (fun b hb => wo_none hb) }
  refine k h' x' { y with k := h'.wo (LWD y.p y.B y.f v.S.M.length) } { gx := G', gy := GY, xy := fun b hb => ?_, yx := fun b hb => ?_ } smg rfl keep
  · rw [eN] at hb
    rcases newE b hb with e | e
    · exact T.xy b e
    · exact ⟨none_of_le T.gy.ch e, T.gy.outE e⟩
  · have hb : y.E v.S.M.length b = true := hb
    rw [smc, eN]
    refine ⟨(T.yx b hb).1, noD fun hd => ?_⟩
    rcases newE b hd with e | e
    · rw [(T.yx b hb).2] at e; cases e
    · obtain ⟨xs, a⟩ := T.gy.atE hb
      exact a.ne e rfl
/-- less is known of what was there -/
theorem wo_mono {g h : Heap} (l : g.le h) (D : Nat → Bool) : (g.wo D).le (h.wo D) := fun b o hb => by
  cases hd : D b with
  | true => rw [wo_none hd] at hb; cases hb
  | false =>
    rw [wo_get hd] at hb ⊢
    exact l b o hb
theorem GD.less (G : GD h0 h x u) (D : Nat → Bool) (z : ∀ b, D b = true → h0 b = none) (dE : ∀ b, x.E u.S.M.length b = true → D b = false) (dc : ∀ b, x.cB b → D b = false) : GD h0 h { x with c := x.c.wo D, k := x.k.wo D } u := by
  refine { base := le_wo G.base z, ck := wo_mono G.ck D, nf := none_of_le (wo_le _ _) G.nf, ag := G.ag.wo (dc _ (.inl rfl)), al := rd_wo G.al fun b o e => ?_, il := fun y hy => { G.il y hy with X := rd_wo (G.il y hy).X fun b o e => ?_ }, el := G.el, af := G.af.wo (dE _ (x.E_fb _)), ew := G.ew, W := G.W.mv (Heap.le_trans (wo_le _ _) G.W.base) (fun _ _ _ a => a) (fun b hb => none_of_le (wo_le _ _) (G.W.none' hb)), ok := G.ok, told := G.told }
  · exact dc b (.inr (.inl ⟨o, e⟩))
  · exact dc b (.inr (.inr ⟨y, hy, o, e⟩))
end
/-! greater limits -/
structure Rel (u v : Gu) : Prop where
  S : v.S = u.S
  T : v.T = u.T
  n : v.fl.length = u.fl.length
  L : ∀ m c, (u.lim m).sh.getD c 0 ≤ (v.lim m).sh.getD c 0
  A : ∀ m, (u.lim m).all ≤ (v.lim m).all
section
variable {u v : Gu}
theorem Rel.row (R : Rel u v) (m : Nat) : v.row m = u.row m := by unfold Gu.row; rw [R.S, R.T]
theorem rIn_rel (R : Rel u v) (m c a : Int) : (rIn v m c a).1 = (rIn u m c a).1 ∧ Rel (rIn u m c a).2 (rIn v m c a).2 := by
  unfold rIn
  rw [R.n, R.S, R.T, R.row]
  split
  · exact ⟨rfl, R⟩
  split
  · exact ⟨rfl, R⟩
  split
  · exact ⟨rfl, R⟩
  · exact ⟨rfl, ⟨rfl, R.T, by show (v.fl.set _ _).length = (u.fl.set _ _).length; rw [List.length_set, List.length_set]; exact R.n, R.L, R.A⟩⟩
theorem SubB.refl7 : SubB 7 7 := .top (.inl rfl)
theorem fails_sub (R : Rel u v) (ht : tabE u.T = 0) (m : Int) (b : List Pst) : SubB (v.fails m b) (u.fails m b) := by
  unfold Gu.fails
  rw [R.n, R.T, R.row]
  split
  · unfold failsW
    split
    · exact SubB.refl7
    split
    · exact SubB.refl7
    · rename_i r _
      refine pass_le ht (leR_refl r) (R.L _) (R.A _) ?_ ?_
      · rcases passR_bits u.T (u.lim m.toNat) r with e | ⟨e1, _, _⟩
        · exact .inr e
        · exact .inl e1
      · rcases passR_bits u.T (u.lim m.toNat) r with e | ⟨_, e1, _⟩
        · exact .inr e
        · exact .inl e1
  · exact SubB.refl7
theorem pay_sub (o : u.Ok) {m c a : Int} (h : (rIn u m c a).1 = 0) : SubB ((rIn u m c a).2.fails m []) (u.fails m []) := by
  obtain ⟨i, rfl, hi, h1, h2, e⟩ := rIn_ok h
  rw [e]
  rw [fails_fl (u := u.setS (inG u.S (i : Int) c a).2) (v := (u.setS (inG u.S (i : Int) c a).2).setF i _) rfl rfl rfl (by show (u.fl.set _ _).length = u.fl.length; rw [List.length_set])]
  rw [fails_setS hi, fails_at hi, failsW_nil, failsW_nil]
  obtain ⟨r1, r2⟩ := in_row o.o.toSz h2
  rw [o.ec] at r1 r2
  obtain ⟨i1, i2⟩ := ifW_ok h1 r1
  exact pass_le o.tab (l := u.lim i) (l' := u.lim i) r2 (fun _ => Int.le_refl _) (Int.le_refl _) (.inl i1) (.inl i2)
def andI (a b : Int) : Int := IntKind.wrap .i64 ((BitVec.toNat (BitVec.ofInt 64 a &&& ~~~BitVec.ofInt 64 b) : Nat) : Int)
theorem sub_and {a b : Int} (h : SubB a b) : andI a b = 0 := by
  cases h with
  | top h =>
    rcases h with rfl | ⟨x, y, z, rfl⟩
    · decide
    · cases x <;> cases y <;> cases z <;> decide
  | bits h1 h2 h3 =>
    rename_i x y z x' y' z'
    cases x' <;> cases y' <;> cases z' <;> cases x <;> cases y <;> cases z <;> first | decide | (exact absurd (h1 rfl) (by decide)) | (exact absurd (h2 rfl) (by decide)) | (exact absurd (h3 rfl) (by decide))
end
/-- a limit that is wide -/
def big (n : Int) : Int := if 4611686018427387904 > n then 4611686018427387904 else n
theorem big_ge (n : Int) : n ≤ big n ∧ 0 ≤ big n := by unfold big; split <;> omega
theorem big_I {n : Int} (h : I64 n) : I64 (big n) := by unfold big I64 at *; split <;> omega
def wideL (l : Lm) : Lm := ⟨l.sh.map big, big l.all⟩
theorem wide_fit {w : Nat} {l : Lm} (h : fitL w l = true) : fitL w (wideL l) = true := by
  unfold fitL wideL at *
  simp only [List.length_map, Bool.and_eq_true, Bool.or_eq_true, decide_eq_true_eq, List.all_eq_true, List.mem_map, forall_exists_index, and_imp, forall_apply_eq_imp_iff₂] at *
  refine ⟨h.1, (big_ge _).2, ?_⟩
  rcases h.2.2 with h | h
  · exact .inl h
  · exact .inr fun y _ => (big_ge y).2
theorem wide_sh (l : Lm) (c : Nat) : l.sh.getD c 0 ≤ (wideL l).sh.getD c 0 := by
  unfold wideL
  rw [List.getD_eq_getElem?_getD, List.getD_eq_getElem?_getD, List.getElem?_map]
  cases l.sh[c]? with
  | none => exact Int.le_refl _
  | some y => exact (big_ge y).1
theorem new_rel (T : List Cur) (S : Lg) {ls ws : List LmV} (e : ws.map (·.l) = ls.map fun y => wideL y.l) : Rel (newU T S ls) (newU T S ws) := by
  have lim : ∀ m, (newU T S ws).lim m = (if m < ls.length then wideL ((newU T S ls).lim m) else ⟨[], 0⟩) ∧ (¬ m < ls.length → (newU T S ls).lim m = ⟨[], 0⟩) := fun m => by
    show (ws.map (·.l)).getD m ⟨[], 0⟩ = _ ∧ (_ → (ls.map (·.l)).getD m ⟨[], 0⟩ = _)
    rw [e]
    constructor
    · split
      · rename_i hm
        show _ = wideL ((ls.map (·.l)).getD m ⟨[], 0⟩)
        rw [List.getD_eq_getElem?_getD, List.getD_eq_getElem?_getD, List.getElem?_map, List.getElem?_map, List.getElem?_eq_getElem hm]; rfl
      · rw [List.getD_eq_getElem?_getD, List.getElem?_eq_none (by rw [List.length_map]; omega)]; rfl
    · intro hm
      rw [List.getD_eq_getElem?_getD, List.getElem?_eq_none (by rw [List.length_map]; omega)]; rfl
  refine ⟨rfl, rfl, by show (List.map _ _).length = (List.map _ _).length; rw [List.length_map, List.length_map], fun m c => ?_, fun m => ?_⟩
  · rw [(lim m).1]
    split
    · exact wide_sh _ c
    · rename_i hm; rw [(lim m).2 hm]; exact Int.le_refl _
  · rw [(lim m).1]
    split
    · exact (big_ge _).1
    · rename_i hm; rw [(lim m).2 hm]; exact Int.le_refl _
theorem new_wide {T : List Cur} {S : Lg} {ls ws : List LmV} (e : ws.map (·.l) = ls.map fun y => wideL y.l) (h : newE T S ls = 0) : newE T S ws = 0 := by
  have el : ws.length = ls.length := by have := congrArg List.length e; rw [List.length_map, List.length_map] at this; exact this
  unfold newE at *
  by_cases e1 : tabE T ≠ 0
  · rw [if_pos e1] at h; exact (e1 h).elim
  rw [if_neg e1] at h ⊢
  by_cases e2 : S.cur ≠ T.length
  · rw [if_pos e2] at h; cases h
  rw [if_neg e2] at h ⊢
  rw [el]
  by_cases e3 : ls.length ≠ S.M.length
  · rw [if_pos e3] at h; cases h
  rw [if_neg e3] at h ⊢
  by_cases e4 : badL S.cur ls = true
  · rw [if_pos e4] at h; cases h
  refine if_neg fun hb => e4 ?_
  unfold badL at *
  rw [List.any_eq_true] at *
  obtain ⟨y, hy, hy2⟩ := hb
  have : y.l ∈ ls.map fun y => wideL y.l := by rw [← e]; exact List.mem_map_of_mem hy
  obtain ⟨z, hz, ez⟩ := List.mem_map.1 this
  refine ⟨z, hz, ?_⟩
  cases hf : fitL S.cur z.l with
  | false => rfl
  | true =>
    have := wide_fit hf
    rw [ez] at this
    rw [this] at hy2
    cases hy2
end Go.Proofs.Ytghdadniddoboaa
