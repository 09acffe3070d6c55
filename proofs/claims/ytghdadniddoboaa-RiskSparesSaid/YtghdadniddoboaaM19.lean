import Derived.Test.YtghdadniddoboaaM18
import Derived.Test.YtghdadniddoboaaM05
import Derived.Test.YtghdadniddoboaaM06
import Derived.Test.YtghdadniddoboaaM11
import Derived.Test.YtghdadniddoboaaM07
/- Operations of a guard, and the laws' first question. -/
namespace Go.Proofs.Ytghdadniddoboaa
open Go Go.Sy Go.Value
set_option linter.unusedVariables false
set_option linter.unusedSimpArgs false

def GuF.E (x : GuF) (N b : Nat) : Bool := LWD x.p x.B x.f N b || b == x.fb
section
variable {h0 h : Heap} {K : Value → Heap → Prop} {x : GuF} {u : Gu}
theorem GR.outE (G : GR h0 h x u) {b : Nat} (e : h b = none) : x.E u.S.M.length b = false := by
  unfold GuF.E
  rw [Bool.or_eq_false_iff]
  exact ⟨G.W.out e, by simpa using fun e2 => G.f.ne e e2.symm⟩
theorem GD.top (G : GD h0 h x u) : h0.le (h.wo (x.E u.S.M.length)) ∧ GD (h.wo (x.E u.S.M.length)) h { x with c := h.wo (x.E u.S.M.length), k := h.wo (LWD x.p x.B x.f u.S.M.length) } u := by
  have lc : x.c.le (h.wo (x.E u.S.M.length)) := le_wo G.ch fun b hb => by
    unfold GuF.E at hb
    rw [Bool.or_eq_true] at hb
    rcases hb with hb | hb
    · exact none_of_le G.ck (G.outK hb)
    · have hb : b = x.fb := by simpa using hb
      rw [hb]; exact G.nf
  refine ⟨Heap.le_trans G.base lc, ?_⟩
  exact { base := Heap.le_refl _, ck := wo_wo fun b hb => by unfold GuF.E at hb; rw [Bool.or_eq_false_iff] at hb; exact hb.1, nf := wo_none (by unfold GuF.E; simp), ag := G.ag.le lc, al := G.al.le lc, il := fun y hy => (G.il y hy).le lc, el := G.el, af := G.f.wo (noD fun hd => G.af.ne (G.outK hd) rfl), ew := G.ew, W := G.W.off, ok := G.ok, told := G.told }
theorem GD.topX (G : GD h0 h x u) : ∃ h1 y, h0.le h1 ∧ GD h1 h y u ∧ y.g = x.g ∧ y.p = x.p ∧ (∀ b xs, x.E u.S.M.length b = false → At h b xs → At h1 b xs) :=
  ⟨_, { x with c := h.wo (x.E u.S.M.length), k := h.wo (LWD x.p x.B x.f u.S.M.length) }, G.top.1, G.top.2, rfl, rfl, fun b xs e a => a.wo e⟩
theorem GD.relay (G : GD h0 h x u) {h' : Heap} (l : (h.wo fun b => b == x.p || b == x.B).le h') (LA : LedAt h' x.p x.B x.C x.sp u.S) : GD h0 h' x u := by
  have D3 : ∀ b, (b == x.p || b == x.B) = true → b = x.p ∨ b = x.B := fun b hb => by simpa using hb
  have lk : x.k.le h' := Heap.le_trans (le_wo G.W.base fun b hb => by
    rcases D3 b hb with rfl | rfl
    · exact G.W.np
    · exact G.W.nB) l
  refine { G with W := { G.W with LA := LA, base := lk, X := { G.W.X with fam := G.W.X.fam.mv fun b xs hb a => (a.wo ?_).le l } } }
  refine noD fun hd => ?_
  obtain ⟨i, hi, rfl⟩ := famD_t hb
  have := G.W.dp i hi
  rcases D3 _ hd with e | e
  · exact this.1 e
  · exact this.2 e
theorem S_do10 (G : GD h0 h x u) {o : OpR} (Xb : Pos h0 o.p o.b) (hI : OpI o) (hb : o.b.length ≤ 20) (k : ∀ h' x', GD h0 h' x' (doR u o).2 → x'.g = x.g → x'.p = x.p → K (.int .i64 (doR u o).1) h') :
    CallA Try.prog fn_law10_do [pointer (some ⟨x.g, 0, none⟩), agg #[.int .i64 o.d, .int .i64 o.m, .int .i64 o.c, .int .i64 o.g, .int .i64 o.a, .int .i64 o.gv, .slice o.p o.b.length o.cp]] h K := by
  refine F_law10_do _ _ _ _ _ _ _ _ _ _ _ _ ?_
  unfold F_law10_doT
  refine newB_at fun r h1 zr l1 A => ⟨_, A.cell rfl, ?_⟩
  have G1 := G.le l1
  unfold doR at k
  by_cases d0 : o.d = 0
  · rw [if_pos d0] at k
    exact Br.yes (by simpa using d0) ⟨_, A.cell rfl, _, A.cell rfl, _, A.cell rfl, S_gIn G1 hI.a fun h' x' G' e1 e2 => ⟨_, rfl, Ret.mk (k h' x' G' e1 e2)⟩⟩
  rw [if_neg d0] at k
  refine Br.no (by simpa using d0) ?_
  by_cases d1 : o.d = 1
  · rw [if_pos d1] at k
    exact Br.yes (by simpa using d1) ⟨_, A.cell rfl, _, A.cell rfl, _, A.cell rfl, S_gOut G1 hI.a fun h' x' G' e1 e2 => ⟨_, rfl, Ret.mk (k h' x' G' e1 e2)⟩⟩
  rw [if_neg d1] at k
  refine Br.no (by simpa using d1) ?_
  by_cases d2 : o.d = 2
  · rw [if_pos d2] at k
    exact Br.yes (by simpa using d2) ⟨_, A.cell rfl, _, A.cell rfl, S_gRate G1 fun h' x' G' e1 e2 => ⟨_, rfl, Ret.mk (k h' x' G' e1 e2)⟩⟩
  rw [if_neg d2] at k
  refine Br.no (by simpa using d2) ?_
  by_cases d3 : o.d = 3
  · rw [if_pos d3] at k
    exact Br.yes (by simpa using d3) ⟨_, A.cell rfl, _, A.cell rfl, S_gCut G1 fun h' x' G' e1 e2 => ⟨_, rfl, Ret.mk (k h' x' G' e1 e2)⟩⟩
  rw [if_neg d3] at k
  refine Br.no (by simpa using d3) ?_
  by_cases d5 : o.d = 5
  · rw [if_pos d5] at k
    exact Br.yes (by simpa using d5) ⟨_, _, _, A.cell rfl, S_gTake G1 Xb rfl (by omega) hI.b fun h' x' G' e1 e2 => ⟨_, rfl, Ret.mk (k h' x' G' e1 e2)⟩⟩
  rw [if_neg d5] at k
  refine Br.no (by simpa using d5) ?_
  by_cases d6 : o.d = 6
  · rw [if_pos d6] at k
    exact Br.yes (by simpa using d6) ⟨_, A.cell rfl, _, A.cell rfl, _, A.cell rfl, _, A.cell rfl, _, A.cell rfl, S_gSwap G1 hI.a hI.gv fun h' x' G' e1 e2 => ⟨_, rfl, Ret.mk (k h' x' G' e1 e2)⟩⟩
  rw [if_neg d6] at k
  exact Br.no (by simpa using d6) ⟨_, _, _, A.cell rfl, S_gBook G1 Xb rfl (by omega) hI.b fun h' x' G' e1 e2 => ⟨_, rfl, Ret.mk (k h' x' G' e1 e2)⟩⟩
end
section
variable {h : Heap} {K : Value → Heap → Prop}
theorem S_large10 {tp : Option Addr} {tn tc : Nat} {lq : Option Addr} {ls : List LmV} {ln lc : Nat} (Xl : Arr lmV h lq ls) (hl : ls.length = ln) (hls : ln ≤ 9223372036854775807) {q : Option Addr} {l : List OpR} {n c : Nat} (X : Ops h q l) (hn : l.length = n) (hs : n ≤ 9223372036854775807)
    (k : ∀ b : Bool, (b = false → n ≤ 30 ∧ tn ≤ 20 ∧ ln ≤ 20 ∧ (∀ x ∈ l, x.b.length ≤ 20) ∧ ∀ y ∈ ls, y.l.sh.length ≤ 20) → K (.bool b) h) :
    CallA Try.prog fn_law10_large [slice tp tn tc, slice lq ln lc, slice q n c] h K := by
  refine F_law10_large _ _ _ _ _ _ _ _ _ _ _ ?_
  unfold F_law10_largeT
  have w2 : ∀ {j n : Nat}, n ≤ 9223372036854775807 → j < n → IntKind.wrap .i64 ((j : Int) + 1) = ((j + 1 : Nat) : Int) := fun h1 h2 => by rw [wrap_i64_id (by omega) (by omega)]; omega
  have loop1 : (∀ x ∈ l, x.b.length ≤ 20) → ∀ (m j : Nat), m + j = ln → (∀ y ∈ ls.take j, y.l.sh.length ≤ 20) → L_law10_large_1 tp tn tc lq ln lc q n c (ln : Int) (j : Int) h K := by
    intro hb m
    induction m with
    | zero =>
      intro j hj e
      refine L_law10_large_1r _ _ _ _ _ _ _ _ _ _ _ _ _ ?_
      unfold L_law10_large_1T
      rw [List.take_of_length_le (by omega)] at e
      refine Br.no (by simp; omega) (Br.dec (fun _ => Ret.mk (k true fun e => by cases e)) fun g1 => Br.dec (fun _ => Ret.mk (k true fun e => by cases e)) fun g2 => Ret.mk (k _ fun g3 => ?_))
      have := of_decide_eq_false g3
      exact ⟨by omega, by omega, by omega, hb, e⟩
    | succ m ih =>
      intro j hj e
      refine L_law10_large_1r _ _ _ _ _ _ _ _ _ _ _ _ _ ?_
      unfold L_law10_large_1T
      have hx : ls[j]? = some ls[j] := List.getElem?_eq_getElem (by omega)
      have htk : ls.take (j + 1) = ls.take j ++ [ls[j]] := by rw [List.take_add_one, hx]; rfl
      generalize ls[j] = y at *
      refine Br.yes (by simp; omega) (lx0 Xl hl rfl hx (Br.dec (fun _ => Ret.mk (k true fun e => by cases e)) fun g => ?_))
      rw [w2 hls (by omega)]
      refine ih (j + 1) (by omega) fun z hz => ?_
      rw [htk] at hz
      rcases List.mem_append.1 hz with hz | hz
      · exact e z hz
      · rw [List.mem_singleton] at hz; subst hz; omega
  have loop0 : ∀ (m j : Nat), m + j = n → (∀ x ∈ l.take j, x.b.length ≤ 20) → L_law10_large_0 tp tn tc lq ln lc q n c (n : Int) (j : Int) h K := by
    intro m
    induction m with
    | zero =>
      intro j hj e
      refine L_law10_large_0r _ _ _ _ _ _ _ _ _ _ _ _ _ ?_
      unfold L_law10_large_0T
      rw [List.take_of_length_le (by omega)] at e
      exact Br.no (by simp; omega) (loop1 e ln 0 rfl fun y hy => by simp at hy)
    | succ m ih =>
      intro j hj e
      refine L_law10_large_0r _ _ _ _ _ _ _ _ _ _ _ _ _ ?_
      unfold L_law10_large_0T
      have hx : l[j]? = some l[j] := List.getElem?_eq_getElem (by omega)
      have htk : l.take (j + 1) = l.take j ++ [l[j]] := by rw [List.take_add_one, hx]; rfl
      generalize l[j] = y at *
      refine Br.yes (by simp; omega) (ox6 X hn rfl hx (Br.dec (fun _ => Ret.mk (k true fun e => by cases e)) fun g => ?_))
      rw [w2 hs (by omega)]
      refine ih (j + 1) (by omega) fun z hz => ?_
      rw [htk] at hz
      rcases List.mem_append.1 hz with hz | hz
      · exact e z hz
      · rw [List.mem_singleton] at hz; subst hz; omega
  exact loop0 n 0 rfl fun x hx => by simp at hx
theorem made_n {T : List Cur} {n tn : Nat} {ls : List LmV} (g : 1 ≤ n ∧ n ≤ 16 ∧ newE T (newG n tn) ls = 0) : 1 ≤ (n : Int) ∧ (n : Int) ≤ 16 ∧ 1 ≤ (tn : Int) ∧ (tn : Int) ≤ 8 := by
  obtain ⟨g1, g2, g3⟩ := g
  unfold newE at g3
  by_cases e1 : tabE T ≠ 0
  · rw [if_pos e1] at g3; exact (e1 g3).elim
  rw [if_neg e1] at g3
  have e1 : tabE T = 0 := Classical.byContradiction e1
  by_cases e2 : (newG n tn).cur ≠ T.length
  · rw [if_pos e2] at g3; cases g3
  have e2 : (newG n tn).cur = T.length := Classical.byContradiction e2
  have e2 : tn = T.length := e2
  obtain ⟨t1, t8, _⟩ := tab_parts e1
  omega
theorem S_made10X {h0 : Heap} {T : List Cur} {tp : Option Addr} {tn tc : Nat} {q : Option Addr} {ls : List LmV} {n qc : Nat} (l0 : h0.le h) (CT : Curs h0 tp T) (hT : T.length = tn) (hts : tn ≤ 1000000) (A : Arr lmV h0 q ls) (hn : ls.length = n) (hs : n ≤ 1000000) (hI : ∀ y ∈ ls, LmI h0 y) (hsh : ∀ y ∈ ls, y.l.sh.length ≤ 1000000)
    (k0 : ¬ (1 ≤ n ∧ n ≤ 16 ∧ newE T (newG n tn) ls = 0) → ∀ h', h.le h' → K (pointer none) h') (k1 : ∀ h' x, GD h h' x (newU T (newG n tn) ls) → 1 ≤ n → n ≤ 16 → newE T (newG n tn) ls = 0 → (∀ b, x.cB b → h b = none) → K (pointer (some ⟨x.g, 0, none⟩)) h') :
    CallA Try.prog fn_law10_made [slice tp tn tc, slice q n qc] h K := by
  refine F_law10_made _ _ _ _ _ _ _ _ ?_
  unfold F_law10_madeT
  refine S_lNew (fun hb => ⟨_, _, rfl, Br.yes rfl (Ret.mk (k0 (fun g => hb (made_n g)) h h.le_refl))⟩) fun n' w' en ew n1 n16 w1 w8 h2 p B C sp l2 A2 np nB => ⟨_, _, rfl, Br.no rfl ?_⟩
  have en : n' = n := by omega
  have ew : w' = tn := by omega
  subst en ew
  exact S_rNewX l2 (CT.le (Heap.le_trans l0 l2)) hT hts A2 np nB (newG_ok n1 n16 w1 w8) (A.le l0) hn hs (fun y hy => (hI y hy).le l0) hsh (fun ne h' l' _ => ⟨_, _, rfl, Ret.mk (k0 (fun g => ne g.2.2) h' l')⟩) fun e h' x G ep fr => ⟨_, _, rfl, Ret.mk (k1 h' x G n1 n16 e fr)⟩
theorem S_made10 {h0 : Heap} {T : List Cur} {tp : Option Addr} {tn tc : Nat} {q : Option Addr} {ls : List LmV} {n qc : Nat} (l0 : h0.le h) (CT : Curs h0 tp T) (hT : T.length = tn) (hts : tn ≤ 1000000) (A : Arr lmV h0 q ls) (hn : ls.length = n) (hs : n ≤ 1000000) (hI : ∀ y ∈ ls, LmI h0 y) (hsh : ∀ y ∈ ls, y.l.sh.length ≤ 1000000)
    (k0 : ∀ h', h.le h' → K (pointer none) h') (k1 : ∀ h' x, GD h h' x (newU T (newG n tn) ls) → 1 ≤ n → n ≤ 16 → newE T (newG n tn) ls = 0 → K (pointer (some ⟨x.g, 0, none⟩)) h') :
    CallA Try.prog fn_law10_made [slice tp tn tc, slice q n qc] h K := S_made10X l0 CT hT hts A hn hs hI hsh (fun _ => k0) fun h' x G n1 n16 e _ => k1 h' x G n1 n16 e
end
/-! the first question -/
def gT : List Cur := [⟨⟨#[69, 85, 82]⟩, 10000, 0⟩, ⟨⟨#[85, 83, 68]⟩, 12500, 0⟩]
def gL : List Lm := [⟨[0, 100], 50⟩, ⟨[0, 0], 0⟩]
def gu0 : Gu := Gu.judge ⟨newG 2 2, gT, gL, List.replicate 2 false⟩
def gu1 : Gu := (rIn gu0 0 0 100).2
def gu2 : Gu := (rIn gu1 1 1 100).2
def gb1 : List Pst := [⟨0, 0, -90⟩, ⟨0, 1, -60⟩]
def gb2 : List Pst := [⟨0, 1, -40⟩, ⟨1, 1, 40⟩]
def gb3 : List Pst := [⟨0, 1, -1⟩, ⟨1, 1, 1⟩]
def gu3 : Gu := (rBook gu2 gb2).2
def gu4 : Gu := (rBook gu3 gb3).2
def gu5 : Gu := (rTurn gu4 (wRate gu4.T 1 12600)).2
def gu6 : Gu := (rOut gu5 0 0 1).2
def gu7 : Gu := (rOut gu6 1 1 10).2
theorem g_tab : tabE gT = 0 := by decide +kernel
theorem g_1 : (rIn gu0 0 0 100).1 = 0 := by decide +kernel
theorem g_2 : (rIn gu1 1 1 100).1 = 0 := by decide +kernel
theorem g_f : gu2.fails 0 gb1 = 5 := by decide +kernel
theorem g_3 : (rBook gu2 gb2).1 = 0 := by decide +kernel
theorem g_4 : (rBook gu3 gb3).1 = 10 := by decide +kernel
theorem g_5 : (rTurn gu4 (wRate gu4.T 1 12600)).1 = 0 := by decide +kernel
theorem g_6 : (rOut gu5 0 0 1).1 = 10 := by decide +kernel
theorem g_7 : (rOut gu6 1 1 10).1 = 0 := by decide +kernel
theorem g_f0 : gu7.flag 0 = true := by decide +kernel
theorem g_f1 : gu7.flag 1 = false := by decide +kernel
theorem g_f2 : gu7.flag 2 = false := by decide +kernel
theorem g_get : getG gu7.S 1 1 = 130 := by decide +kernel
end Go.Proofs.Ytghdadniddoboaa

/- The law RiskHolds. -/
namespace Go.Proofs.Ytghdadniddoboaa
open Go Go.Sy Go.Value
set_option linter.unusedVariables false
set_option linter.unusedSimpArgs false

theorem S_law10_awake {h : Heap} {K : Value → Heap → Prop} (k : ∀ h', h.le h' → K (.bool true) h') : CallA Try.prog fn_law10_awake [] h K := by
  refine F_law10_awake _ _ ?_
  unfold F_law10_awakeT
  refine newB_at fun r h1 hr l1 Ar => ?_
  have Ct : Curs h1 (some ⟨r, 0, none⟩) gT := (show At h1 r (curV gT ++ []) from Ar).toRd
  refine S_lNew (fun e => absurd e (by decide)) fun n w en ew _ _ _ _ h2 p B C sp l2 A2 np nB => ⟨_, _, rfl, ?_⟩
  have en : n = 2 := by omega
  have ew : w = 2 := by omega
  subst en ew
  refine Br.no rfl (newB_at fun r1 h3 z1 l3 A3 => newB_at fun r2 h4 z2 l4 A4 => newB_at fun r3 h5 z3 l5 A5 => ?_)
  have l25 := Heap.le_trans l3 (Heap.le_trans l4 l5)
  have hE : ∀ {b : Nat}, h2 b = none → (fun b => b == p || b == B) b = false := fun e => by
    have e1 := A2.ap.ne e
    have e2 := A2.ab.ne e
    show (_ == p || _ == B) = false
    rw [Bool.or_eq_false_iff]
    exact ⟨by simpa using fun e => e1 e.symm, by simpa using fun e => e2 e.symm⟩
  have z2' := none_of_le l3 z2
  have z3' := none_of_le l3 (none_of_le l4 z3)
  have X1 := At.wo (D := fun b => b == p || b == B) (A3.le (Heap.le_trans l4 l5)) (hE z1)
  have X2 := At.wo (D := fun b => b == p || b == B) (A4.le l5) (hE z2')
  have X3 := At.wo (D := fun b => b == p || b == B) A5 (hE z3')
  have l15 : h1.le (h5.wo fun b => b == p || b == B) := le_wo (Heap.le_trans l2 l25) fun b hb => by
    have hb : b = p ∨ b = B := by simpa using hb
    rcases hb with rfl | rfl
    · exact np
    · exact nB
  have lg : h.le (h5.wo fun b => b == p || b == B) := Heap.le_trans l1 l15
  have ip : ∀ a : Int, -1000 ≤ a → a ≤ 1000 → I64 a := fun a h1 h2 => by unfold I64; omega
  have iA : ∀ {g : Heap}, At g r1 [.int .i64 0, .int .i64 100] → LmI g ⟨some ⟨r1, 0, none⟩, 2, ⟨[0, 100], 50⟩⟩ := fun a => ⟨at_rd0 a, fun y hy => (by
    simp only [List.mem_cons, List.not_mem_nil, or_false] at hy
    rcases hy with rfl | rfl <;> exact ip _ (by decide) (by decide)), ip 50 (by decide) (by decide)⟩
  have iB : ∀ {g : Heap}, At g r2 [.int .i64 0, .int .i64 0] → LmI g ⟨some ⟨r2, 0, none⟩, 2, ⟨[0, 0], 0⟩⟩ := fun a => ⟨at_rd0 a, fun y hy => (by
    simp only [List.mem_cons, List.not_mem_nil, or_false] at hy
    rcases hy with rfl | rfl <;> exact ip _ (by decide) (by decide)), ip 0 (by decide) (by decide)⟩
  have e0 : newE gT (newG 2 2) [⟨some ⟨r1, 0, none⟩, 2, ⟨[0, 100], 50⟩⟩, ⟨some ⟨r2, 0, none⟩, 2, ⟨[0, 0], 0⟩⟩] = 0 := by kernel_rfl
  have e1 : newE gT (newG 2 2) [⟨some ⟨r1, 0, none⟩, 2, ⟨[0, 100], 50⟩⟩] = 1 := by kernel_rfl
  refine S_rNew (h0 := h5.wo fun b => b == p || b == B) (T := gT) (S := newG 2 2) (l0 := [⟨some ⟨r1, 0, none⟩, 2, ⟨[0, 100], 50⟩⟩, ⟨some ⟨r2, 0, none⟩, 2, ⟨[0, 0], 0⟩⟩]) (wo_le _ _) (Ct.le (Heap.le_trans l2 l25)) rfl (by decide) (A2.le l25) (wo_none (by simp)) (wo_none (by simp)) (newG_ok (by decide) (by decide) (by decide) (by decide)) (at_rd0 X3) rfl (by decide) (fun y hy => ?_) (fun y hy => ?_) (fun e => absurd e0 e) fun _ h6 x G ep => ⟨_, _, rfl, by decide, by decide, ?_⟩
  · simp only [List.mem_cons, List.not_mem_nil, or_false] at hy
    rcases hy with rfl | rfl
    · exact iA X1
    · exact iB X2
  · simp only [List.mem_cons, List.not_mem_nil, or_false] at hy
    rcases hy with rfl | rfl <;> exact (show 2 ≤ 1000000 by decide)
  have G : GD _ h6 x gu0 := G
  generalize (h5.wo fun b => b == p || b == B) = g0 at *
  subst ep
  have nE : ∀ {b : Nat} {vs : List Value}, At g0 b vs → (fun b => b == x.p || b == x.B) b = false := fun a => by
    have lk := Heap.le_trans G.base G.ck
    have e1 := a.ne (none_of_le lk G.W.np)
    have e2 := a.ne (none_of_le lk G.W.nB)
    show (_ == x.p || _ == x.B) = false
    rw [Bool.or_eq_false_iff]
    exact ⟨by simpa using e1, by simpa using e2⟩
  have b6 := G.b
  refine S_rNew (h0 := h6.wo fun b => b == x.p || b == x.B) (T := gT) (S := newG 2 2) (l0 := [⟨some ⟨r1, 0, none⟩, 2, ⟨[0, 100], 50⟩⟩]) (wo_le _ _) (Ct.le (Heap.le_trans l15 b6)) rfl (by decide) G.W.LA (wo_none (by simp)) (wo_none (by simp)) (newG_ok (by decide) (by decide) (by decide) (by decide)) (show At _ r3 ([slice (some ⟨r1, 0, none⟩) 2 2, .int .i64 50] ++ [slice (some ⟨r2, 0, none⟩) 2 2, .int .i64 0]) from At.wo (D := fun b => b == x.p || b == x.B) (X3.le b6) (nE X3)).toRd rfl (by decide) (fun y hy => ?_) (fun y hy => ?_) (fun _ h7 l7 LA7 => ⟨_, _, rfl, Br.no rfl ?_⟩) (fun e => by rw [e1] at e; cases e)
  · rw [List.mem_singleton] at hy
    subst hy
    exact iA (At.wo (D := fun b => b == x.p || b == x.B) (X1.le b6) (nE X1))
  · rw [List.mem_singleton] at hy
    subst hy
    exact (show 2 ≤ 1000000 by decide)
  rw [e1]
  have G7 := G.relay l7 LA7
  refine S_gIn G7 (ip _ (by decide) (by decide)) fun h8 x8 G8 a8 q8 => ⟨_, rfl, ?_⟩
  have G8 : GD _ h8 x8 gu1 := G8
  rw [show (rIn gu0 0 0 100).1 = 0 from g_1, ← a8]
  refine S_gIn G8 (ip _ (by decide) (by decide)) fun h9 x9 G9 a9 q9 => ⟨_, rfl, newB_at fun s1 h10 s1z l10 As1 => ?_⟩
  have G9 : GD _ h9 x9 gu2 := G9
  rw [show (rIn gu1 1 1 100).1 = 0 from g_2, ← a9]
  have pI : ∀ (b : List Pst), (∀ y ∈ b, -1000 ≤ y.m ∧ y.m ≤ 1000 ∧ -1000 ≤ y.c ∧ y.c ≤ 1000 ∧ -1000 ≤ y.a ∧ y.a ≤ 1000) → ∀ y ∈ b, I64 y.m ∧ I64 y.c ∧ I64 y.a := fun b hb y hy => by
    have := hb y hy
    exact ⟨ip _ (by omega) (by omega), ip _ (by omega) (by omega), ip _ (by omega) (by omega)⟩
  have i1 := pI gb1 (by decide)
  have i2 := pI gb2 (by decide)
  have i3 := pI gb3 (by decide)
  refine S_gFails (b := gb1) (G9.le l10) (at_rd0 As1) rfl (by decide) (fun y hy => (i1 y hy).2.2) fun h11 l11 => ⟨_, rfl, newB_at fun s2 h12 s2z l12 As2 => ?_⟩
  rw [g_f]
  have G12 := (G9.le l10).le l11
  obtain ⟨g1, y1, lt1, Gt1, yg1, yp1, kp1⟩ := (G12.le l12).topX
  rw [← yg1]
  refine S_gBook (b := gb2) Gt1 (at_rd0 (kp1 _ _ (G12.toGR.outE s2z) As2)) rfl (by decide) i2 fun h13 x13 G13 a13 q13 => ⟨_, rfl, newB_at fun s3 h14 s3z l14 As3 => ?_⟩
  have G13 : GD _ h13 x13 gu3 := G13
  rw [show (rBook gu2 gb2).1 = 0 from g_3]
  rw [← a13]
  obtain ⟨g2, y2, lt2, Gt2, yg2, yp2, kp2⟩ := (G13.le l14).topX
  rw [← yg2]
  refine S_gBook (b := gb3) Gt2 (at_rd0 (kp2 _ _ (G13.toGR.outE s3z) As3)) rfl (by decide) i3 fun h15 x15 G15 a15 q15 => ⟨_, rfl, ?_⟩
  have G15 : GD _ h15 x15 gu4 := G15
  rw [show (rBook gu3 gb3).1 = 10 from g_4]
  rw [← a15]
  refine S_gRate G15 fun h16 x16 G16 a16 q16 => ⟨_, rfl, ?_⟩
  have G16 : GD _ h16 x16 gu5 := G16
  rw [show (rTurn gu4 (wRate gu4.T 1 12600)).1 = 0 from g_5, ← a16]
  refine S_gOut G16 (ip _ (by decide) (by decide)) fun h17 x17 G17 a17 q17 => ⟨_, rfl, ?_⟩
  have G17 : GD _ h17 x17 gu6 := G17
  rw [show (rOut gu5 0 0 1).1 = 10 from g_6, ← a17]
  refine S_gOut G17 (ip _ (by decide) (by decide)) fun h18 x18 G18 a18 q18 => ⟨_, rfl, ?_⟩
  have G18 : GD _ h18 x18 gu7 := G18
  rw [show (rOut gu6 1 1 10).1 = 0 from g_7, ← a18]
  have q : x18.p = x.p := q18.trans (q17.trans (q16.trans ((q15.trans yp2).trans ((q13.trans yp1).trans (q9.trans q8)))))
  refine Br.yes rfl (Br.yes rfl (Br.yes rfl (Br.yes rfl (Br.yes rfl (Br.yes rfl (Br.yes rfl (Br.yes rfl (S_gFlagged G18.toGR ⟨_, rfl, Br.yes g_f0 (S_gFlagged G18.toGR ⟨_, rfl, Br.yes (by rw [g_f1]; rfl) (S_gFlagged G18.toGR ⟨_, rfl, Br.yes (by rw [g_f2]; rfl) (Br.yes rfl (Br.yes rfl ?_))⟩)⟩)⟩))))))))
  rw [← q]
  refine S_lGet G18.W.LA ⟨_, rfl, Ret.mk ?_⟩
  rw [g_get]
  exact k h18 (Heap.le_trans lg (Heap.le_trans lt1 (Heap.le_trans lt2 G18.b)))
def GoodR (h0 : Heap) (v : Value) (h' : Heap) : Prop := v = .bool true ∧ h0.le h'
theorem goodR {h0 h : Heap} (l : h0.le h) : Ret h (GoodR h0) (.bool true) := Ret.mk ⟨rfl, l⟩
theorem bx {h : Heap} {p : Option Addr} {l : List Bool} {N : Nat} (I : rdL h p (boV l)) (hn : l.length = N) {j : Nat} {i : Int} (hi : i = (j : Int)) (hj : j < N) {Q : Bool → Prop} (kk : Q (l.getD j false)) :
    0 ≤ i ∧ i < (N : Int) ∧ withAddr p fun b o => ∃ v, h.cell b (o + i.toNat) = some (.bool v) ∧ Q v := by
  subst hi
  rcases I with e | ⟨b, o, e, r⟩
  · have := congrArg List.length e
    rw [boV_len, List.length_nil] at this
    omega
  · refine ⟨by omega, by omega, withAddr_intro e ⟨_, ?_, kk⟩⟩
    rw [Int.toNat_natCast, r j (by rw [boV_len]; omega), boV_get (by omega)]
theorem flag_at {u : Gu} {m : Nat} (hm : m < u.fl.length) : u.flag (m : Int) = u.fl.getD m false := by
  unfold Gu.flag
  rw [decide_eq_true (by omega), Bool.true_and, Int.toNat_natCast]
theorem doR_len (u : Gu) (o : u.Ok) (x : OpR) : (doR u x).2.fl.length = u.fl.length ∧ (doR u x).2.Ok := by
  have j : ∀ v : Gu, v.judge.fl.length = v.fl.length := fun v => by show (List.map _ _).length = _; rw [List.length_map, List.length_range]
  have tn : ∀ t : Option (List Cur), (∀ T, t = some T → tabE T = 0 ∧ T.length = u.T.length) → (rTurn u t).2.fl.length = u.fl.length ∧ (rTurn u t).2.Ok := fun t ht => by
    unfold rTurn
    cases t with
    | none => exact ⟨rfl, o⟩
    | some T => exact ⟨j _, (o.setT (ht T rfl).1 (ht T rfl).2).judge⟩
  have an : ∀ r : Int × Lg, r.2.Ok → szB u.S r.2 → (rAnew u r).2.fl.length = u.fl.length ∧ (rAnew u r).2.Ok := fun r ho hz => by
    unfold rAnew
    dsimp only
    split
    · exact ⟨j _, (o.setS ho hz).judge⟩
    · exact ⟨rfl, o⟩
  unfold doR
  split
  · by_cases e : (rIn u x.m x.c x.a).1 = 0
    · obtain ⟨i, _, hi, _, _, e2⟩ := rIn_ok e
      rw [e2]
      exact ⟨List.length_set, (o.setS (inG_ok o.o _ _ _) (inG_sz _ _ _ _)).setF _ _⟩
    · rw [rIn_err e]; exact ⟨rfl, o⟩
  split
  · by_cases e : (rOut u x.m x.c x.a).1 = 0
    · obtain ⟨i, _, hi, _, _, _, e2⟩ := rOut_ok e
      rw [e2]
      exact ⟨rfl, o.setS (outG_ok o.o _ _ _) (outG_sz _ _ _ _)⟩
    · rw [rOut_err e]; exact ⟨rfl, o⟩
  split
  · exact tn _ fun T e => by have := wRate_tab o.tab x.c x.a; rw [e] at this; exact this
  split
  · exact tn _ fun T e => by have := wCut_tab o.tab x.c x.a; rw [e] at this; exact this
  split
  · exact an _ (postG_ok o.o _) (postG_sz _ _)
  split
  · exact an _ (swapG_ok o.o _ _ _ _ _) (swapG_sz _ _ _ _ _ _)
  · by_cases e : (rBook u x.b).1 = 0
    · obtain ⟨_, _, e2⟩ := rBook_ok e
      rw [e2]
      exact ⟨rfl, o.setS (postG_ok o.o _) (postG_sz _ _)⟩
    · rw [rBook_err e]; exact ⟨rfl, o⟩
section
variable {K : Value → Heap → Prop} {lq : Option Addr} {N lc : Nat} {q : Option Addr} {l : List OpR} {n qc : Nat}
theorem holds_2 {h0 : Heap} {x : GuF} {u v : Gu} {o : OpR} {r : Nat} {wp : Option Addr} {wc : Nat} {j0 : Int} (hN : u.fl.length = N) (hN2 : v.fl.length = N) (h16 : N ≤ 16) (hd : v.held) (Ar : At h0 r (opV1 o)) (Iw : rdL h0 wp (boV u.fl)) (hf : o.d ≠ 2 → o.d ≠ 3 → o.d ≠ 5 → o.d ≠ 6 → ∀ m : Nat, v.fl.getD m false = true → u.fl.getD m false = true)
    (k : ∀ h', GD h0 h' x v → L_law10_RiskHolds_0 lq N lc (some ⟨x.g, 0, none⟩) q n qc (n : Int) (IntKind.wrap .i64 (j0 + 1)) h' K) :
    ∀ (d j : Nat) (h : Heap), d + j = N → GD h0 h x v → L_law10_RiskHolds_2 lq N lc (some ⟨x.g, 0, none⟩) r wp N wc q n qc (n : Int) j0 (N : Int) (j : Int) h K := by
  intro d
  induction d with
  | zero =>
    intro j h hj G
    refine L_law10_RiskHolds_2r _ _ _ _ _ _ _ _ _ _ _ _ _ _ _ _ _ ?_
    unfold L_law10_RiskHolds_2T
    exact Br.no (by simp; omega) (k h G)
  | succ d ih =>
    intro j h hj G
    refine L_law10_RiskHolds_2r _ _ _ _ _ _ _ _ _ _ _ _ _ _ _ _ _ ?_
    unfold L_law10_RiskHolds_2T
    have hjv : j < v.fl.length := by omega
    have next : ∀ h', GD h0 h' x v → L_law10_RiskHolds_2 lq N lc (some ⟨x.g, 0, none⟩) r wp N wc q n qc (n : Int) j0 (N : Int) (IntKind.wrap .i64 ((j : Int) + 1)) h' K := fun h' G' => by
      rw [w1 (by omega)]
      exact ih (j + 1) h' (by omega) G'
    refine Br.yes (by simp; omega) (S_gFlagged G.toGR ⟨_, rfl, ?_⟩)
    rw [flag_at hjv]
    cases hb : v.fl.getD j false with
    | false =>
      refine Br.yes rfl (S_gFails G (b := []) (.inl rfl) rfl (by decide) (fun y hy => by cases hy) fun h1 l1 => ⟨_, rfl, ?_⟩)
      rw [hd j hjv hb]
      exact Br.no rfl (Br.no rfl (next h1 (G.le l1)))
    | true =>
      have A := Ar.le G.b
      refine Br.no rfl (Br.yes rfl (bx (rdL_le G.b Iw) hN rfl (by omega) ?_))
      cases hu : u.fl.getD j false with
      | true => exact Br.no rfl (next h G)
      | false =>
        refine Br.yes rfl ⟨_, A.cell rfl, ?_⟩
        by_cases e2 : o.d = 2
        · exact Br.no (by simp [e2]) (next h G)
        refine Br.yes (by simpa using e2) ⟨_, A.cell rfl, ?_⟩
        by_cases e3 : o.d = 3
        · exact Br.no (by simp [e3]) (next h G)
        refine Br.yes (by simpa using e3) ⟨_, A.cell rfl, ?_⟩
        by_cases e5 : o.d = 5
        · exact Br.no (by simp [e5]) (next h G)
        refine Br.yes (by simpa using e5) ⟨_, A.cell rfl, ?_⟩
        by_cases e6 : o.d = 6
        · exact Br.no (by simp [e6]) (next h G)
        have := hf e2 e3 e5 e6 j hb
        rw [hu] at this
        cases this
theorem holds_1 {h0 H : Heap} {x : GuF} {u : Gu} {r : Nat} {j0 : Int} (hN : u.fl.length = N) (h16 : N ≤ 16) (G : GD h0 H x u)
    (k : ∀ h' wp wc, H.le h' → OwnL H h' [.bool false] wp wc (boV u.fl) → L_law10_RiskHolds_1 lq N lc (some ⟨x.g, 0, none⟩) r wp N wc q n qc (n : Int) j0 (N : Int) ((N : Nat) : Int) h' K) :
    ∀ (d j : Nat) (h : Heap) (wp : Option Addr) (wc : Nat), d + j = N → H.le h → OwnL H h [.bool false] wp wc (boV (u.fl.take j)) → L_law10_RiskHolds_1 lq N lc (some ⟨x.g, 0, none⟩) r wp j wc q n qc (n : Int) j0 (N : Int) (j : Int) h K := by
  intro d
  induction d with
  | zero =>
    intro j h wp wc hj l own
    obtain rfl : j = N := by omega
    rw [List.take_of_length_le (by omega)] at own
    exact k h wp wc l own
  | succ d ih =>
    intro j h wp wc hj l own
    refine L_law10_RiskHolds_1r _ _ _ _ _ _ _ _ _ _ _ _ _ _ _ _ _ ?_
    unfold L_law10_RiskHolds_1T
    refine Br.yes (by simp; omega) (S_gFlagged (G.le l).toGR ⟨_, rfl, ?_⟩)
    rw [flag_at (by omega)]
    refine push1 own (by decide) l (by omega) rfl rfl (by rw [boV_len, List.length_take]; simp; omega) fun r2 h2 p' c' h3 hr2 l2 l3 own' _ _ => ?_
    rw [w1 (by omega)]
    refine ih (j + 1) h3 p' c' (by omega) l3 ?_
    have hx : u.fl[j]? = some (u.fl.getD j false) := by rw [List.getD_eq_getElem?_getD, List.getElem?_eq_getElem (by omega)]; rfl
    have htk : boV (u.fl.take (j + 1)) = boV (u.fl.take j) ++ [.bool (u.fl.getD j false)] := by
      rw [List.take_add_one, hx]
      unfold boV
      rw [List.map_append]; rfl
    rw [htk]
    exact own'
theorem holds_0 {he : Heap} (X : Ops he q l) (hn : l.length = n) (hs : n ≤ 1000) (hI : ∀ y ∈ l, OpI y) (hb : ∀ y ∈ l, y.b.length ≤ 20) (h16 : N ≤ 16) :
    ∀ (m j : Nat) (h0 h : Heap) (x : GuF) (u : Gu), m + j = n → he.le h0 → GD h0 h x u → u.held → u.fl.length = N → L_law10_RiskHolds_0 lq N lc (some ⟨x.g, 0, none⟩) q n qc (n : Int) (j : Int) h (GoodR he) := by
  intro m
  induction m with
  | zero =>
    intro j h0 h x u hj l0 G hd hN
    refine L_law10_RiskHolds_0r _ _ _ _ _ _ _ _ _ _ _ ?_
    unfold L_law10_RiskHolds_0T
    exact Br.no (by simp; omega) (goodR (Heap.le_trans l0 G.b))
  | succ m ih =>
    intro j h0 h x u hj l0 G hd hN
    refine L_law10_RiskHolds_0r _ _ _ _ _ _ _ _ _ _ _ ?_
    unfold L_law10_RiskHolds_0T
    have hx : l[j]? = some l[j] := List.getElem?_eq_getElem (by omega)
    have hmem : l[j] ∈ l := List.getElem_mem _
    generalize l[j] = o at *
    refine Br.yes (by simp; omega) (ox (X.le (Heap.le_trans l0 G.b)) hn rfl hx (newB_cp (vs := opV1 o) rfl fun r h1 hr l1 A cs => ⟨cs, ?_⟩))
    show L_law10_RiskHolds_1 lq N lc (some ⟨x.g, 0, none⟩) r none 0 0 q n qc (n : Int) (j : Int) (N : Int) ((0 : Nat) : Int) (h1.setN r 0 (opV1 o)) (GoodR he)
    generalize h1.setN r 0 (opV1 o) = H at *
    have G1 := G.le l1
    refine holds_1 hN h16 G1 (fun h2 wp wc l2 own => ?_) N 0 H none 0 rfl H.le_refl (by rw [List.take_zero]; exact OwnL.nil _ _ _)
    refine L_law10_RiskHolds_1r _ _ _ _ _ _ _ _ _ _ _ _ _ _ _ _ _ ?_
    unfold L_law10_RiskHolds_1T
    have G2 := G1.le l2
    have A2 := A.le l2
    obtain ⟨g1, y, lt, Gt, yg, yp, keep⟩ := G2.topX
    have At1 : At g1 r (opV1 o) := keep _ _ (G.toGR.outE hr) A2
    have Iw : rdL g1 wp (boV u.fl) := by
      rcases own with ⟨e, _, _⟩ | ⟨p5, sp5, e5, z5, a5, _⟩
      · rw [e]; exact .inl rfl
      · rw [e5]; exact (keep _ _ (G1.toGR.outE z5) a5).toRd
    have lx1 := Heap.le_trans l0 lt
    obtain ⟨len', ok'⟩ := doR_len u G.ok o
    have hd' := doR_held G.ok hd o
    rw [← yg]
    refine Br.no (by simp) ⟨_, A2.cell rfl, _, A2.cell rfl, _, A2.cell rfl, _, A2.cell rfl, _, A2.cell rfl, _, A2.cell rfl, _, _, _, A2.cell rfl, S_do10 Gt (rdL_le lx1 (X.2 o hmem)) (hI o hmem) (hb o hmem) fun h3 x3 G3 e3 p3 => ⟨_, rfl, _, (At1.le G3.b).cell rfl, ?_⟩⟩
    rw [← e3]
    have fin : L_law10_RiskHolds_2 lq N lc (some ⟨x3.g, 0, none⟩) r wp N wc q n qc (n : Int) (j : Int) (N : Int) ((0 : Nat) : Int) h3 (GoodR he) := by
      refine holds_2 hN (len'.trans hN) h16 hd' At1 Iw (fun e2 e3 e5 e6 m hm => doR_flag e2 e3 e5 e6 hm) (fun h4 G4 => ?_) N 0 h3 rfl G3
      rw [w1 (by omega)]
      exact ih (j + 1) g1 h4 x3 _ (by omega) lx1 G4 hd' (len'.trans hN)
    refine Br.intro (fun g0 => ?_) fun _ => fin
    have g0 : o.d = 0 := by simpa using g0
    refine Br.no ?_ fin
    have : (doR u o).1 = (rIn u o.m o.c o.a).1 := by unfold doR; rw [if_pos g0]
    rw [this]
    have := rIn_10 (u := u) o.m o.c o.a
    simpa using this
end
theorem newU_held (T : List Cur) (S : Lg) (ls : List LmV) : (newU T S ls).held := judge_held _
theorem newU_len (T : List Cur) {n w : Nat} (ls : List LmV) : (newU T (newG n w) ls).fl.length = n := by
  show (List.map _ (List.range (List.replicate (newG n w).M.length false).length)).length = n
  rw [List.length_map, List.length_range, List.length_replicate]
  unfold newG
  rw [List.length_replicate]
theorem law10_RiskHolds_ok {h : Heap} {tp : Option Addr} {tn tc : Nat} (HT : curSh.Has h [.slice tp tn tc]) {lq : Option Addr} {ln lc : Nat} (HL : (Sh.sl lmSt).Has h [.slice lq ln lc]) {q : Option Addr} {n qc : Nat} (HO : opsSh.Has h [.slice q n qc]) :
    CallA Try.prog fn_law10_RiskHolds [slice tp tn tc, slice lq ln lc, slice q n qc] h fun v h' => v = .bool true ∧ h.le h' := by
  obtain ⟨tmax, T, hT, CT, _⟩ := curs_of HT
  obtain ⟨lmax, ls, hls, XL, hLI⟩ := lm_of HL
  obtain ⟨omax, l, hl, X, hI, _⟩ := ops_of HO
  refine F_law10_RiskHolds _ _ _ _ _ _ _ _ _ _ _ ?_
  unfold F_law10_RiskHoldsT
  refine S_law10_awake fun h1 l1 => ⟨_, rfl, Br.no rfl (S_large10 (XL.le l1) hls lmax (X.le l1) hl omax fun b hb => ⟨_, rfl, ?_⟩)⟩
  cases b with
  | true => exact Br.yes rfl (goodR l1)
  | false =>
    obtain ⟨h30, t20, l20, hb20, hs20⟩ := hb rfl
    refine Br.no rfl (S_made10 l1 CT hT (by omega) XL hls (by omega) hLI (fun y hy => by have := hs20 y hy; omega) (fun h2 l2 => ⟨_, rfl, Br.yes rfl (goodR (Heap.le_trans l1 l2))⟩) fun h2 x G n1 n16 _ => ⟨_, rfl, Br.no rfl ?_⟩)
    exact holds_0 X hl (by omega) hI hb20 n16 n 0 h1 h2 x _ rfl l1 G (newU_held _ _ _) (newU_len _ _)
end Go.Proofs.Ytghdadniddoboaa

/- Rows of whole numbers in memory, each in a block of its own, behind a slice. -/
namespace Go.Proofs.Ytghdadniddoboaa
open Go Go.Sy Go.Value
set_option linter.unusedVariables false
set_option linter.unusedSimpArgs false

structure Rws where
  a : Option Addr
  C : Nat
  sp : List Value
  R : Nat → Nat
  CC : Nat → Nat
  SP : Nat → List Value
def slV (R CC : Nat → Nat) (w n : Nat) : List Value := (List.range n).map fun i => .slice (some ⟨R i, 0, none⟩) w (CC i)
theorem slV_len (R CC : Nat → Nat) (w n : Nat) : (slV R CC w n).length = n := by unfold slV; rw [List.length_map, List.length_range]
theorem slV_get (R CC : Nat → Nat) (w : Nat) {n i : Nat} (h : i < n) : (slV R CC w n)[i]? = some (.slice (some ⟨R i, 0, none⟩) w (CC i)) := by unfold slV; rw [List.getElem?_map, List.getElem?_range h]; rfl
theorem slV_succ {R CC R' CC' : Nat → Nat} {w n : Nat} (h : ∀ i, i < n → R' i = R i ∧ CC' i = CC i) : slV R' CC' w (n + 1) = slV R CC w n ++ [.slice (some ⟨R' n, 0, none⟩) w (CC' n)] := by
  unfold slV
  rw [List.range_succ, List.map_append]
  congr 1
  refine List.map_congr_left fun i hi => ?_
  obtain ⟨h1, h2⟩ := h i (List.mem_range.1 hi)
  rw [h1, h2]
structure RwsAt (h : Heap) (f : Rws) (M : Mx) (w : Nat) : Prop where
  pr : M.length = 0 ∨ ∃ B, f.a = some ⟨B, 0, none⟩ ∧ At h B (slV f.R f.CC w M.length ++ f.sp)
  nb : ∀ B, f.a = some ⟨B, 0, none⟩ → ∀ i, i < M.length → f.R i ≠ B
  row : ∀ i, i < M.length → At h (f.R i) (intsV .i64 (M.getD i []) ++ f.SP i)
  inj : ∀ i j, i < M.length → j < M.length → f.R i = f.R j → i = j
  sh : shM M M.length w
/-- where they lie -/
def Rws.D (f : Rws) (n x : Nat) : Bool := (decide (0 < n) && (match f.a with | some ⟨B, 0, Option.none⟩ => B == x | _ => false)) || (List.range n).any fun i => f.R i == x
theorem Rws.D_t {f : Rws} {n x : Nat} (h : f.D n x = true) : (0 < n ∧ f.a = some ⟨x, 0, none⟩) ∨ ∃ i, i < n ∧ f.R i = x := by
  unfold Rws.D at h
  rw [Bool.or_eq_true, Bool.and_eq_true, List.any_eq_true] at h
  rcases h with ⟨h1, h2⟩ | ⟨i, hi, h⟩
  · split at h2
    · rename_i B e
      have : B = x := by simpa using h2
      exact .inl ⟨by simpa using h1, by rw [e, this]⟩
    · cases h2
  · exact .inr ⟨i, List.mem_range.1 hi, by simpa using h⟩
theorem Rws.D_row (f : Rws) {n i : Nat} (hi : i < n) : f.D n (f.R i) = true := by
  unfold Rws.D
  rw [Bool.or_eq_true, List.any_eq_true]
  exact .inr ⟨i, List.mem_range.2 hi, by simp⟩
theorem Rws.D_a {f : Rws} {n B : Nat} (h0 : 0 < n) (e : f.a = some ⟨B, 0, none⟩) : f.D n B = true := by
  unfold Rws.D
  rw [e]; simp [h0]
section
variable {h h0 : Heap} {f : Rws} {M : Mx} {w : Nat}
theorem RwsAt.mv {h' : Heap} (A : RwsAt h f M w) (k : ∀ b xs, f.D M.length b = true → At h b xs → At h' b xs) : RwsAt h' f M w := by
  refine { A with pr := ?_, row := fun i hi => k _ _ (f.D_row hi) (A.row i hi) }
  rcases A.pr with e | ⟨B, e, a⟩
  · exact .inl e
  · by_cases h0 : 0 < M.length
    · exact .inr ⟨B, e, k _ _ (Rws.D_a h0 e) a⟩
    · exact .inl (by omega)
theorem RwsAt.le {h' : Heap} (A : RwsAt h f M w) (l : h.le h') : RwsAt h' f M w := A.mv fun b xs _ a => a.le l
theorem RwsAt.at (A : RwsAt h f M w) {x : Nat} (e : f.D M.length x = true) : ∃ xs, At h x xs := by
  rcases Rws.D_t e with ⟨h0, e2⟩ | ⟨i, hi, rfl⟩
  · rcases A.pr with e3 | ⟨B, e3, a⟩
    · omega
    · rw [e2] at e3; cases e3; exact ⟨_, a⟩
  · exact ⟨_, A.row i hi⟩
theorem RwsAt.fresh (A : RwsAt h f M w) {x : Nat} (e : h x = none) : f.D M.length x = false := by
  cases hd : f.D M.length x with
  | false => rfl
  | true => obtain ⟨xs, a⟩ := A.at hd; exact (a.ne e rfl).elim
theorem RwsAt.cl (A : RwsAt h f M w) {i : Nat} (hi : i < M.length) : ∃ B, f.a = some ⟨B, 0, none⟩ ∧ h.cell B (0 + i) = some (.slice (some ⟨f.R i, 0, none⟩) w (f.CC i)) := by
  obtain ⟨B, e, a⟩ := A.pr.resolve_left (by omega)
  exact ⟨B, e, a.cell (by rw [Nat.zero_add, List.getElem?_append_left (by rw [slV_len]; exact hi), slV_get _ _ _ hi])⟩
theorem RwsAt.amt (A : RwsAt h f M w) {i c : Nat} (hi : i < M.length) (hc : c < w) : h.cell (f.R i) (0 + c) = some (.int .i64 (rdM M i c)) := by
  refine (A.row i hi).cell ?_
  have hl := A.sh.row hi
  rw [Nat.zero_add, List.getElem?_append_left (by rw [intsV_length]; omega), intsV_map, List.getElem?_map, List.getElem?_eq_getElem (by omega)]
  unfold rdM
  simp only [Option.map_some]
  congr 2
  rw [List.getD_eq_getElem?_getD (l := M.getD i []), List.getElem?_eq_getElem (by omega)]; rfl
theorem RwsAt.st (A : RwsAt h f M w) {i c : Nat} (hi : i < M.length) (hc : c < w) : h.canSt (f.R i) (0 + c) 1 := (A.row i hi).canSt (by rw [List.length_append, intsV_length, A.sh.row hi]; omega)
theorem setL_ints' {l : List Int} {sp : List Value} {c : Nat} {v : Int} (h : c < l.length) : setL (intsV .i64 l ++ sp) c [.int .i64 v] = intsV .i64 (l.set c v) ++ sp := by
  rw [setL, setL, setT_eq, List.set_append_left _ _ (by rw [intsV_length]; omega), intsV_map, intsV_map, List.map_set]
theorem RwsAt.wr (A : RwsAt h f M w) {i c : Nat} {v : Int} (hi : i < M.length) (hc : c < w) : RwsAt (h.setN (f.R i) (0 + c) [.int .i64 v]) f (wrM M i c v) w := by
  have hl : (wrM M i c v).length = M.length := (A.sh.wr hi).1
  have hrow := A.sh.row hi
  refine ⟨?_, ?_, ?_, ?_, ?_⟩
  · obtain ⟨B, e, a⟩ := A.pr.resolve_left (by omega)
    rw [hl]
    exact .inr ⟨B, e, a.set_ne (fun x => A.nb B e i hi x.symm)⟩
  · rw [hl]; exact A.nb
  · rw [hl]
    intro j hj
    by_cases e : j = i
    · subst e
      have := (A.row j hj).set (o := 0 + c) (ws := [.int .i64 v])
      rw [Nat.zero_add, setL_ints' (by omega)] at this
      have eg : (wrM M j c v).getD j [] = (M.getD j []).set c v := by
        unfold wrM
        rw [List.getD_eq_getElem?_getD, List.getElem?_set_self hj]; rfl
      rw [eg, Nat.zero_add]
      exact this
    · have eg : (wrM M i c v).getD j [] = M.getD j [] := by
        unfold wrM
        rw [List.getD_eq_getElem?_getD, List.getElem?_set_ne (fun x => e x.symm), ← List.getD_eq_getElem?_getD]
      rw [eg]
      exact (A.row j hj).set_ne (fun x => e (A.inj j i hj hi x))
  · rw [hl]; exact A.inj
  · rw [hl]; exact A.sh.wr hi
/-- a cell, read -/
theorem RwsAt.get (A : RwsAt h f M w) {i c : Nat} (hi : i < M.length) (hc : c < w) {Q : Int → Prop} (kk : Q (rdM M i c)) :
    withAddr f.a fun b o => ∃ a n m, h.cell b (o + (i : Int).toNat) = some (.slice a n m) ∧ 0 ≤ (c : Int) ∧ (c : Int) < (n : Int) ∧ withAddr a fun b o => ∃ n, h.cell b (o + (c : Int).toNat) = some (.int .i64 n) ∧ Q n := by
  obtain ⟨B, e, g⟩ := A.cl hi
  exact withAddr_intro e ⟨_, _, _, g, by omega, by omega, withAddr_intro rfl ⟨_, A.amt hi hc, kk⟩⟩
end
/-- rows that are being laid, one by one -/
structure RwB (h0 h : Heap) (a : Option Addr) (C : Nat) (R CC : Nat → Nat) (SP : Nat → List Value) (M : Mx) (w : Nat) : Prop where
  base : h0.le h
  own : OwnL h0 h [.slice none 0 0] a C (slV R CC w M.length)
  row : ∀ i, i < M.length → At h (R i) (intsV .i64 (M.getD i []) ++ SP i)
  nr : ∀ i, i < M.length → h0 (R i) = none
  inj : ∀ i j, i < M.length → j < M.length → R i = R j → i = j
  na : ∀ i, i < M.length → a ≠ some ⟨R i, 0, none⟩
  sh : ∀ r ∈ M, r.length = w
section
variable {h0 h : Heap} {a : Option Addr} {C w : Nat} {R CC : Nat → Nat} {SP : Nat → List Value} {M : Mx}
theorem RwB.nil (h0 h : Heap) (l : h0.le h) (w : Nat) : RwB h0 h none 0 (fun _ => 0) (fun _ => 0) (fun _ => []) [] w := ⟨l, OwnL.nil _ _ _, fun i hi => absurd hi (by simp), fun i hi => absurd hi (by simp), fun i _ hi => absurd hi (by simp), fun i hi => absurd hi (by simp), fun r hr => by cases hr⟩
theorem RwB.le {h' : Heap} (I : RwB h0 h a C R CC SP M w) (l : h.le h') : RwB h0 h' a C R CC SP M w := { I with base := Heap.le_trans I.base l, own := I.own.le l, row := fun i hi => (I.row i hi).le l }
theorem RwB.set (I : RwB h0 h a C R CC SP M w) {x o : Nat} {ws : List Value} (nx : h0 x = none) (n1 : a ≠ some ⟨x, 0, none⟩) (n2 : ∀ i, i < M.length → R i ≠ x) : RwB h0 (h.setN x o ws) a C R CC SP M w :=
  { I with base := le_setN I.base nx, own := I.own.set_ne n1, row := fun i hi => (I.row i hi).set_ne (n2 i hi) }
/-- one row more: it lies in r, which was new when the others lay there -/
theorem RwB.push {t : TypeId} (I : RwB h0 h a C R CC SP M w) {r c : Nat} {row : List Int} {sp : List Value} (nr : h0 r = none) (ar : At h r (intsV .i64 row ++ sp)) (na : a ≠ some ⟨r, 0, none⟩) (nR : ∀ i, i < M.length → R i ≠ r) (hw : row.length = w) (hs : M.length ≤ 1000000) {T : TypeId} {J : Nat → Heap → Option Addr → Nat → Heap → Prop} {n : Nat} (hn : M.length = n)
    (k : ∀ s h1 a' C' h', h s = none → h.le h1 → RwB h0 h' a' C' (fun i => if i = M.length then r else R i) (fun i => if i = M.length then c else CC i) (fun i => if i = M.length then sp else SP i) (M ++ [row]) w →
      (∀ b y, h1 b = some y → a ≠ some ⟨b, 0, none⟩ → h' b = some y) → (a' = a ∨ ∃ s, a' = some ⟨s, 0, none⟩ ∧ h1 s = none) → J s h1 a' C' h') :
    newB h [.slice (some ⟨r, 0, none⟩) w c] T fun s h1 => AppA [.slice none 0 0] t h1 a n C 1 (some ⟨s, 0, none⟩) (J s h1) := by
  subst hn
  refine push1 I.own (by decide) I.base (by omega) rfl rfl (by rw [slV_len]; simp) fun s h1 a' C' h' hs1 l1 l' w' keep how => k s h1 a' C' h' hs1 l1 ⟨l', ?_, fun i hi => ?_, fun i hi => ?_, fun i j hi hj e => ?_, fun i hi => ?_, fun x hx => ?_⟩ keep how
  · rw [List.length_append, List.length_singleton, slV_succ (R := R) (CC := CC) fun i hi => ⟨if_neg (by omega), if_neg (by omega)⟩, if_pos rfl, if_pos rfl]
    exact w'
  · rw [List.length_append, List.length_singleton] at hi
    by_cases e : i = M.length
    · subst e
      rw [if_pos rfl, if_pos rfl, List.getD_eq_getElem?_getD, List.getElem?_append_right (Nat.le_refl _), Nat.sub_self]
      exact keepAt keep (ar.le l1) na
    · rw [if_neg e, if_neg e, List.getD_eq_getElem?_getD, List.getElem?_append_left (by omega), ← List.getD_eq_getElem?_getD]
      exact keepAt keep ((I.row i (by omega)).le l1) (I.na i (by omega))
  · rw [List.length_append, List.length_singleton] at hi
    by_cases e : i = M.length
    · rw [if_pos e]; exact nr
    · rw [if_neg e]; exact I.nr i (by omega)
  · rw [List.length_append, List.length_singleton] at hi hj
    by_cases e1 : i = M.length
    · by_cases e2 : j = M.length
      · omega
      · rw [if_pos e1, if_neg e2] at e; exact (nR j (by omega) e.symm).elim
    · by_cases e2 : j = M.length
      · rw [if_neg e1, if_pos e2] at e; exact (nR i (by omega) e).elim
      · rw [if_neg e1, if_neg e2] at e; exact I.inj i j (by omega) (by omega) e
  · rw [List.length_append, List.length_singleton] at hi
    by_cases e : i = M.length
    · rw [if_pos e]; exact push_ne how (ar.le l1) na
    · rw [if_neg e]; exact push_ne how ((I.row i (by omega)).le l1) (I.na i (by omega))
  · rcases List.mem_append.1 hx with hx | hx
    · exact I.sh x hx
    · rw [List.mem_singleton] at hx; rw [hx]; exact hw
theorem RwB.fin (I : RwB h0 h a C R CC SP M w) : ∃ qs, RwsAt h ⟨a, C, qs, R, CC, SP⟩ M w ∧ ∀ x, (⟨a, C, qs, R, CC, SP⟩ : Rws).D M.length x = true → h0 x = none := by
  rcases I.own with ⟨e1, e2, e3⟩ | ⟨B, sp, e1, e2, e3, e4⟩
  · have h0' : M.length = 0 := by
      have := congrArg List.length e1
      rw [slV_len, List.length_nil] at this; exact this
    exact ⟨[], ⟨.inl h0', fun B e i hi => absurd hi (by omega), I.row, I.inj, ⟨rfl, I.sh⟩⟩, fun x hx => by
      rcases Rws.D_t hx with ⟨q, _⟩ | ⟨i, q, _⟩ <;> omega⟩
  · refine ⟨sp, ⟨.inr ⟨B, e1, e3⟩, fun B' e i hi e5 => ?_, I.row, I.inj, ⟨rfl, I.sh⟩⟩, fun x hx => ?_⟩
    · have e : a = some ⟨B', 0, none⟩ := e
      exact I.na i hi (by rw [e, ← e5])
    · rcases Rws.D_t hx with ⟨_, q⟩ | ⟨i, q, rfl⟩
      · have q : a = some ⟨x, 0, none⟩ := q
        rw [e1] at q; cases q; exact e2
      · exact I.nr i q
theorem RwB.fresh (I : RwB h0 h a C R CC SP M w) {r : Nat} (hr : h r = none) : a ≠ some ⟨r, 0, none⟩ ∧ ∀ i, i < M.length → R i ≠ r := ⟨I.own.fresh hr, fun i hi => (I.row i hi).ne hr⟩
end
end Go.Proofs.Ytghdadniddoboaa
