import Derived.Test.YtghdadniddoboaaM18
import Derived.Test.YtghdadniddoboaaM05
/- Operations of a guard, and the laws' first question. -/
namespace Go.Proofs.Ytghdadniddoboaa
open Go Go.Sy Go.Value
set_option linter.unusedVariables false
set_option linter.unusedSimpArgs false

def GuF.E (x : GuF) (N b : Nat) : Bool := LWD x.p x.B x.f N b || b == x.fb
section
variable {h0 h : Heap} {K : Value → Heap → Prop} {x : GuF} {u : Gu}
theorem GR.outE (G : GR h0 h x u) {b : Nat} (e : h b = none) : x.E u.S.M.length b = false := by
  unfold GuF.E
  rw [Bool.or_eq_false_iff]
  exact ⟨G.W.out e, by simpa using fun e2 => G.f.ne e e2.symm⟩
theorem GD.top (G : GD h0 h x u) : h0.le (h.wo (x.E u.S.M.length)) ∧ GD (h.wo (x.E u.S.M.length)) h { x with c := h.wo (x.E u.S.M.length), k := h.wo (LWD x.p x.B x.f u.S.M.length) } u := by
  have lc : x.c.le (h.wo (x.E u.S.M.length)) := le_wo G.ch fun b hb => by
    unfold GuF.E at hb
    rw [Bool.or_eq_true] at hb
    rcases hb with hb | hb
    · exact none_of_le G.ck (G.outK hb)
    · have hb : b = x.fb := by simpa using hb
      rw [hb]; exact G.nf
  refine ⟨Heap.le_trans G.base lc, ?_⟩
  exact { base := Heap.le_refl _, ck := wo_wo fun b hb => by unfold GuF.E at hb; rw [Bool.or_eq_false_iff] at hb; exact hb.1, nf := wo_none (by unfold GuF.E; simp), ag := G.ag.le lc, al := G.al.le lc, il := fun y hy => (G.il y hy).le lc, el := G.el, af := G.f.wo (noD fun hd => G.af.ne (G.outK hd) rfl), ew := G.ew, W := G.W.off, ok := G.ok, told := G.told }
theorem GD.topX (G : GD h0 h x u) : ∃ h1 y, h0.le h1 ∧ GD h1 h y u ∧ y.g = x.g ∧ y.p = x.p ∧ (∀ b xs, x.E u.S.M.length b = false → At h b xs → At h1 b xs) :=
  ⟨_, { x with c := h.wo (x.E u.S.M.length), k := h.wo (LWD x.p x.B x.f u.S.M.length) }, G.top.1, G.top.2, rfl, rfl, fun b xs e a => a.wo e⟩
theorem GD.relay (G : GD h0 h x u) {h' : Heap} (l : (h.wo fun b => b == x.p || b == x.B).le h') (LA : LedAt h' x.p x.B x.C x.sp u.S) : GD h0 h' x u := by
  have D3 : ∀ b, (b == x.p || b == x.B) = true → b = x.p ∨ b = x.B := fun b hb => by simpa using hb
  have lk : x.k.le h' := Heap.le_trans (le_wo G.W.base fun b hb => by
    rcases D3 b hb with rfl | rfl
    · exact G.W.np
    · exact G.W.nB) l
  refine { G with W := { G.W with LA := LA, base := lk, X := { G.W.X with fam := G.W.X.fam.mv fun b xs hb a => (a.wo ?_).le l } } }
  refine noD fun hd => ?_
  obtain ⟨i, hi, rfl⟩ := famD_t hb
  have := G.W.dp i hi
  rcases D3 _ hd with e | e
  · exact this.1 e
  · exact this.2 e
theorem S_do10 (G : GD h0 h x u) {o : OpR} (Xb : Pos h0 o.p o.b) (hI : OpI o) (hb : o.b.length ≤ 20) (k : ∀ h' x', GD h0 h' x' (doR u o).2 → x'.g = x.g → x'.p = x.p → K (.int .i64 (doR u o).1) h') :
    CallA Try.prog fn_law10_do [pointer (some ⟨x.g, 0, none⟩), agg #[.int .i64 o.d, .int .i64 o.m, .int .i64 o.c, .int .i64 o.g, .int .i64 o.a, .int .i64 o.gv, .slice o.p o.b.length o.cp]] h K := by
  refine F_law10_do _ _ _ _ _ _ _ _ _ _ _ _ ?_
  unfold F_law10_doT
  refine newB_at fun r h1 zr l1 A => ⟨_, A.cell rfl, ?_⟩
  have G1 := G.le l1
  unfold doR at k
  by_cases d0 : o.d = 0
  · rw [if_pos d0] at k
    exact Br.yes (by simpa using d0) ⟨_, A.cell rfl, _, A.cell rfl, _, A.cell rfl, S_gIn G1 hI.a fun h' x' G' e1 e2 => ⟨_, rfl, Ret.mk (k h' x' G' e1 e2)⟩⟩
  rw [if_neg d0] at k
  refine Br.no (by simpa using d0) ?_
  by_cases d1 : o.d = 1
  · rw [if_pos d1] at k
    exact Br.yes (by simpa using d1) ⟨_, A.cell rfl, _, A.cell rfl, _, A.cell rfl, S_gOut G1 hI.a fun h' x' G' e1 e2 => ⟨_, rfl, Ret.mk (k h' x' G' e1 e2)⟩⟩
  rw [if_neg d1] at k
  refine Br.no (by simpa using d1) ?_
  by_cases d2 : o.d = 2
  · rw [if_pos d2] at k
    exact Br.yes (by simpa using d2) ⟨_, A.cell rfl, _, A.cell rfl, S_gRate G1 fun h' x' G' e1 e2 => ⟨_, rfl, Ret.mk (k h' x' G' e1 e2)⟩⟩
  rw [if_neg d2] at k
  refine Br.no (by simpa using d2) ?_
  by_cases d3 : o.d = 3
  · rw [if_pos d3] at k
    exact Br.yes (by simpa using d3) ⟨_, A.cell rfl, _, A.cell rfl, S_gCut G1 fun h' x' G' e1 e2 => ⟨_, rfl, Ret.mk (k h' x' G' e1 e2)⟩⟩
  rw [if_neg d3] at k
  refine Br.no (by simpa using d3) ?_
  by_cases d5 : o.d = 5
  · rw [if_pos d5] at k
    exact Br.yes (by simpa using d5) ⟨_, _, _, A.cell rfl, S_gTake G1 Xb rfl (by omega) hI.b fun h' x' G' e1 e2 => ⟨_, rfl, Ret.mk (k h' x' G' e1 e2)⟩⟩
  rw [if_neg d5] at k
  refine Br.no (by simpa using d5) ?_
  by_cases d6 : o.d = 6
  · rw [if_pos d6] at k
    exact Br.yes (by simpa using d6) ⟨_, A.cell rfl, _, A.cell rfl, _, A.cell rfl, _, A.cell rfl, _, A.cell rfl, S_gSwap G1 hI.a hI.gv fun h' x' G' e1 e2 => ⟨_, rfl, Ret.mk (k h' x' G' e1 e2)⟩⟩
  rw [if_neg d6] at k
  exact Br.no (by simpa using d6) ⟨_, _, _, A.cell rfl, S_gBook G1 Xb rfl (by omega) hI.b fun h' x' G' e1 e2 => ⟨_, rfl, Ret.mk (k h' x' G' e1 e2)⟩⟩
end
section
variable {h : Heap} {K : Value → Heap → Prop}
theorem S_large10 {tp : Option Addr} {tn tc : Nat} {lq : Option Addr} {ls : List LmV} {ln lc : Nat} (Xl : Arr lmV h lq ls) (hl : ls.length = ln) (hls : ln ≤ 9223372036854775807) {q : Option Addr} {l : List OpR} {n c : Nat} (X : Ops h q l) (hn : l.length = n) (hs : n ≤ 9223372036854775807)
    (k : ∀ b : Bool, (b = false → n ≤ 30 ∧ tn ≤ 20 ∧ ln ≤ 20 ∧ (∀ x ∈ l, x.b.length ≤ 20) ∧ ∀ y ∈ ls, y.l.sh.length ≤ 20) → K (.bool b) h) :
    CallA Try.prog fn_law10_large [slice tp tn tc, slice lq ln lc, slice q n c] h K := by
  refine F_law10_large _ _ _ _ _ _ _ _ _ _ _ ?_
  unfold F_law10_largeT
  have w2 : ∀ {j n : Nat}, n ≤ 9223372036854775807 → j < n → IntKind.wrap .i64 ((j : Int) + 1) = ((j + 1 : Nat) : Int) := fun h1 h2 => by rw [wrap_i64_id (by omega) (by omega)]; omega
  have loop1 : (∀ x ∈ l, x.b.length ≤ 20) → ∀ (m j : Nat), m + j = ln → (∀ y ∈ ls.take j, y.l.sh.length ≤ 20) → L_law10_large_1 tp tn tc lq ln lc q n c (ln : Int) (j : Int) h K := by
    intro hb m
    induction m with
    | zero =>
      intro j hj e
      refine L_law10_large_1r _ _ _ _ _ _ _ _ _ _ _ _ _ ?_
      unfold L_law10_large_1T
      rw [List.take_of_length_le (by omega)] at e
      refine Br.no (by simp; omega) (Br.dec (fun _ => Ret.mk (k true fun e => by cases e)) fun g1 => Br.dec (fun _ => Ret.mk (k true fun e => by cases e)) fun g2 => Ret.mk (k _ fun g3 => ?_))
      have := of_decide_eq_false g3
      exact ⟨by omega, by omega, by omega, hb, e⟩
    | succ m ih =>
      intro j hj e
      refine L_law10_large_1r _ _ _ _ _ _ _ _ _ _ _ _ _ ?_
      unfold L_law10_large_1T
      have hx : ls[j]? = some ls[j] := List.getElem?_eq_getElem (by omega)
      have htk : ls.take (j + 1) = ls.take j ++ [ls[j]] := by rw [List.take_add_one, hx]; rfl
      generalize ls[j] = y at *
      refine Br.yes (by simp; omega) (lx0 Xl hl rfl hx (Br.dec (fun _ => Ret.mk (k true fun e => by cases e)) fun g => ?_))
      rw [w2 hls (by omega)]
      refine ih (j + 1) (by omega) fun z hz => ?_
      rw [htk] at hz
      rcases List.mem_append.1 hz with hz | hz
      · exact e z hz
      · rw [List.mem_singleton] at hz; subst hz; omega
  have loop0 : ∀ (m j : Nat), m + j = n → (∀ x ∈ l.take j, x.b.length ≤ 20) → L_law10_large_0 tp tn tc lq ln lc q n c (n : Int) (j : Int) h K := by
    intro m
    induction m with
    | zero =>
      intro j hj e
      refine L_law10_large_0r _ _ _ _ _ _ _ _ _ _ _ _ _ ?_
      unfold L_law10_large_0T
      rw [List.take_of_length_le (by omega)] at e
      exact Br.no (by simp; omega) (loop1 e ln 0 rfl fun y hy => by simp at hy)
    | succ m ih =>
      intro j hj e
      refine L_law10_large_0r _ _ _ _ _ _ _ _ _ _ _ _ _ ?_
      unfold L_law10_large_0T
      have hx : l[j]? = some l[j] := List.getElem?_eq_getElem (by omega)
      have htk : l.take (j + 1) = l.take j ++ [l[j]] := by rw [List.take_add_one, hx]; rfl
      generalize l[j] = y at *
      refine Br.yes (by simp; omega) (ox6 X hn rfl hx (Br.dec (fun _ => Ret.mk (k true fun e => by cases e)) fun g => ?_))
      rw [w2 hs (by omega)]
      refine ih (j + 1) (by omega) fun z hz => ?_
      rw [htk] at hz
      rcases List.mem_append.1 hz with hz | hz
      · exact e z hz
      · rw [List.mem_singleton] at hz; subst hz; omega
  exact loop0 n 0 rfl fun x hx => by simp at hx
theorem S_made10 {h0 : Heap} {T : List Cur} {tp : Option Addr} {tn tc : Nat} {q : Option Addr} {ls : List LmV} {n qc : Nat} (l0 : h0.le h) (CT : Curs h0 tp T) (hT : T.length = tn) (hts : tn ≤ 1000000) (A : Arr lmV h0 q ls) (hn : ls.length = n) (hs : n ≤ 1000000) (hI : ∀ y ∈ ls, LmI h0 y) (hsh : ∀ y ∈ ls, y.l.sh.length ≤ 1000000)
    (k0 : ∀ h', h.le h' → K (pointer none) h') (k1 : ∀ h' x, GD h h' x (newU T (newG n tn) ls) → 1 ≤ n → n ≤ 16 → newE T (newG n tn) ls = 0 → K (pointer (some ⟨x.g, 0, none⟩)) h') :
    CallA Try.prog fn_law10_made [slice tp tn tc, slice q n qc] h K := by
  refine F_law10_made _ _ _ _ _ _ _ _ ?_
  unfold F_law10_madeT
  refine S_lNew (fun _ => ⟨_, _, rfl, Br.yes rfl (Ret.mk (k0 h h.le_refl))⟩) fun n' w' en ew n1 n16 w1 w8 h2 p B C sp l2 A2 np nB => ⟨_, _, rfl, Br.no rfl ?_⟩
  have en : n' = n := by omega
  have ew : w' = tn := by omega
  subst en ew
  exact S_rNew l2 (CT.le (Heap.le_trans l0 l2)) hT hts A2 np nB (newG_ok n1 n16 w1 w8) (A.le l0) hn hs (fun y hy => (hI y hy).le l0) hsh (fun _ h' l' _ => ⟨_, _, rfl, Ret.mk (k0 h' l')⟩) fun e h' x G ep => ⟨_, _, rfl, Ret.mk (k1 h' x G n1 n16 e)⟩
end
/-! the first question -/
def gT : List Cur := [⟨⟨#[69, 85, 82]⟩, 10000, 0⟩, ⟨⟨#[85, 83, 68]⟩, 12500, 0⟩]
def gL : List Lm := [⟨[0, 100], 50⟩, ⟨[0, 0], 0⟩]
def gu0 : Gu := Gu.judge ⟨newG 2 2, gT, gL, List.replicate 2 false⟩
def gu1 : Gu := (rIn gu0 0 0 100).2
def gu2 : Gu := (rIn gu1 1 1 100).2
def gb1 : List Pst := [⟨0, 0, -90⟩, ⟨0, 1, -60⟩]
def gb2 : List Pst := [⟨0, 1, -40⟩, ⟨1, 1, 40⟩]
def gb3 : List Pst := [⟨0, 1, -1⟩, ⟨1, 1, 1⟩]
def gu3 : Gu := (rBook gu2 gb2).2
def gu4 : Gu := (rBook gu3 gb3).2
def gu5 : Gu := (rTurn gu4 (wRate gu4.T 1 12600)).2
def gu6 : Gu := (rOut gu5 0 0 1).2
def gu7 : Gu := (rOut gu6 1 1 10).2
theorem g_tab : tabE gT = 0 := by decide +kernel
theorem g_1 : (rIn gu0 0 0 100).1 = 0 := by decide +kernel
theorem g_2 : (rIn gu1 1 1 100).1 = 0 := by decide +kernel
theorem g_f : gu2.fails 0 gb1 = 5 := by decide +kernel
theorem g_3 : (rBook gu2 gb2).1 = 0 := by decide +kernel
theorem g_4 : (rBook gu3 gb3).1 = 10 := by decide +kernel
theorem g_5 : (rTurn gu4 (wRate gu4.T 1 12600)).1 = 0 := by decide +kernel
theorem g_6 : (rOut gu5 0 0 1).1 = 10 := by decide +kernel
theorem g_7 : (rOut gu6 1 1 10).1 = 0 := by decide +kernel
theorem g_f0 : gu7.flag 0 = true := by decide +kernel
theorem g_f1 : gu7.flag 1 = false := by decide +kernel
theorem g_f2 : gu7.flag 2 = false := by decide +kernel
theorem g_get : getG gu7.S 1 1 = 130 := by decide +kernel
end Go.Proofs.Ytghdadniddoboaa
