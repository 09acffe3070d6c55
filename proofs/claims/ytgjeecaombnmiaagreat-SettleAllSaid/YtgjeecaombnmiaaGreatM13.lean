import Derived.Test.YtgjeecaombnmiaaGreatM12
import Derived.Test.YtgjeecaombnmiaaGreatM11
import Derived.Test.YtgjeecaombnmiaaGreatM07
import Derived.Test.YtgjeecaombnmiaaGreatM04
import Derived.Test.YtgjeecaombnmiaaGreatM02
import Derived.Sort.AssemblyPlain
/- A batch is tried, tested, and done. -/
namespace Go.Proofs.YtgjeecaombnmiaaGreat
open Go Go.Sy Go.Value
set_option linter.unusedVariables false
set_option linter.unusedSimpArgs false

def qDV : List Pst → List Int → List Int
  | [], l => l
  | y :: b, l => if y.m ∈ l then qDV b l else qDV b (l ++ [y.m])
theorem qH0 : ∀ (b : List Pst) (l : List Int) (v : Int), v ∈ qDV b l ↔ v ∈ l ∨ ∃ y ∈ b, y.m = v
  | [], l, v => by simp [qDV]
  | y :: b, l, v => by
    rw [qDV]
    by_cases h : y.m ∈ l
    · rw [if_pos h, qH0 b]
      constructor
      · rintro (h1 | ⟨z, hz, e⟩)
        · exact .inl h1
        · exact .inr ⟨z, List.mem_cons_of_mem _ hz, e⟩
      · rintro (h1 | ⟨z, hz, e⟩)
        · exact .inl h1
        · rcases List.mem_cons.1 hz with rfl | hz
          · exact .inl (by rw [← e]; exact h)
          · exact .inr ⟨z, hz, e⟩
    · rw [if_neg h, qH0 b]
      constructor
      · rintro (h1 | ⟨z, hz, e⟩)
        · rcases List.mem_append.1 h1 with h1 | h1
          · exact .inl h1
          · rw [List.mem_singleton] at h1
            exact .inr ⟨y, List.mem_cons_self .., h1.symm⟩
        · exact .inr ⟨z, List.mem_cons_of_mem _ hz, e⟩
      · rintro (h1 | ⟨z, hz, e⟩)
        · exact .inl (List.mem_append.2 (.inl h1))
        · rcases List.mem_cons.1 hz with rfl | hz
          · exact .inl (List.mem_append.2 (.inr (List.mem_singleton.2 e.symm)))
          · exact .inr ⟨z, hz, e⟩
theorem qNm : ∀ (b : List Pst) (l : List Int), (qDV b l).length ≤ l.length + b.length
  | [], l => Nat.le_refl _
  | y :: b, l => by
    rw [qDV]
    split
    · have := qNm b l; rw [List.length_cons]; omega
    · have := qNm b (l ++ [y.m]); rw [List.length_append, List.length_singleton] at this; rw [List.length_cons]; omega
theorem qPE (m : Int) : ∀ (b : List Pst) (r : List Int), (∀ y ∈ b, y.m ≠ m) → qBL m b r = some r
  | [], r, _ => rfl
  | y :: b, r, h => by
    rw [qBL, if_pos (h y (List.mem_cons_self ..))]
    exact qPE m b r fun z hz => h z (List.mem_cons_of_mem _ hz)
theorem qRz {S : Lg} {b : List Pst} (e : (qAj S b).1 = 0) : (∀ p ∈ b, 0 ≤ p.m ∧ p.m < (S.M.length : Int) ∧ 0 ≤ p.c ∧ p.c < (S.cur : Int)) ∧ (qAK b S.M).1 = 0 ∧ (qAj S b).2 = ⟨(qAK b S.M).2, S.N, S.cur⟩ := by
  unfold qAj at *
  by_cases h1 : b.any (fun p => !qC5 S p.m p.c) = true
  · rw [if_pos h1] at e; cases e
  rw [if_neg h1] at e ⊢
  by_cases h2 : qGe S b = false
  · rw [if_pos h2] at e; cases e
  rw [if_neg h2] at e ⊢
  by_cases h3 : (qAK b S.M).1 ≠ 0
  · rw [if_pos h3] at e; exact (h3 e).elim
  rw [if_neg h3]
  refine ⟨fun p hp => ?_, Classical.byContradiction h3, rfl⟩
  obtain ⟨i, j, e1, e2, e3, e4⟩ := qLv (qR0 h1 p hp)
  omega
theorem qVl {S : Lg} (o : S.Sz) {b : List Pst} (e : (qAj S b).1 = 0) {m : Nat} (hm : m < S.M.length) : qBL (m : Int) b (qAq S (m : Int) S.cur) = some (qAq (qAj S b).2 (m : Int) S.cur) := by
  obtain ⟨h1, h2, h3⟩ := qRz e
  have sz := qNX S b
  rw [qMc hm (Nat.le_refl _), qMc (by rw [sz.1]; exact hm) (by rw [sz.2]; exact Nat.le_refl _), h3]
  exact qK8 o.c8 hm b o.sh h1 h2
theorem qUP {S : Lg} (o : S.Sz) {b : List Pst} (e : (qAj S b).1 = 0) {m : Nat} (hm : m < S.M.length) (hb : ∀ y ∈ b, y.m ≠ (m : Int)) : qAq (qAj S b).2 (m : Int) S.cur = qAq S (m : Int) S.cur := by
  have := qVl o e hm
  rw [qPE _ _ _ hb] at this
  exact (Option.some.inj this).symm
section
variable {h : Heap} {K : Value → Heap → Prop}
theorem qRl {q : Option Addr} {l : List Int} {n c : Nat} {v : Int} (I : Ints .i64 h q l) (hn : l.length = n) (hs : n ≤ 1000000) (k : K (.bool (decide (v ∈ l))) h) : CallA Tryz.prog qDP [slice q n c, .int .i64 v] h K := by
  refine qIq _ _ _ _ _ _ ?_
  unfold qFJ
  refine qJ9 _ _ _ _ _ _ ?_
  unfold qGF
  have loop : ∀ (d j : Nat), d + j = n → (v ∈ l.drop j ↔ v ∈ l) → qCT q n c v (n : Int) (j : Int) h fun w h => ∃ i : Int, w = .int .i64 i ∧ Ret h K (.bool (decide (i ≥ 0))) := by
    intro d
    induction d with
    | zero =>
      intro j hj e
      refine qFb _ _ _ _ _ _ _ _ ?_
      unfold qDm
      rw [List.drop_eq_nil_of_le (by omega)] at e
      refine Br.no (by simp; omega) (Ret.mk ⟨_, rfl, Ret.mk ?_⟩)
      rw [decide_eq_false (fun g => by have := e.2 g; cases this)] at k
      exact k
    | succ d ih =>
      intro j hj e
      refine qFb _ _ _ _ _ _ _ _ ?_
      unfold qDm
      have hx : l[j]? = some l[j] := List.getElem?_eq_getElem (by omega)
      have hm : l[j] ∈ l := List.getElem_mem _
      rw [List.drop_eq_getElem_cons (by omega : j < l.length)] at e
      generalize l[j] = y at *
      refine Br.yes (by simp; omega) (ix I hn rfl hx (Br.intro (fun g => Ret.mk ⟨_, rfl, Ret.mk ?_⟩) fun g => ?_))
      · have g : v = y := by simpa using g
        rw [decide_eq_true (by rw [g]; exact hm)] at k
        rw [decide_eq_true (by omega)]
        exact k
      · have g : v ≠ y := by simpa using g
        rw [w1 (by omega)]
        refine ih (j + 1) (by omega) ⟨fun h => e.1 (List.mem_cons_of_mem _ h), fun h => ?_⟩
        rcases List.mem_cons.1 (e.2 h) with h | h
        · exact (g h).elim
        · exact h
  exact loop n 0 rfl Iff.rfl
theorem qXD {q : Option Addr} {b : List Pst} {n qc : Nat} (Xb : Pos h q b) (hn : b.length = n) (hs : n ≤ 1000) (k : ∀ h' p' c', h.le h' → OwnL h h' [.int .i64 0] p' c' (qK .i64 (qDV b [])) → K (slice p' (qDV b []).length c') h') :
    CallA Tryz.prog qIY [slice q n qc] h K := by
  refine qP4 _ _ _ _ _ ?_
  unfold qLS
  have loop : ∀ (d j : Nat) (g : Heap) (p : Option Addr) (c : Nat) (l : List Int), d + j = n → h.le g → OwnL h g [.int .i64 0] p c (qK .i64 l) → l.length ≤ j → qDV (b.drop j) l = qDV b [] → qEm p l.length c q n qc (n : Int) (j : Int) g K := by
    intro d
    induction d with
    | zero =>
      intro j g p c l hj lg own hl e
      refine qJ3 _ _ _ _ _ _ _ _ _ _ ?_
      unfold qHD
      rw [List.drop_eq_nil_of_le (by omega), qDV] at e
      refine Br.no (by simp; omega) (Ret.mk ?_)
      rw [e] at own ⊢
      exact k g p c lg own
    | succ d ih =>
      intro j g p c l hj lg own hl e
      refine qJ3 _ _ _ _ _ _ _ _ _ _ ?_
      unfold qHD
      have hx : b[j]? = some b[j] := List.getElem?_eq_getElem (by omega)
      rw [List.drop_eq_getElem_cons (by omega : j < b.length), qDV] at e
      generalize b[j] = y at *
      refine Br.yes (by simp; omega) (px (qAV lg Xb) hn rfl hx (qEE (vs := [int .i64 y.m, int .i64 y.c, int .i64 y.a]) rfl fun s h1 zs l1 As cs => ⟨cs, _, As.cell rfl, ?_⟩))
      generalize h1.setN s 0 [int .i64 y.m, int .i64 y.c, int .i64 y.a] = H at *
      have own1 := own.le l1
      refine qRl (l := l) own1.rd rfl (by omega) ⟨_, rfl, ?_⟩
      by_cases hmem : y.m ∈ l
      · rw [if_pos hmem] at e
        rw [decide_eq_true hmem, w1 (by omega)]
        exact Br.no rfl (ih (j + 1) H p c l (by omega) (Heap.le_trans lg l1) own1 (by omega) e)
      · rw [if_neg hmem] at e
        rw [decide_eq_false hmem]
        refine Br.yes rfl ⟨_, As.cell rfl, qJw own1 (by decide) (Heap.le_trans lg l1) (by omega) rfl rfl (by rw [qL]; simp) fun r2 h2 p' c' h3 hr2 l2 l3 own' _ _ => ?_⟩
        rw [w1 (by omega)]
        have := ih (j + 1) h3 p' c' (l ++ [y.m]) (by omega) l3 (by rw [qAI]; exact own') (by rw [List.length_append, List.length_singleton]; omega) e
        rw [List.length_append, List.length_singleton] at this
        exact this
  exact loop n 0 h none 0 [] rfl h.le_refl (OwnL.nil _ _ _) (Nat.le_refl _) rfl
end
def qCL (u : Gu) (b : List Pst) : Int × Gu :=
  if (qAj u.S b).1 ≠ 0 then ((qAj u.S b).1, u)
  else if b.any (fun y => u.fl.getD y.m.toNat false || (u.fails y.m b != 0)) = true then (10, u)
  else (0, u.setS (qAj u.S b).2)
section
variable {h0 h : Heap} {K : Value → Heap → Prop} {x : GuF} {u : Gu}
theorem GR.outK (G : GR h0 h x u) {b : Nat} (hb : LWD x.p x.B x.f u.S.M.length b = true) : x.k b = none := G.W.none' hb
theorem GR.up (G : GR h0 h x u) : GR h0 h { x with k := h.wo (LWD x.p x.B x.f u.S.M.length) } u :=
  { G with ck := qJd G.ch fun b hb => qJ G.ck (G.outK hb), af := G.f.wo (noD fun hd => G.af.ne (G.outK hd) rfl), W := G.W.off }
theorem GD.up (G : GD h0 h x u) : GD h0 h { x with k := h.wo (LWD x.p x.B x.f u.S.M.length) } u := { toGR := G.toGR.up, told := G.told }
section
variable {q : Option Addr} {b : List Pst} {n qc : Nat}
theorem qUn (G : GD h0 h x u) (Xb : Pos h q b) (hn : b.length = n) (hs : n ≤ 1000) (hb : ∀ y ∈ b, I64 y.a) {r0 r1 : Nat} (A0 : At h r0 [.pointer (some ⟨x.g, 0, none⟩)]) (A1 : At h r1 [.slice q n qc]) {m : Int} (hm : 0 ≤ m ∧ m < (u.fl.length : Int)) (k : ∀ h', h.le h' → K (.bool (u.fl.getD m.toNat false || (u.fails m b != 0))) h') :
    CallA Tryz.prog qAF [.int .i64 m, pointer (some ⟨r0, 0, none⟩), pointer (some ⟨r1, 0, none⟩)] h K := by
  refine qKr _ _ _ _ _ ?_
  unfold qGy
  refine ⟨_, A0.cell rfl, qB rfl ⟨_, _, _, G.g.cell rfl, hm.1, hm.2, qB rfl ⟨_, G.flag (m := m.toNat) (by omega), ?_⟩⟩⟩
  cases hf : u.fl.getD m.toNat false with
  | true =>
    rw [hf, Bool.true_or] at k
    exact Br.yes rfl (Ret.mk (k h h.le_refl))
  | false =>
    rw [hf, Bool.false_or] at k
    exact Br.no rfl ⟨_, A0.cell rfl, _, _, _, A1.cell rfl, qNe G Xb hn (by omega) hb fun h1 l1 => ⟨_, rfl, Ret.mk (k h1 l1)⟩⟩
theorem qYU (G : GD h0 h x u) (Xb : Pos h q b) (hn : b.length = n) (hs : n ≤ 1000) (hb : ∀ y ∈ b, I64 y.a) {r0 r1 : Nat} (A0 : At h r0 [.pointer (some ⟨x.g, 0, none⟩)]) (A1 : At h r1 [.slice q n qc]) {p : Option Addr} {l : List Int} {c : Nat} (I : Ints .i64 h p l) (hl : l.length ≤ 1000000) (hin : ∀ m ∈ l, 0 ≤ m ∧ m < (u.fl.length : Int))
    (k : ∀ h', h.le h' → K (.bool (l.any fun m => u.fl.getD m.toNat false || (u.fails m b != 0))) h') :
    CallA Tryz.prog qCU [slice p l.length c, func (Fn.func qAF) #[] #[pointer (some ⟨r0, 0, none⟩), pointer (some ⟨r1, 0, none⟩)]] h K := by
  refine qG3 _ _ _ _ _ _ _ ?_
  unfold qDt
  refine qHr _ _ _ _ _ _ _ ?_
  unfold qEd
  have loop : ∀ (d j : Nat) (g : Heap), d + j = l.length → h.le g → (l.drop j).any (fun m => u.fl.getD m.toNat false || (u.fails m b != 0)) = l.any (fun m => u.fl.getD m.toNat false || (u.fails m b != 0)) → qBK p l.length c r0 r1 (l.length : Int) (j : Int) g fun v h => ∃ i : Int, v = .int .i64 i ∧ Ret h K (.bool (decide (i ≥ 0))) := by
    intro d
    induction d with
    | zero =>
      intro j g hj lg e
      refine qEC _ _ _ _ _ _ _ _ _ ?_
      unfold qCN
      rw [List.drop_eq_nil_of_le (by omega)] at e
      refine Br.no (by simp; omega) (Ret.mk ⟨_, rfl, Ret.mk ?_⟩)
      have kk := k g lg
      rw [← e] at kk
      exact kk
    | succ d ih =>
      intro j g hj lg e
      refine qEC _ _ _ _ _ _ _ _ _ ?_
      unfold qCN
      have hx : l[j]? = some l[j] := List.getElem?_eq_getElem (by omega)
      have hm := hin _ (List.getElem_mem (by omega : j < l.length))
      rw [List.drop_eq_getElem_cons (by omega : j < l.length), List.any_cons] at e
      generalize l[j] = y at *
      refine Br.yes (by simp; omega) (ix (I.le lg) rfl rfl hx (qUn (G.le lg) (qAV lg Xb) hn hs hb (A0.le lg) (A1.le lg) hm fun h1 l1 => ⟨_, rfl, Br.intro (fun g1 => ?_) fun g1 => ?_⟩))
      · rw [g1, Bool.true_or] at e
        refine Ret.mk ⟨_, rfl, Ret.mk ?_⟩
        have kk := k h1 (Heap.le_trans lg l1)
        rw [← e] at kk
        rw [decide_eq_true (by omega)]
        exact kk
      · rw [g1, Bool.false_or] at e
        rw [w1 (by omega)]
        exact ih (j + 1) h1 (by omega) (Heap.le_trans lg l1) e
  exact loop l.length 0 h rfl h.le_refl rfl
theorem qW6 (G : GD h0 h x u) (Xb : Pos h0 q b) (hn : b.length = n) (hs : n ≤ 1000) (hI : ∀ x ∈ b, I64 x.m ∧ I64 x.c ∧ I64 x.a) (k : ∀ h' x', GD h0 h' x' (qCL u b).2 → x'.g = x.g → x'.p = x.p → K (.int .i64 (qCL u b).1) h') :
    CallA Tryz.prog qD9 [pointer (some ⟨x.g, 0, none⟩), slice q n qc] h K := by
  refine qLn _ _ _ _ _ _ ?_
  unfold qHj
  unfold qCL at k
  refine ql fun r h1 zr l1 Ar => ql fun r1 h2 zr1 l2 Ar1 => ⟨_, (Ar.le l2).cell rfl, ?_⟩
  have G2 := (G.le l1).le l2
  have Xh := qAV G2.b Xb
  refine qB rfl ⟨_, G2.g.cell rfl, qXB G2.W.LA fun h3 l3 => ⟨_, rfl, qXC G.ok.o fun h4 p4 B4 C4 sp4 l4 A4 np4 nB4 => ⟨_, _, rfl, Br.no rfl ⟨_, _, _, (Ar1.le (Heap.le_trans l3 l4)).cell rfl, ?_⟩⟩⟩⟩
  refine qSM l4 np4 nB4 A4 (qAV l3 Xh) hn hs hI fun h5 B5 C5 sp5 l5 A5 nB5 => ⟨_, rfl, ?_⟩
  have l35 := Heap.le_trans l3 l5
  have G5 := G2.le l35
  by_cases e1 : (qAj u.S b).1 ≠ 0
  · rw [if_pos e1] at k
    exact Br.yes (by simpa using e1) (Ret.mk (k h5 x G5 rfl rfl))
  rw [if_neg e1] at k
  have e1 : (qAj u.S b).1 = 0 := Classical.byContradiction e1
  obtain ⟨pin, _, _⟩ := qRz e1
  have Ar5 := Ar.le (Heap.le_trans l2 l35)
  have Ar15 := Ar1.le l35
  have whl := qNm b []
  rw [List.length_nil] at whl
  refine Br.no (by rw [e1]; rfl) ⟨_, _, _, Ar15.cell rfl, qXD (qAV l35 Xh) hn hs fun h6 p6 c6 l6 own => ⟨_, _, _, rfl, ?_⟩⟩
  have G6 := G5.le l6
  have win : ∀ m ∈ qDV b [], 0 ≤ m ∧ m < (u.fl.length : Int) := fun m hm => by
    rcases (qH0 b [] m).1 hm with h | ⟨y, hy, rfl⟩
    · cases h
    · have := pin y hy
      have := G.ok.ef
      omega
  refine qYU G6 (qAV (Heap.le_trans l35 l6) Xh) hn hs (fun y hy => (hI y hy).2.2) (Ar5.le l6) (Ar15.le l6) own.rd (by omega) win fun h7 l7 => ⟨_, rfl, ?_⟩
  have G7 := G6.le l7
  have eany : (qDV b []).any (fun m => u.fl.getD m.toNat false || (u.fails m b != 0)) = b.any fun y => u.fl.getD y.m.toNat false || (u.fails y.m b != 0) := by
    rw [Bool.eq_iff_iff, List.any_eq_true, List.any_eq_true]
    constructor
    · rintro ⟨m, hm, e⟩
      rcases (qH0 b [] m).1 hm with h | ⟨y, hy, rfl⟩
      · cases h
      · exact ⟨y, hy, e⟩
    · rintro ⟨y, hy, e⟩
      exact ⟨y.m, (qH0 b [] _).2 (.inr ⟨y, hy, rfl⟩), e⟩
  rw [eany]
  cases e2 : b.any fun y => u.fl.getD y.m.toNat false || (u.fails y.m b != 0) with
  | true =>
    rw [e2, if_pos rfl] at k
    exact Br.yes rfl (Ret.mk (k h7 x G7 rfl rfl))
  | false =>
    rw [e2, if_neg (by decide)] at k
    have l67 := Heap.le_trans l6 l7
    have G8 := G7.toGR.up
    have out : ∀ {y : Nat}, h y = none → LWD x.p x.B x.f u.S.M.length y = false := fun e => G.W.out e
    have Ar8 := (Ar5.le l67).wo (out zr)
    have Ar18 := (Ar15.le l67).wo (out (qJ l1 zr1))
    have I8 : Ints .i64 (h7.wo (LWD x.p x.B x.f u.S.M.length)) p6 (qDV b []) := qPy (qAV l7 own.rd) fun y o e => by
      rcases own with ⟨_, e5, _⟩ | ⟨r5, sp5, e5, z5, _⟩
      · rw [e5] at e; cases e
      · rw [e5] at e
        cases e
        exact G5.W.out z5
    refine Br.no rfl ⟨_, (Ar5.le l67).cell rfl, qB rfl ⟨_, G7.g.cell rfl, _, _, _, (Ar15.le l67).cell rfl, qWX G8.W (qAV (Heap.le_trans G8.base G8.ck) Xb) hn hs hI fun h9 B9 C9 sp9 W9 => ⟨_, rfl, ?_⟩⟩⟩
    rw [e1]
    have sz := qNX u.S b
    have ok' := G.ok.setS (qQQ G.ok.o b) sz
    have eN : (u.setS (qAj u.S b).2).S.M.length = u.S.M.length := sz.1
    have G9 : GR h0 h9 _ (u.setS (qAj u.S b).2) := G8.turn (u' := u.setS (qAj u.S b).2) (by rw [eN]; exact W9) rfl rfl rfl ok'
    have loop : ∀ (d j : Nat) (g : Heap) (y : GuF), d + j = (qDV b []).length → GR h0 g y (u.setS (qAj u.S b).2) → y.k = h7.wo (LWD x.p x.B x.f u.S.M.length) → y.g = x.g → y.p = x.p → (∀ i, i < u.S.M.length → ((i : Int) ∉ (qDV b []).drop j) → y.R i = (u.setS (qAj u.S b).2).row i) → qDi r 0 p6 (qDV b []).length c6 ((qDV b []).length : Int) (j : Int) g K := by
      intro d
      induction d with
      | zero =>
        intro j g y hj G ek eg ep tl
        refine qG1 _ _ _ _ _ _ _ _ _ ?_
        unfold qEp
        rw [List.drop_eq_nil_of_le (by omega)] at tl
        exact Br.no (by simp; omega) (Ret.mk (k g y { toGR := G, told := fun i hi => tl i (by rw [← eN]; exact hi) (fun e => by cases e) } eg ep))
      | succ d ih =>
        intro j g y hj G ek eg ep tl
        refine qG1 _ _ _ _ _ _ _ _ _ ?_
        unfold qEp
        have hx : (qDV b [])[j]? = some (qDV b [])[j] := List.getElem?_eq_getElem (by omega)
        rw [List.drop_eq_getElem_cons (by omega : j < (qDV b []).length)] at tl
        generalize (qDV b [])[j] = v at *
        have lg : (h7.wo (LWD x.p x.B x.f u.S.M.length)).le g := by rw [← ek]; exact G.W.base
        refine Br.yes (by simp; omega) (ix (I8.le lg) rfl rfl hx ⟨_, (Ar8.le lg).cell rfl, ?_⟩)
        rw [← eg]
        refine qB rfl ⟨_, G.g.cell rfl, ?_⟩
        rw [← G.ew]
        refine qP8 G.W fun h2 f2 W2 c2 => ⟨rfl, ?_⟩
        rw [w1 (by omega)]
        refine ih (j + 1) h2 _ (by omega) (G.turn (u' := u.setS (qAj u.S b).2) W2 c2 rfl rfl ok') ek eg ep fun i hi hnot => ?_
        show qKz (qAj u.S b).2 u.T.length (u.setS (qAj u.S b).2).S.M.length y.R v i = qAq (qAj u.S b).2 (i : Int) u.T.length
        unfold qKz
        by_cases ev : v = (i : Int)
        · subst ev
          rw [if_pos (by omega), Int.toNat_natCast, qa]
        · have t := tl i hi (fun e => by
            rcases List.mem_cons.1 e with e | e
            · exact ev e.symm
            · exact hnot e)
          split
          · rw [qN _ _ (by omega)]; exact t
          · exact t
    refine loop (qDV b []).length 0 h9 _ rfl G9 rfl rfl rfl fun i hi hnot => ?_
    show x.R i = qAq (qAj u.S b).2 (i : Int) u.T.length
    rw [G.told i hi]
    show qAq u.S (i : Int) u.T.length = _
    have := qUP G.ok.o.toSz e1 hi (fun y hy e => hnot ((qH0 b [] _).2 (.inr ⟨y, hy, e⟩)))
    rw [G.ok.ec] at this
    exact this.symm
end
end
end Go.Proofs.YtgjeecaombnmiaaGreat

/- A guard among other things: a batch that is newer than it. -/
namespace Go.Proofs.YtgjeecaombnmiaaGreat
open Go Go.Sy Go.Value
set_option linter.unusedVariables false
set_option linter.unusedSimpArgs false

def qLG (h : Heap) (x : GuF) (n : Nat) : Heap := (h.wo (LWD x.p x.B x.f n)).wo fun b => b == x.fb
section
variable {h0 h : Heap} {K : Value → Heap → Prop} {x : GuF} {u : Gu}
theorem GR.lc (G : GR h0 h x u) : x.c.le (qLG h x u.S.M.length) := qJd (qJd G.ch fun b hb => qJ G.ck (G.outK hb)) fun b hb => by
  have hb : b = x.fb := by simpa using hb
  rw [hb]; exact G.nf
theorem GR.raise (G : GR h0 h x u) : GR (qLG h x u.S.M.length) h { x with c := qLG h x u.S.M.length, k := h.wo (LWD x.p x.B x.f u.S.M.length) } u :=
  { base := Heap.le_refl _, ck := qMl _ _, nf := qF3 (by simp), ag := G.ag.le G.lc, al := qAV G.lc G.al, il := fun y hy => (G.il y hy).le G.lc, el := G.el, af := G.up.af, ew := G.ew, W := G.up.W, ok := G.ok }
theorem GD.raise (G : GD h0 h x u) : GD (qLG h x u.S.M.length) h { x with c := qLG h x u.S.M.length, k := h.wo (LWD x.p x.B x.f u.S.M.length) } u := { toGR := G.toGR.raise, told := G.told }
theorem qVy (G : GD h0 h x u) {h1 : Heap} (l : h.le h1) {r : Nat} (hr : h r = none) {b : List Pst} (A : Pos h1 (some ⟨r, 0, none⟩) b) (hs : b.length ≤ 1000) {qc : Nat} (hI : ∀ x ∈ b, I64 x.m ∧ I64 x.c ∧ I64 x.a)
    (k : ∀ h' x', GD h0 h' x' (qCL u b).2 → x'.g = x.g → x'.p = x.p → K (.int .i64 (qCL u b).1) h') :
    CallA Tryz.prog qD9 [pointer (some ⟨x.g, 0, none⟩), slice (some ⟨r, 0, none⟩) b.length qc] h1 K := by
  have G1 := G.le l
  have lb : h0.le (qLG h1 x u.S.M.length) := Heap.le_trans G1.base G1.toGR.lc
  have ed : LWD x.p x.B x.f u.S.M.length r = false := G.W.out hr
  have ef : r ≠ x.fb := Ne.symm (G.toGR.f.ne hr)
  have Xb : Pos (qLG h1 x u.S.M.length) (some ⟨r, 0, none⟩) b := qPy (qPy A fun b' o e => by cases e; exact ed) fun b' o e => by
    cases e
    simpa using ef
  have := qW6 (K := K) (qc := qc) G1.raise Xb rfl hs hI fun h' x' G' eg ep => k h' x' (G'.back lb) eg ep
  exact this
end
end Go.Proofs.YtgjeecaombnmiaaGreat

/- A book of instructions: made, asked, and changed. -/
namespace Go.Proofs.YtgjeecaombnmiaaGreat
open Go Go.Sy Go.Value
set_option linter.unusedVariables false
set_option linter.unusedSimpArgs false

def dA (d : Dl) : Value := agg #[.int .i64 d.id, .int .i64 d.a, .int .i64 d.b, .int .i64 d.sc, .int .i64 d.bc, .int .i64 d.sell, .int .i64 d.buy]
def dl0 : Dl := ⟨0, 0, 0, 0, 0, 0, 0⟩
def qo (S : Bk) (id : Int) : Dl × Bool := match qGL S id with
  | some x => (x.d, true)
  | none => (dl0, false)
def qQ3 (d : Dl) : Prop := d.sell ≤ 9223372036854775807 ∧ d.buy ≤ 9223372036854775807
section
variable {h : Heap} {K : Value → Heap → Prop} {p : Nat} {S : Bk} {lp : Option Addr} {c mr : Nat}
theorem qV8 {a b m : Int} (k : K (.bool (qKE a b m)) h) : CallA Tryz.prog qIB [.int .i64 a, .int .i64 b, .int .i64 m] h K := by
  refine qSO _ _ _ _ _ ?_
  unfold qND
  have no : ¬ (0 ≤ a ∧ 0 ≤ b ∧ a < m ∧ b < m) → K (.bool false) h := fun g => by
    have e : qKE a b m = false := by unfold qKE; rw [decide_eq_false_iff_not]; omega
    rw [e] at k; exact k
  refine Br.dec (fun g1 => Br.dec (fun g2 => Br.dec (fun g3 => Br.dec (fun g4 => Ret.mk ?_) fun g => Ret.mk (no (by omega))) fun g => Ret.mk (no (by omega))) fun g => Ret.mk (no (by omega))) fun g => Ret.mk (no (by omega))
  have e : qKE a b m = (a != b) := by
    unfold qKE
    by_cases g : a = b
    · rw [decide_eq_false (by omega)]; simp [g]
    · rw [decide_eq_true (by omega)]; simp [g]
  rw [e] at k; exact k
theorem qYb (B : PBk h p S lp c mr) {d : Dl} (k : ∀ h', h.le h' → K (.bool (decide (qJF S.mem S.cur d))) h') : CallA Tryz.prog qGH [pointer (some ⟨p, 0, none⟩), dA d] h K := by
  refine qNj _ _ _ _ _ _ _ _ _ _ ?_
  unfold qIj
  refine ql fun r h1 hr l1 A1 => ?_
  have B1 := B.le l1
  have no : ¬ qJF S.mem S.cur d → K (.bool false) h1 := fun g => by
    have := k h1 l1
    rw [decide_eq_false g] at this; exact this
  have yes : qJF S.mem S.cur d → K (.bool true) h1 := fun g => by
    have := k h1 l1
    rw [decide_eq_true g] at this; exact this
  refine ⟨_, A1.cell rfl, Br.dec (fun g1 => ⟨_, A1.cell rfl, Br.dec (fun g2 => ⟨_, A1.cell rfl, _, A1.cell rfl, qB rfl ⟨_, B1.ap.cell rfl, qV8 ⟨_, rfl, Br.intro (fun g3 => ?_) fun g3 => Ret.mk (no fun m => by rw [m.2.2.1] at g3; cases g3)⟩⟩⟩) fun g => Ret.mk (no fun m => g m.2.1)⟩) fun g => Ret.mk (no fun m => g m.1)⟩
  refine ⟨_, A1.cell rfl, _, A1.cell rfl, qB rfl ⟨_, B1.ap.cell rfl, qV8 ⟨_, rfl, Br.intro (fun g4 => ?_) fun g4 => Ret.mk (no fun m => by rw [m.2.2.2.1] at g4; cases g4)⟩⟩⟩
  refine ⟨_, A1.cell rfl, Br.dec (fun g5 => ⟨_, A1.cell rfl, Ret.mk ?_⟩) fun g => Ret.mk (no fun m => g m.2.2.2.2.1)⟩
  by_cases g6 : d.buy ≥ 1
  · rw [decide_eq_true g6]; exact yes ⟨g1, g2, g3, g4, g5, g6⟩
  · rw [decide_eq_false g6]; exact no fun m => g6 m.2.2.2.2.2
theorem qVi {d : Dl} (k : ∀ h', h.le h' → K (dA (qJ8 d)) h') : CallA Tryz.prog qKO [dA d] h K := by
  refine qPp _ _ _ _ _ _ _ _ _ ?_
  unfold qKZ
  refine ql fun r h1 hr l1 A1 => ql fun r2 h2 hr2 l2 A2 => ?_
  have A1' := A1.le l2
  have A3 := A2.set (o := 0) (ws := dV (qJ8 d))
  refine ⟨_, A1'.cell rfl, _, A1'.cell rfl, _, A1'.cell rfl, _, A1'.cell rfl, _, A1'.cell rfl, _, A1'.cell rfl, _, A1'.cell rfl, A2.canSt (Nat.le_refl _), _, A3.cell rfl, _, A3.cell rfl, _, A3.cell rfl, _, A3.cell rfl, _, A3.cell rfl, _, A3.cell rfl, _, A3.cell rfl, Ret.mk ?_⟩
  exact k _ (qS (Heap.le_trans l1 l2) (qJ l1 hr2))
theorem qOD (B : PBk h p S lp c mr) {id : Int} (k0 : qAf id S.L = none → K (pointer none) h) (k1 : ∀ i x r, qAf id S.L = some i → S.L[i]? = some x → lp = some ⟨r, 0, none⟩ → K (pointer (some ⟨r, i * 10, none⟩)) h) :
    CallA Tryz.prog qB8 [pointer (some ⟨p, 0, none⟩), .int .i64 id] h K := by
  refine qM7 _ _ _ _ ?_
  unfold qID
  refine qB rfl ⟨_, B.ap.cell rfl, mr, _, rfl, B.mp, ?_⟩
  unfold qKC
  cases hp : qAf id S.L with
  | none =>
    exact Br.yes rfl (Ret.mk (k0 hp))
  | some i =>
    obtain ⟨x, hx, _⟩ := qGt hp
    obtain ⟨r, sp, e, _⟩ := B.row hx
    have hi := (List.getElem?_eq_some_iff.1 hx).1
    refine Br.no rfl (qB rfl ⟨_, _, _, B.ap.cell rfl, by simp, by simp; omega, qB e (Ret.mk ?_)⟩)
    have := k1 i x r hp hx e
    simpa using this
theorem qR9 (B : PBk h p S lp c mr) {id : Int} (k : K (.int .i64 (qBX S id)) h) : CallA Tryz.prog qD7 [pointer (some ⟨p, 0, none⟩), .int .i64 id] h K := by
  refine qMb _ _ _ _ ?_
  unfold qHi
  unfold qBX qGL at k
  refine qOD B (fun hp => ⟨_, rfl, Br.no rfl (Ret.mk ?_)⟩) fun i x r hp hx hr => ⟨_, rfl, Br.yes rfl (qB rfl ?_)⟩
  · rw [hp] at k; exact k
  · obtain ⟨r', sp, e', a, _, hc⟩ := B.row hx
    rw [hr] at e'
    have e' : r = r' := by simpa using e'
    subst e'
    rw [hp] at k
    dsimp only [Option.bind] at k
    rw [hx] at k
    exact ⟨_, hc 7 (by decide), Ret.mk k⟩
theorem qUB (B : PBk h p S lp c mr) {id : Int} (k : ∀ h', h.le h' → K (tuple #[dA (qo S id).1, .bool (qo S id).2]) h') : CallA Tryz.prog qDG [pointer (some ⟨p, 0, none⟩), .int .i64 id] h K := by
  refine qM8 _ _ _ _ ?_
  unfold qIP
  unfold qo qGL at k
  refine ql fun r0 h1 hr0 l1 A1 => ?_
  have B1 := B.le l1
  refine qOD B1 (fun hp => ⟨_, rfl, Br.no rfl ?_⟩) fun i x r hp hx hr => ⟨_, rfl, Br.yes rfl (qB rfl ?_)⟩
  · rw [hp] at k
    have A3 := A1.set (o := 0) (ws := dV dl0)
    refine ⟨A1.canSt (Nat.le_refl _), _, A3.cell rfl, _, A3.cell rfl, _, A3.cell rfl, _, A3.cell rfl, _, A3.cell rfl, _, A3.cell rfl, _, A3.cell rfl, Ret.mk ?_⟩
    exact k _ (qS l1 hr0)
  · obtain ⟨r', sp, e', a, _, hc⟩ := B1.row hx
    rw [hr] at e'
    have e' : r = r' := by simpa using e'
    subst e'
    rw [hp] at k
    dsimp only [Option.bind] at k
    rw [hx] at k
    have A3 := A1.set (o := 0) (ws := dV x.d)
    refine ⟨_, hc 0 (by decide), _, hc 1 (by decide), _, hc 2 (by decide), _, hc 3 (by decide), _, hc 4 (by decide), _, hc 5 (by decide), _, hc 6 (by decide), A1.canSt (Nat.le_refl _), _, A3.cell rfl, _, A3.cell rfl, _, A3.cell rfl, _, A3.cell rfl, _, A3.cell rfl, _, A3.cell rfl, _, A3.cell rfl, Ret.mk ?_⟩
    exact k _ (qS l1 hr0)
theorem qUt (P : PB h p S) {id : Int} (k : ∀ h', PB h' p (qBd S id).2 → K (.int .i64 (qBd S id).1) h') : CallA Tryz.prog qE6 [pointer (some ⟨p, 0, none⟩), .int .i64 id] h K := by
  obtain ⟨ok, lp, c, mr, B⟩ := P
  refine qLa _ _ _ _ ?_
  unfold qHB
  unfold qBd at k
  refine qOD B (fun hp => ⟨_, rfl, Br.yes rfl (Ret.mk ?_)⟩) fun i x r hp hx hr => ⟨_, rfl, Br.no rfl (qB rfl ?_)⟩
  · rw [hp] at k; exact k h ⟨ok, lp, c, mr, B⟩
  · obtain ⟨r', sp, e', a, _, hc⟩ := B.row hx
    rw [hr] at e'
    have e' : r = r' := by simpa using e'
    subst e'
    rw [hp] at k
    dsimp only at k
    rw [hx] at k
    dsimp only at k
    refine ⟨_, hc 7 (by decide), Br.intro (fun g => ?_) fun g => ?_⟩
    · rw [if_pos (by simpa using g)] at k
      exact Ret.mk (k h ⟨ok, lp, c, mr, B⟩)
    · have g : x.st = 2 := by simpa using g
      rw [if_neg (by simp [g])] at k
      refine qB rfl ⟨B.can hx hr (by decide), Ret.mk (k _ ⟨?_, lp, c, mr, B.wr hx hr (by simp) rfl rfl⟩)⟩
      have := ok.could x (List.mem_of_getElem? hx)
      refine ok.chg hx rfl rfl (.inr (.inl ⟨.inr rfl, ?_⟩))
      unfold couldE at this
      dsimp only
      omega
end
end Go.Proofs.YtgjeecaombnmiaaGreat

/- A book of instructions: made, submitted to, rescinded, removed from. -/
namespace Go.Proofs.YtgjeecaombnmiaaGreat
open Go Go.Sy Go.Value
set_option linter.unusedVariables false
set_option linter.unusedSimpArgs false

theorem MapF.keepB {h h' : Heap} {q : Option Addr} {r : Nat} {kk vk : IntKind} {f : Int → Option Int} (M : MapF h r kk vk f) (keep : ∀ b y, h b = some y → q ≠ some ⟨b, 0, none⟩ → h' b = some y) (ne : q ≠ some ⟨r, 0, none⟩) : MapF h' r kk vk f := by
  obtain ⟨es, e, c, h1, h2⟩ := M
  exact ⟨es, e, c, keep _ _ h1 ne, h2⟩
theorem OwnL.neM {g h : Heap} {z : List Value} {q : Option Addr} {c r : Nat} {vs : List Value} {kk vk : IntKind} {f : Int → Option Int} (x : OwnL g h z q c vs) (M : MapF h r kk vk f) : q ≠ some ⟨r, 0, none⟩ := fun e => by
  rcases x with ⟨_, e2, _⟩ | ⟨s, sp, e2, _, a, _⟩
  · rw [e2] at e; cases e
  · rw [e2] at e
    have e : s = r := by simpa using e
    exact M.ne a e
section
variable {h : Heap} {K : Value → Heap → Prop} {p : Nat} {S : Bk} {lp : Option Addr} {c mr : Nat}
theorem PBk.keep {h' : Heap} {q : Option Addr} (B : PBk h p S lp c mr) (keep : ∀ b y, h b = some y → q ≠ some ⟨b, 0, none⟩ → h' b = some y) (n1 : q ≠ some ⟨p, 0, none⟩) (n2 : ∀ r, lp = some ⟨r, 0, none⟩ → q ≠ some ⟨r, 0, none⟩) (n3 : q ≠ some ⟨mr, 0, none⟩) :
    PBk h' p S lp c mr := ⟨qEH keep B.ap n1, B.ol.mv fun b xs e a => qEH keep a (n2 b e), MapF.keepB B.mp keep n3, B.np⟩
theorem qWO {m cu : Int} (k0 : ¬ ((1 ≤ m ∧ m ≤ 16) ∧ 1 ≤ cu ∧ cu ≤ 8) → K (tuple #[pointer none, .int .i64 1]) h)
    (k1 : (1 ≤ m ∧ m ≤ 16) ∧ 1 ≤ cu ∧ cu ≤ 8 → ∀ p h', h.le h' → PB h' p ⟨m, cu, [], 0⟩ → K (tuple #[pointer (some ⟨p, 0, none⟩), .int .i64 0]) h') : CallA Tryz.prog qKH [.int .i64 m, .int .i64 cu] h K := by
  refine qS8 _ _ _ _ ?_
  unfold qNJ
  refine Br.dec (fun g => Ret.mk (k0 (by omega))) fun g1 => Br.dec (fun g => Ret.mk (k0 (by omega))) fun g2 => Br.dec (fun g => Ret.mk (k0 (by omega))) fun g3 => Br.dec (fun g => Ret.mk (k0 (by omega))) fun g4 => ?_
  intro r hr
  refine ql fun r2 h2 hr2 l2 A2 => Ret.mk (k1 (by omega) _ _ (Heap.le_trans (qb hr) l2) ⟨?_, none, 0, r, ⟨A2, .nil _ _ _, (MapF.new h r .i64 .i64).le l2, fun e => by cases e⟩⟩)
  exact { m1 := by dsimp only; omega, c1 := by dsimp only; omega, n := Nat.zero_le _, may := fun _ x => (by cases x), i64 := fun _ x => (by cases x), nd := fun i x e => (by simp at e), could := fun _ x => (by cases x), ords := .refl _ }
theorem qQX (P : PB h p S) {d : Dl} (hi : qQ3 d) (k : ∀ h', PB h' p (qC6 S d).2.2 → K (tuple #[.bool (qC6 S d).1, .int .i64 (qC6 S d).2.1]) h') :
    CallA Tryz.prog qHG [pointer (some ⟨p, 0, none⟩), dA d] h K := by
  obtain ⟨ok, lp, c, mr, B⟩ := P
  refine qLc _ _ _ _ _ _ _ _ _ _ ?_
  unfold qG8
  unfold qC6 at k
  refine ql fun r h1 hr l1 A1 => ⟨_, A1.cell rfl, _, A1.cell rfl, _, A1.cell rfl, _, A1.cell rfl, _, A1.cell rfl, _, A1.cell rfl, _, A1.cell rfl, ?_⟩
  refine qYb (d := d) (B.le l1) fun h2 l2 => ⟨_, rfl, ?_⟩
  have A := A1.le l2
  have B := B.le (Heap.le_trans l1 l2)
  clear A1 l1 l2 hr h1
  by_cases gm : qJF S.mem S.cur d
  rotate_left
  · rw [decide_eq_false gm]
    rw [if_neg gm] at k
    exact Br.yes rfl (Ret.mk (k _ ⟨ok, lp, c, mr, B⟩))
  rw [decide_eq_true gm]
  rw [if_pos gm] at k
  refine Br.no rfl ⟨_, A.cell rfl, qOD B (fun hp => ⟨_, rfl, Br.yes rfl ?_⟩) fun i x r' hp hx hr' => ⟨_, rfl, Br.no rfl ?_⟩⟩
  · rw [hp] at k
    dsimp only at k
    have hn := ok.n
    refine qB rfl ⟨_, _, _, B.ap.cell rfl, Br.intro (fun g => ?_) fun g => ?_⟩
    · rw [if_pos (by have := of_decide_eq_true (show decide ((S.L.length : Int) = 200) = true from g); omega)] at k
      exact Ret.mk (k _ ⟨ok, lp, c, mr, B⟩)
    have g : S.L.length ≠ 200 := fun e => by rw [e] at g; cases g
    rw [if_neg g] at k
    refine Br.yes rfl (qB rfl ⟨_, B.ap.cell rfl, _, A.cell rfl, qB rfl ⟨_, _, _, B.ap.cell rfl, mr, _, rfl, B.mp, fun o ho hc hcn => ?_⟩⟩)
    have hat : ∀ b xs, At h2 b xs → At (h2.ins mr o) b xs := fun b xs a => a.insM (B.mp.ne a)
    have A' := hat _ _ A
    have ap' := hat _ _ B.ap
    have ol' := B.ol.mv (h' := h2.ins mr o) fun b xs e a => hat b xs a
    have mp' : MapF (h2.ins mr o) mr .i64 .i64 (qKC (S.L ++ [⟨d, 1, 0, 0⟩])) := by
      have := ho (h2.ins mr o) (by unfold Heap.ins; rw [if_pos rfl])
      have e : (fun x => if x = d.id then some ((S.L.length : Nat) : Int) else qKC S.L x) = qKC (S.L ++ [⟨d, 1, 0, 0⟩]) := by
        funext x
        unfold qKC
        rw [qPB S.L ⟨d, 1, 0, 0⟩ hp]
        dsimp only
        split <;> rfl
      rw [← e]; exact this
    generalize h2.ins mr o = h3 at *
    refine qB rfl ⟨_, _, _, ap'.cell rfl, _, A'.cell rfl, _, A'.cell rfl, _, A'.cell rfl, _, A'.cell rfl, _, A'.cell rfl, _, A'.cell rfl, _, A'.cell rfl, ?_⟩
    refine qJw ol' (by decide) (qMs _) (by omega) rfl rfl (by rw [qBh qDE]; rfl) fun r4 h4 p' c' h5 hr4 l4 _ ol5 keep how => ?_
    have ap5 := qEH keep (ap'.le l4) B.np
    have np5 := qF8 how (ap'.le l4) B.np
    have mp5 := MapF.keepB (mp'.le l4) keep (OwnL.neM (ol'.le l4) (mp'.le l4))
    refine qB rfl ⟨ap5.canSt (by simp), Ret.mk (k _ ⟨ok.snoc gm hi (by omega) hp, p', c', mr, ?_, ?_, mp5.set ap5, np5⟩)⟩
    · have := ap5.set (o := 2) (ws := [.slice p' (S.L.length + 1) c'])
      have e : (S.L ++ [(⟨d, 1, 0, 0⟩ : En)]).length = S.L.length + 1 := by simp
      dsimp only
      rw [e]
      exact this
    · have := ol5.set_ne (o := 2) (ws := [.slice p' (S.L.length + 1) c']) np5
      have e : (S.L ++ [(⟨d, 1, 0, 0⟩ : En)]).flatMap eV = S.L.flatMap eV ++ eV ⟨d, 1, 0, 0⟩ := by rw [List.flatMap_append]; simp
      dsimp only
      rw [e]
      exact this
  · obtain ⟨r2, sp, e', a, hne, hc⟩ := B.row hx
    rw [hr'] at e'
    have e' : r' = r2 := by simpa using e'
    subst e'
    rw [hp] at k
    dsimp only at k
    rw [hx] at k
    dsimp only at k
    refine Br.no rfl (qB rfl ⟨_, hc 7 (by decide), Br.intro (fun g => ?_) fun g => ?_⟩)
    · rw [if_pos (.inl (by simpa using g))] at k
      exact Ret.mk (k _ ⟨ok, lp, c, mr, B⟩)
    have g1 : x.st = 1 := by simpa using g
    refine qB rfl ⟨_, hc 1 (by decide), _, A.cell rfl, Br.intro (fun g => ?_) fun g => ?_⟩
    · rw [if_pos (.inr (by simpa using g))] at k
      exact Ret.mk (k _ ⟨ok, lp, c, mr, B⟩)
    have g2 : x.d.a ≠ d.a := by simpa using g
    rw [if_neg (by simp [g1, g2])] at k
    refine qB rfl ⟨_, hc 0 (by decide), _, hc 1 (by decide), _, hc 2 (by decide), _, hc 3 (by decide), _, hc 4 (by decide), _, hc 5 (by decide), _, hc 6 (by decide), ?_⟩
    refine ⟨_, A.cell rfl, _, A.cell rfl, _, A.cell rfl, _, A.cell rfl, _, A.cell rfl, _, A.cell rfl, _, A.cell rfl, ?_⟩
    refine qVi (d := d) fun h3 l3 => ⟨_, _, _, _, _, _, _, rfl, .inl l3, ?_⟩
    have B3 := B.le l3
    cases he : eqD x.d (qJ8 d) with
    | false =>
      rw [if_pos he] at k
      exact Br.yes (show (!eqD x.d (qJ8 d)) = true by rw [he]; rfl) (Ret.mk (k _ ⟨ok, lp, c, mr, B3⟩))
    | true =>
      rw [if_neg (by rw [he]; decide)] at k
      refine Br.no (show (!eqD x.d (qJ8 d)) = false by rw [he]; rfl) ?_
      have hm := ok.mat
      have w : IntKind.wrap .i64 ((S.mat : Int) + 1) = ((S.mat + 1 : Nat) : Int) := by rw [qO (by omega) (by omega)]; omega
      have B4 := B3.wrM (S.mat + 1)
      have B5 := B4.wr (o := 7) (y := { x with st := 2 }) (ws := [.int .i64 2]) hx hr' (by simp) rfl rfl
      have hi := (List.getElem?_eq_some_iff.1 hx).1
      have hx5 : (S.L.set i { x with st := 2 })[i]? = some { x with st := 2 } := by rw [List.getElem?_set_self hi]
      have B6 := B5.wr (o := 9) (y := { x with st := 2, ord := ((S.mat + 1 : Nat) : Int) }) (ws := [.int .i64 ((S.mat + 1 : Nat) : Int)]) hx5 hr' (by simp) rfl rfl
      refine qB rfl ⟨_, B3.ap.cell rfl, qB rfl ⟨B3.ap.canSt (by simp), qB rfl ?_⟩⟩
      rw [w]
      refine ⟨_, B4.ap.cell rfl, qB rfl ⟨B4.can hx hr' (by decide), qB rfl ⟨B5.can hx5 hr' (by decide), Ret.mk (k _ ⟨ok.match hx g1, lp, c, mr, ?_⟩)⟩⟩⟩
      have e : (S.L.set i { x with st := 2 }).set i { x with st := 2, ord := ((S.mat + 1 : Nat) : Int) } = S.L.set i { x with st := 2, ord := (S.mat : Int) + 1 } := by
        rw [List.set_set]; rfl
      dsimp only at B6
      rw [e] at B6
      exact B6
end
end Go.Proofs.YtgjeecaombnmiaaGreat

/- Entries put in order by the how-manieth they were to be matched: the order, and a list of them in memory. -/
namespace Go.Proofs.YtgjeecaombnmiaaGreat
open Go Go.Sy Go.Value
set_option linter.unusedVariables false
set_option linter.unusedSimpArgs false

def en0 : En := ⟨⟨0, 0, 0, 0, 0, 0, 0⟩, 0, 0, 0⟩
def qDf (F : List En) (i : Int) : En := F.getD i.toNat en0
def qR (F : List En) (i k : Int) : Bool := decide ((qDf F i).ord < (qDf F k).ord)
theorem qMr (F : List En) : Go.Sort.SWO (qR F) where
  irrefl x := by unfold qR; rw [decide_eq_false_iff_not]; omega
  trans x y z := by unfold qR; rw [decide_eq_true_eq, decide_eq_true_eq, decide_eq_true_eq]; omega
  ntrans x y z := by unfold qR; rw [decide_eq_false_iff_not, decide_eq_false_iff_not, decide_eq_false_iff_not]; omega
def qG6 (F : List En) (d : List Int) : List En := d.map (qDf F)
theorem qQa (F : List En) (d : List Int) : (qG6 F d).length = d.length := List.length_map ..
def qKL (n : Nat) : List Int := (List.range n).map fun (i : Nat) => (i : Int)
theorem qNN (n : Nat) : (qKL n).length = n := by unfold qKL; rw [List.length_map, List.length_range]
theorem qPf (F : List En) : qG6 F (qKL F.length) = F := by
  refine List.ext_getElem? fun i => ?_
  unfold qG6 qKL
  rw [List.getElem?_map, List.getElem?_map]
  by_cases h : i < F.length
  · rw [List.getElem?_range h]
    simp only [Option.map_some, qDf, Int.toNat_natCast]
    rw [List.getD_eq_getElem?_getD, List.getElem?_eq_getElem h]; rfl
  · rw [List.getElem?_eq_none (by rw [List.length_range]; omega), List.getElem?_eq_none (by omega)]; rfl
theorem qYe {d : Array Int} {i : Nat} (h : i < d.size) : d.toList[i]? = some d[i]! := by
  rw [List.getElem?_eq_getElem (by simpa using h), getElem!_pos d i h]; simp
theorem qTu {F : List En} {n : Nat} {d : Array Int} (hn : F.length = n) (hp : Go.Sort.PermIn 0 n (qKL n).toArray d) (hs : Go.Sort.SortedIn (qR F) 0 n d) :
    (qG6 F d.toList).Perm F ∧ (qG6 F d.toList).Pairwise fun x y => x.ord ≤ y.ord := by
  have hz : d.size = n := by rw [hp.1]; simp [qNN]
  constructor
  · have h1 := hp.2.2
    have e1 : (d.extract 0 n).toList = d.toList := by rw [← hz]; simp
    have e2 : ((qKL n).toArray.extract 0 n).toList = qKL n := by
      have := qNN n
      simp [List.take_of_length_le (Nat.le_of_eq this)]
    rw [e1, e2] at h1
    have h2 := h1.map (qDf F)
    rw [← hn] at h2
    have h3 := qPf F
    unfold qG6 at h3 ⊢
    rw [h3] at h2
    exact h2
  · unfold qG6
    rw [List.pairwise_map, List.pairwise_iff_getElem]
    intro i j hi hj hij
    have hi' : i < d.size := by simpa using hi
    have hj' : j < d.size := by simpa using hj
    have := hs i j (Nat.zero_le _) hij (by omega)
    unfold qR at this
    rw [decide_eq_false_iff_not, getElem!_pos d i hi', getElem!_pos d j hj'] at this
    have e1 : d.toList[i] = d[i] := by simp
    have e2 : d.toList[j] = d[j] := by simp
    rw [e1, e2]; omega

structure DaE (F : List En) (g0 : Heap) (B m n : Nat) (sp : List Value) (h : Heap) (d : Array Int) : Prop where
  le : g0.le h
  at_ : At h B ((qG6 F d.toList).flatMap eV ++ sp)
  sz : d.size = n
  rg : m = m
section
variable {F : List En} {g0 h : Heap} {B m n : Nat} {sp : List Value} {d : Array Int}
theorem DaE.el (D : DaE F g0 B m n sp h d) {i : Nat} (hi : i < n) : (qG6 F d.toList)[i]? = some (qDf F d[i]!) := by
  have hi : i < d.size := by rw [D.sz]; exact hi
  unfold qG6
  rw [List.getElem?_map, qYe hi]; rfl
theorem DaE.get (D : DaE F g0 B m n sp h d) {i o : Nat} (hi : i < n) (ho : o < 10) : h.cell B (i * 10 + o) = (eV (qDf F d[i]!))[o]? := by
  have g := qKg qDE _ i o _ (D.el hi) ho
  have hlt : o < (eV (qDf F d[i]!)).length := ho
  have hs := D.sz
  rw [List.getElem?_eq_getElem hlt] at g ⊢
  refine D.at_.cell ?_
  rw [List.getElem?_append_left (by rw [qBh qDE, qQa]; simp only [Array.length_toList]; omega), g]
theorem DaE.mv (D : DaE F g0 B m n sp h d) {h' : Heap} (l : h.le h') : DaE F g0 B m n sp h' d := ⟨Heap.le_trans D.le l, D.at_.le l, D.sz, rfl⟩
theorem DaE.st (D : DaE F g0 B m n sp h d) (e0 : g0 B = none) {i : Nat} {x : Int} (hi : i < n) : DaE F g0 B m n sp (h.setN B (i * 10) (eV (qDf F x))) (d.setIfInBounds i x) := by
  have hs := D.sz
  refine ⟨qS D.le e0, ?_, by simpa using D.sz, rfl⟩
  have := D.at_.set (o := i * 10 + 0) (ws := eV (qDf F x))
  rw [qQI (D.el hi) (by rw [qDE]; omega) (y := qDf F x) rfl] at this
  have e : (qG6 F d.toList).set i (qDf F x) = qG6 F (d.setIfInBounds i x).toList := by
    unfold qG6
    rw [Array.toList_setIfInBounds, List.map_set]
  rw [e] at this
  exact this
theorem DaE.can (D : DaE F g0 B m n sp h d) {i : Nat} (hi : i < n) : h.canSt B (i * 10) 10 := D.at_.canSt (by
  have := D.sz
  rw [List.length_append, qBh qDE, qQa]; simp only [Array.length_toList]; omega)
end
theorem ldE {h : Heap} {x : En} {a b : Nat} {J : Int → Int → Int → Int → Int → Int → Int → Int → Int → Int → Prop} (hc : ∀ o, o < 10 → h.cell b (a + o) = (eV x)[o]?) (k : J x.d.id x.d.a x.d.b x.d.sc x.d.bc x.d.sell x.d.buy x.st x.ask x.ord) : qP h b a J :=
  ⟨_, hc 0 (by decide), _, hc 1 (by decide), _, hc 2 (by decide), _, hc 3 (by decide), _, hc 4 (by decide), _, hc 5 (by decide), _, hc 6 (by decide), _, hc 7 (by decide), _, hc 8 (by decide), _, hc 9 (by decide), k⟩
def eA (x : En) : Value := agg #[.int .i64 x.d.id, .int .i64 x.d.a, .int .i64 x.d.b, .int .i64 x.d.sc, .int .i64 x.d.bc, .int .i64 x.d.sell, .int .i64 x.d.buy, .int .i64 x.st, .int .i64 x.ask, .int .i64 x.ord]
def qMD (x y : Int) : Int := if x < y then -1 else if x > y then 1 else 0
theorem qOz {x y : Int} : qMD x y < 0 ↔ x < y := by unfold qMD; split <;> (try split) <;> omega
section
variable {h : Heap} {K : Value → Heap → Prop}
theorem qTw {x : Int} (k : K (.bool false) h) : CallA Tryz.prog qFE [.int .i64 x] h K := by
  refine qNv _ _ _ ?_
  unfold qJM
  refine Ret.mk ?_
  rw [show (x != x) = false by simp]; exact k
theorem qXf {x y : Int} (k : K (.int .i64 (qMD x y)) h) : CallA Tryz.prog qFn [.int .i64 x, .int .i64 y] h K := by
  refine qNA _ _ _ _ ?_
  unfold qIM
  unfold qMD at k
  refine qTw ⟨_, rfl, qTw ⟨_, rfl, Br.no rfl (Br.no rfl (Br.dec (fun g => ?_) fun g => Br.dec (fun g2 => ?_) fun g2 => ?_))⟩⟩
  · rw [if_pos g] at k; exact Ret.mk k
  · rw [if_neg g, if_pos g2] at k; exact Ret.mk k
  · rw [if_neg g, if_neg g2] at k; exact Ret.mk k
theorem qQm {x y : En} (k : ∀ h', h.le h' → K (.int .i64 (qMD x.ord y.ord)) h') : CallA Tryz.prog qC [eA x, eA y] h K := by
  refine qMM _ _ _ _ _ _ _ _ _ _ _ _ _ _ _ _ _ _ _ _ _ _ ?_
  unfold qHl
  refine ql fun r1 h1 hr1 l1 A1 => ql fun r2 h2 hr2 l2 A2 => ?_
  exact ⟨_, (A1.le l2).cell rfl, _, A2.cell rfl, qXf ⟨_, rfl, Ret.mk (k _ (Heap.le_trans l1 l2))⟩⟩
end
section
variable {F : List En} {g0 h : Heap} {B m n : Nat} {sp : List Value} {d : Array Int}
theorem qMe (D : DaE F g0 B m n sp h d) (hm : F.length = m) (I : True) {X Y : Int} {i j : Nat} (hX : X = (i : Int)) (hY : Y = (j : Int)) (hi : i < n) (hj : j < n) {P Q : Heap → Prop}
    (k : ∀ h', DaE F g0 B m n sp h' d → Br (qR F d[i]! d[j]!) (P h') (Q h')) :
    (0 : Int) ≤ X ∧ X < (n : Int) ∧ qA (some ⟨B, 0, none⟩) fun b o => qP h b (o + X.toNat * 10) fun x0 x1 x2 x3 x4 x5 x6 x7 x8 x9 => (0 : Int) ≤ Y ∧ Y < (n : Int) ∧ qA (some ⟨B, 0, none⟩) fun b o => qP h b (o + Y.toNat * 10) fun y0 y1 y2 y3 y4 y5 y6 y7 y8 y9 =>
      CallA Tryz.prog qC [agg #[.int .i64 x0, .int .i64 x1, .int .i64 x2, .int .i64 x3, .int .i64 x4, .int .i64 x5, .int .i64 x6, .int .i64 x7, .int .i64 x8, .int .i64 x9], agg #[.int .i64 y0, .int .i64 y1, .int .i64 y2, .int .i64 y3, .int .i64 y4, .int .i64 y5, .int .i64 y6, .int .i64 y7, .int .i64 y8, .int .i64 y9]] h fun v h => ∃ r, v = .int .i64 r ∧ Br (decide (r < 0)) (P h) (Q h) := by
  subst hX hY
  have e : ∀ z : Nat, 0 + ((z : Nat) : Int).toNat * 10 = z * 10 := fun z => by rw [Int.toNat_natCast, Nat.zero_add]
  refine ⟨by omega, by omega, qB rfl ?_⟩
  rw [e]
  refine ldE (fun o ho => D.get hi ho) ⟨by omega, by omega, qB rfl ?_⟩
  rw [e]
  refine ldE (fun o ho => D.get hj ho) ?_
  refine qQm (x := qDf F d[i]!) (y := qDf F d[j]!) fun h' l' => ⟨_, rfl, ?_⟩
  have := k h' (D.mv l')
  have e3 : qR F d[i]! d[j]! = decide (qMD (qDf F d[i]!).ord (qDf F d[j]!).ord < 0) := by unfold qR; rw [decide_eq_decide]; exact qOz.symm
  rw [e3] at this
  exact this
theorem qGN (D : DaE F g0 B m n sp h d) (hm : F.length = m) (I : True) {X Y : Int} {i j : Nat} (hX : X = (i : Int)) (hY : Y = (j : Int)) (hi : i < n) (hj : j < n) {P Q : Heap → Prop}
    (k : ∀ h', DaE F g0 B m n sp h' d → Br (!qR F d[i]! d[j]!) (P h') (Q h')) :
    (0 : Int) ≤ X ∧ X < (n : Int) ∧ qA (some ⟨B, 0, none⟩) fun b o => qP h b (o + X.toNat * 10) fun x0 x1 x2 x3 x4 x5 x6 x7 x8 x9 => (0 : Int) ≤ Y ∧ Y < (n : Int) ∧ qA (some ⟨B, 0, none⟩) fun b o => qP h b (o + Y.toNat * 10) fun y0 y1 y2 y3 y4 y5 y6 y7 y8 y9 =>
      CallA Tryz.prog qC [agg #[.int .i64 x0, .int .i64 x1, .int .i64 x2, .int .i64 x3, .int .i64 x4, .int .i64 x5, .int .i64 x6, .int .i64 x7, .int .i64 x8, .int .i64 x9], agg #[.int .i64 y0, .int .i64 y1, .int .i64 y2, .int .i64 y3, .int .i64 y4, .int .i64 y5, .int .i64 y6, .int .i64 y7, .int .i64 y8, .int .i64 y9]] h fun v h => ∃ r, v = .int .i64 r ∧ Br (!decide (r < 0)) (P h) (Q h) := by
  subst hX hY
  have e : ∀ z : Nat, 0 + ((z : Nat) : Int).toNat * 10 = z * 10 := fun z => by rw [Int.toNat_natCast, Nat.zero_add]
  refine ⟨by omega, by omega, qB rfl ?_⟩
  rw [e]
  refine ldE (fun o ho => D.get hi ho) ⟨by omega, by omega, qB rfl ?_⟩
  rw [e]
  refine ldE (fun o ho => D.get hj ho) ?_
  refine qQm (x := qDf F d[i]!) (y := qDf F d[j]!) fun h' l' => ⟨_, rfl, ?_⟩
  have := k h' (D.mv l')
  have e3 : qR F d[i]! d[j]! = decide (qMD (qDf F d[i]!).ord (qDf F d[j]!).ord < 0) := by unfold qR; rw [decide_eq_decide]; exact qOz.symm
  rw [e3] at this
  exact this
theorem qXT (D : DaE F g0 B m n sp h d) (hm : F.length = m) (I : True) {r : Nat} {vs : List Value} (A : At h r vs) {X Y : Int} {i j : Nat} (hX : X = (i : Int)) (hY : Y = (j : Int)) (hi : i < n) (hj : j < n) {P Q : Heap → Prop}
    (k : ∀ h', DaE F g0 B m n sp h' d → At h' r vs → Br (qR F d[i]! d[j]!) (P h') (Q h')) :
    (0 : Int) ≤ X ∧ X < (n : Int) ∧ qA (some ⟨B, 0, none⟩) fun b o => qP h b (o + X.toNat * 10) fun x0 x1 x2 x3 x4 x5 x6 x7 x8 x9 => (0 : Int) ≤ Y ∧ Y < (n : Int) ∧ qA (some ⟨B, 0, none⟩) fun b o => qP h b (o + Y.toNat * 10) fun y0 y1 y2 y3 y4 y5 y6 y7 y8 y9 =>
      CallA Tryz.prog qC [agg #[.int .i64 x0, .int .i64 x1, .int .i64 x2, .int .i64 x3, .int .i64 x4, .int .i64 x5, .int .i64 x6, .int .i64 x7, .int .i64 x8, .int .i64 x9], agg #[.int .i64 y0, .int .i64 y1, .int .i64 y2, .int .i64 y3, .int .i64 y4, .int .i64 y5, .int .i64 y6, .int .i64 y7, .int .i64 y8, .int .i64 y9]] h fun v h => ∃ r, v = .int .i64 r ∧ Br (decide (r < 0)) (P h) (Q h) := by
  subst hX hY
  have e : ∀ z : Nat, 0 + ((z : Nat) : Int).toNat * 10 = z * 10 := fun z => by rw [Int.toNat_natCast, Nat.zero_add]
  refine ⟨by omega, by omega, qB rfl ?_⟩
  rw [e]
  refine ldE (fun o ho => D.get hi ho) ⟨by omega, by omega, qB rfl ?_⟩
  rw [e]
  refine ldE (fun o ho => D.get hj ho) ?_
  refine qQm (x := qDf F d[i]!) (y := qDf F d[j]!) fun h' l' => ⟨_, rfl, ?_⟩
  have := k h' (D.mv l') (A.le l')
  have e3 : qR F d[i]! d[j]! = decide (qMD (qDf F d[i]!).ord (qDf F d[j]!).ord < 0) := by unfold qR; rw [decide_eq_decide]; exact qOz.symm
  rw [e3] at this
  exact this
theorem qC0 (D : DaE F g0 B m n sp h d) (e0 : g0 B = none) {X Y : Int} {i j : Nat} (hX : X = (i : Int)) (hY : Y = (j : Int)) (hi : i < n) (hj : j < n) {J : Heap → Prop}
    (k : ∀ h', DaE F g0 B m n sp h' (Go.Sort.swp d j i) → J h') :
    (0 : Int) ≤ X ∧ X < (n : Int) ∧ qA (some ⟨B, 0, none⟩) fun b o => qP h b (o + X.toNat * 10) fun x0 x1 x2 x3 x4 x5 x6 x7 x8 x9 => (0 : Int) ≤ Y ∧ Y < (n : Int) ∧ qA (some ⟨B, 0, none⟩) fun b o => qP h b (o + Y.toNat * 10) fun y0 y1 y2 y3 y4 y5 y6 y7 y8 y9 =>
      (0 : Int) ≤ Y ∧ Y < (n : Int) ∧ qA (some ⟨B, 0, none⟩) fun b o => h.canSt b (o + Y.toNat * 10) 10 ∧ (0 : Int) ≤ X ∧ X < (n : Int) ∧ qA (some ⟨B, 0, none⟩) fun b1 o1 => (h.setN b (o + Y.toNat * 10) [.int .i64 x0, .int .i64 x1, .int .i64 x2, .int .i64 x3, .int .i64 x4, .int .i64 x5, .int .i64 x6, .int .i64 x7, .int .i64 x8, .int .i64 x9]).canSt b1 (o1 + X.toNat * 10) 10 ∧
        J ((h.setN b (o + Y.toNat * 10) [.int .i64 x0, .int .i64 x1, .int .i64 x2, .int .i64 x3, .int .i64 x4, .int .i64 x5, .int .i64 x6, .int .i64 x7, .int .i64 x8, .int .i64 x9]).setN b1 (o1 + X.toNat * 10) [.int .i64 y0, .int .i64 y1, .int .i64 y2, .int .i64 y3, .int .i64 y4, .int .i64 y5, .int .i64 y6, .int .i64 y7, .int .i64 y8, .int .i64 y9]) := by
  subst hX hY
  have D1 := D.st e0 hj (x := d[i]!)
  have D2 := D1.st e0 hi (x := d[j]!)
  have e : ∀ z : Nat, 0 + ((z : Nat) : Int).toNat * 10 = z * 10 := fun z => by rw [Int.toNat_natCast, Nat.zero_add]
  refine ⟨by omega, by omega, qB rfl ?_⟩
  rw [e]
  refine ldE (fun o ho => D.get hi ho) ⟨by omega, by omega, qB rfl ?_⟩
  rw [e]
  refine ldE (fun o ho => D.get hj ho) ⟨by omega, by omega, qB rfl ?_⟩
  rw [e]
  refine ⟨D.can hj, by omega, by omega, qB rfl ?_⟩
  rw [e]
  exact ⟨D1.can hi, k _ D2⟩
theorem qT3 (D : DaE F g0 B m n sp h d) (e0 : g0 B = none) {r : Nat} {vs : List Value} (A : At h r vs) (hbr : B ≠ r) {X Y : Int} {i j : Nat} (hX : X = (i : Int)) (hY : Y = (j : Int)) (hi : i < n) (hj : j < n) {J : Heap → Prop}
    (k : ∀ h', DaE F g0 B m n sp h' (Go.Sort.swp d j i) → At h' r vs → J h') :
    (0 : Int) ≤ X ∧ X < (n : Int) ∧ qA (some ⟨B, 0, none⟩) fun b o => qP h b (o + X.toNat * 10) fun x0 x1 x2 x3 x4 x5 x6 x7 x8 x9 => (0 : Int) ≤ Y ∧ Y < (n : Int) ∧ qA (some ⟨B, 0, none⟩) fun b o => qP h b (o + Y.toNat * 10) fun y0 y1 y2 y3 y4 y5 y6 y7 y8 y9 =>
      (0 : Int) ≤ Y ∧ Y < (n : Int) ∧ qA (some ⟨B, 0, none⟩) fun b o => h.canSt b (o + Y.toNat * 10) 10 ∧ (0 : Int) ≤ X ∧ X < (n : Int) ∧ qA (some ⟨B, 0, none⟩) fun b1 o1 => (h.setN b (o + Y.toNat * 10) [.int .i64 x0, .int .i64 x1, .int .i64 x2, .int .i64 x3, .int .i64 x4, .int .i64 x5, .int .i64 x6, .int .i64 x7, .int .i64 x8, .int .i64 x9]).canSt b1 (o1 + X.toNat * 10) 10 ∧
        J ((h.setN b (o + Y.toNat * 10) [.int .i64 x0, .int .i64 x1, .int .i64 x2, .int .i64 x3, .int .i64 x4, .int .i64 x5, .int .i64 x6, .int .i64 x7, .int .i64 x8, .int .i64 x9]).setN b1 (o1 + X.toNat * 10) [.int .i64 y0, .int .i64 y1, .int .i64 y2, .int .i64 y3, .int .i64 y4, .int .i64 y5, .int .i64 y6, .int .i64 y7, .int .i64 y8, .int .i64 y9]) := by
  subst hX hY
  have D1 := D.st e0 hj (x := d[i]!)
  have D2 := D1.st e0 hi (x := d[j]!)
  have e : ∀ z : Nat, 0 + ((z : Nat) : Int).toNat * 10 = z * 10 := fun z => by rw [Int.toNat_natCast, Nat.zero_add]
  refine ⟨by omega, by omega, qB rfl ?_⟩
  rw [e]
  refine ldE (fun o ho => D.get hi ho) ⟨by omega, by omega, qB rfl ?_⟩
  rw [e]
  refine ldE (fun o ho => D.get hj ho) ⟨by omega, by omega, qB rfl ?_⟩
  rw [e]
  refine ⟨D.can hj, by omega, by omega, qB rfl ?_⟩
  rw [e]
  exact ⟨D1.can hi, k _ D2 ((A.set_ne (Ne.symm hbr)).set_ne (Ne.symm hbr))⟩
end
end Go.Proofs.YtgjeecaombnmiaaGreat
