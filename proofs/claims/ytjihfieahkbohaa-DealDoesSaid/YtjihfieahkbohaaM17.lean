import Derived.Test.YtjihfieahkbohaaM13
import Derived.Test.YtjihfieahkbohaaM16
import Derived.Test.YtjihfieahkbohaaM07
/- An operation of both books: the answers are the same. -/
namespace Go.Proofs.Ytjihfieahkbohaa
open Go Go.Sy Go.Value
set_option linter.unusedVariables false
set_option linter.unusedSimpArgs false

def oA (x : Opx) : Value := agg #[.int .i64 x.k, .int .i64 x.m, .int .i64 x.id, .int .i64 x.d.id, .int .i64 x.d.a, .int .i64 x.d.b, .int .i64 x.d.sc, .int .i64 x.d.bc, .int .i64 x.d.sell, .int .i64 x.d.buy]
theorem keeps1 {H H' X : Heap} {r : Nat} {vs : List Value} (A : At X r vs) (l : X.le H) (l' : X.le H') : Keeps [r] H H' := fun x hx y hy => by
  rw [List.mem_singleton] at hx
  subst hx
  obtain ⟨T, ea⟩ := A
  have h1 := l _ _ ea
  rw [hy] at h1
  rw [h1]
  exact l' _ _ ea
theorem S_do {K : Value → Heap → Prop} {H X g1 g2 : Heap} {p q : Nat} {S : Bk} {x : Opx} (s : SepT H X g1 g2) (P : PB g1 p S) (R : RB g2 q S) (hd : I64d x.d)
    (k : ∀ H' X' g1' g2', SepT H' X' g1' g2' → X.le X' → PB g1' p (opM S x) → RB g2' q (opM S x) → K (.bool true) H') :
    CallA Try.prog fn_law11_do [pointer (some ⟨p, 0, none⟩), pointer (some ⟨q, 0, none⟩), oA x] H K := by
  refine F_law11_do _ _ _ _ _ _ _ _ _ _ _ _ _ _ ?_
  unfold F_law11_doT
  refine s.box fun r1 H X' s A _ hr lx => ?_
  have A : At X' r1 (oV x) := A
  have B := A.le s.x
  refine ⟨_, B.cell rfl, Br.intro (fun g => ?_) fun g => ?_⟩
  · have g : x.k = 0 := by simpa using g
    have eo : opM S x = (submitM S x.d).2.2 := by unfold opM; rw [if_pos g]
    rw [eo] at k
    refine ⟨_, B.cell rfl, _, B.cell rfl, _, B.cell rfl, _, B.cell rfl, _, B.cell rfl, _, B.cell rfl, _, B.cell rfl, s.call1 (S_Submit P (d := x.d) hd fun g1 P H s => ⟨_, _, rfl, ?_⟩)⟩
    have B := A.le s.x
    refine ⟨_, B.cell rfl, _, B.cell rfl, _, B.cell rfl, _, B.cell rfl, _, B.cell rfl, _, B.cell rfl, _, B.cell rfl, s.call2 (S_RSubmit R (d := x.d) hd fun g2 R H s => ⟨_, _, rfl, Br.yes (by simp) (Ret.mk ?_)⟩)⟩
    rw [beq_self_eq_true]
    exact k H X' g1 g2 s lx P R
  have n0 : x.k ≠ 0 := by simpa using g
  refine Br.intro (fun g => ?_) fun g => ?_
  · have g : x.k = 1 := by simpa using g
    have eo : opM S x = (rescindM S x.m x.id).2.2 := by unfold opM; rw [if_neg n0, if_pos g]
    rw [eo] at k
    refine ⟨_, B.cell rfl, _, B.cell rfl, s.call1 (S_Rescind P fun g1 P H s => ⟨_, _, rfl, ?_⟩)⟩
    have B := A.le s.x
    refine ⟨_, B.cell rfl, _, B.cell rfl, s.call2 (S_RRescind R fun g2 R H s => ⟨_, _, rfl, Br.yes (by simp) (Ret.mk ?_)⟩)⟩
    rw [beq_self_eq_true]
    exact k H X' g1 g2 s lx P R
  have n1 : x.k ≠ 1 := by simpa using g
  refine Br.intro (fun g => ?_) fun g => ?_
  · have g : x.k = 2 := by simpa using g
    have eo : opM S x = (settleM S x.id).2 := by unfold opM; rw [if_neg n0, if_neg n1, if_pos g]
    rw [eo] at k
    have sx := s.x
    refine ⟨_, B.cell rfl, _, B.cell rfl, s.call1 (S_Settle P fun g1 P H s => ⟨_, rfl, .inr (keeps1 A sx s.x), s.call2 (S_RSettle R fun g2 R H s => ⟨_, rfl, Ret.mk ?_⟩)⟩)⟩
    rw [beq_self_eq_true]
    exact k H X' g1 g2 s lx P R
  have n2 : x.k ≠ 2 := by simpa using g
  refine Br.intro (fun g => ?_) fun g => ?_
  · have g : x.k = 3 := by simpa using g
    have eo : opM S x = (removeM S x.m).2 := by unfold opM; rw [if_neg n0, if_neg n1, if_neg n2, if_pos g]
    rw [eo] at k
    have sx := s.x
    have hl : (remO x.m S.L).length ≤ 200 := by
      unfold remO
      rw [List.length_map]
      have := List.length_filter_le (hitE x.m) S.L
      have := P.1.n
      omega
    refine ⟨_, B.cell rfl, _, B.cell rfl, s.call1 (S_Remove P fun g1 q1 c1 P I1 H s => ⟨_, _, _, rfl, .inr (keeps1 A sx s.x), s.call2 (S_RRemove R fun g2 q2 c2 R I2 H s => ⟨_, _, _, rfl, ?_⟩)⟩)⟩
    refine S_SameI (I1.le s.a) (I2.le s.b) rfl rfl (by omega) ⟨_, rfl, Ret.mk ?_⟩
    rw [decide_eq_true rfl]
    exact k H X' g1 g2 s lx P R
  have n3 : x.k ≠ 3 := by simpa using g
  have eo : opM S x = S := by unfold opM; rw [if_neg n0, if_neg n1, if_neg n2, if_neg n3]
  rw [eo] at k
  obtain ⟨_, lp, c, mr, BP⟩ := P.le s.a
  refine ⟨_, B.cell rfl, S_Deal BP fun H1 l1 => ⟨_, _, _, _, _, _, _, _, rfl, ?_⟩⟩
  have s := s.le l1
  generalize hdm : dealM S x.id = dm at *
  refine s.cp (vs := dV dm.1) rfl fun r2 H2 X2 s A2 fr cs _ lx2 => ⟨cs, ?_⟩
  have A := fr _ _ A
  have B := A.le s.x
  have lx := Heap.le_trans lx lx2
  obtain ⟨okR, lq, cq, BR⟩ := R.le s.b
  obtain ⟨_, lp, c, mr, BP⟩ := P.le s.a
  have hn := okR.n
  refine ⟨_, B.cell rfl, S_RAt BR (by omega) ⟨_, rfl, ?_⟩⟩
  have B2 := A2.le s.x
  cases hp : posE x.id S.L with
  | none =>
    have e1 : getE S x.id = none := getE_none.2 hp
    have e2 : dealM S x.id = (dl0, false) := by unfold dealM; rw [e1]
    have e3 : stateM S x.id = 0 := by unfold stateM; rw [e1]
    rw [atI_none hp]
    obtain rfl : dm = (dl0, false) := hdm.symm.trans e2
    refine Br.yes (by decide) ⟨_, B2.cell rfl, _, B2.cell rfl, _, B2.cell rfl, _, B2.cell rfl, _, B2.cell rfl, _, B2.cell rfl, _, B2.cell rfl, Br.yes rfl (Br.yes rfl ⟨_, B.cell rfl, S_State BP ⟨_, rfl, Ret.mk ?_⟩⟩)⟩
    rw [e3]
    exact k _ X2 g1 g2 s lx P R
  | some i =>
    obtain ⟨y, hy, hid⟩ := posE_some hp
    have e1 : getE S x.id = some y := by unfold getE; rw [hp]; exact hy
    have e2 : dealM S x.id = (y.d, true) := by unfold dealM; rw [e1]
    have e3 : stateM S x.id = y.st := by unfold stateM; rw [e1]
    rw [atI_some hp]
    obtain rfl : dm = (y.d, true) := hdm.symm.trans e2
    refine Br.no (by simp) ⟨_, B2.cell rfl, _, B2.cell rfl, _, B2.cell rfl, _, B2.cell rfl, _, B2.cell rfl, _, B2.cell rfl, _, B2.cell rfl, withAddr_intro rfl ⟨_, _, _, BR.ap.cell rfl, ax rV_len BR.arr rfl rfl hy (by decide) fun b o hb hc => ?_⟩⟩
    refine ⟨_, hc 0 (by decide), _, hc 1 (by decide), _, hc 2 (by decide), _, hc 3 (by decide), _, hc 4 (by decide), _, hc 5 (by decide), _, hc 6 (by decide), Br.yes (show eqD y.d y.d = true from eqD_iff.2 rfl) (Br.yes rfl ⟨_, B.cell rfl, withAddr_intro rfl ⟨_, _, _, BR.ap.cell rfl, ax rV_len BR.arr rfl rfl hy (by decide) fun b o hb hc => ⟨_, hc 7 (by decide), S_State BP ⟨_, rfl, .inl (Heap.le_refl _), Ret.mk ?_⟩⟩⟩⟩)⟩
    rw [e3, beq_self_eq_true]
    exact k _ X2 g1 g2 s lx P R
end Go.Proofs.Ytjihfieahkbohaa
