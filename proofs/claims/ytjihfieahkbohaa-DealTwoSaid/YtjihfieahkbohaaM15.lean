import Derived.Test.YtjihfieahkbohaaM14
import Derived.Test.YtjihfieahkbohaaM06
/- Whichever of both submits first, they match. -/
namespace Go.Proofs.Ytjihfieahkbohaa
open Go Go.Sy Go.Value
set_option linter.unusedVariables false
set_option linter.unusedSimpArgs false

abbrev i6Sh : Sh := .int .i64
def dlSh : Sh := .two i6Sh (.two i6Sh (.two i6Sh (.two i6Sh (.two i6Sh (.two i6Sh (.two i6Sh .nil))))))
theorem dl_of {h : Heap} {cs : List Value} (H : dlSh.Has h cs) : ∃ d : Dl, cs = dV d ∧ I64 d.id ∧ I64 d.a ∧ I64 d.b ∧ I64 d.sc ∧ I64 d.bc ∧ I64 d.sell ∧ I64 d.buy := by
  obtain ⟨_, _, rfl, _, ⟨c0, rfl, w0⟩, _, _, rfl, _, ⟨c1, rfl, w1⟩, _, _, rfl, _, ⟨c2, rfl, w2⟩, _, _, rfl, _, ⟨c3, rfl, w3⟩, _, _, rfl, _, ⟨c4, rfl, w4⟩, _, _, rfl, _, ⟨c5, rfl, w5⟩, _, _, rfl, _, ⟨c6, rfl, w6⟩, rfl⟩ := H
  exact ⟨⟨c0, c1, c2, c3, c4, c5, c6⟩, rfl, I64.of_wf w0, I64.of_wf w1, I64.of_wf w2, I64.of_wf w3, I64.of_wf w4, I64.of_wf w5, I64.of_wf w6⟩
section
variable {u : Dl}
theorem mayD_ab (h : mayD 16 8 u) : u.a ≠ u.b := by
  have := of_decide_eq_true h.2.2.1
  exact this.2.2.2.2
theorem pos1 {x : En} {id : Int} (h : x.d.id = id) : posE id [x] = some 0 := by rw [posE, if_pos h]
theorem two_sub1 (h : mayD 16 8 u) : submitM ⟨16, 8, [], 0⟩ u = (false, 0, ⟨16, 8, [⟨u, 1, 0, 0⟩], 0⟩) := by unfold submitM; rw [if_pos h]; rfl
theorem two_sub2 (h : mayD 16 8 u) : submitM ⟨16, 8, [⟨u, 1, 0, 0⟩], 0⟩ (mirD u) = (true, 0, ⟨16, 8, [⟨u, 2, 0, 1⟩], 1⟩) := by
  unfold submitM
  rw [if_pos (show mayD 16 8 (mirD u) from mayD_mir.2 h)]
  dsimp only
  rw [pos1 (show u.id = (mirD u).id from rfl)]
  dsimp only
  rw [show ([(⟨u, 1, 0, 0⟩ : En)] : List En)[0]? = some ⟨u, 1, 0, 0⟩ from rfl]
  dsimp only
  rw [if_neg (show ¬ ((1 : Int) ≠ 1 ∨ u.a = (mirD u).a) from fun x => x.elim (fun y => y rfl) (mayD_ab h)), if_neg (show ¬ eqD u (mirD (mirD u)) = false by rw [mirD_mirD, eqD_iff.2 rfl]; decide)]
  rfl
theorem two_sub3 (h : mayD 16 8 u) : submitM ⟨16, 8, [⟨u, 2, 0, 1⟩], 1⟩ (mirD u) = (false, 6, ⟨16, 8, [⟨u, 2, 0, 1⟩], 1⟩) := by
  unfold submitM
  rw [if_pos (show mayD 16 8 (mirD u) from mayD_mir.2 h)]
  dsimp only
  rw [pos1 (show u.id = (mirD u).id from rfl)]
  rfl
theorem two_who {m : Int} {st ask ord : Int} (h : m ≠ u.a) (h2 : m = u.b) (h3 : st ≠ 1) : whoE ⟨u, st, ask, ord⟩ m = 2 := by unfold whoE; rw [if_neg h, if_pos ⟨h2, h3⟩]
theorem two_res1 (h : mayD 16 8 u) : rescindM ⟨16, 8, [⟨u, 2, 0, 1⟩], 1⟩ u.b u.id = (2, 0, ⟨16, 8, [⟨u, 2, 2, 1⟩], 1⟩) := by
  unfold rescindM
  dsimp only
  rw [pos1 (show u.id = u.id from rfl)]
  dsimp only
  rw [show ([(⟨u, 2, 0, 1⟩ : En)] : List En)[0]? = some ⟨u, 2, 0, 1⟩ from rfl]
  dsimp only
  rw [two_who (fun e => mayD_ab h e.symm) rfl (by decide)]
  rfl
theorem two_res2 (h : mayD 16 8 u) : rescindM ⟨16, 8, [⟨u, 2, 2, 1⟩], 1⟩ u.b u.id = (0, 6, ⟨16, 8, [⟨u, 2, 2, 1⟩], 1⟩) := by
  unfold rescindM
  dsimp only
  rw [pos1 (show u.id = u.id from rfl)]
  dsimp only
  rw [show ([(⟨u, 2, 2, 1⟩ : En)] : List En)[0]? = some ⟨u, 2, 2, 1⟩ from rfl]
  dsimp only
  rw [two_who (fun e => mayD_ab h e.symm) rfl (by decide)]
  rfl
theorem two_res3 : rescindM ⟨16, 8, [⟨u, 2, 2, 1⟩], 1⟩ u.a u.id = (4, 0, ⟨16, 8, [⟨u, 4, 3, 1⟩], 1⟩) := by
  unfold rescindM
  dsimp only
  rw [pos1 (show u.id = u.id from rfl)]
  dsimp only
  rw [show ([(⟨u, 2, 2, 1⟩ : En)] : List En)[0]? = some ⟨u, 2, 2, 1⟩ from rfl]
  dsimp only
  rw [show whoE ⟨u, 2, 2, 1⟩ u.a = 1 by unfold whoE; rw [if_pos rfl]]
  rfl
theorem two_set : settleM ⟨16, 8, [⟨u, 4, 3, 1⟩], 1⟩ u.id = (7, ⟨16, 8, [⟨u, 4, 3, 1⟩], 1⟩) := by
  unfold settleM
  dsimp only
  rw [pos1 (show u.id = u.id from rfl)]
  rfl
theorem two_deal : dealM ⟨16, 8, [⟨u, 4, 3, 1⟩], 1⟩ u.id = (u, true) := by
  unfold dealM getE
  dsimp only
  rw [pos1 (show u.id = u.id from rfl)]
  rfl
end
theorem law11_DealTwo_ok {h : Heap} {cs : List Value} (H : dlSh.Has h cs) (second : Bool) : CallA Try.prog fn_law11_DealTwo [agg cs.toArray, .bool second] h fun v h' => v = .bool true ∧ h.le h' := by
  obtain ⟨d, rfl, _, _, _, _, _, i6, i7⟩ := dl_of H
  refine F_law11_DealTwo _ _ _ _ _ _ _ _ _ _ ?_
  unfold F_law11_DealTwoT
  refine (SepT.start h).box fun r H1 X1 s A0 _ hr0 lx => law11_awake_ok fun H2 l2 => ⟨_, rfl, Br.no rfl ?_⟩
  have s := s.le l2
  refine s.new1 (S_New (fun g => (g ⟨by decide, by decide⟩).elim) fun _ p g1 _ P H s => ⟨_, _, rfl, Br.no rfl ?_⟩)
  have B := A0.le s.x
  refine ⟨_, B.cell rfl, _, B.cell rfl, _, B.cell rfl, _, B.cell rfl, _, B.cell rfl, _, B.cell rfl, _, B.cell rfl, ?_⟩
  refine s.cp (vs := dV (mirD d)) rfl fun r2 H2 X2 s A2 fr cs hr2 lx2 => ⟨cs, ?_⟩
  have A : At X2 r (dV d) := fr _ _ A0
  have hne : r ≠ r2 := A0.ne hr2
  have hr2 : h r2 = none := none_of_le lx hr2
  have lx := Heap.le_trans lx lx2
  clear B lx2 fr A0
  refine Br.intro (fun _ => ?_) fun _ => ?_
  · have B := A.le s.x
    have B2 := A2.le s.x
    refine ⟨_, B2.cell rfl, _, B2.cell rfl, _, B2.cell rfl, _, B2.cell rfl, _, B2.cell rfl, _, B2.cell rfl, _, B2.cell rfl, ?_⟩
    refine ⟨_, B.cell rfl, _, B.cell rfl, _, B.cell rfl, _, B.cell rfl, _, B.cell rfl, _, B.cell rfl, _, B.cell rfl, B.canSt (Nat.le_refl _), ?_⟩
    have s1 := s.set (o := 0) (ws := dV (mirD d)) A
    have A2' := A2.set_ne (o := 0) (ws := dV (mirD d)) (Ne.symm hne)
    refine ⟨(A2'.le s1.x).canSt (Nat.le_refl _), ?_⟩
    have s2 := s1.set (o := 0) (ws := dV d) A2'
    have A' : At ((X2.setN r 0 (dV (mirD d))).setN r2 0 (dV d)) r (dV (mirD d)) := (A.set (o := 0) (ws := dV (mirD d))).set_ne (o := 0) (ws := dV d) hne
    have A2'' : At ((X2.setN r 0 (dV (mirD d))).setN r2 0 (dV d)) r2 (dV (mirD (mirD d))) := A2'.set (o := 0) (ws := dV d)
    have lx' : h.le ((X2.setN r 0 (dV (mirD d))).setN r2 0 (dV d)) := le_setN (le_setN lx hr0) hr2
    have hi : I64d (mirD d) := ⟨i7.2, i6.2⟩
    have hi2 : I64d (mirD (mirD d)) := ⟨i6.2, i7.2⟩
    have s := s2
    have A := A'
    have A2 := A2''
    have lx := lx'
    clear s2 A' A2'' lx' s1 A2' B B2 cs
    generalize (X2.setN r 0 (dV (mirD d))).setN r2 0 (dV d) = X3 at *
    have B := A.le s.x
    refine ⟨_, B.cell rfl, _, B.cell rfl, _, B.cell rfl, _, B.cell rfl, _, B.cell rfl, _, B.cell rfl, _, B.cell rfl, ?_⟩
    refine s.call1 (S_Submit P (d := (mirD d)) hi fun g1 P H s => ⟨_, _, rfl, ?_⟩)
    have BB := A2.le s.x
    by_cases gm : mayD 16 8 (mirD d)
    rotate_left
    · have e1 : submitM ⟨16, 8, [], 0⟩ (mirD d) = (false, 1, ⟨16, 8, [], 0⟩) := by unfold submitM; rw [if_neg gm]
      have e2 : submitM ⟨16, 8, [], 0⟩ (mirD (mirD d)) = (false, 1, ⟨16, 8, [], 0⟩) := by unfold submitM; rw [if_neg (show ¬ mayD 16 8 (mirD (mirD d)) from fun x => gm (mayD_mir.1 x))]
      rw [e1] at P ⊢
      dsimp only at P ⊢
      refine Br.yes (by decide) ⟨_, BB.cell rfl, _, BB.cell rfl, _, BB.cell rfl, _, BB.cell rfl, _, BB.cell rfl, _, BB.cell rfl, _, BB.cell rfl, ?_⟩
      refine s.call1 (S_Submit P (d := mirD (mirD d)) hi2 fun g1 P H s => ⟨_, _, rfl, ?_⟩)
      rw [e2] at P ⊢
      dsimp only at P ⊢
      obtain ⟨_, lp, c, mr, B1⟩ := P.le s.a
      exact Br.yes (by decide) (Br.yes (by decide) ⟨_, (A.le s.x).cell rfl, S_State B1 ⟨_, rfl, Ret.mk ⟨rfl, Heap.le_trans lx s.x⟩⟩⟩)
    rw [two_sub1 gm] at P ⊢
    dsimp only at P ⊢
    refine Br.no (by decide) ⟨_, BB.cell rfl, _, BB.cell rfl, _, BB.cell rfl, _, BB.cell rfl, _, BB.cell rfl, _, BB.cell rfl, _, BB.cell rfl, ?_⟩
    refine s.call1 (S_Submit P (d := mirD (mirD d)) hi2 fun g1 P H s => ⟨_, _, rfl, ?_⟩)
    rw [two_sub2 gm] at P ⊢
    dsimp only at P ⊢
    have BB := A2.le s.x
    refine ⟨_, BB.cell rfl, _, BB.cell rfl, _, BB.cell rfl, _, BB.cell rfl, _, BB.cell rfl, _, BB.cell rfl, _, BB.cell rfl, ?_⟩
    refine s.call1 (S_Submit P (d := mirD (mirD d)) hi2 fun g1 P H s => ⟨_, _, rfl, ?_⟩)
    rw [two_sub3 gm] at P ⊢
    dsimp only at P ⊢
    refine ⟨_, (A.le s.x).cell rfl, _, (A.le s.x).cell rfl, s.call1 (S_Rescind P fun g1 P H s => ⟨_, _, rfl, ?_⟩)⟩
    rw [two_res1 gm] at P ⊢
    dsimp only at P ⊢
    refine ⟨_, (A.le s.x).cell rfl, _, (A.le s.x).cell rfl, s.call1 (S_Rescind P fun g1 P H s => ⟨_, _, rfl, ?_⟩)⟩
    rw [two_res2 gm] at P ⊢
    dsimp only at P ⊢
    refine ⟨_, (A.le s.x).cell rfl, _, (A.le s.x).cell rfl, s.call1 (S_Rescind P fun g1 P H s => ⟨_, _, rfl, ?_⟩)⟩
    rw [two_res3] at P ⊢
    dsimp only at P ⊢
    refine ⟨_, (A.le s.x).cell rfl, s.call1 (S_Settle P fun g1 P H s => ⟨_, rfl, ?_⟩)⟩
    rw [two_set] at P ⊢
    dsimp only at P ⊢
    obtain ⟨_, lp, c, mr, B1⟩ := P.le s.a
    refine ⟨_, (A.le s.x).cell rfl, S_Deal B1 fun H' l' => ?_⟩
    rw [two_deal]
    refine ⟨_, _, _, _, _, _, _, _, rfl, ?_⟩
    refine (s.le l').cp (vs := dV (mirD d)) rfl fun r3 H3 X4 s A3 fr3 cs3 _ lx3 => ⟨cs3, ?_⟩
    refine Br.yes rfl (Br.yes rfl (Br.yes rfl (Br.yes rfl (Br.yes rfl (Br.yes rfl (Br.yes rfl (Br.yes rfl (Br.yes rfl (Br.yes rfl (Br.yes rfl ?_))))))))))
    have B3 := A3.le s.x
    have B := (fr3 _ _ A).le s.x
    refine ⟨_, B3.cell rfl, _, B3.cell rfl, _, B3.cell rfl, _, B3.cell rfl, _, B3.cell rfl, _, B3.cell rfl, _, B3.cell rfl, ?_⟩
    refine ⟨_, B.cell rfl, _, B.cell rfl, _, B.cell rfl, _, B.cell rfl, _, B.cell rfl, _, B.cell rfl, _, B.cell rfl, Ret.mk ⟨?_, Heap.le_trans lx (Heap.le_trans lx3 s.x)⟩⟩
    exact congrArg Value.bool (show eqD (mirD d) (mirD d) = true from eqD_iff.2 rfl)
  · have hi : I64d d := ⟨i6.2, i7.2⟩
    have hi2 : I64d (mirD d) := ⟨i7.2, i6.2⟩
    have B := A.le s.x
    refine ⟨_, B.cell rfl, _, B.cell rfl, _, B.cell rfl, _, B.cell rfl, _, B.cell rfl, _, B.cell rfl, _, B.cell rfl, ?_⟩
    refine s.call1 (S_Submit P (d := d) hi fun g1 P H s => ⟨_, _, rfl, ?_⟩)
    have BB := A2.le s.x
    by_cases gm : mayD 16 8 d
    rotate_left
    · have e1 : submitM ⟨16, 8, [], 0⟩ d = (false, 1, ⟨16, 8, [], 0⟩) := by unfold submitM; rw [if_neg gm]
      have e2 : submitM ⟨16, 8, [], 0⟩ (mirD d) = (false, 1, ⟨16, 8, [], 0⟩) := by unfold submitM; rw [if_neg (show ¬ mayD 16 8 (mirD d) from fun x => gm (mayD_mir.1 x))]
      rw [e1] at P ⊢
      dsimp only at P ⊢
      refine Br.yes (by decide) ⟨_, BB.cell rfl, _, BB.cell rfl, _, BB.cell rfl, _, BB.cell rfl, _, BB.cell rfl, _, BB.cell rfl, _, BB.cell rfl, ?_⟩
      refine s.call1 (S_Submit P (d := mirD d) hi2 fun g1 P H s => ⟨_, _, rfl, ?_⟩)
      rw [e2] at P ⊢
      dsimp only at P ⊢
      obtain ⟨_, lp, c, mr, B1⟩ := P.le s.a
      exact Br.yes (by decide) (Br.yes (by decide) ⟨_, (A.le s.x).cell rfl, S_State B1 ⟨_, rfl, Ret.mk ⟨rfl, Heap.le_trans lx s.x⟩⟩⟩)
    rw [two_sub1 gm] at P ⊢
    dsimp only at P ⊢
    refine Br.no (by decide) ⟨_, BB.cell rfl, _, BB.cell rfl, _, BB.cell rfl, _, BB.cell rfl, _, BB.cell rfl, _, BB.cell rfl, _, BB.cell rfl, ?_⟩
    refine s.call1 (S_Submit P (d := mirD d) hi2 fun g1 P H s => ⟨_, _, rfl, ?_⟩)
    rw [two_sub2 gm] at P ⊢
    dsimp only at P ⊢
    have BB := A2.le s.x
    refine ⟨_, BB.cell rfl, _, BB.cell rfl, _, BB.cell rfl, _, BB.cell rfl, _, BB.cell rfl, _, BB.cell rfl, _, BB.cell rfl, ?_⟩
    refine s.call1 (S_Submit P (d := mirD d) hi2 fun g1 P H s => ⟨_, _, rfl, ?_⟩)
    rw [two_sub3 gm] at P ⊢
    dsimp only at P ⊢
    refine ⟨_, (A.le s.x).cell rfl, _, (A.le s.x).cell rfl, s.call1 (S_Rescind P fun g1 P H s => ⟨_, _, rfl, ?_⟩)⟩
    rw [two_res1 gm] at P ⊢
    dsimp only at P ⊢
    refine ⟨_, (A.le s.x).cell rfl, _, (A.le s.x).cell rfl, s.call1 (S_Rescind P fun g1 P H s => ⟨_, _, rfl, ?_⟩)⟩
    rw [two_res2 gm] at P ⊢
    dsimp only at P ⊢
    refine ⟨_, (A.le s.x).cell rfl, _, (A.le s.x).cell rfl, s.call1 (S_Rescind P fun g1 P H s => ⟨_, _, rfl, ?_⟩)⟩
    rw [two_res3] at P ⊢
    dsimp only at P ⊢
    refine ⟨_, (A.le s.x).cell rfl, s.call1 (S_Settle P fun g1 P H s => ⟨_, rfl, ?_⟩)⟩
    rw [two_set] at P ⊢
    dsimp only at P ⊢
    obtain ⟨_, lp, c, mr, B1⟩ := P.le s.a
    refine ⟨_, (A.le s.x).cell rfl, S_Deal B1 fun H' l' => ?_⟩
    rw [two_deal]
    refine ⟨_, _, _, _, _, _, _, _, rfl, ?_⟩
    refine (s.le l').cp (vs := dV d) rfl fun r3 H3 X4 s A3 fr3 cs3 _ lx3 => ⟨cs3, ?_⟩
    refine Br.yes rfl (Br.yes rfl (Br.yes rfl (Br.yes rfl (Br.yes rfl (Br.yes rfl (Br.yes rfl (Br.yes rfl (Br.yes rfl (Br.yes rfl (Br.yes rfl ?_))))))))))
    have B3 := A3.le s.x
    have B := (fr3 _ _ A).le s.x
    refine ⟨_, B3.cell rfl, _, B3.cell rfl, _, B3.cell rfl, _, B3.cell rfl, _, B3.cell rfl, _, B3.cell rfl, _, B3.cell rfl, ?_⟩
    refine ⟨_, B.cell rfl, _, B.cell rfl, _, B.cell rfl, _, B.cell rfl, _, B.cell rfl, _, B.cell rfl, _, B.cell rfl, Ret.mk ⟨?_, Heap.le_trans lx (Heap.le_trans lx3 s.x)⟩⟩
    exact congrArg Value.bool (show eqD d d = true from eqD_iff.2 rfl)
end Go.Proofs.Ytjihfieahkbohaa
