import Derived.Test.YtjihfieahkbohaaGreatM14
import Derived.Test.YtjihfieahkbohaaGreatM16
import Derived.Test.YtjihfieahkbohaaGreatM05
/- The law PlanNets. -/
namespace Go.Proofs.YtjihfieahkbohaaGreat
open Go Go.Sy Go.Value
set_option linter.unusedVariables false
set_option linter.unusedSimpArgs false

section
variable {h : Heap} {K : Value → Heap → Prop} {p q : Option Addr} {L Q : List NRow} {lc qc : Nat}
theorem qYE (N : Nets h p L) (M : Nets h q Q) (e : mxN L = mxN Q) (hs : L.length ≤ 16 ∧ ∀ x ∈ L, x.l.length ≤ 8) (k : K (.bool true) h) :
    ∀ (a j : Nat), a + j = L.length → qHj p L.length lc q Q.length qc L.length j h K := by
  have hl : L.length = Q.length := by
    have := congrArg List.length e
    unfold mxN at this
    rw [List.length_map, List.length_map] at this
    exact this
  intro a
  induction a with
  | zero =>
    intro j hj
    refine qLw _ _ _ _ _ _ _ _ _ _ ?_
    unfold qI5
    exact Br.no (by simp; omega) (Ret.mk k)
  | succ a ih =>
    intro j hj
    refine qLw _ _ _ _ _ _ _ _ _ _ ?_
    unfold qI5
    have hx : L[j]? = some L[j] := List.getElem?_eq_getElem (by omega)
    have hy : Q[j]? = some Q[j] := List.getElem?_eq_getElem (by omega)
    have hxm : L[j] ∈ L := List.getElem_mem _
    have hym : Q[j] ∈ Q := List.getElem_mem _
    have exy : L[j].l = Q[j].l := by
      have := congrArg (fun z => z[j]?) e
      unfold mxN at this
      simp only [List.getElem?_map, hx, hy] at this
      exact Option.some.inj this
    generalize L[j] = x at *
    generalize Q[j] = y at *
    have h8 := hs.2 x hxm
    rw [w1 (j := j) (by omega)]
    refine Br.yes (by simp; omega) (nx N rfl rfl hx (nx M rfl rfl hy ?_))
    refine qQD (N.2 x hxm) (M.2 y hym) rfl rfl (by omega) ⟨_, rfl, ?_⟩
    exact Br.no (by rw [decide_eq_true exy]; rfl) (ih (j + 1) (by omega))
theorem qYZ (N : Nets h p L) (M : Nets h q Q) (e : mxN L = mxN Q) (hs : L.length ≤ 16 ∧ ∀ x ∈ L, x.l.length ≤ 8) (k : K (.bool true) h) : CallA Tryz.prog qKV [slice p L.length lc, slice q Q.length qc] h K := by
  have hl : L.length = Q.length := by
    have := congrArg List.length e
    unfold mxN at this
    rw [List.length_map, List.length_map] at this
    exact this
  refine qRH _ _ _ _ _ _ _ _ ?_
  unfold qM9
  exact Br.no (by rw [hl]; simp) (qYE N M e hs k L.length 0 (by omega))
end
theorem qU8 (S : Bk) (ms cs : Int) : (qIm S ms cs).1.length ≤ 16 ∧ ∀ l ∈ (qIm S ms cs).1, l.length ≤ 8 := by
  unfold qIm
  split
  · exact ⟨by simp, fun l hl => by cases hl⟩
  rename_i g
  split
  · exact ⟨by simp, fun l hl => by cases hl⟩
  split
  · exact ⟨by simp, fun l hl => by cases hl⟩
  dsimp only
  refine ⟨by rw [List.length_map, List.length_range]; omega, fun l hl => ?_⟩
  obtain ⟨m, _, rfl⟩ := List.mem_map.1 hl
  unfold qKO
  rw [List.length_map, List.length_range]
  omega
theorem qOl {h : Heap} {up : Option Addr} {un uc : Nat} (H : (Sh.sl qPt).Has h [.slice up un uc]) {ms cs : Int} (h1 : I64 ms) (h2 : I64 cs) : CallA Tryz.prog qKm [.slice up un uc, .int .i64 ms, .int .i64 cs] h fun v h' => v = .bool true ∧ h.le h' := by
  obtain ⟨_, _, l, hl, A, hd⟩ := qXu (enc := dV) (P := qM2) H fun vs hv => qXG hv
  subst hl
  refine qO8 _ _ _ _ _ _ _ ?_
  unfold qKi
  refine qQZ fun h1 l1 => ⟨_, rfl, Br.no rfl (Br.dec (fun _ => Ret.mk ⟨rfl, l1⟩) fun g1 => ?_)⟩
  refine qXE (A.le l1) hd (by omega) fun p q H1 X g1 g2 s hX P R => ⟨_, _, rfl, Br.no rfl ?_⟩
  have l2 := Heap.le_trans l1 (Heap.le_trans hX s.x)
  refine qXA (P.le s.a) (ms := ms) (cs := cs) fun h3 np L lc l3 N e => ⟨_, _, _, _, rfl, ?_⟩
  refine qYg ((R.le s.b).le l3) (ms := ms) (cs := cs) fun h4 nq Q qc l4 M e2 => ⟨_, _, _, _, rfl, ?_⟩
  have sm := qU8 (qJn l) ms cs
  have hs : L.length ≤ 16 ∧ ∀ x ∈ L, x.l.length ≤ 8 := by
    rw [← e] at sm
    unfold mxN at sm
    rw [List.length_map] at sm
    exact ⟨sm.1, fun x hx => sm.2 x.l (List.mem_map.2 ⟨x, hx, rfl⟩)⟩
  refine qYZ (N.le l4) M (e.trans e2.symm) hs ⟨_, rfl, Br.yes rfl (Ret.mk ⟨by simp, ?_⟩)⟩
  exact Heap.le_trans l2 (Heap.le_trans l3 l4)
end Go.Proofs.YtjihfieahkbohaaGreat
