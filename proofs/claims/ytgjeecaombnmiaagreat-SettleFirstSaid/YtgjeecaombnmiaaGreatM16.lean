import Derived.Test.YtgjeecaombnmiaaGreatM15
import Derived.Test.YtgjeecaombnmiaaGreatM04
/- Who came first is tried first. -/
namespace Go.Proofs.YtgjeecaombnmiaaGreat
open Go Go.Sy Go.Value
set_option linter.unusedVariables false
set_option linter.unusedSimpArgs false

theorem qTO {S : Bk} (ok : S.Ok) : (S.L.map fun x => x.d.id).Nodup := by
  unfold List.Nodup
  rw [List.pairwise_iff_getElem]
  intro i j hi hj hij e
  rw [List.length_map] at hi hj
  rw [List.getElem_map, List.getElem_map] at e
  have h1 := ok.nd i _ (List.getElem?_eq_getElem hi)
  have h2 := ok.nd j _ (List.getElem?_eq_getElem hj)
  rw [e, h2] at h1
  cases h1
  omega
theorem qTk {S : Bk} (ok : S.Ok) (s : Int) : (qAA S s).Nodup := by
  refine (qQK ok s).nodup_iff.2 ?_
  unfold ofS
  exact List.Nodup.sublist (List.filter_sublist.map _) (qTO ok)
theorem qXn {S : Bk} (ok : S.Ok) : (qAA S 2).length ≤ 200 := by
  rw [qKc ok]
  exact Nat.le_trans (List.length_filter_le _ _) ok.n
theorem qKh {h : Heap} {cs : Array Value} (HX : qNh.Has h cs.toList) : CallA Tryz.prog qG3 [agg cs] h fun v h' => v = .bool true ∧ h.le h' := by
  obtain ⟨x, ex, X⟩ := qV9 HX
  obtain rfl : cs = (qL5 x).toArray := by rw [← ex]
  refine qLI _ _ _ _ _ _ _ _ _ _ _ _ _ _ ?_
  unfold qHN
  refine qj fun r h1 hr l1 A => qPY fun B l2 => ⟨_, rfl, Br.no rfl ?_⟩
  have lB := Heap.le_trans l1 l2
  have X := X.le lB
  have A := A.le l2
  have D12 : Dst 1 2 3 4 := ⟨by decide, by decide, by decide, by decide, by decide, by decide⟩
  refine ⟨_, _, _, A.cell rfl, _, _, _, A.cell rfl, _, _, _, A.cell rfl, _, _, _, A.cell rfl, ?_⟩
  refine qNF (SepF.start B) X (i := 1) (j := 2) (k0 := 3) (by decide) (by decide) (by decide) (fun _ H gs s _ => ⟨_, _, rfl, Br.yes rfl (Ret.mk ⟨rfl, Heap.le_trans lB s.b⟩)⟩) fun may H0 gs0 gp lp q s0 _ W0 => ⟨_, _, rfl, Br.no rfl (Br.no rfl ?_)⟩
  have ok := W0.b.1
  refine W0.all s0 (n := 8) (by decide) (by decide) fun H1 gs1 al ac s1 _ W1 I1 => ⟨_, _, _, rfl, ?_⟩
  cases hL : qAA (qHm x).S 2 with
  | nil => exact Br.yes rfl (Ret.mk ⟨rfl, Heap.le_trans lB s1.b⟩)
  | cons a l =>
  rw [hL] at I1
  have hnd := qTk ok 2
  rw [hL, List.nodup_cons] at hnd
  have A1 := A.le s1.b
  refine Br.no (by simp; omega) ⟨_, _, _, A1.cell rfl, _, _, _, A1.cell rfl, _, _, _, A1.cell rfl, _, _, _, A1.cell rfl, ?_⟩
  refine qNF s1 X (i := 6) (j := 7) (k0 := 3) (by decide) (by decide) (by decide) (fun g => (g may).elim) fun _ H2 gs2 gp2 lp2 q2 s2 o2 W2 => ⟨_, _, rfl, Br.no rfl (Br.no rfl ?_)⟩
  have I2 : Ints .i64 (gs2 8) al (a :: l) := by rw [o2.o 8 (by decide) (by decide) (by decide)]; exact I1
  refine ix0 (I2.le (s2.l 8)) rfl (x := a) rfl ?_
  refine qNS s2 W2 (k0 := 3) (by decide) (by decide) (by decide) (id := a) fun H3 gs3 s3 o3 W3 => ⟨_, rfl, ?_⟩
  have W1' : GB B gs3 1 2 gp lp q (qHm x) := W1.mv (by rw [o3.o 1 (by decide) (by decide) (by decide), o2.o 1 (by decide) (by decide) (by decide)]) (by rw [o3.o 2 (by decide) (by decide) (by decide), o2.o 2 (by decide) (by decide) (by decide)])
  have I3 : Ints .i64 (gs3 8) al (a :: l) := by rw [o3.o 8 (by decide) (by decide) (by decide)]; exact I2
  have hle := qXn ok
  refine qRR D12 (n := 5) (by decide) (by decide) (by decide) (by decide) s3 W1' ((qAA (qHm x).S 2).length + 1) (by omega) (by omega) fun H4 gs4 a4 c4 s4 W4 O4 o4 => ⟨_, _, _, _, rfl, ?_⟩
  have I4 : Ints .i64 (gs4 8) al (a :: l) := by rw [o4 8 (by decide) (by decide) (by decide) (by decide) (by decide)]; exact I3
  have key := qTE hL hnd.1 (qAA (qHm x).S 2).length
  generalize (qEY ((qAA (qHm x).S 2).length + 1) (qHm x)).1 = ids at *
  have fin : ∀ b : Bool, b = true → Ret H4 (fun v h' => v = .bool true ∧ h.le h') (.bool b) := fun b e => Ret.mk ⟨by rw [e], Heap.le_trans lB s4.b⟩
  cases ids with
  | nil =>
    refine Br.no (by simp) (fin _ ?_)
    have : ¬ (qBK (qHm x) a).1 = 0 := fun g => by
      obtain ⟨r, e⟩ := key.1 g
      cases e
    simpa using this
  | cons v t =>
    refine Br.yes (by simp) (ix0 (x := v) (Ints.le (show Ints .i64 (gs4 4) a4 (v :: t) from O4.rd) (s4.l 4)) rfl rfl (ix0 (x := a) (I4.le (s4.l 8)) rfl rfl (fin _ ?_)))
    have : (qBK (qHm x) a).1 = 0 ↔ v = a := by
      rw [key]
      exact ⟨fun ⟨r, e⟩ => (List.cons.inj e).1, fun e => ⟨t, by rw [e]⟩⟩
    by_cases g : v = a
    · simp [g, this.2 g]
    · have g2 : ¬ (qBK (qHm x) a).1 = 0 := fun e => g (this.1 e)
      have e1 : ((qBK (qHm x) a).1 == 0) = false := decide_eq_false g2
      have e2 : (v == a) = false := decide_eq_false g
      rw [e1, e2]; rfl
end Go.Proofs.YtgjeecaombnmiaaGreat
