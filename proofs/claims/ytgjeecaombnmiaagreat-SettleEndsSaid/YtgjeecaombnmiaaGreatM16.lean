import Derived.Test.YtgjeecaombnmiaaGreatM15
import Derived.Test.YtgjeecaombnmiaaGreatM09
import Derived.Test.YtgjeecaombnmiaaGreatM04
/- Behind a cycle none can be settled. -/
namespace Go.Proofs.YtgjeecaombnmiaaGreat
open Go Go.Sy Go.Value
set_option linter.unusedVariables false
set_option linter.unusedSimpArgs false

theorem qRt {S : Bk} (ok : S.Ok) : (qr S 2).length ≤ 200 := by
  rw [qKu ok]
  exact Nat.le_trans (List.length_filter_le _ _) ok.n
section
variable {B H : Heap} {gs : Nat → Heap} {K : Value → Heap → Prop} {i j k0 gp lp q : Nat} {s : Ub}
theorem GB.text (sp : SepF B H gs) (W : GB B gs i j gp lp q s) (hij : i ≠ j) (k : ∀ H' gs', SepF B H' gs' → (∀ m, m ≠ i → gs' m = gs m) → GB B gs' i j gp lp q s → K (string (qFT (qE0 s.u.S))) H') :
    CallA Tryz.prog qAl [pointer (some ⟨lp, 0, none⟩)] H K :=
  GB.on (u' := s.u) (Q := fun v => v = string (qFT (qE0 s.u.S))) sp W hij (fun f eg ep G => by subst eg ep; exact qRg G.W.LA fun h' l => ⟨⟨f, rfl, rfl, G.le l⟩, rfl⟩) fun v H' gs' s' o' W' e => by subst e; exact k H' gs' s' o' W'
theorem GB.uok (W : GB B gs i j gp lp q s) : s.u.Ok := by
  obtain ⟨f, _, _, G⟩ := W.g
  exact G.toGR.ok
theorem qW0 {h : Heap} (lB : h.le B) (F : s.Fit) {L : List Int} (hL : L = qr s.S 2) (hn : ∀ id ∈ L, (qBC s id).1 ≠ 0) {a : Option Addr} {ac : Nat} (hl : L.length ≤ 200) :
    ∀ (d n : Nat) (H : Heap) (gs : Nat → Heap), d + n = L.length → SepF B H gs → GB B gs 1 2 gp lp q s → Ints .i64 (gs 8) a L →
      qBd (some ⟨gp, 0, none⟩) (some ⟨q, 0, none⟩) (some ⟨lp, 0, none⟩) (qFT (qE0 s.u.S)) a L.length ac L.length n H fun v h' => v = .bool true ∧ h.le h' := by
  intro d
  induction d with
  | zero =>
    intro n H gs hd sp W I
    refine qGs _ _ _ _ _ _ _ _ _ _ _ ?_
    unfold qEg
    refine Br.no (by simp; omega) (W.text sp (by decide) fun H' gs' s' _ _ => ⟨_, rfl, Ret.mk ⟨by simp, Heap.le_trans lB s'.b⟩⟩)
  | succ d ih =>
    intro n H gs hd sp W I
    refine qGs _ _ _ _ _ _ _ _ _ _ _ ?_
    unfold qEg
    have hx : L[n]? = some L[n] := List.getElem?_eq_getElem (by omega)
    have hm : L[n] ∈ L := List.getElem_mem _
    generalize L[n] = id at *
    have ok := W.b.1
    have ne := hn id hm
    have hk := qPW ok (hL ▸ hm)
    have wh := qTi ok F W.uok (hL ▸ hm)
    refine Br.yes (by simp; omega) (ix (I.le (sp.l 8)) rfl rfl hx ?_)
    refine qNr sp W (k0 := 3) (by decide) (by decide) (by decide) (id := id) fun H1 gs1 s1 o1 W1 => ⟨_, rfl, ?_⟩
    rw [qOU id ok ne] at W1
    have I1 : Ints .i64 (gs1 8) a L := by rw [o1.o 8 (by decide) (by decide) (by decide)]; exact I
    have rest : CallA Tryz.prog qBG [pointer (some ⟨q, 0, none⟩), .int .i64 id] H1 fun (v : Value) (h2 : Heap) => ∃ (m : Int), v = int IntKind.i64 m ∧ Br (m != 2) (Ret h2 (fun v h' => v = .bool true ∧ h.le h') (Value.bool false)) (qBd (some ⟨gp, 0, none⟩) (some ⟨q, 0, none⟩) (some ⟨lp, 0, none⟩) (qFT (qE0 s.u.S)) a L.length ac L.length (IntKind.wrap IntKind.i64 ((n : Int) + 1)) h2 fun v h' => v = .bool true ∧ h.le h') := by
      refine W1.state s1 (by decide) fun H2 gs2 s2 o2 W2 => ⟨_, rfl, Br.no (by rw [hk.2]; rfl) ?_⟩
      rw [w1d (by omega)]
      exact ih (n + 1) H2 gs2 (by omega) s2 W2 (by rw [o2 8 (by decide)]; exact I1)
    rcases wh with e | e | e
    · exact (ne e).elim
    · exact Br.no (by rw [e]; rfl) rest
    · exact Br.yes (by rw [e]; rfl) (Br.no (by rw [e]; rfl) rest)
end
theorem qLT {h : Heap} {cs : Array Value} (HX : qNl.Has h cs.toList) : CallA Tryz.prog qHd [agg cs] h fun v h' => v = .bool true ∧ h.le h' := by
  obtain ⟨x, ex, X⟩ := qV6 HX
  obtain rfl : cs = (qLX x).toArray := by rw [← ex]
  refine qME _ _ _ _ _ _ _ _ _ _ _ _ _ _ ?_
  unfold qHa
  refine qj fun r h1 hr l1 A => qPf fun B l2 => ⟨_, rfl, Br.no rfl ?_⟩
  have lB := Heap.le_trans l1 l2
  have X := X.le lB
  have A := A.le l2
  refine ⟨_, _, _, A.cell rfl, _, _, _, A.cell rfl, _, _, _, A.cell rfl, _, _, _, A.cell rfl, ?_⟩
  refine qP2 (SepF.start B) X (i := 1) (j := 2) (k0 := 3) (by decide) (by decide) (by decide) (fun _ H gs s _ => ⟨_, _, rfl, Br.yes rfl (Ret.mk ⟨rfl, Heap.le_trans lB s.b⟩)⟩) fun may H0 gs0 gp lp q s0 _ W0 => ⟨_, _, rfl, Br.no rfl (Br.no rfl ?_)⟩
  have ok := W0.b.1
  have hle := qRt ok
  have ce := qRo ((qr (qKf x).S 2).length + 1) ok (by omega)
  have F := (qUq x).cyc ((qr (qKf x).S 2).length + 1)
  refine qOV (k0 := 3) (m := 4) (n := 5) ⟨by decide, by decide, by decide, by decide, by decide, by decide⟩ (by decide) (by decide) (by decide) (by decide) s0 W0 ((qr (qKf x).S 2).length + 1) (by omega) (by omega) fun H1 gs1 a1 c1 s1 W1 O1 o1 => ⟨_, _, _, _, rfl, ?_⟩
  generalize (qBn ((qr (qKf x).S 2).length + 1) (qKf x)).2.2 = s at *
  obtain ⟨ok1, hno, hp, _⟩ := ce
  refine W1.ledger s1 (by decide) fun H2 gs2 s2 _ W2 => ⟨_, rfl, Br.no rfl (W2.text s2 (by decide) fun H3 gs3 s3 _ W3 => ⟨_, rfl, ?_⟩)⟩
  have hle1 := qRt ok1
  have e0 : qBn ((qr s.S 2).length + 1) s = ([], 1, s) := by rw [qBn, if_pos hp]
  refine qOV (k0 := 3) (m := 6) (n := 7) ⟨by decide, by decide, by decide, by decide, by decide, by decide⟩ (by decide) (by decide) (by decide) (by decide) s3 W3 ((qr s.S 2).length + 1) (by omega) (by omega) fun H4 gs4 a4 c4 s4 W4 O4 o4 => ⟨_, _, _, _, rfl, ?_⟩
  rw [e0] at W4
  rw [e0]
  refine Br.no rfl (Br.no rfl (W4.text s4 (by decide) fun H5 gs5 s5 _ W5 => ⟨_, rfl, Br.no (by simp) (W5.all s5 (n := 8) (by decide) (by decide) fun H6 gs6 al ac s6 _ W6 I6 => ⟨_, _, _, rfl, ?_⟩)⟩))
  exact qW0 lB F rfl hno hle1 _ 0 H6 gs6 rfl s6 W6 I6
end Go.Proofs.YtgjeecaombnmiaaGreat
