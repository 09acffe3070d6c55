import Derived.Test.YtgjeecaombnmiaaGreatM16
import Derived.Test.YtgjeecaombnmiaaGreatM11
import Derived.Test.YtgjeecaombnmiaaGreatM05
/- Of each instruction both legs are booked, or none. -/
namespace Go.Proofs.YtgjeecaombnmiaaGreat
open Go Go.Sy Go.Value
set_option linter.unusedVariables false
set_option linter.unusedSimpArgs false

theorem qV7 {S : Bk} (ok : S.Ok) : (qn S 2).length ≤ 200 := by
  rw [qKi ok]
  exact Nat.le_trans (List.length_filter_le _ _) ok.n
section
variable {B H : Heap} {gs : Nat → Heap} {K : Value → Heap → Prop} {i j k0 gp lp q : Nat} {s : Ub}
theorem GB.text2 (sp : SepF B H gs) (W : GB B gs i j gp lp q s) (hij : i ≠ j) (k : ∀ H' gs', SepF B H' gs' → (∀ m, m ≠ i → gs' m = gs m) → GB B gs' i j gp lp q s → K (string (qGW (qF6 s.u.S))) H') :
    CallA Tryz.prog qAk [pointer (some ⟨lp, 0, none⟩)] H K :=
  GB.on (u' := s.u) (Q := fun v => v = string (qGW (qF6 s.u.S))) sp W hij (fun f eg ep G => by subst eg ep; exact qOT G.W.LA fun h' l => ⟨⟨f, rfl, rfl, G.le l⟩, rfl⟩) fun v H' gs' s' o' W' e => by subst e; exact k H' gs' s' o' W'
theorem GB.uok2 (W : GB B gs i j gp lp q s) : s.u.Ok := by
  obtain ⟨f, _, _, G⟩ := W.g
  exact G.toGR.ok
theorem GB.deal (sp : SepF B H gs) (W : GB B gs i j gp lp q s) (hij : i ≠ j) {id : Int} (k : ∀ H' gs', SepF B H' gs' → (∀ m, m ≠ j → gs' m = gs m) → GB B gs' i j gp lp q s → K (tuple #[dA (qo s.S id).1, .bool (qo s.S id).2]) H') :
    CallA Tryz.prog qDC [pointer (some ⟨q, 0, none⟩), .int .i64 id] H K :=
  GB.onb (S' := s.S) (Q := fun v => v = tuple #[dA (qo s.S id).1, .bool (qo s.S id).2]) sp W hij (fun P => by
    obtain ⟨ok, l, c, mr, Bk⟩ := P
    exact qTd Bk fun h' l' => ⟨⟨ok, l, c, mr, Bk.le l'⟩, rfl⟩) fun v H' gs' s' o' W' e => by subst e; exact k H' gs' s' o' W'
theorem qXt {h : Heap} (lB : h.le B) {ids : List Int} {p ml : Nat} {a ma : Option Addr} {ac mc : Nat} (hd : ∀ id ∈ ids, qAo s.S id = 3) (hl : ids.length ≤ 200) (hm : (qn s.S 2).length + ids.length = ml) (hm2 : ml ≤ 200) :
    ∀ (d n : Nat) (H : Heap) (gs : Nat → Heap) (S : Lg) (pB C : Nat) (spv : List Value), d + n = ids.length → SepF B H gs → GB B gs 1 2 gp lp q s → Ints .i64 (gs 4) a ids → LedAt (gs 6) p pB C spv S → qD8 (fun id => (qo s.S id).1) (ids.drop n) S = some s.u.S →
      qDd (some ⟨q, 0, none⟩) (some ⟨lp, 0, none⟩) (some ⟨p, 0, none⟩) ma ml mc a ids.length ac a ids.length ac ids.length n H fun v h' => v = .bool true ∧ h.le h' := by
  intro d
  induction d with
  | zero =>
    intro n H gs S pB C spv hdn sp W I A e
    refine qGr _ _ _ _ _ _ _ _ _ _ _ _ _ _ _ _ ?_
    unfold qEg
    rw [List.drop_eq_nil_of_le (by omega), qD8] at e
    cases e
    refine Br.no (by simp; omega) (sp.call 6 (qOT A fun g l H1 s1 => ⟨_, rfl, ?_⟩))
    have W1 : GB B (qU gs 6 g) 1 2 gp lp q s := W.mv (qF _ _ (by decide)) (qF _ _ (by decide))
    refine W1.text2 s1 (by decide) fun H2 gs2 s2 _ W2 => ⟨_, rfl, Br.yes (by simp) (W2.all s2 (n := 8) (by decide) (by decide) fun H3 gs3 al alc s3 _ W3 I3 => ⟨_, _, _, rfl, Ret.mk ⟨?_, Heap.le_trans lB s3.b⟩⟩)⟩
    rw [qO (by omega) (by omega)]
    have : ((qn s.S 2).length : Int) = (ml : Int) - (ids.length : Int) := by omega
    rw [this]
    simp
  | succ d ih =>
    intro n H gs S pB C spv hdn sp W I A e
    refine qGr _ _ _ _ _ _ _ _ _ _ _ _ _ _ _ _ ?_
    unfold qEg
    have hx : ids[n]? = some ids[n] := List.getElem?_eq_getElem (by omega)
    have hmem : ids[n] ∈ ids := List.getElem_mem _
    rw [List.drop_eq_getElem_cons (by omega), qD8] at e
    generalize ids[n] = id at *
    have ok := W.b.1
    have hst := hd id hmem
    have hkn : (qo s.S id).2 = true := by
      unfold qAo at hst
      unfold qo
      split at hst
      · rename_i x hx; rw [hx]
      · cases hst
    have hnum := qLa ok id
    have hI := qQm ok id
    split at e
    · rename_i hp
      refine Br.yes (by simp; omega) (ix (I.le (sp.l 4)) rfl rfl hx ?_)
      refine W.deal sp (by decide) fun H1 gs1 s1 o1 W1 => ⟨_, _, _, _, _, _, _, _, rfl, ?_⟩
      refine s1.cp 3 (vs := dV (qo s.S id).1) rfl fun r1 H2 g2 s2 A2 l2 cs2 hr2 => ⟨cs2, ?_⟩
      have W2 : GB B (qU gs1 3 g2) 1 2 gp lp q s := W1.mv (qF _ _ (by decide)) (qF _ _ (by decide))
      have A2' : At (qU gs1 3 g2 3) r1 (dV (qo s.S id).1) := by rw [qI]; exact A2
      have A6 : LedAt (qU gs1 3 g2 6) p pB C spv S := by rw [qF _ _ (by decide), o1 6 (by decide)]; exact A
      have I2 : Ints .i64 (qU gs1 3 g2 4) a ids := by rw [qF _ _ (by decide), o1 4 (by decide)]; exact I
      generalize qU gs1 3 g2 = gs2 at *
      refine Br.no (by rw [hkn]; rfl) (W2.state s2 (by decide) fun H3 gs3 s3 o3 W3 => ⟨_, rfl, Br.no (by rw [hst]; rfl) ?_⟩)
      have A3 : At (gs3 3) r1 (dV (qo s.S id).1) := by rw [o3 3 (by decide)]; exact A2'
      have A63 : LedAt (gs3 6) p pB C spv S := by rw [o3 6 (by decide)]; exact A6
      have I3 : Ints .i64 (gs3 4) a ids := by rw [o3 4 (by decide)]; exact I2
      refine qVU (A3.le (s3.l 3)) (s3.call 6 (qQ8 hnum.2.1 hnum.2.2 fun r4 g4 hr4 l4 Xp H4 s4 => ⟨_, _, _, rfl, ?_⟩))
      have A4 : LedAt g4 p pB C spv S := ⟨A63.ap.le l4, A63.ab.le l4, A63.ne, A63.sz⟩
      have np : r4 ≠ p := Ne.symm (A63.ap.ne hr4)
      have nB : r4 ≠ pB := Ne.symm (A63.ab.ne hr4)
      have e4 : qU gs3 6 g4 6 = g4 := qI _ _ _
      have Xb : Pos (g4.wo fun b => b == p || b == pB) (some ⟨r4, 0, none⟩) (qE9 (qo s.S id).1) := qN5 Xp fun b o eq => by
        cases eq
        simp [np, nB]
      refine s4.call 6 ?_
      rw [e4]
      refine qOt (h0 := g4.wo fun b => b == p || b == pB) (qKh _ _) (qEf (by simp)) (qEf (by simp)) A4 Xb rfl (by show 4 ≤ 1000; omega) hI fun g5 pB5 C5 sp5 l5 A5 _ H5 s5 => ⟨_, rfl, Br.no (by rw [hp]; rfl) ?_⟩
      rw [w1d (by omega)]
      rw [qC2] at s5
      exact ih (n + 1) H5 _ _ pB5 C5 sp5 (by omega) s5 (W3.mv (qF _ _ (by decide)) (qF _ _ (by decide))) (by rw [qF _ _ (by decide)]; exact I3) (by rw [qI]; exact A5) e
    · cases e
end
theorem qLW {h : Heap} {cs : Array Value} (HX : qNw.Has h cs.toList) : CallA Tryz.prog qHZ [agg cs] h fun v h' => v = .bool true ∧ h.le h' := by
  obtain ⟨x, ex, X⟩ := qWd HX
  obtain rfl : cs = (qLs x).toArray := by rw [← ex]
  refine qLl _ _ _ _ _ _ _ _ _ _ _ _ _ _ ?_
  unfold qHh
  refine qk fun r h1 hr l1 A => qPa fun B l2 => ⟨_, rfl, Br.no rfl ?_⟩
  have lB := Heap.le_trans l1 l2
  have X := X.le lB
  have A := A.le l2
  refine ⟨_, _, _, A.cell rfl, _, _, _, A.cell rfl, _, _, _, A.cell rfl, _, _, _, A.cell rfl, ?_⟩
  refine qQP (SepF.start B) X (i := 1) (j := 2) (k0 := 3) (by decide) (by decide) (by decide) (fun _ H gs s _ => ⟨_, _, rfl, Br.yes rfl (Ret.mk ⟨rfl, Heap.le_trans lB s.b⟩)⟩) fun may H0 gs0 gp lp q s0 _ W0 => ⟨_, _, rfl, Br.no rfl (Br.no rfl ?_)⟩
  have ok := W0.b.1
  have uo := W0.uok2
  have hle := qV7 ok
  refine W0.ledger s0 (by decide) fun H1 gs1 s1 _ W1 => ⟨_, rfl, Br.no rfl (W1.text2 s1 (by decide) fun H2 gs2 s2 _ W2 => ⟨_, rfl, ?_⟩)⟩
  refine s2.call 6 (qRv uo.o fun g3 p pB C spv l3 A3 _ _ H3 s3 => ⟨_, _, rfl, ?_⟩)
  have W3 : GB B (qU gs2 6 g3) 1 2 gp lp q (qE3 x) := W2.mv (qF _ _ (by decide)) (qF _ _ (by decide))
  have A3' : LedAt (qU gs2 6 g3 6) p pB C spv (qE3 x).u.S := by rw [qI]; exact A3
  generalize qU gs2 6 g3 = gs3 at *
  refine W3.all s3 (n := 8) (by decide) (by decide) fun H4 gs4 al ac s4 o4 W4 I4 => ⟨_, _, _, rfl, ?_⟩
  have A4 : LedAt (gs4 6) p pB C spv (qE3 x).u.S := by rw [o4 6 (by decide)]; exact A3'
  have ce := qR0 ((qn (qE3 x).S 2).length + 1) ok (by omega)
  have cd := qQ7 ((qn (qE3 x).S 2).length + 1) ok
  have cp := qQa (D := fun id => (qo (qA2 ((qn (qE3 x).S 2).length + 1) (qE3 x)).2.2.S id).1) ((qn (qE3 x).S 2).length + 1) ok fun id => by rw [(cd.1 id).1]
  refine qR5 (k0 := 3) (m := 4) (n := 5) ⟨by decide, by decide, by decide, by decide, by decide, by decide⟩ (by decide) (by decide) (by decide) (by decide) s4 W4 ((qn (qE3 x).S 2).length + 1) (by omega) (by omega) fun H5 gs5 a5 c5 s5 W5 O5 o5 => ⟨_, _, _, _, rfl, ?_⟩
  have A5 : LedAt (gs5 6) p pB C spv (qE3 x).u.S := by rw [o5 6 (by decide) (by decide) (by decide) (by decide) (by decide)]; exact A4
  obtain ⟨ok5, _, _, c1, c2, c3⟩ := ce
  have hd := cd.2
  clear cd
  generalize (qA2 ((qn (qE3 x).S 2).length + 1) (qE3 x)).1 = ids at *
  generalize (qA2 ((qn (qE3 x).S 2).length + 1) (qE3 x)).2.1 = np at *
  generalize (qA2 ((qn (qE3 x).S 2).length + 1) (qE3 x)).2.2 = s at *
  refine Br.no rfl (Br.no rfl (Br.no (decide_eq_false (by omega)) (Br.no ?_ (Br.no (decide_eq_false (by omega)) ?_))))
  · rw [qO (by omega) (by omega)]
    exact decide_eq_false (by omega)
  · exact qXt lB hd (by omega) c3 hle ids.length 0 H5 gs5 _ pB C spv rfl s5 W5 O5.rd A5 cp
end Go.Proofs.YtgjeecaombnmiaaGreat
