import Derived.Test.YtgjeecaombnmiaaGreatM16
import Derived.Test.YtgjeecaombnmiaaGreatM17
import Derived.Test.YtgjeecaombnmiaaGreatM05
/- Where all that members must pay is there ahead, one pass settles all. -/
namespace Go.Proofs.YtgjeecaombnmiaaGreat
open Go Go.Sy Go.Value
set_option linter.unusedVariables false
set_option linter.unusedSimpArgs false

theorem qW1 {S : Bk} (ok : S.Ok) : (qf S 2).length ≤ 200 := by
  rw [qLC ok]
  exact Nat.le_trans (List.length_filter_le _ _) ok.n
theorem qSU {S : Bk} (ok : S.Ok) : (S.L.map fun x => x.d.id).Nodup := by
  unfold List.Nodup
  rw [List.pairwise_iff_getElem]
  intro i j hi hj hij e
  rw [List.length_map] at hi hj
  rw [List.getElem_map, List.getElem_map] at e
  have h1 := ok.nd i _ (List.getElem?_eq_getElem hi)
  have h2 := ok.nd j _ (List.getElem?_eq_getElem hj)
  rw [e, h2] at h1
  cases h1
  omega
theorem qSy {S : Bk} (ok : S.Ok) (s : Int) : (qf S s).Nodup := by
  refine (qNP ok s).nodup_iff.2 ?_
  unfold ofS
  exact List.Nodup.sublist (List.filter_sublist.map _) (qSU ok)
theorem qUS {h : Heap} {x : Bnk} (H : qMG.Has h (qHt x)) : x.D.length ≤ 9223372036854775807 := by
  obtain ⟨_, _, e, _, ht, _, _, rfl, _, hl, _, _, rfl, _, hd, _, _, rfl, _, hi, hnil⟩ := H
  cases hnil
  obtain ⟨tp, tn, tc, rfl, _⟩ := ht
  obtain ⟨lp, ln, lc, rfl, _⟩ := hl
  obtain ⟨dp, dn, dc, rfl, h1, h2, _⟩ := hd
  obtain ⟨ip, n, ic, rfl, _⟩ := hi
  unfold qHt at e
  simp only [List.cons_append, List.nil_append, List.cons.injEq, Value.slice.injEq] at e
  omega
def qIV (x : Bnk) : Bnk := { x with ip := none, ic := 0, I := [] }
section
variable {B H : Heap} {gs : Nat → Heap} {K : Value → Heap → Prop} {i j k0 gp lp q : Nat} {s : Ub}
theorem GB.uok3 (W : GB B gs i j gp lp q s) : s.u.Ok := by
  obtain ⟨f, _, _, G⟩ := W.g
  exact G.toGR.ok
theorem GB.deal2 (sp : SepF B H gs) (W : GB B gs i j gp lp q s) (hij : i ≠ j) {id : Int} (k : ∀ H' gs', SepF B H' gs' → (∀ m, m ≠ j → gs' m = gs m) → GB B gs' i j gp lp q s → K (tuple #[dA (qo s.S id).1, .bool (qo s.S id).2]) H') :
    CallA Tryz.prog qDG [pointer (some ⟨q, 0, none⟩), .int .i64 id] H K :=
  GB.onb (S' := s.S) (Q := fun v => v = tuple #[dA (qo s.S id).1, .bool (qo s.S id).2]) sp W hij (fun P => by
    obtain ⟨ok, l, c, mr, Bk⟩ := P
    exact qUB Bk fun h' l' => ⟨⟨ok, l, c, mr, Bk.le l'⟩, rfl⟩) fun v H' gs' s' o' W' e => by subst e; exact k H' gs' s' o' W'
theorem GB.in_ (sp : SepF B H gs) (W : GB B gs i j gp lp q s) (hij : i ≠ j) {m c a : Int} (ha : I64 a) (k : ∀ H' gs', SepF B H' gs' → (∀ m, m ≠ i → gs' m = gs m) → GB B gs' i j gp lp q ⟨(rIn s.u m c a).2, s.S⟩ → K (.int .i64 (rIn s.u m c a).1) H') :
    CallA Tryz.prog qBm [pointer (some ⟨gp, 0, none⟩), .int .i64 m, .int .i64 c, .int .i64 a] H K :=
  GB.on (u' := (rIn s.u m c a).2) (Q := fun v => v = .int .i64 (rIn s.u m c a).1) sp W hij (fun f eg ep G => by subst eg ep; exact qWN G ha fun h' x' G' eg ep => ⟨⟨x', eg, ep, G'⟩, rfl⟩) fun v H' gs' s' o' W' e => by subst e; exact k H' gs' s' o' W'
theorem qXv {h : Heap} (lB : h.le B) {S : Bk} {D : Int → Dl} {L : List Int} {n w : Nat} (hL : L = qf S 2) (hD : ∀ id, D id = (qo S id).1) (hB : ∀ id ∈ L, DealB (D id) n w) (hl : L.length ≤ 200) {a : Option Addr} {ac : Nat} :
    ∀ (d k : Nat) (H : Heap) (gs : Nat → Heap) (u : Gu), d + k = L.length → SepF B H gs → GB B gs 1 2 gp lp q ⟨u, S⟩ → (Ub.Fit ⟨u, S⟩) → u.Fine → u.fl.length = n → u.T.length = w → (∀ m c, rdM u.S.M m c = need D (L.take k) m c) → Ints .i64 (gs 8) a L →
      qD8 (some ⟨gp, 0, none⟩) (some ⟨q, 0, none⟩) a L.length ac a L.length ac L.length k H fun v h' => v = .bool true ∧ h.le h' := by
  have U : UU = 1000000000000 := rfl
  intro d
  induction d with
  | zero =>
    intro k H gs u hd sp W F Fu en ew hbal I
    refine qG7 _ _ _ _ _ _ _ _ _ _ _ _ ?_
    unfold qFF
    rw [List.take_of_length_le (by omega)] at hbal
    have ok : S.Ok := W.b.1
    have hnd := qSy ok 2
    rw [← hL] at hnd
    have hb := qM1 L hB
    have hp := qQN (D := D) L (s := ⟨u, S⟩) ok F Fu en ew hnd hD (fun id hid => ⟨(qPO ok (hL ▸ hid)).1, (qPO ok (hL ▸ hid)).2, hB id hid⟩) (fun m c => by show _ ≤ rdM u.S.M m c; rw [hbal]; exact Int.le_refl _) (fun m c => by
      show rdM u.S.M m c + _ ≤ _
      rw [hbal]
      have := (hb m c).2
      omega)
    have hc := qXL (s := ⟨u, S⟩) ok (by show (qi (qf S 2) ⟨u, S⟩).1 = qf S 2; rw [← hL]; exact hp)
    refine Br.no (by simp; omega) (qR1 (k0 := 3) (m := 4) (n := 5) ⟨by decide, by decide, by decide, by decide, by decide, by decide⟩ (by decide) (by decide) (by decide) (by decide) sp W ((qf S 2).length + 1) (by show (qf S 2).length < _; omega) (by rw [← hL]; omega) fun H1 gs1 a1 c1 s1 W1 O1 o1 => ⟨_, _, _, _, rfl, ?_⟩)
    have I1 : Ints .i64 (gs1 8) a L := by rw [o1 8 (by decide) (by decide) (by decide) (by decide) (by decide)]; exact I
    have J1 : Ints .i64 H1 a1 (qDS ((qf S 2).length + 1) ⟨u, S⟩).1 := qAV (s1.l 4) O1.rd
    have e1 : (qDS ((qf S 2).length + 1) ⟨u, S⟩).1 = L := by rw [hL]; exact hc.1
    have e2 : (qDS ((qf S 2).length + 1) ⟨u, S⟩).2.1 = (if 1 < L.length then 1 else L.length) + 1 := by rw [hL]; exact hc.2
    refine qSC J1 (I1.le (s1.l 8)) rfl rfl (by rw [e1]; omega) ⟨_, rfl, Br.yes (decide_eq_true e1) (Ret.mk ⟨?_, Heap.le_trans lB s1.b⟩)⟩
    rw [e2]
    have e3 : (if 1 < (L.length : Int) then (1 : Int) else (L.length : Int)) = (((if 1 < L.length then 1 else L.length) : Nat) : Int) := by
      split <;> split <;> omega
    rw [e3, qO (by omega) (by split <;> omega)]
    simp
  | succ d ih =>
    intro k H gs u hd sp W F Fu en ew hbal I
    refine qG7 _ _ _ _ _ _ _ _ _ _ _ _ ?_
    unfold qFF
    have hx : L[k]? = some L[k] := List.getElem?_eq_getElem (by omega)
    have hm : L[k] ∈ L := List.getElem_mem _
    have tkk : L.take (k + 1) = L.take k ++ [L[k]] := by rw [List.take_add_one, hx]; rfl
    generalize L[k] = id at *
    have ok : S.Ok := W.b.1
    have hBd := hB id hm
    have hnum := qJ7 ok id
    have hI1 : I64 (qo S id).1.sell := by unfold I64; omega
    have hI2 : I64 (qo S id).1.buy := by unfold I64; omega
    have hbk := qM1 (D := D) (L.take k) (fun v hv => hB v (List.mem_of_mem_take hv))
    have hlk : (L.take k).length ≤ 200 := by rw [List.length_take]; omega
    have py := Fu.pay (d := D id) (by rw [en, ew]; exact hBd) (fun m c => by
      rw [hbal]
      have := (hbk m c).2
      omega)
    rw [hD id] at py
    obtain ⟨p1, p2, p3, p4, p5, p6⟩ := py
    refine Br.yes (by simp; omega) (ix (I.le (sp.l 8)) rfl rfl hx ?_)
    refine W.deal2 sp (by decide) fun H1 gs1 s1 o1 W1 => ⟨_, _, _, _, _, _, _, _, rfl, ?_⟩
    refine s1.cp 3 (vs := dV (qo S id).1) rfl fun r1 H2 g2 s2 A2 l2 cs2 hr2 => ⟨cs2, ?_⟩
    have W2 : GB B (qX gs1 3 g2) 1 2 gp lp q ⟨u, S⟩ := W1.mv (qG _ _ (by decide)) (qG _ _ (by decide))
    have A2' : At (qX gs1 3 g2 3) r1 (dV (qo S id).1) := by rw [qI]; exact A2
    have I2 : Ints .i64 (qX gs1 3 g2 8) a L := by rw [qG _ _ (by decide), o1 8 (by decide)]; exact I
    generalize qX gs1 3 g2 = gs2 at *
    have B2 := A2'.le (s2.l 3)
    refine ⟨_, B2.cell rfl, _, B2.cell rfl, _, B2.cell rfl, W2.in_ s2 (by decide) hI1 fun H3 gs3 s3 o3 W3 => ⟨_, rfl, Br.no (by rw [p1]; rfl) ?_⟩⟩
    have A3 : At (gs3 3) r1 (dV (qo S id).1) := by rw [o3 3 (by decide)]; exact A2'
    have B3 := A3.le (s3.l 3)
    refine ⟨_, B3.cell rfl, _, B3.cell rfl, _, B3.cell rfl, W3.in_ s3 (by decide) hI2 fun H4 gs4 s4 o4 W4 => ⟨_, rfl, Br.no (by rw [p2]; rfl) ?_⟩⟩
    rw [w1d (by omega)]
    refine ih (k + 1) H4 gs4 _ (by omega) s4 W4 ⟨?_, ?_⟩ p3 (p4.trans en) (by rw [p5]; exact ew) (fun m c => ?_) (by rw [o4 8 (by decide), o3 8 (by decide)]; exact I2)
    · show S.mem = _
      rw [p4]; exact F.m
    · show S.cur = _
      rw [p5]; exact F.c
    · rw [p6, hbal, tkk, qO7, hD id]
end
theorem qYY {h h0 : Heap} {x : Bnk} (X : BnkAt h x) (l0 : h.le h0) {r : Nat} (hr : h r = none) (hlen : x.D.length ≤ 9223372036854775807) :
    ∀ (d n : Nat) (H : Heap), d + n = x.D.length → h.le H → At H r (qHt x) → (∀ y ∈ x.D.take n, y.sell ≤ 1073741824 ∧ y.buy ≤ 1073741824) → qD5 r x.dp x.D.length x.dc x.D.length n H fun v h' => v = .bool true ∧ h.le h' := by
  have U : UU = 1000000000000 := rfl
  intro d
  induction d with
  | zero =>
    intro n H hd lH A hs
    refine qHZ _ _ _ _ _ _ _ _ ?_
    unfold qE7
    rw [List.take_of_length_le (by omega)] at hs
    have A' : At (H.setN r 3 [slice none 0 0]) r (qHt (qIV x)) := A.set (o := 3) (ws := [slice none 0 0])
    have lB : h.le (H.setN r 3 [slice none 0 0]) := qS lH hr
    refine Br.no (by simp; omega) ⟨A.canSt (by simp [qHt]), ?_⟩
    generalize H.setN r 3 [slice none 0 0] = B at *
    have X' : BnkAt B (qIV x) := { t := (X.le lB).t, l := (X.le lB).l, lI := (X.le lB).lI, d := (X.le lB).d, dI := X.dI, i := .inl rfl, iI := fun y hy => (by cases hy) }
    refine ⟨_, _, _, A'.cell rfl, _, _, _, A'.cell rfl, _, _, _, A'.cell rfl, _, _, _, A'.cell rfl, ?_⟩
    refine qQ7 (x := qIV x) (SepF.start B) X' (i := 1) (j := 2) (k0 := 3) (by decide) (by decide) (by decide) (fun _ H gs s _ => ⟨_, _, rfl, Br.yes rfl (Ret.mk ⟨rfl, Heap.le_trans lB s.b⟩)⟩) fun may H0 gs0 gp lp q s0 _ W0 => ⟨_, _, rfl, Br.no rfl (Br.no rfl ?_)⟩
    have ok := W0.b.1
    have F := qUs (qIV x)
    have Fu : (qJC (qIV x)).u.Fine := qTj (T := x.T) (n := x.L.length) (w := x.T.length) (L := x.L) W0.uok3
    have hsm := qSq (x := qIV x) hs x.D.length
    refine W0.all s0 (n := 8) (by decide) (by decide) fun H1 gs1 al ac s1 _ W1 I1 => ⟨_, _, _, rfl, ?_⟩
    exact qXv lB (S := (qJC (qIV x)).S) (D := fun id => (qo (qJC (qIV x)).S id).1) (L := qf (qJC (qIV x)).S 2) (n := (qJC (qIV x)).u.fl.length) (w := (qJC (qIV x)).u.T.length) rfl (fun _ => rfl) (fun id hid => qYC ok F hsm hid) (qW1 ok) _ 0 H1 gs1 (qJC (qIV x)).u rfl s1 W1 F Fu rfl rfl (fun m c => by
      show rdM (qAz x.L.length x.T.length).M m c = 0
      exact qOg _ _ _ _) I1
  | succ d ih =>
    intro n H hd lH A hs
    refine qHZ _ _ _ _ _ _ _ _ ?_
    unfold qE7
    have hx : x.D[n]? = some x.D[n] := List.getElem?_eq_getElem (by omega)
    have tkk : x.D.take (n + 1) = x.D.take n ++ [x.D[n]] := by rw [List.take_add_one, hx]; rfl
    generalize x.D[n] = y at *
    refine Br.yes (by simp; omega) (ax qTi ((X.le lH).d) rfl rfl hx (by decide) fun b o _ hc => qXi hc ?_)
    refine ql fun r1 h1 hr1 l1 A1 => ⟨A1.canSt (by simp), ?_⟩
    have A2 : At (h1.setN r1 0 (dV y)) r1 (dV y) := A1.set (o := 0) (ws := dV y)
    have l2 : H.le (h1.setN r1 0 (dV y)) := qS l1 hr1
    have good : Ret (h1.setN r1 0 (dV y)) (fun v h' => v = .bool true ∧ h.le h') (.bool true) := Ret.mk ⟨rfl, Heap.le_trans lH l2⟩
    refine ⟨_, A2.cell rfl, Br.dec (fun g => good) fun g1 => ⟨_, A2.cell rfl, Br.dec (fun g => good) fun g2 => ?_⟩⟩
    rw [qO (by omega) (by omega), show (n : Int) + 1 = ((n + 1 : Nat) : Int) by omega]
    refine ih (n + 1) _ (by omega) (Heap.le_trans lH l2) (A.le l2) fun z hz => ?_
    rw [tkk] at hz
    rcases List.mem_append.1 hz with hz | hz
    · exact hs z hz
    · rw [List.mem_singleton] at hz
      subst hz
      exact ⟨by omega, by omega⟩
theorem qLs {h : Heap} {cs : Array Value} (HX : qMG.Has h cs.toList) : CallA Tryz.prog qIT [agg cs] h fun v h' => v = .bool true ∧ h.le h' := by
  obtain ⟨x, ex, X⟩ := qXA HX
  obtain rfl : cs = (qHt x).toArray := by rw [← ex]
  have hlen := qUS HX
  refine qM6 _ _ _ _ _ _ _ _ _ _ _ _ _ _ ?_
  unfold qIO
  refine ql fun r h1 hr l1 A => qPr fun h2 l2 => ⟨_, rfl, Br.no rfl ?_⟩
  refine ⟨_, _, _, (A.le l2).cell rfl, ?_⟩
  exact qYY X (Heap.le_refl _) hr hlen x.D.length 0 h2 rfl (Heap.le_trans l1 l2) (A.le l2) fun y hy => by cases hy
end Go.Proofs.YtgjeecaombnmiaaGreat
