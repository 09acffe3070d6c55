import Derived.Test.YtjihfieahkbohaaGreatM11
import Derived.Test.YtjihfieahkbohaaGreatM06
import Derived.Test.YtjihfieahkbohaaGreatM02
import Derived.Test.YtjihfieahkbohaaGreatM05
import Derived.Test.YtjihfieahkbohaaGreatM10
import Derived.Test.YtjihfieahkbohaaGreatM13
import Derived.Test.YtjihfieahkbohaaGreatM07
/- Who is behind, whole: what plan.Behind answers. -/
namespace Go.Proofs.YtjihfieahkbohaaGreat
open Go Go.Sy Go.Value
set_option linter.unusedVariables false
set_option linter.unusedSimpArgs false

theorem qVX {h : Heap} {q : Option Addr} {W : List Du} {j lc : Nat} (A : Arr uV h q W) (hj : j ≤ W.length) (hc : W.length ≤ lc) : Arr uV h (qGT q j lc 4) (W.drop j) := by
  by_cases e : W.drop j = []
  · rw [e]; exact .inl rfl
  have hj2 : j < W.length := by
    rcases Nat.lt_or_ge j W.length with h | h
    · exact h
    · exact (e (List.drop_eq_nil_of_le h)).elim
  rcases A with A | ⟨b, o, e1, A⟩
  · have := congrArg List.length A
    rw [qp qCx] at this
    simp at this; omega
  unfold qGT
  rw [if_neg (by omega), e1]
  refine .inr ⟨b, o + j * 4, by rw [Option.map_some, Addr.add_none], fun i hi => ?_⟩
  have hl := qp qCx (W.drop j)
  rw [hl, List.length_drop] at hi
  have hw := qp qCx W
  have := A (j * 4 + i) (by rw [hw]; omega)
  rw [← Nat.add_assoc] at this
  rw [this]
  have es : W.flatMap uV = (W.take j).flatMap uV ++ (W.drop j).flatMap uV := by rw [← List.flatMap_append, List.take_append_drop]
  rw [es, List.getElem?_append_right (by rw [qp qCx, List.length_take]; omega), qp qCx, List.length_take]
  congr 1
  omega
section
variable {g : Heap} {K : Value → Heap → Prop} {pp : Option Addr} {PL : List NRow} {pc : Nat} {now : Int}
theorem qY5 (N : Nets g pp PL) (hP : ∀ y ∈ PL, qHN y.l) {f0 : Nat} {W0 : List Du} (k : ∀ h' op oc, g.le h' → Arr uV h' op (qKN (mxN PL) now f0 W0 []).1 → K (tuple #[slice op (qKN (mxN PL) now f0 W0 []).1.length oc, .int .i64 (qKN (mxN PL) now f0 W0 []).2]) h') :
    ∀ (f : Nat) (W : List Du) (q : Option Addr) (lc : Nat) (h : Heap) (out : List Du) (op : Option Addr) (oc : Nat), W.length ≤ f → W.length ≤ 100000 → W.length ≤ lc → (∀ y ∈ W, okU y) → Arr uV g q W → g.le h → OwnL g h z4 op oc (out.flatMap uV) → out.length + W.length ≤ 200000 →
    qKN (mxN PL) now f0 W0 [] = qKN (mxN PL) now f W out → qEq pp PL.length pc now q W.length lc op out.length oc h K := by
  intro f
  induction f with
  | zero =>
    intro W q lc h out op oc h1 h2 h3 ho A l O hl e
    refine qLU _ _ _ _ _ _ _ _ _ _ _ _ ?_
    unfold qIX
    have hW : W = [] := List.length_eq_zero_iff.1 (by omega)
    subst hW
    rw [e] at k
    exact Br.no (by decide) (Ret.mk (k h op oc l O.rd))
  | succ f ih =>
    intro W q lc h out op oc h1 h2 h3 ho A l O hl e
    refine qLU _ _ _ _ _ _ _ _ _ _ _ _ ?_
    unfold qIX
    cases hW : W with
    | nil =>
      subst hW
      rw [e] at k
      exact Br.no (by decide) (Ret.mk (k h op oc l O.rd))
    | cons x R =>
    rw [← hW]
    have hx0 : W[0]? = some x := by rw [hW]; rfl
    have hx := ho x (by rw [hW]; exact List.mem_cons_self ..)
    have hx' := hx
    unfold okU at hx'
    have hWl : W.length = R.length + 1 := by rw [hW]; rfl
    have e' : qKN (mxN PL) now (f + 1) W out = match qLM x x.n 1 R with
      | none => ([], 3)
      | some (s, j) => qKN (mxN PL) now f (W.drop j) (out ++ qNc (mxN PL) now x s) := by rw [hW]; rfl
    rw [e'] at e
    have A0 := A.le l
    refine Br.yes (decide_eq_true (by omega)) ⟨by omega, by omega, ?_⟩
    have ld := ldX (J := fun a b c d => qO h [.int .i64 0, .int .i64 0, .int .i64 0, .int .i64 0] 39 fun r h => h.canSt r 0 4 ∧ ∃ n_4 : Int, (h.setN r 0 [.int .i64 a, .int .i64 b, .int .i64 c, .int .i64 d]).cell r 3 = some (.int .i64 n_4) ∧
      qGD pp PL.length pc now q W.length lc op out.length oc r 1 n_4 (h.setN r 0 [.int .i64 a, .int .i64 b, .int .i64 c, .int .i64 d]) K) A0 rfl (j := 0) (i := 0) rfl hx0 ?_
    · have ld := ld.2.2
      simpa using ld
    refine qGU (vs := uV x) rfl fun r h4 hr l4 A4 cs4 => ⟨cs4, _, A4.cell rfl, ?_⟩
    have lg := Heap.le_trans l l4
    have O4 := O.le l4
    refine qY8 hW A ho (by omega) lg A4 (fun h' l' hr => ?_) (fun h' s j l' hr => ?_) R 1 x.n _ (Heap.le_refl _) (by rw [hW]; rfl) (by omega) (by omega) (by omega) rfl
    · rw [hr] at e
      dsimp only at e
      rw [e] at k
      exact k h' none 0 (Heap.le_trans lg l') (.inl rfl)
    · rw [hr] at e
      dsimp only at e
      obtain ⟨r1, r2, r3, r4⟩ := qS8 (fun y hy => ho y (by rw [hW]; exact List.mem_cons_of_mem _ hy)) (by omega) (by omega) hr
      refine qVm (A4.le l') (N.le (Heap.le_trans lg l')) hx ⟨r1, r2⟩ hP ?_
      refine qWj (A4.le l') (Heap.le_trans lg l') (O4.le l') (by omega) fun h5 op' oc' l5 O5 => ?_
      refine qNQ _ _ _ _ _ _ _ _ _ _ _ _ _ ?_
      unfold qJB
      refine ⟨by omega, by omega, ?_⟩
      rw [Int.toNat_natCast]
      have hil : (qNc (mxN PL) now x s).length ≤ 1 := by unfold qNc; split <;> simp
      have hdl : (W.drop j).length = W.length - j := List.length_drop ..
      have := ih (W.drop j) (qGT q j lc 4) (lc - j) h5 (out ++ qNc (mxN PL) now x s) op' oc' (by omega) (by omega) (by omega) (fun y hy => ho y (List.mem_of_mem_drop hy)) (qVX A (by omega) h3) l5 O5 (by rw [List.length_append]; omega) e
      rw [hdl] at this
      exact this
theorem qY0 {q : Option Addr} {D : List Du} {n dc : Nat} (A : Arr uV g q D) (hn : D.length = n) (hs : n ≤ 4096) {PNn : Nat}
    (k : ∀ h' p c, g.le h' → OwnL g h' z4 p c ((D.filter fun x => decide (x.t ≤ now)).flatMap uV) → CallA Tryz.prog qx [slice p (D.filter fun x => decide (x.t ≤ now)).length c, func (Fn.func qI) #[] #[]] h' fun v h => v = tuple #[] ∧ qEq pp PNn pc now p (D.filter fun x => decide (x.t ≤ now)).length c none 0 0 h K) :
    ∀ (m j : Nat) (h : Heap) (p : Option Addr) (c : Nat), m + j = n → g.le h → OwnL g h z4 p c (((D.take j).filter fun x => decide (x.t ≤ now)).flatMap uV) →
    qF6 pp PNn pc now p ((D.take j).filter fun x => decide (x.t ≤ now)).length c q n dc n j h K := by
  intro m
  induction m with
  | zero =>
    intro j h p c hj l O
    refine qLD _ _ _ _ _ _ _ _ _ _ _ _ _ _ ?_
    unfold qIS
    rw [List.take_of_length_le (by omega)] at O ⊢
    exact Br.no (by simp; omega) (k h p c l O)
  | succ m ih =>
    intro j h p c hj l O
    refine qLD _ _ _ _ _ _ _ _ _ _ _ _ _ _ ?_
    unfold qIS
    have hx : D[j]? = some D[j] := List.getElem?_eq_getElem (by omega)
    have tk : D.take (j + 1) = D.take j ++ [D[j]] := by rw [List.take_add_one, hx]; rfl
    generalize D[j] = x at *
    have hlen : ((D.take j).filter fun x => decide (x.t ≤ now)).length ≤ j := Nat.le_trans (List.length_filter_le _ _) (by rw [List.length_take]; omega)
    refine Br.yes (by simp; omega) (ldX (A.le l) hn rfl hx (qGU (vs := uV x) rfl fun r h4 hr l4 A4 cs4 => ⟨cs4, _, A4.cell rfl, ?_⟩))
    have lg := Heap.le_trans l l4
    have O4 := O.le l4
    rw [w1 (j := j) (by omega)]
    refine Br.dec (fun g1 => ?_) fun g1 => ?_
    · refine ldU (a := 0) (fun o ho => A4.cellO ho) (qJi (ws := uV x) O4 (by decide) lg (by omega) rfl rfl (by rw [qp qCx]; rfl) fun r h5 p' c' h' hr l5 l' O' keep how => ?_)
      have e : (D.take (j + 1)).filter (fun x => decide (x.t ≤ now)) = (D.take j).filter (fun x => decide (x.t ≤ now)) ++ [x] := by rw [tk, List.filter_append, List.filter_cons_of_pos (by simpa using g1)]; rfl
      have := ih (j + 1) h' p' c' (by omega) l' (by rw [e, List.flatMap_append, List.flatMap_cons, List.flatMap_nil, List.append_nil]; exact O')
      rw [e, List.length_append] at this
      exact this
    · have e : (D.take (j + 1)).filter (fun x => decide (x.t ≤ now)) = (D.take j).filter (fun x => decide (x.t ≤ now)) := by rw [tk, List.filter_append, List.filter_cons_of_neg (by simpa using g1)]; simp
      have := ih (j + 1) _ p c (by omega) lg (by rw [e]; exact O4)
      rw [e] at this
      exact this
theorem qVV {h : Heap} {q : Option Addr} {D : List Du} {dc : Nat} (A : Arr uV h q D) (hs : D.length ≤ 1000000) (hD : ∀ x ∈ D, I64 x.m ∧ I64 x.c ∧ I64 x.t ∧ I64 x.n) (N : Nets h pp PL) (hP : ∀ y ∈ PL, qHN y.l)
    (k4 : 4096 < D.length → K (tuple #[slice none 0 0, .int .i64 4]) h) (k1 : D.length ≤ 4096 → D.any qJg = true → ∀ h', h.le h' → K (tuple #[slice none 0 0, .int .i64 1]) h')
    (k : D.length ≤ 4096 → D.any qJg = false → ∀ (W : List Du) h' q' c', W.Perm (D.filter fun x => decide (x.t ≤ now)) → (W.Pairwise fun x y => ¬ (y.m < x.m ∨ (y.m = x.m ∧ y.c < x.c))) → (∀ y ∈ W, okU y) → h.le h' → Arr uV h' q' (qKN (mxN PL) now W.length W []).1 →
      K (tuple #[slice q' (qKN (mxN PL) now W.length W []).1.length c', .int .i64 (qKN (mxN PL) now W.length W []).2]) h') :
    CallA Tryz.prog qJf [slice q D.length dc, slice pp PL.length pc, .int .i64 now] h K := by
  refine qQ8 _ _ _ _ _ _ _ _ _ ?_
  unfold qMB
  refine Br.dec (fun g1 => Ret.mk (k4 (by omega))) fun g1 => qWK A rfl hs fun h1 l1 => ⟨_, rfl, ?_⟩
  cases hb : D.any qJg with
  | true => exact Br.yes rfl (Ret.mk (k1 (by omega) hb h1 l1))
  | false =>
  have k := k (by omega) hb
  have ok : ∀ y ∈ D.filter (fun x => decide (x.t ≤ now)), okU y := fun y hy => by
    have hy := (List.mem_filter.1 hy).1
    have h1 := hD y hy
    rw [List.any_eq_false] at hb
    have h2 := hb y hy
    unfold qJg at h2
    rw [decide_eq_true_eq] at h2
    unfold okU I64 at *
    omega
  have hfl : (D.filter fun x => decide (x.t ≤ now)).length ≤ 4096 := Nat.le_trans (List.length_filter_le _ _) (by omega)
  refine Br.no rfl (qY0 (g := h1) (A.le l1) rfl (by omega) (fun h' p c l' O => ?_) D.length 0 h1 none 0 (by omega) (Heap.le_refl _) (.nil _ _ _))
  generalize hF : D.filter (fun x => decide (x.t ≤ now)) = F at *
  have go : ∀ h2 W q lc, h1.le h2 → W.Perm F → (W.Pairwise fun x y => ¬ (y.m < x.m ∨ (y.m = x.m ∧ y.c < x.c))) → W.length ≤ lc → Arr uV h2 q W → qEq pp PL.length pc now q F.length lc none 0 0 h2 K := fun h2 W q lc l2 hp hs hc A2 => by
    have hwl := hp.length_eq
    have := qY5 (pc := pc) (N.le (Heap.le_trans l1 l2)) hP (f0 := W.length) (W0 := W) (fun h3 op oc l3 A3 => k W h3 op oc hp hs (fun y hy => ok y (hp.mem_iff.1 hy)) (Heap.le_trans l1 (Heap.le_trans l2 l3)) A3) W.length W q lc h2 [] none 0 (Nat.le_refl _) (by omega) hc (fun y hy => ok y (hp.mem_iff.1 hy)) A2 (Heap.le_refl _) (.nil _ _ _) (by simp; omega) rfl
    rw [hwl] at this
    exact this
  rcases O with ⟨e1, e2, e3⟩ | ⟨B, sp, e2, e0, AB, hc⟩
  · have hFn : F = [] := by
      have := congrArg List.length e1
      rw [qp qCx] at this
      rw [List.length_nil] at this
      exact List.length_eq_zero_iff.1 (by omega)
    subst hFn e2 e3
    exact qSY ⟨rfl, go h' [] none 0 l' (.refl _) .nil (Nat.le_refl _) (.inl rfl)⟩
  · subst e2
    have hcl : F.length ≤ c := by
      rw [List.length_append, qp qCx, show z4.length = 4 from rfl] at hc
      omega
    have Dau : DaU F h1 B F.length F.length sp h' (qHC F.length).toArray := ⟨l', by rw [show (qHC F.length).toArray.toList = qHC F.length from rfl, qQh]; exact AB, by simp [qJZ], rfl⟩
    refine qWZ e0 rfl (by omega) Dau fun h2 d2 D2 P2 s2 => ⟨rfl, ?_⟩
    obtain ⟨q1, q2⟩ := qTT rfl P2 s2
    exact go h2 _ (some ⟨B, 0, none⟩) c D2.le q1 q2 (by rw [q1.length_eq]; exact hcl) (At.toRd D2.at_)
end
end Go.Proofs.YtjihfieahkbohaaGreat

/- Parts of a heap that lie apart from each other and from all else. -/
namespace Go.Proofs.YtjihfieahkbohaaGreat
open Go Go.Sy Go.Value
set_option linter.unusedVariables false
set_option linter.unusedSimpArgs false

structure SepT (H X g1 g2 : Heap) : Prop where
  x : X.le H
  a : g1.le H
  b : g2.le H
  xa : ∀ r o, X r = some o → g1 r = none
  xb : ∀ r o, X r = some o → g2 r = none
  ab : ∀ r o, g1 r = some o → g2 r = none
section
variable {P : Program} {f : FuncId} {args : List Value} {H H' X g1 g2 : Heap} {K : Value → Heap → Prop}
theorem SepT.le (s : SepT H X g1 g2) (l : H.le H') : SepT H' X g1 g2 := ⟨Heap.le_trans s.x l, Heap.le_trans s.a l, Heap.le_trans s.b l, s.xa, s.xb, s.ab⟩
theorem SepT.ba (s : SepT H X g1 g2) : ∀ r o, g2 r = some o → g1 r = none := fun r o e => by
  cases h : g1 r with
  | none => rfl
  | some y => have := s.ab r y h; rw [e] at this; cases this
theorem SepT.call1 (s : SepT H X g1 g2) (c : CallA P f args g1 fun v g' => ∀ H', SepT H' X g' g2 → K v H') : CallA P f args H K :=
  (c.frame2 s.a).mono fun v h' ⟨g', k, l', keep, off⟩ => k h' ⟨fun r o e => keep r o (s.x r o e) (s.xa r o e), l', fun r o e => keep r o (s.b r o e) (s.ba r o e), fun r o e => off r o (s.x r o e) (s.xa r o e), s.xb, fun r o e => by
    cases h : g2 r with
    | none => rfl
    | some y =>
      have := off r y (s.b r y h) (s.ba r y h)
      rw [e] at this; cases this⟩
theorem SepT.call2 (s : SepT H X g1 g2) (c : CallA P f args g2 fun v g' => ∀ H', SepT H' X g1 g' → K v H') : CallA P f args H K :=
  (c.frame2 s.b).mono fun v h' ⟨g', k, l', keep, off⟩ => k h' ⟨fun r o e => keep r o (s.x r o e) (s.xb r o e), fun r o e => keep r o (s.a r o e) (s.ab r o e), l', s.xa, fun r o e => off r o (s.x r o e) (s.xb r o e), fun r o e => off r o (s.a r o e) (s.ab r o e)⟩
theorem SepT.new2 (s : SepT H X g1 qL1) (c : CallA P f args qL1 fun v g' => ∀ H', SepT H' X g1 g' → K v H') : CallA P f args H K := s.call2 c
theorem SepT.new1 (s : SepT H X qL1 g2) (c : CallA P f args qL1 fun v g' => ∀ H', SepT H' X g' g2 → K v H') : CallA P f args H K := s.call1 c
theorem SepT.start (h : Heap) : SepT h h qL1 qL1 := ⟨h.le_refl, qP4 h, qP4 h, fun _ _ _ => rfl, fun _ _ _ => rfl, fun _ _ _ => rfl⟩
theorem qVe {X H : Heap} (l : X.le H) (r : Nat) (o : Obj) : (X.ins r o).le (H.ins r o) := fun x y e => by
  unfold Heap.ins at e ⊢
  split
  · rename_i g; rw [if_pos g] at e; exact e
  · rename_i g; rw [if_neg g] at e; exact l x y e
theorem SepT.ins (s : SepT H X g1 g2) {r : Nat} (hr : H r = none) (o : Obj) : SepT (H.ins r o) (X.ins r o) g1 g2 := by
  have dj : ∀ g : Heap, g.le H → (∀ r o, X r = some o → g r = none) → ∀ x y, (X.ins r o) x = some y → g x = none := fun g l d x y e => by
    unfold Heap.ins at e
    split at e
    · rename_i h; rw [h]; exact qAk l hr
    · exact d x y e
  exact ⟨qVe s.x r o, Heap.le_trans s.a (qt hr), Heap.le_trans s.b (qt hr), dj g1 s.a s.xa, dj g2 s.b s.xb, s.ab⟩
theorem qRl {h : Heap} {b o x : Nat} {ws : List Value} {y : Obj} (e : (h.setN b o ws) x = some y) : ∃ z, h x = some z := by
  by_cases g : x = b
  · subst g
    unfold Heap.setN at e
    cases hx : h x with
    | none => simp [hx] at e
    | some z => exact ⟨z, rfl⟩
  · rw [qEK g] at e; exact ⟨y, e⟩
theorem qUZ {X H : Heap} (l : X.le H) {b o : Nat} {vs ws : List Value} (a : At X b vs) : (X.setN b o ws).le (H.setN b o ws) := fun x y e => by
  by_cases g : x = b
  · subst g
    obtain ⟨T, ea⟩ := a
    have eh := l _ _ ea
    unfold Heap.setN at e ⊢
    rw [ea] at e
    rw [eh]
    exact e
  · rw [qEK g] at e ⊢; exact l x y e
theorem SepT.set (s : SepT H X g1 g2) {b o : Nat} {vs ws : List Value} (a : At X b vs) : SepT (H.setN b o ws) (X.setN b o ws) g1 g2 := by
  obtain ⟨T, ea⟩ := a
  exact ⟨qUZ s.x ⟨T, ea⟩, qAf s.a (s.xa b _ ea), qAf s.b (s.xb b _ ea), fun r y e => (qRl e).elim fun z hz => s.xa r z hz, fun r y e => (qRl e).elim fun z hz => s.xb r z hz, s.ab⟩
theorem SepT.cp (s : SepT H X g1 g2) {z vs : List Value} {T : TypeId} {J : Nat → Heap → Prop} (hv : vs.length = z.length)
    (k : ∀ r H1 X', SepT (H1.setN r 0 vs) X' g1 g2 → At X' r vs → (∀ b xs, At X b xs → At X' b xs) → H1.canSt r 0 z.length → X r = none → X.le X' → J r H1) : qO H z T J := fun r hr => by
  have s1 := s.ins hr (.cells z.toArray T (0, 0))
  have a1 := At.new X r z T
  have hx := qAk s.x hr
  have a2 := a1.set (o := 0) (ws := vs)
  have e := qLR vs [] z (by omega)
  rw [List.nil_append, List.nil_append, hv, List.drop_length, List.append_nil] at e
  rw [show ([] : List Value).length = 0 from rfl] at e
  rw [e] at a2
  exact k r _ _ (s1.set a1) a2 (fun b xs a => (a.ins hx).set_ne (a.ne hx)) (qOD _ _ _ _ _ _ (by omega)) hx (qAf (qt hx) hx)
theorem SepT.box (s : SepT H X g1 g2) {z : List Value} {T : TypeId} {J : Nat → Heap → Prop}
    (k : ∀ r H1 X', SepT H1 X' g1 g2 → At X' r z → (∀ b xs, At X b xs → At X' b xs) → X r = none → X.le X' → J r H1) : qO H z T J := fun r hr => by
  have hx := qAk s.x hr
  exact k r _ _ (s.ins hr _) (At.new X r z T) (fun b xs a => a.ins hx) hx (qt hx)
end
end Go.Proofs.YtjihfieahkbohaaGreat

/- Shares: the awake test answers true. -/

namespace Go.Proofs.YtjihfieahkbohaaGreat
open Go Go.Sy Go.Value
set_option linter.unusedVariables false
set_option linter.unusedSimpArgs false

theorem vB : qJl 10 3 = ([4, 3, 3], 0) := by
  unfold qJl
  rw [if_neg (by decide), if_neg (by decide), if_neg (by decide)]
  have e : ones (Int.toNat 3) = [1, 1, 1] := rfl
  rw [e]
  unfold qJV
  rw [if_neg (by decide), if_neg (by decide), if_neg (by decide), if_neg (by decide), if_neg (by decide)]
  unfold qIe
  have o : qNT (qFn 10 (qP [1, 1, 1]) [1, 1, 1]) ([1, 1, 1] : List Int).length = [0, 1, 2] := qXn (by decide) (by decide)
  rw [o]; decide
section
variable {K : Value → Heap → Prop} {h : Heap}
theorem qTH {a b : Option Addr} {la lb : List Int} {n ac bc : Nat} (Ia : Ints .i64 h a la) (Ib : Ints .i64 h b lb) (ha : la.length = n) (hb : lb.length = n) (hs : n ≤ 1099511627776) :
    ∀ (m j : Nat), m + j = n → Ret h K (.bool (decide (la.drop j = lb.drop j))) → qHa a n ac b n bc j h K := by
  intro m
  induction m with
  | zero =>
    intro j hj k
    refine qLg _ _ _ _ _ _ _ _ _ ?_
    unfold qIv
    refine Br.no (by simp; omega) ?_
    rw [List.drop_eq_nil_of_le (by omega), List.drop_eq_nil_of_le (by omega)] at k
    exact k
  | succ m ih =>
    intro j hj k
    refine qLg _ _ _ _ _ _ _ _ _ ?_
    unfold qIv
    have ea : la[j]? = some la[j] := List.getElem?_eq_getElem (by omega)
    have eb : lb[j]? = some lb[j] := List.getElem?_eq_getElem (by omega)
    rw [List.drop_eq_getElem_cons (by omega : j < la.length), List.drop_eq_getElem_cons (by omega : j < lb.length)] at k
    refine Br.yes (by simp; omega) (ix Ia ha rfl ea (ix Ib hb rfl eb ?_))
    refine Br.intro (fun e => ?_) (fun e => ?_)
    · have : la[j] ≠ lb[j] := by simpa using e
      rw [decide_eq_false (fun x => this (List.cons.inj x).1)] at k
      exact k
    · have e : la[j] = lb[j] := by simpa using e
      rw [qK (by omega) (by omega)]
      refine ih (j + 1) (by omega) ?_
      have e0 : ∀ (a b : Int) (x y : List Int), a = b → ((a :: x = b :: y) ↔ x = y) := by rintro a _ x y rfl; simp
      have := e0 _ _ (la.drop (j + 1)) (lb.drop (j + 1)) e
      rw [decide_eq_decide.2 this] at k
      exact k
theorem qQD {a b : Option Addr} {la lb : List Int} {n m ac bc : Nat} (Ia : Ints .i64 h a la) (Ib : Ints .i64 h b lb) (ha : la.length = n) (hb : lb.length = m) (hs : n ≤ 1099511627776) (k : K (.bool (decide (la = lb))) h) :
    CallA Tryz.prog qIJ [slice a n ac, slice b m bc] h K := by
  refine qSK _ _ _ _ _ _ _ _ ?_
  unfold qNK
  refine Br.intro (fun e => ?_) (fun e => ?_)
  · have : n ≠ m := by intro e2; subst e2; simp at e
    rw [decide_eq_false (fun x => this (by rw [← ha, ← hb, x]))] at k
    exact Ret.mk k
  · have : n = m := by simp at e; omega
    subst this
    refine qTH Ia Ib ha hb hs n 0 (by omega) ?_
    simpa using Ret.mk k
end
end Go.Proofs.YtjihfieahkbohaaGreat

/- Plan: the calls whose answers the document fixes. -/
namespace Go.Proofs.YtjihfieahkbohaaGreat
open Go Go.Sy Go.Value
set_option linter.unusedVariables false
set_option linter.unusedSimpArgs false

section
variable {h : Heap} {K : Value → Heap → Prop}
theorem qZF {p : Option Addr} {D : List Du} {n c : Nat} (A : Arr uV h p D) (hn : D.length = n) (hs : n ≤ 1000000) (k : ∀ h' q c', h.le h' → Arr uV h' q D → K (slice q D.length c') h') :
    ∀ (m j : Nat) (h1 : Heap) (q : Option Addr) (cp : Nat), m + j = n → h.le h1 → OwnL h h1 z4 q cp ((D.take j).flatMap uV) → qIM q (D.take j).length cp p n c n j h1 K := by
  intro m
  induction m with
  | zero =>
    intro j h1 q cp hj l O
    refine qMM _ _ _ _ _ _ _ _ _ _ ?_
    unfold qJR
    rw [List.take_of_length_le (by omega)] at O ⊢
    exact Br.no (by simp; omega) (Ret.mk (k h1 q cp l O.rd))
  | succ m ih =>
    intro j h1 q cp hj l O
    refine qMM _ _ _ _ _ _ _ _ _ _ ?_
    unfold qJR
    have hx : D[j]? = some D[j] := List.getElem?_eq_getElem (by omega)
    have tk : D.take (j + 1) = D.take j ++ [D[j]] := by rw [List.take_add_one, hx]; rfl
    generalize D[j] = x at *
    have hl : (D.take j).length = j := by rw [List.length_take]; omega
    refine Br.yes (by simp; omega) (ldX (A.le l) hn rfl hx (qGU (vs := uV x) rfl fun r h4 hr l4 A4 cs4 => ⟨cs4, ldU (a := 0) (fun o ho => A4.cellO ho) ?_⟩))
    refine qJi (ws := uV x) (O.le l4) (by decide) (Heap.le_trans l l4) (by omega) rfl rfl (by rw [qp qCx]; rfl) fun r h5 p' c' h' hr l5 l' O' keep how => ?_
    rw [w1 (by omega)]
    have := ih (j + 1) h' p' c' (by omega) l' (by rw [tk, List.flatMap_append, List.flatMap_cons, List.flatMap_nil, List.append_nil]; exact O')
    rw [tk, List.length_append] at this
    exact this
theorem qW2 {p : Option Addr} {D : List Du} {n c : Nat} (A : Arr uV h p D) (hn : D.length = n) (hs : n ≤ 1000000) (k : ∀ h' q c', h.le h' → Arr uV h' q D → K (slice q D.length c') h') : CallA Tryz.prog qLJ [slice p n c] h K := by
  refine qSl _ _ _ _ _ ?_
  unfold qNx
  have := qZF A hn hs (c := c) k n 0 h none 0 (by omega) h.le_refl (.nil _ _ _)
  exact this
theorem qXQ {a b : Option Addr} {D : List Du} {n ac bc : Nat} (A : Arr uV h a D) (B : Arr uV h b D) (hn : D.length = n) (hs : n ≤ 1000000) (k : K (.bool true) h) : ∀ (m j : Nat), m + j = n → qHi a n ac b n bc j h K := by
  intro m
  induction m with
  | zero =>
    intro j hj
    refine qLj _ _ _ _ _ _ _ _ _ ?_
    unfold qIs
    exact Br.no (by simp; omega) (Ret.mk k)
  | succ m ih =>
    intro j hj
    refine qLj _ _ _ _ _ _ _ _ _ ?_
    unfold qIs
    have hx : D[j]? = some D[j] := List.getElem?_eq_getElem (by omega)
    generalize D[j] = x at *
    refine Br.yes (by simp; omega) (ldX A hn rfl hx (ldX B hn rfl hx ?_))
    rw [w1 (by omega)]
    exact Br.no (by simp) (ih (j + 1) (by omega))
theorem qSx {a b : Option Addr} {D E : List Du} {n m ac bc : Nat} (A : Arr uV h a D) (B : Arr uV h b E) (e : D = E) (hn : D.length = n) (hm : E.length = m) (hs : n ≤ 1000000) (k : K (.bool true) h) : CallA Tryz.prog qNA [slice a n ac, slice b m bc] h K := by
  subst e
  subst hn hm
  refine qRP _ _ _ _ _ _ _ _ ?_
  unfold qNC
  exact Br.no (by simp) (qXQ A B rfl hs k D.length 0 (by omega))
end
/-! ### awake -/
def aD1 : Dl := ⟨7, 0, 1, 0, 1, 10, 8⟩
def aD2 : Dl := ⟨7, 1, 0, 1, 0, 8, 10⟩
def aS1 : Bk := ⟨2, 2, [⟨aD1, 1, 0, 0⟩], 0⟩
def aS2 : Bk := ⟨2, 2, [⟨aD1, 2, 0, 1⟩], 1⟩
theorem aE1 : qDG ⟨2, 2, [], 0⟩ aD1 = (false, 0, aS1) := by unfold qDG; rw [if_pos (by unfold qHP aD1; decide)]; rfl
theorem aE2 : qDG aS1 aD2 = (true, 0, aS2) := by unfold qDG; rw [if_pos (by unfold qHP aD2 aS1; decide)]; rfl
theorem aE3 : qIm aS2 2 2 = ([[-10, 8], [10, -8]], 0) := by decide +kernel
theorem aSh : shL (- -10) 3 = [4, 3, 3] := by
  have h1 := qQV (n := 10) (p := 3) (by decide) (by decide) (by decide)
  rw [show qJl 10 ((3 : Nat) : Int) = qJl 10 3 from rfl, vB] at h1
  exact (congrArg Prod.fst h1).symm
theorem aE4 : qLF [[-10]] [5, 9, 12] = ([⟨0, 0, 5, 4⟩, ⟨0, 0, 9, 3⟩, ⟨0, 0, 12, 3⟩], 0) := by
  have e : ∀ k c, qIQ [5, 9, 12] k 0 c (-10) = if 0 < [(4 : Int), 3, 3].getD k 0 then [⟨((0 : Nat) : Int), c, [(5 : Int), 9, 12].getD k 0, [(4 : Int), 3, 3].getD k 0⟩] else [] := fun k c => by
    unfold qIQ
    rw [show [(5 : Int), 9, 12].length = 3 from rfl, aSh]
    by_cases g : 0 < [(4 : Int), 3, 3].getD k 0
    · rw [if_pos ⟨by decide, g⟩, if_pos g]
    · rw [if_neg (fun x => g x.2), if_neg g]
  have e2 : qMG [[-10]] [5, 9, 12] = [⟨0, 0, 5, 4⟩, ⟨0, 0, 9, 3⟩, ⟨0, 0, 12, 3⟩] := by
    have m : ∀ k, qJY [5, 9, 12] k [[-10]] 1 = qIQ [5, 9, 12] k 0 0 (-10) := fun k => by
      unfold qJY qN1
      simp
    unfold qMG
    show qJY _ 0 _ 1 ++ (qJY _ 1 _ 1 ++ (qJY _ 2 _ 1 ++ [])) = _
    rw [m, m, m, e, e, e]
    rfl
  unfold qLF
  rw [e2]
  rfl
theorem aE5 : qLF [] [5, 5] = ([], 1) := rfl
theorem qZR {x y : Du} {W : List Du} (h : W.Perm [x, y]) : W = [x, y] ∨ W = [y, x] := by
  have hl := h.length_eq
  match W, hl with
  | [a, b], _ =>
    have ha : a ∈ [x, y] := h.mem_iff.1 (List.mem_cons_self ..)
    rw [List.mem_cons, List.mem_singleton] at ha
    rcases ha with rfl | rfl
    · have := List.singleton_perm_singleton.1 ((List.perm_cons a).1 h)
      exact .inl (by rw [this])
    · have := List.singleton_perm_singleton.1 ((List.perm_cons a).1 (h.trans (List.Perm.swap ..)))
      exact .inr (by rw [this])
theorem aE6 {W : List Du} (h : W.Perm (([⟨0, 0, 5, 4⟩, ⟨0, 0, 9, 3⟩, ⟨0, 0, 12, 3⟩] : List Du).filter fun x => decide (x.t ≤ 9))) : qKN [[5]] 9 W.length W [] = ([⟨0, 0, 9, 2⟩], 0) := by
  have h : W.Perm [⟨0, 0, 5, 4⟩, ⟨0, 0, 9, 3⟩] := h
  rcases qZR h with rfl | rfl <;> rfl
theorem qW6 {h : Heap} {r1 r2 : Nat} {v : Int} {T : TypeId} (A1 : At h r1 [.int .i64 v]) (A2 : At h r2 [slice (some ⟨r1, 0, none⟩) 1 1]) : Nets h (some ⟨r2, 0, none⟩) [⟨some ⟨r1, 0, none⟩, 1, [v]⟩] :=
  ⟨At.toRd (ws := []) A2, fun x hx => by
    rw [List.mem_singleton] at hx
    subst hx
    exact At.toRd (ws := []) A1⟩
theorem qV6 : ∀ {L : List NRow} {a b : List Int}, mxN L = [a, b] → ∃ X Y, L = [X, Y] ∧ X.l = a ∧ Y.l = b
  | [], _, _, h => by cases h
  | [_], _, _, h => by cases h
  | [X, Y], _, _, h => by
    unfold mxN at h
    simp only [List.map_cons, List.map_nil, List.cons.injEq, and_true] at h
    exact ⟨X, Y, rfl, h.1, h.2⟩
  | _ :: _ :: _ :: _, _, _, h => by cases h
theorem qQZ {h0 : Heap} {K : Value → Heap → Prop} (k : ∀ h', h0.le h' → K (.bool true) h') : CallA Tryz.prog qJP [] h0 K := by
  refine qQ9 _ _ ?_
  unfold qME
  have s := SepT.start h0
  refine s.new1 (qWw (fun g => (g ⟨by decide, by decide⟩).elim) fun _ p g1 _ P H s => ⟨_, _, rfl, Br.no rfl ?_⟩)
  refine s.call1 (qMm P (d := aD1) (by unfold qM2 aD1; decide) fun g1 P H s => ⟨_, _, rfl, ?_⟩)
  rw [aE1] at P
  refine s.call1 (qMm P (d := aD2) (by unfold qM2 aD2; decide) fun g1 P H s => ⟨_, _, rfl, ?_⟩)
  rw [show (qDG (false, (0 : Int), aS1).2.2 aD2).2.2 = aS2 by rw [aE2]] at P
  have l0 := s.x
  have P := P.le s.a
  clear s
  refine qXA P (ms := 2) (cs := 2) fun h1 q1 L1 c1 l1 N1 e1 => ⟨_, _, _, _, rfl, ?_⟩
  rw [aE3] at e1
  dsimp only at e1
  rw [show (qIm aS2 2 2).2 = 0 by rw [aE3]]
  refine qPn _ _ _ _ _ ?_
  unfold qL0
  refine Br.yes rfl (Ret.mk ⟨_, _, _, _, rfl, ?_⟩)
  refine qr fun r1 h2 hr1 l2 A1 => qr fun r2 h3 hr2 l3 A2 => qr fun r3 h4 hr3 l4 A3 => ?_
  have N4 : Nets h4 (some ⟨r2, 0, none⟩) [⟨some ⟨r1, 0, none⟩, 1, [-10]⟩] := qW6 (T := 0) (A1.le (Heap.le_trans l3 l4)) (A2.le l4)
  have I4 : Ints .i64 h4 (some ⟨r3, 0, none⟩) [5, 9, 12] := At.toRd (ws := []) A3
  refine qPf (L := [⟨some ⟨r1, 0, none⟩, 1, [-10]⟩]) (ds := [5, 9, 12]) (lc := 1) (qc := 3) N4 (by show 1 ≤ 1000000; omega) (fun x hx => by
    rw [List.mem_singleton] at hx
    subst hx
    exact ⟨by show 1 ≤ 1000000; omega, fun n hn => by rw [List.mem_singleton] at hn; subst hn; unfold I64; omega⟩) I4 (by decide) fun h5 q5 c5 l5 A5 => ?_
  rw [show mxN [⟨some ⟨r1, 0, none⟩, 1, [-10]⟩] = [[-10]] from rfl, aE4] at A5 ⊢
  dsimp only at A5 ⊢
  refine ⟨_, _, _, _, rfl, qr fun r6 h6 hr6 l6 A6 => ?_⟩
  have I6 : Ints .i64 h6 (some ⟨r6, 0, none⟩) [5, 5] := At.toRd (ws := []) A6
  refine qPf (L := []) (ds := [5, 5]) (np := none) (lc := 0) (qc := 2) (h := h6) ⟨.inl rfl, fun x hx => by cases hx⟩ (by decide) (fun x hx => by cases hx) I6 (by decide) fun h7 q7 c7 l7 A7 => ?_
  rw [show mxN [] = [] from rfl, aE5] at A7 ⊢
  dsimp only at A7 ⊢
  refine ⟨_, _, _, _, rfl, qr fun r8 h8 hr8 l8 A8 => qr fun r9 h9 hr9 l9 A9 => ?_⟩
  have N9 : Nets h9 (some ⟨r9, 0, none⟩) [⟨some ⟨r8, 0, none⟩, 1, [5]⟩] := qW6 (T := 0) (A8.le l9) A9
  have l59 := Heap.le_trans l6 (Heap.le_trans l7 (Heap.le_trans l8 l9))
  refine qVV (PL := [⟨some ⟨r8, 0, none⟩, 1, [5]⟩]) (D := [⟨0, 0, 5, 4⟩, ⟨0, 0, 9, 3⟩, ⟨0, 0, 12, 3⟩]) (pc := 1) (dc := c5) (now := 9) (A5.le l59) (by decide) (fun x hx => by
    simp only [List.mem_cons, List.not_mem_nil, or_false] at hx
    rcases hx with rfl | rfl | rfl <;> (dsimp only; unfold I64; omega)) N9 (fun y hy => by
    rw [List.mem_singleton] at hy
    subst hy
    exact fun n hn => by rw [List.mem_singleton] at hn; subst hn; unfold I64; omega) (fun g => absurd g (by decide)) (fun _ g => absurd g (by decide)) fun _ _ W h10 q10 c10 hp _ _ l10 A10 => ?_
  rw [show mxN [⟨some ⟨r8, 0, none⟩, 1, [5]⟩] = [[5]] from rfl, aE6 hp] at A10 ⊢
  dsimp only at A10 ⊢
  refine ⟨_, _, _, _, rfl, ?_⟩
  have l14 := Heap.le_trans l2 (Heap.le_trans l3 l4)
  have l1a := Heap.le_trans l14 (Heap.le_trans l5 (Heap.le_trans l59 l10))
  have N10 := N1.le l1a
  obtain ⟨X, Y, eL, eX, eY⟩ := qV6 e1
  subst eL
  have fX : X.l.length = 2 := by rw [eX]; rfl
  have fY : Y.l.length = 2 := by rw [eY]; rfl
  rcases N10.1 with e | ⟨b, o, e, hc⟩
  · cases e
  subst e
  have I1 : Ints .i64 h10 X.p X.l := N10.2 X (by simp)
  have I2 : Ints .i64 h10 Y.p Y.l := N10.2 Y (by simp)
  refine Br.yes rfl ⟨by decide, (by show (0 : Int) < 2; decide), qB rfl ⟨_, _, _, hc 0 (by show 0 < 2; decide), qr fun r11 h11 hr11 l11 A11 => ?_⟩⟩
  refine qQD (I1.le l11) (lb := [-10, 8]) (At.toRd (ws := []) A11) rfl rfl (by rw [eX]; decide) ⟨_, rfl, ?_⟩
  refine Br.yes (decide_eq_true eX) ⟨by decide, (by show (1 : Int) < 2; decide), qB rfl ⟨_, _, _, qP5 l11 (hc 1 (by show 1 < 2; decide)), qr fun r12 h12 hr12 l12 A12 => ?_⟩⟩
  refine qQD (I2.le (Heap.le_trans l11 l12)) (lb := [10, -8]) (At.toRd (ws := []) A12) rfl rfl (by rw [eY]; decide) ⟨_, rfl, ?_⟩
  refine Br.yes (decide_eq_true eY) (Br.yes rfl (Br.yes rfl ?_))
  have l5c := Heap.le_trans l59 (Heap.le_trans l10 (Heap.le_trans l11 l12))
  refine qW2 (A5.le l5c) rfl (by decide) fun h13 q13 c13 l13 A13 => ⟨_, _, _, rfl, qr fun r14 h14 hr14 l14' A14 => ?_⟩
  refine qSx (A13.le l14') (E := [⟨0, 0, 5, 4⟩, ⟨0, 0, 9, 3⟩, ⟨0, 0, 12, 3⟩]) (At.toRd (ws := []) A14) rfl rfl rfl (by decide) ⟨_, rfl, ?_⟩
  refine Br.yes rfl (Br.yes rfl (Br.yes rfl ?_))
  refine qW2 (A10.le (Heap.le_trans l11 (Heap.le_trans l12 (Heap.le_trans l13 l14')))) rfl (by decide) fun h15 q15 c15 l15 A15 => ⟨_, _, _, rfl, qr fun r16 h16 hr16 l16 A16 => ?_⟩
  refine qSx (A15.le l16) (E := [⟨0, 0, 9, 2⟩]) (At.toRd (ws := []) A16) rfl rfl rfl (by decide) ⟨_, rfl, ?_⟩
  refine Br.yes rfl (Ret.mk (k _ ?_))
  exact Heap.le_trans l0 (Heap.le_trans l1 (Heap.le_trans l1a (Heap.le_trans l11 (Heap.le_trans l12 (Heap.le_trans l13 (Heap.le_trans l14' (Heap.le_trans l15 l16)))))))
end Go.Proofs.YtjihfieahkbohaaGreat

/- What lists of Ids say, as far as nets need it. -/
namespace Go.Proofs.YtjihfieahkbohaaGreat
open Go Go.Sy Go.Value
set_option linter.unusedVariables false
set_option linter.unusedSimpArgs false

theorem qXc {S : Bk} (ok : S.Ok) {i : Nat} {x : En} (h : S.L[i]? = some x) : qR2 S x.d.id = some x := by
  unfold qR2
  rw [ok.nd i x h]
  exact h
theorem qVd {S : Bk} (ok : S.Ok) (s : Int) : (qDf S s).Perm ((ofS s S.L).map fun x => x.d.id) := by
  by_cases h : s = 2
  · subst h
    have hp : ((ofS 2 S.L).mergeSort fun x y => decide (x.ord ≤ y.ord)).Perm (ofS 2 S.L) := List.mergeSort_perm _ _
    have hs := List.pairwise_mergeSort (le := fun (x y : En) => decide (x.ord ≤ y.ord)) (fun a b c h1 h2 => by simp at *; omega) (fun a b => by simp; omega) (ofS 2 S.L)
    rw [← qM0 ok hp (hs.imp fun h => of_decide_eq_true h)]
    exact hp.map _
  · unfold qDf
    rw [if_neg h]
    exact .refl _
end Go.Proofs.YtjihfieahkbohaaGreat

/- All nets of a currency are together 0: plainly. -/
namespace Go.Proofs.YtjihfieahkbohaaGreat
open Go Go.Sy Go.Value
set_option linter.unusedVariables false
set_option linter.unusedSimpArgs false

theorem qK0 (x : Int × Int × Int) (fl : List (Int × Int × Int)) (m c : Nat) : qDh (x :: fl) m c = (if x.1 = (m : Int) ∧ x.2.1 = (c : Int) then x.2.2 else 0) + qDh fl m c := by
  unfold qDh
  rw [show x :: fl = [x] ++ fl from rfl, qP6, qMp, show x = (x.1, x.2.1, x.2.2) from rfl, qS7]
  congr 1
  by_cases h : x.1 = (m : Int) ∧ x.2.1 = (c : Int)
  · rw [if_pos h, if_pos ⟨h.1.symm, h.2.symm⟩]
    simp [qP]
  · rw [if_neg h, if_neg fun e => h ⟨e.1.symm, e.2.symm⟩]; rfl
end Go.Proofs.YtjihfieahkbohaaGreat

/- Nets as the reference tells them: plainly. -/
namespace Go.Proofs.YtjihfieahkbohaaGreat
open Go Go.Sy Go.Value
set_option linter.unusedVariables false
set_option linter.unusedSimpArgs false

def wD (d : Dl) (m c : Nat) : Int := qDh (flD d) m c
theorem qZN (d : Dl) (m c : Nat) : wD d m c = (if d.sc = (c : Int) ∧ d.a = (m : Int) then -d.sell else 0) + (if d.sc = (c : Int) ∧ d.b = (m : Int) then d.sell else 0) + (if d.bc = (c : Int) ∧ d.a = (m : Int) then d.buy else 0) + (if d.bc = (c : Int) ∧ d.b = (m : Int) then -d.buy else 0) := by
  unfold wD flD
  rw [qK0, qK0, qK0, qK0, show qDh [] m c = 0 from rfl]
  dsimp only
  have cm : ∀ (p q : Prop) [Decidable p] [Decidable q] (x : Int), (if p ∧ q then x else 0) = if q ∧ p then x else 0 := fun p q _ _ x => by
    by_cases h : p ∧ q
    · rw [if_pos h, if_pos ⟨h.2, h.1⟩]
    · rw [if_neg h, if_neg fun e => h ⟨e.2, e.1⟩]
  rw [cm (d.a = (m : Int)) (d.sc = (c : Int)), cm (d.b = (m : Int)) (d.sc = (c : Int)), cm (d.b = (m : Int)) (d.bc = (c : Int)), cm (d.a = (m : Int)) (d.bc = (c : Int))]
  omega
def vEn (x : En) (m c : Nat) : Int := if x.st = 2 then wD x.d m c else 0
def qFY (L : List En) (m c : Nat) : Int := qP (L.map fun x => vEn x m c)
theorem qVT {L : List En} {j m c : Nat} {x : En} (hx : L[j]? = some x) : qFY (L.take (j + 1)) m c = qFY (L.take j) m c + vEn x m c := by
  unfold qFY
  rw [List.take_add_one, hx, List.map_append, qMp]
  congr 1
  show qP [vEn x m c] = _
  unfold qP qP
  omega
theorem qUl (a b : List (Int × Int × Int)) (m c : Nat) : qDh (a ++ b) m c = qDh a m c + qDh b m c := by unfold qDh; rw [qP6, qMp]
theorem qRS (m c : Nat) : ∀ l : List Dl, qDh (l.flatMap flD) m c = qP (l.map fun d => wD d m c)
  | [] => rfl
  | d :: l => by
    rw [List.flatMap_cons, qUl, List.map_cons, qP, qRS m c l]; rfl
theorem qO3 {S : Bk} (ok : S.Ok) : (dsM S).Perm ((S.L.filter fun x => decide (x.st = 2)).map fun x => x.d) := by
  have h := (qVd ok 2).map fun id => (qE9 S id).1
  rw [List.map_map] at h
  have e : (S.L.filter fun x => decide (x.st = 2)).map ((fun id => (qE9 S id).1) ∘ fun x => x.d.id) = (S.L.filter fun x => decide (x.st = 2)).map fun x => x.d := List.map_congr_left fun x hx => by
    have hx := (List.mem_filter.1 hx).1
    obtain ⟨i, hi⟩ := List.mem_iff_getElem?.1 hx
    have g := qXc ok hi
    show (qE9 S x.d.id).1 = x.d
    unfold qE9
    rw [g]
  rw [← e]
  exact h
theorem qQy {f : En → Int} : ∀ L : List En, qP ((L.filter fun x => decide (x.st = 2)).map f) = qP (L.map fun x => if x.st = 2 then f x else 0)
  | [] => rfl
  | x :: L => by
    rw [List.map_cons, qP, ← qQy L]
    by_cases h : x.st = 2
    · rw [List.filter_cons_of_pos (by simpa using h), List.map_cons, qP, if_pos h]
    · rw [List.filter_cons_of_neg (by simpa using h), if_neg h]; omega
theorem qS3 {S : Bk} (ok : S.Ok) (m c : Nat) : qDh (flS S) m c = qFY S.L m c := by
  unfold flS
  rw [qRS, qUc ((qO3 ok).map _), List.map_map]
  exact qQy S.L
def qLz (L : List En) (ms cs : Int) : Bool := (L.filter fun x => decide (x.st = 2)).all fun x => inD ms cs x.d
theorem qYO {S : Bk} (ok : S.Ok) (ms cs : Int) : (dsM S).all (inD ms cs) = qLz S.L ms cs := by
  unfold qLz
  rw [Bool.eq_iff_iff, List.all_eq_true, List.all_eq_true]
  constructor
  · intro h x hx
    exact h x.d ((qO3 ok).mem_iff.2 (List.mem_map.2 ⟨x, hx, rfl⟩))
  · intro h d hd
    obtain ⟨x, hx, rfl⟩ := List.mem_map.1 ((qO3 ok).mem_iff.1 hd)
    exact h x hx
theorem qUT {L : List En} {j : Nat} {x : En} {ms cs : Int} (hx : L[j]? = some x) : qLz (L.take (j + 1)) ms cs = (qLz (L.take j) ms cs && (decide (x.st ≠ 2) || inD ms cs x.d)) := by
  unfold qLz
  rw [List.take_add_one, hx, List.filter_append, List.all_append]
  congr 1
  rw [Option.toList_some]
  by_cases h : x.st = 2
  · rw [List.filter_cons_of_pos (by simpa using h), List.filter_nil]
    simp [h]
  · rw [List.filter_cons_of_neg (by simpa using h), List.filter_nil]
    simp [h]
def qJd (L : List En) (w m : Nat) : List Int := (List.range w).map fun c => qFY L m c
def qRN (L : List En) (n w : Nat) : Bool := (List.range n).all fun m => (List.range w).all fun c => qQY (qFY L m c)
theorem qRu {L : List En} {n w : Nat} : qRN L n w = true ↔ ∀ m, m < n → ∀ c, c < w → I64 (qFY L m c) := by
  unfold qRN
  rw [List.all_eq_true]
  constructor
  · intro h m hm c hc
    have h1 := h m (List.mem_range.2 hm)
    rw [List.all_eq_true] at h1
    have h2 := h1 c (List.mem_range.2 hc)
    unfold qQY at h2
    rw [decide_eq_true_eq] at h2
    exact h2
  · intro h m hm
    rw [List.all_eq_true]
    intro c hc
    unfold qQY
    rw [decide_eq_true_eq]
    exact h m (List.mem_range.1 hm) c (List.mem_range.1 hc)
theorem qVb {S : Bk} (ok : S.Ok) (n w : Nat) (h1 : 1 ≤ n ∧ n ≤ 16) (h2 : 1 ≤ w ∧ w ≤ 8) : qIm S n w = if qLz S.L n w = false then ([], 1) else if qRN S.L n w = false then ([], 3) else ((List.range n).map (qJd S.L w), 0) := by
  unfold qIm
  rw [if_neg (by omega), qYO ok, Int.toNat_natCast, Int.toNat_natCast]
  have er : qKO (flS S) w = qJd S.L w := by
    funext m
    unfold qKO qJd
    exact List.map_congr_left fun c _ => qS3 ok m c
  have ef : qJo (flS S) n w = qRN S.L n w := by
    unfold qJo qRN
    congr 1
    funext m
    congr 1
    funext c
    rw [qS3 ok]
  rw [er, ef]
end Go.Proofs.YtjihfieahkbohaaGreat

/- Rows of one's own, behind each other. -/
namespace Go.Proofs.YtjihfieahkbohaaGreat
open Go Go.Sy Go.Value
set_option linter.unusedVariables false
set_option linter.unusedSimpArgs false

/-! ### what was paid: rows of one's own -/
structure Pd (g h : Heap) (pp : Option Addr) (pc : Nat) (Q : List NRow) : Prop where
  own : OwnL g h [.slice none 0 0] pp pc (Q.map nrV)
  row : ∀ (i : Nat) (x : NRow), Q[i]? = some x → OwnL g h [.int .i64 0] x.p x.c (qf .i64 x.l)
  ne : ∀ (i : Nat) (x : NRow) (b : Nat), Q[i]? = some x → x.p = some ⟨b, 0, none⟩ → pp ≠ some ⟨b, 0, none⟩
  dj : ∀ (i j : Nat) (x y : NRow) (b : Nat), i ≠ j → Q[i]? = some x → Q[j]? = some y → x.p = some ⟨b, 0, none⟩ → y.p ≠ some ⟨b, 0, none⟩
section
variable {g h : Heap} {pp : Option Addr} {pc : Nat} {Q : List NRow}
theorem Pd.le (P : Pd g h pp pc Q) {h' : Heap} (l : h.le h') : Pd g h' pp pc Q := ⟨P.own.le l, fun i x e => (P.row i x e).le l, P.ne, P.dj⟩
theorem Pd.nets (P : Pd g h pp pc Q) : Nets h pp Q := ⟨P.own.rd, fun x hx => by
  obtain ⟨i, hi⟩ := List.mem_iff_getElem?.1 hx
  exact (P.row i x hi).rd⟩
theorem OwnL.not_new {h0 h : Heap} {z : List Value} {p : Option Addr} {c b : Nat} {vs xs : List Value} (O : OwnL h0 h z p c vs) (a : At h0 b xs) : p ≠ some ⟨b, 0, none⟩ := fun e => by
  rcases O with ⟨_, e2, _⟩ | ⟨s, sp, e2, e0, _, _⟩
  · rw [e2] at e; cases e
  · rw [e2] at e; cases e
    obtain ⟨t, a⟩ := a
    rw [e0] at a; cases a
theorem OwnL.at_ {h0 h : Heap} {z : List Value} {c b : Nat} {vs : List Value} (O : OwnL h0 h z (some ⟨b, 0, none⟩) c vs) : ∃ xs, At h b xs := by
  rcases O with ⟨_, e2, _⟩ | ⟨s, sp, e2, _, a, _⟩
  · cases e2
  · cases e2; exact ⟨_, a⟩
theorem Pd.push (P : Pd g h pp pc Q) (lg : g.le h) {h1 : Heap} (l1 : h.le h1) {rp : Option Addr} {rc : Nat} {l : List Int} (O : OwnL h h1 [.int .i64 0] rp rc (qf .i64 l)) (hQ : Q.length ≤ 1000) {T T2 : TypeId} {J : Option Addr → Nat → Heap → Prop}
    (k : ∀ h' pp' pc', g.le h' → Pd g h' pp' pc' (Q ++ [⟨rp, rc, l⟩]) → J pp' pc' h') : qO h1 [.slice rp l.length rc] T fun r h2 => AppA [.slice none 0 0] T2 h2 pp Q.length pc 1 (some ⟨r, 0, none⟩) J := by
  refine qJi (ws := [.slice rp l.length rc]) (P.own.le l1) (by decide) (Heap.le_trans lg l1) (by omega) rfl rfl (by rw [List.length_map, List.length_singleton, Nat.mul_one]) fun r h2 p' c' h' hr l2 l' O' keep how => ?_
  have P2 := P.le (Heap.le_trans l1 l2)
  have O2 := O.le l2
  have hnew : ∀ b, rp = some ⟨b, 0, none⟩ → pp ≠ some ⟨b, 0, none⟩ := fun b e e2 => by
    have O' := P.own
    rw [e2] at O'
    obtain ⟨xs, a⟩ := OwnL.at_ O'
    exact OwnL.not_new O a e
  have mvr : ∀ {p c vs}, OwnL g h2 [.int .i64 0] p c vs → (∀ b, p = some ⟨b, 0, none⟩ → pp ≠ some ⟨b, 0, none⟩) → OwnL g h' [.int .i64 0] p c vs := fun X hne => X.mv fun b xs e a => qKD keep a (hne b e)
  have Og : OwnL g h2 [.int .i64 0] rp rc (qf .i64 l) := by
    rcases O2 with o | ⟨s, sp, e, e0, a, q⟩
    · exact .inl o
    · exact .inr ⟨s, sp, e, qAk lg e0, a, q⟩
  have get : ∀ (i : Nat) (x : NRow), (Q ++ [⟨rp, rc, l⟩])[i]? = some x → Q[i]? = some x ∨ (i = Q.length ∧ x = ⟨rp, rc, l⟩) := fun i x e => by
    rcases Nat.lt_or_ge i Q.length with hi | hi
    · rw [List.getElem?_append_left hi] at e; exact .inl e
    · rw [List.getElem?_append_right hi] at e
      by_cases h0 : i - Q.length = 0
      · rw [h0] at e
        cases e
        exact .inr ⟨by omega, rfl⟩
      · rw [List.getElem?_eq_none (by simp; omega)] at e; cases e
  refine k h' p' c' l' ⟨by rw [List.map_append]; exact O', fun i x e => ?_, fun i x b e e2 => ?_, fun i j x y b hij e1 e2 e3 => ?_⟩
  · rcases get i x e with e | ⟨_, rfl⟩
    · exact mvr (P2.row i x e) fun b e2 => P2.ne i x b e e2
    · exact mvr Og hnew
  · rcases get i x e with e | ⟨_, rfl⟩
    · have X := P2.row i x e
      rw [e2] at X
      obtain ⟨xs, a⟩ := OwnL.at_ X
      exact qK3 how a (P2.ne i x b e e2)
    · have X := O2
      rw [show rp = some ⟨b, 0, none⟩ from e2] at X
      obtain ⟨xs, a⟩ := OwnL.at_ X
      exact qK3 how a (hnew b e2)
  · rcases get i x e1 with e1 | ⟨h1, rfl⟩ <;> rcases get j y e2 with e2 | ⟨h2, rfl⟩
    · exact P2.dj i j x y b hij e1 e2 e3
    · have X := P.row i x e1
      rw [e3] at X
      obtain ⟨xs, a⟩ := OwnL.at_ X
      exact OwnL.not_new O a
    · intro e4
      have X := P.row j y e2
      rw [e4] at X
      obtain ⟨xs, a⟩ := OwnL.at_ X
      exact OwnL.not_new O a e3
    · omega
end
end Go.Proofs.YtjihfieahkbohaaGreat

/- The reference's book of instructions in memory. -/
namespace Go.Proofs.YtjihfieahkbohaaGreat
open Go Go.Sy Go.Value
set_option linter.unusedVariables false
set_option linter.unusedSimpArgs false

def byA (x : En) : Bool := x.ask % 2 == 1
def byB (x : En) : Bool := x.ask / 2 == 1
def rV (x : En) : List Value := [.int .i64 x.d.id, .int .i64 x.d.a, .int .i64 x.d.b, .int .i64 x.d.sc, .int .i64 x.d.bc, .int .i64 x.d.sell, .int .i64 x.d.buy, .int .i64 x.st, .bool (byA x), .bool (byB x), .int .i64 x.ord]
theorem qEW (x : En) : (rV x).length = 11 := rfl
def z11 : List Value := [.int .i64 0, .int .i64 0, .int .i64 0, .int .i64 0, .int .i64 0, .int .i64 0, .int .i64 0, .int .i64 0, .bool false, .bool false, .int .i64 0]
theorem qUp {L : List En} {i o : Nat} {x y : En} {ws sp : List Value} (hx : L[i]? = some x) (ho : o + ws.length ≤ 11) (e : qBQ (rV x) o ws = rV y) : qBQ (L.flatMap rV ++ sp) (i * 11 + o) ws = (L.set i y).flatMap rV ++ sp := by
  have hi := (List.getElem?_eq_some_iff.1 hx).1
  have hxi := (List.getElem?_eq_some_iff.1 hx).2
  have es : L = L.take i ++ x :: L.drop (i + 1) := by rw [← hxi, ← List.drop_eq_getElem_cons hi, List.take_append_drop]
  have lt : ((L.take i).flatMap rV).length = i * 11 := by rw [qp qEW, List.length_take]; congr 1; omega
  rw [List.set_eq_take_append_cons_drop, if_pos hi]
  conv => lhs; rw [es]
  rw [List.flatMap_append, List.flatMap_append, List.flatMap_cons, List.flatMap_cons]
  simp only [List.append_assoc]
  rw [← lt, qPB, qPN (by rw [qEW]; exact ho), e]
structure RBk (h : Heap) (q : Nat) (S : Bk) (lp : Option Addr) (c : Nat) : Prop where
  ap : At h q [.int .i64 S.mem, .int .i64 S.cur, .slice lp S.L.length c, .int .i64 (S.mat : Int)]
  ol : OwnL qL1 h z11 lp c (S.L.flatMap rV)
  np : lp ≠ some ⟨q, 0, none⟩
def RB (h : Heap) (q : Nat) (S : Bk) : Prop := S.Ok ∧ ∃ lp c, RBk h q S lp c
section
variable {h h' : Heap} {q : Nat} {S : Bk} {lp : Option Addr} {c : Nat}
theorem RBk.le (B : RBk h q S lp c) (l : h.le h') : RBk h' q S lp c := ⟨B.ap.le l, B.ol.le l, B.np⟩
theorem RB.le (B : RB h q S) (l : h.le h') : RB h' q S := ⟨B.1, B.2.elim fun lp ⟨c, x⟩ => ⟨lp, c, x.le l⟩⟩
theorem RBk.arr (B : RBk h q S lp c) : Arr rV h lp S.L := B.ol.rd
end
end Go.Proofs.YtjihfieahkbohaaGreat

/- The reference's book of instructions: made, asked, changed. -/
namespace Go.Proofs.YtjihfieahkbohaaGreat
open Go Go.Sy Go.Value
set_option linter.unusedVariables false
set_option linter.unusedSimpArgs false

def rA (x : En) : Value := agg #[.int .i64 x.d.id, .int .i64 x.d.a, .int .i64 x.d.b, .int .i64 x.d.sc, .int .i64 x.d.bc, .int .i64 x.d.sell, .int .i64 x.d.buy, .int .i64 x.st, .bool (byA x), .bool (byB x), .int .i64 x.ord]
theorem qNs : ∀ (a b : List Value), qv a = true → qv b = true → qv (a ++ b) = true
  | [], b, _, h => h
  | v :: a, b, h1, h2 => by
    rw [List.cons_append]
    unfold qv at h1 ⊢
    split at h1
    · exact qNs a b h1 h2
    · cases h1
theorem qKQ : ∀ L : List En, qv (L.flatMap rV) = true
  | [] => rfl
  | x :: L => by rw [List.flatMap_cons]; exact qNs _ _ rfl (qKQ L)
def atI (id : Int) (L : List En) : Int := match qAl id L with
  | some i => (i : Int)
  | none => -1
section
variable {h : Heap} {K : Value → Heap → Prop} {q : Nat} {S : Bk} {lp : Option Addr} {c : Nat}
theorem qX2 {m cu : Int} (k0 : ¬ ((1 ≤ m ∧ m ≤ 16) ∧ 1 ≤ cu ∧ cu ≤ 8) → K (tuple #[pointer none, .int .i64 1]) h)
    (k1 : (1 ≤ m ∧ m ≤ 16) ∧ 1 ≤ cu ∧ cu ≤ 8 → ∀ p h', h.le h' → RB h' p ⟨m, cu, [], 0⟩ → K (tuple #[pointer (some ⟨p, 0, none⟩), .int .i64 0]) h') : CallA Tryz.prog qK9 [.int .i64 m, .int .i64 cu] h K := by
  refine qSQ _ _ _ _ ?_
  unfold qOF
  refine Br.dec (fun g => Ret.mk (k0 (by omega))) fun g1 => Br.dec (fun g => Ret.mk (k0 (by omega))) fun g2 => Br.dec (fun g => Ret.mk (k0 (by omega))) fun g3 => Br.dec (fun g => Ret.mk (k0 (by omega))) fun g4 => ?_
  refine qr fun r2 h2 hr2 l2 A2 => Ret.mk (k1 (by omega) _ _ l2 ⟨?_, none, 0, ⟨A2, .nil _ _ _, fun e => by cases e⟩⟩)
  exact { m1 := by dsimp only; omega, c1 := by dsimp only; omega, n := Nat.zero_le _, may := fun _ x => (by cases x), i64 := fun _ x => (by cases x), nd := fun i x e => (by simp at e), could := fun _ x => (by cases x), ords := .refl _ }
theorem qYn (B : RBk h q S lp c) {d : Dl} (k : ∀ h', h.le h' → K (.bool (decide (qHP S.mem S.cur d))) h') : CallA Tryz.prog qHH [pointer (some ⟨q, 0, none⟩), dA d] h K := by
  refine qOn _ _ _ _ _ _ _ _ _ _ ?_
  unfold qJ6
  refine qr fun r h1 hr l1 A => ?_
  have B1 := B.le l1
  have no : ¬ qHP S.mem S.cur d → Ret h1 K (.bool false) := fun g => by
    have := k h1 l1
    rw [decide_eq_false g] at this; exact Ret.mk this
  have yes : qHP S.mem S.cur d → Ret h1 K (.bool true) := fun g => by
    have := k h1 l1
    rw [decide_eq_true g] at this; exact Ret.mk this
  have tw : ∀ {a b m : Int}, qLV a b m = true ↔ 0 ≤ a ∧ 0 ≤ b ∧ a < m ∧ b < m ∧ a ≠ b := by intro a b m; unfold qLV; rw [decide_eq_true_eq]
  refine ⟨_, A.cell rfl, Br.dec (fun g => no fun m => by have := m.1; omega) fun g1 => ⟨_, A.cell rfl, Br.dec (fun g => no fun m => by have := m.2.1; omega) fun g2 => ⟨_, A.cell rfl, Br.dec (fun g => no fun m => by have := m.2.2.2.2.1; omega) fun g3 => ⟨_, A.cell rfl, Br.dec (fun g => no fun m => by have := m.2.2.2.2.2; omega) fun g4 => ?_⟩⟩⟩⟩
  refine ⟨_, A.cell rfl, _, A.cell rfl, Br.intro (fun g => no fun m => (tw.1 m.2.2.1).2.2.2.2 (by simpa using g)) fun g5 => ⟨_, A.cell rfl, _, A.cell rfl, Br.intro (fun g => no fun m => (tw.1 m.2.2.2.1).2.2.2.2 (by simpa using g)) fun g6 => ?_⟩⟩
  have g5 : d.a ≠ d.b := by simpa using g5
  have g6 : d.sc ≠ d.bc := by simpa using g6
  refine ⟨_, A.cell rfl, Br.dec (fun g => no fun m => by have := tw.1 m.2.2.1; omega) fun g7 => ⟨_, A.cell rfl, qB rfl ⟨_, B1.ap.cell rfl, Br.dec (fun g => no fun m => by have := tw.1 m.2.2.1; omega) fun g8 => ?_⟩⟩⟩
  refine ⟨_, A.cell rfl, Br.dec (fun g => no fun m => by have := tw.1 m.2.2.1; omega) fun g9 => ⟨_, A.cell rfl, qB rfl ⟨_, B1.ap.cell rfl, Br.dec (fun g => no fun m => by have := tw.1 m.2.2.1; omega) fun g10 => ?_⟩⟩⟩
  refine ⟨_, A.cell rfl, Br.dec (fun g11 => ⟨_, A.cell rfl, qB rfl ⟨_, B1.ap.cell rfl, Br.dec (fun g12 => ⟨_, A.cell rfl, Br.dec (fun g13 => ⟨_, A.cell rfl, qB rfl ⟨_, B1.ap.cell rfl, ?_⟩⟩) fun g => no fun m => by have := tw.1 m.2.2.2.1; omega⟩) fun g => no fun m => by have := tw.1 m.2.2.2.1; omega⟩⟩) fun g => no fun m => by have := tw.1 m.2.2.2.1; omega⟩
  by_cases g14 : d.bc < S.cur
  · rw [decide_eq_true g14]
    exact yes ⟨by omega, by omega, tw.2 ⟨by omega, by omega, by omega, by omega, g5⟩, tw.2 ⟨by omega, by omega, g12, g14, g6⟩, by omega, by omega⟩
  · rw [decide_eq_false g14]
    exact no fun m => g14 (tw.1 m.2.2.2.1).2.2.2.1
theorem qZP (B : RBk h q S lp c) {id : Int} (hn : S.L.length ≤ 1000) (k : K (.int .i64 (atI id S.L)) h) : ∀ (m j : Nat), m + j = S.L.length → qAl id S.L = (qAl id (S.L.drop j)).map (· + j) → qGC (some ⟨q, 0, none⟩) id (j : Int) h K := by
  intro m
  induction m with
  | zero =>
    intro j hj e
    refine qJE _ _ _ _ _ ?_
    unfold qG8
    rw [List.drop_eq_nil_of_le (by omega)] at e
    have e : qAl id S.L = none := e
    unfold atI at k
    rw [e] at k
    exact qB rfl ⟨_, _, _, B.ap.cell rfl, Br.no (by simp; omega) (Ret.mk k)⟩
  | succ m ih =>
    intro j hj e
    refine qJE _ _ _ _ _ ?_
    unfold qG8
    have hjl : j < S.L.length := by omega
    rw [List.drop_eq_getElem_cons hjl, qAl] at e
    refine qB rfl ⟨_, _, _, B.ap.cell rfl, Br.yes (decide_eq_true (by omega)) (qB rfl ⟨_, _, _, B.ap.cell rfl, ax qEW B.arr rfl rfl (List.getElem?_eq_getElem hjl) (by decide) fun b o hb hc => ⟨_, hc 0 (by decide), Br.intro (fun g => ?_) fun g => ?_⟩⟩)⟩
    · rw [if_pos (by simpa using g)] at e
      have e : qAl id S.L = some (0 + j) := e
      unfold atI at k
      rw [e, Nat.zero_add] at k
      exact Ret.mk k
    · rw [if_neg (by simpa using g)] at e
      rw [qK (n := (j : Int) + 1) (by omega) (by omega)]
      refine ih (j + 1) (by omega) ?_
      rw [e]
      cases qAl id (S.L.drop (j + 1)) with
      | none => rfl
      | some i => show some (i + 1 + j) = some (i + (j + 1)); congr 1; omega
theorem qZQ (B : RBk h q S lp c) {id : Int} (hn : S.L.length ≤ 1000) (k : K (.int .i64 (atI id S.L)) h) : CallA Tryz.prog qHu [pointer (some ⟨q, 0, none⟩), .int .i64 id] h K := by
  refine qO7 _ _ _ _ ?_
  unfold qKn
  refine qZP B hn k S.L.length 0 (by omega) ?_
  rw [List.drop_zero]
  cases qAl id S.L <;> rfl
theorem qX8 (B : RBk h q S lp c) {i : Nat} {x y : En} (hx : S.L[i]? = some x) (hn : S.L.length ≤ 1000)
    (k : ∀ h' lp' c', RBk h' q { S with L := S.L.set i y } lp' c' → (∀ b xs, At h b xs → b ≠ q → At h' b xs ∧ lp' ≠ some ⟨b, 0, none⟩) → K (tuple #[]) h') :
    CallA Tryz.prog qJ9 [pointer (some ⟨q, 0, none⟩), .int .i64 (i : Int), rA y] h K := by
  refine qOf _ _ _ _ _ _ _ _ _ _ _ _ _ _ _ ?_
  unfold qJ4
  refine qr fun r1 h1 hr1 l1 A1 => ?_
  intro r2 hr2
  have ow := qQL (T := 76) (z := z11) hr2
  have l2 : h1.le (h1.ins r2 (.cells [].toArray 76 (0, 0))) := qt hr2
  have a2 := At.new h1 r2 [] 76
  generalize h1.ins r2 (.cells [].toArray 76 (0, 0)) = h2 at *
  have B2 := (B.le l1).le l2
  have hi := (List.getElem?_eq_some_iff.1 hx).1
  refine qB rfl ⟨_, _, _, B2.ap.cell rfl, ?_⟩
  refine ow.push (n := S.L.length) (ws := S.L.flatMap rV) (by decide) l2 (by omega) (by rw [qp qEW]; rfl) B2.arr (qKQ _) rfl fun p' c' h3 l3 ow3 keep how => ?_
  have At3 : ∀ b xs, At h1 b xs → At h3 b xs := fun b xs a => a.le l3
  have A3 := At3 _ _ A1
  refine ⟨_, A3.cell rfl, _, A3.cell rfl, _, A3.cell rfl, _, A3.cell rfl, _, A3.cell rfl, _, A3.cell rfl, _, A3.cell rfl, _, A3.cell rfl, _, A3.cell rfl, _, A3.cell rfl, _, A3.cell rfl, by omega, by omega, ?_⟩
  rcases ow3 with ⟨e, _, _⟩ | ⟨s, sp, rfl, hs, a3, ek⟩
  · have := congrArg List.length e
    rw [List.nil_append, qp qEW, List.length_nil] at this
    omega
  rw [List.nil_append] at a3 ek
  have hne : ∀ b xs, At h1 b xs → b ≠ s := fun b xs a g => by subst g; exact a.ne hs rfl
  have aq := At3 _ _ (B.le l1).ap
  have nq := hne _ _ (B.le l1).ap
  refine qB rfl ?_
  rw [Int.toNat_natCast, Nat.zero_add]
  refine ⟨a3.canSt (by rw [List.length_append, qp qEW]; omega), qB rfl ⟨(aq.set_ne nq).canSt (by simp), Ret.mk (k _ (some ⟨s, 0, none⟩) c' ⟨?_, .inr ⟨s, sp, rfl, rfl, ?_, ?_⟩, fun e => nq (by simpa using e.symm)⟩ fun b xs a hb => ?_)⟩⟩
  · have := (aq.set_ne (o := i * 11) (ws := rV y) nq).set (o := 2) (ws := [.slice (some ⟨s, 0, none⟩) (0 + S.L.length) c'])
    show At _ q [.int .i64 S.mem, .int .i64 S.cur, .slice (some ⟨s, 0, none⟩) (S.L.set i y).length c', .int .i64 (S.mat : Int)]
    rw [List.length_set]
    simp only [Nat.zero_add] at this ⊢
    exact this
  · have := a3.set (o := i * 11 + 0) (ws := rV y)
    rw [qUp hx (by rw [qEW]; omega) (y := y) rfl] at this
    exact this.set_ne (Ne.symm nq)
  · rw [ek, List.length_append, List.length_append, qp qEW, qp qEW, List.length_set]
  · have h1b := a.le l1
    exact ⟨((At3 _ _ h1b).set_ne (hne _ _ h1b)).set_ne hb, fun e => hne _ _ h1b (by simpa using e.symm)⟩
end
end Go.Proofs.YtjihfieahkbohaaGreat
