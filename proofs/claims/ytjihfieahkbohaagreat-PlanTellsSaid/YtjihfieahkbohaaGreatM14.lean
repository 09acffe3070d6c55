import Derived.Test.YtjihfieahkbohaaGreatM11
import Derived.Test.YtjihfieahkbohaaGreatM06
import Derived.Test.YtjihfieahkbohaaGreatM02
import Derived.Test.YtjihfieahkbohaaGreatM05
import Derived.Test.YtjihfieahkbohaaGreatM10
import Derived.Test.YtjihfieahkbohaaGreatM13
/- Who is behind, whole: what plan.Behind answers. -/
namespace Go.Proofs.YtjihfieahkbohaaGreat
open Go Go.Sy Go.Value
set_option linter.unusedVariables false
set_option linter.unusedSimpArgs false

theorem qYQ {h : Heap} {q : Option Addr} {W : List Du} {j lc : Nat} (A : Arr uV h q W) (hj : j ≤ W.length) (hc : W.length ≤ lc) : Arr uV h (qGt q j lc 4) (W.drop j) := by
  by_cases e : W.drop j = []
  · rw [e]; exact .inl rfl
  have hj2 : j < W.length := by
    rcases Nat.lt_or_ge j W.length with h | h
    · exact h
    · exact (e (List.drop_eq_nil_of_le h)).elim
  rcases A with A | ⟨b, o, e1, A⟩
  · have := congrArg List.length A
    rw [qAO qAp] at this
    simp at this; omega
  unfold qGt
  rw [if_neg (by omega), e1]
  refine .inr ⟨b, o + j * 4, by rw [Option.map_some, Addr.add_none], fun i hi => ?_⟩
  have hl := qAO qAp (W.drop j)
  rw [hl, List.length_drop] at hi
  have hw := qAO qAp W
  have := A (j * 4 + i) (by rw [hw]; omega)
  rw [← Nat.add_assoc] at this
  rw [this]
  have es : W.flatMap uV = (W.take j).flatMap uV ++ (W.drop j).flatMap uV := by rw [← List.flatMap_append, List.take_append_drop]
  rw [es, List.getElem?_append_right (by rw [qAO qAp, List.length_take]; omega), qAO qAp, List.length_take]
  congr 1
  omega
section
variable {g : Heap} {K : Value → Heap → Prop} {pp : Option Addr} {PL : List NRow} {pc : Nat} {now : Int}
theorem qaa (N : Nets g pp PL) (hP : ∀ y ∈ PL, qAq y.l) {f0 : Nat} {W0 : List Du} (k : ∀ h' op oc, g.le h' → Arr uV h' op (qEj (mxN PL) now f0 W0 []).1 → K (tuple #[slice op (qEj (mxN PL) now f0 W0 []).1.length oc, .int .i64 (qEj (mxN PL) now f0 W0 []).2]) h') :
    ∀ (f : Nat) (W : List Du) (q : Option Addr) (lc : Nat) (h : Heap) (out : List Du) (op : Option Addr) (oc : Nat), W.length ≤ f → W.length ≤ 100000 → W.length ≤ lc → (∀ y ∈ W, okU y) → Arr uV g q W → g.le h → OwnL g h z4 op oc (out.flatMap uV) → out.length + W.length ≤ 200000 →
    qEj (mxN PL) now f0 W0 [] = qEj (mxN PL) now f W out → qFB pp PL.length pc now q W.length lc op out.length oc h K := by
  intro f
  induction f with
  | zero =>
    intro W q lc h out op oc h1 h2 h3 ho A l O hl e
    refine qMM _ _ _ _ _ _ _ _ _ _ _ _ ?_
    unfold qJQ
    have hW : W = [] := List.length_eq_zero_iff.1 (by omega)
    subst hW
    rw [e] at k
    exact Br.no (by decide) (Ret.mk (k h op oc l O.rd))
  | succ f ih =>
    intro W q lc h out op oc h1 h2 h3 ho A l O hl e
    refine qMM _ _ _ _ _ _ _ _ _ _ _ _ ?_
    unfold qJQ
    cases hW : W with
    | nil =>
      subst hW
      rw [e] at k
      exact Br.no (by decide) (Ret.mk (k h op oc l O.rd))
    | cons x R =>
    rw [← hW]
    have hx0 : W[0]? = some x := by rw [hW]; rfl
    have hx := ho x (by rw [hW]; exact List.mem_cons_self ..)
    have hx' := hx
    unfold okU at hx'
    have hWl : W.length = R.length + 1 := by rw [hW]; rfl
    have e' : qEj (mxN PL) now (f + 1) W out = match qHk x x.n 1 R with
      | none => ([], 3)
      | some (s, j) => qEj (mxN PL) now f (W.drop j) (out ++ qEF (mxN PL) now x s) := by rw [hW]; rfl
    rw [e'] at e
    have A0 := A.le l
    refine Br.yes (decide_eq_true (by omega)) ⟨by omega, by omega, ?_⟩
    have ld := ldX (J := fun a b c d => qL h [.int .i64 0, .int .i64 0, .int .i64 0, .int .i64 0] 39 fun r h => h.canSt r 0 4 ∧ ∃ n_4 : Int, (h.setN r 0 [.int .i64 a, .int .i64 b, .int .i64 c, .int .i64 d]).cell r 3 = some (.int .i64 n_4) ∧
      qGX pp PL.length pc now q W.length lc op out.length oc r 1 n_4 (h.setN r 0 [.int .i64 a, .int .i64 b, .int .i64 c, .int .i64 d]) K) A0 rfl (j := 0) (i := 0) rfl hx0 ?_
    · have ld := ld.2.2
      simpa using ld
    refine qFm (vs := uV x) rfl fun r h4 hr l4 A4 cs4 => ⟨cs4, _, A4.cell rfl, ?_⟩
    have lg := Heap.le_trans l l4
    have O4 := O.le l4
    refine qao hW A ho (by omega) lg A4 (fun h' l' hr => ?_) (fun h' s j l' hr => ?_) R 1 x.n _ (Heap.le_refl _) (by rw [hW]; rfl) (by omega) (by omega) (by omega) rfl
    · rw [hr] at e
      dsimp only at e
      rw [e] at k
      exact k h' none 0 (Heap.le_trans lg l') (.inl rfl)
    · rw [hr] at e
      dsimp only at e
      obtain ⟨r1, r2, r3, r4⟩ := qRB (fun y hy => ho y (by rw [hW]; exact List.mem_cons_of_mem _ hy)) (by omega) (by omega) hr
      refine qXx (A4.le l') (N.le (Heap.le_trans lg l')) hx ⟨r1, r2⟩ hP ?_
      refine qXJ (A4.le l') (Heap.le_trans lg l') (O4.le l') (by omega) fun h5 op' oc' l5 O5 => ?_
      refine qON _ _ _ _ _ _ _ _ _ _ _ _ _ ?_
      unfold qKE
      refine ⟨by omega, by omega, ?_⟩
      rw [Int.toNat_natCast]
      have hil : (qEF (mxN PL) now x s).length ≤ 1 := by unfold qEF; split <;> simp
      have hdl : (W.drop j).length = W.length - j := List.length_drop ..
      have := ih (W.drop j) (qGt q j lc 4) (lc - j) h5 (out ++ qEF (mxN PL) now x s) op' oc' (by omega) (by omega) (by omega) (fun y hy => ho y (List.mem_of_mem_drop hy)) (qYQ A (by omega) h3) l5 O5 (by rw [List.length_append]; omega) e
      rw [hdl] at this
      exact this
theorem qak {q : Option Addr} {D : List Du} {n dc : Nat} (A : Arr uV g q D) (hn : D.length = n) (hs : n ≤ 4096) {PNn : Nat}
    (k : ∀ h' p c, g.le h' → OwnL g h' z4 p c ((D.filter fun x => decide (x.t ≤ now)).flatMap uV) → CallA Tryz.prog qz [slice p (D.filter fun x => decide (x.t ≤ now)).length c, func (Fn.func qJ) #[] #[]] h' fun v h => v = tuple #[] ∧ qFB pp PNn pc now p (D.filter fun x => decide (x.t ≤ now)).length c none 0 0 h K) :
    ∀ (m j : Nat) (h : Heap) (p : Option Addr) (c : Nat), m + j = n → g.le h → OwnL g h z4 p c (((D.take j).filter fun x => decide (x.t ≤ now)).flatMap uV) →
    qGZ pp PNn pc now p ((D.take j).filter fun x => decide (x.t ≤ now)).length c q n dc n j h K := by
  intro m
  induction m with
  | zero =>
    intro j h p c hj l O
    refine qMR _ _ _ _ _ _ _ _ _ _ _ _ _ _ ?_
    unfold qJY
    rw [List.take_of_length_le (by omega)] at O ⊢
    exact Br.no (by simp; omega) (k h p c l O)
  | succ m ih =>
    intro j h p c hj l O
    refine qMR _ _ _ _ _ _ _ _ _ _ _ _ _ _ ?_
    unfold qJY
    have hx : D[j]? = some D[j] := List.getElem?_eq_getElem (by omega)
    have tk : D.take (j + 1) = D.take j ++ [D[j]] := by rw [List.take_add_one, hx]; rfl
    generalize D[j] = x at *
    have hlen : ((D.take j).filter fun x => decide (x.t ≤ now)).length ≤ j := Nat.le_trans (List.length_filter_le _ _) (by rw [List.length_take]; omega)
    refine Br.yes (by simp; omega) (ldX (A.le l) hn rfl hx (qFm (vs := uV x) rfl fun r h4 hr l4 A4 cs4 => ⟨cs4, _, A4.cell rfl, ?_⟩))
    have lg := Heap.le_trans l l4
    have O4 := O.le l4
    rw [w1 (j := j) (by omega)]
    refine Br.dec (fun g1 => ?_) fun g1 => ?_
    · refine ldU (a := 0) (fun o ho => A4.cellO ho) (qKm (ws := uV x) O4 (by decide) lg (by omega) rfl rfl (by rw [qAO qAp]; rfl) fun r h5 p' c' h' hr l5 l' O' keep how => ?_)
      have e : (D.take (j + 1)).filter (fun x => decide (x.t ≤ now)) = (D.take j).filter (fun x => decide (x.t ≤ now)) ++ [x] := by rw [tk, List.filter_append, List.filter_cons_of_pos (by simpa using g1)]; rfl
      have := ih (j + 1) h' p' c' (by omega) l' (by rw [e, List.flatMap_append, List.flatMap_cons, List.flatMap_nil, List.append_nil]; exact O')
      rw [e, List.length_append] at this
      exact this
    · have e : (D.take (j + 1)).filter (fun x => decide (x.t ≤ now)) = (D.take j).filter (fun x => decide (x.t ≤ now)) := by rw [tk, List.filter_append, List.filter_cons_of_neg (by simpa using g1)]; simp
      have := ih (j + 1) _ p c (by omega) lg (by rw [e]; exact O4)
      rw [e] at this
      exact this
theorem qS9 {h : Heap} {q : Option Addr} {D : List Du} {dc : Nat} (A : Arr uV h q D) (hs : D.length ≤ 1000000) (hD : ∀ x ∈ D, I64 x.m ∧ I64 x.c ∧ I64 x.t ∧ I64 x.n) (N : Nets h pp PL) (hP : ∀ y ∈ PL, qAq y.l)
    (k4 : 4096 < D.length → K (tuple #[slice none 0 0, .int .i64 4]) h) (k1 : D.length ≤ 4096 → D.any qEO = true → ∀ h', h.le h' → K (tuple #[slice none 0 0, .int .i64 1]) h')
    (k : D.length ≤ 4096 → D.any qEO = false → ∀ (W : List Du) h' q' c', W.Perm (D.filter fun x => decide (x.t ≤ now)) → (W.Pairwise fun x y => ¬ (y.m < x.m ∨ (y.m = x.m ∧ y.c < x.c))) → (∀ y ∈ W, okU y) → h.le h' → Arr uV h' q' (qEj (mxN PL) now W.length W []).1 →
      K (tuple #[slice q' (qEj (mxN PL) now W.length W []).1.length c', .int .i64 (qEj (mxN PL) now W.length W []).2]) h') :
    CallA Tryz.prog qGy [slice q D.length dc, slice pp PL.length pc, .int .i64 now] h K := by
  refine qSC _ _ _ _ _ _ _ _ _ ?_
  unfold qNM
  refine Br.dec (fun g1 => Ret.mk (k4 (by omega))) fun g1 => qXz A rfl hs fun h1 l1 => ⟨_, rfl, ?_⟩
  cases hb : D.any qEO with
  | true => exact Br.yes rfl (Ret.mk (k1 (by omega) hb h1 l1))
  | false =>
  have k := k (by omega) hb
  have ok : ∀ y ∈ D.filter (fun x => decide (x.t ≤ now)), okU y := fun y hy => by
    have hy := (List.mem_filter.1 hy).1
    have h1 := hD y hy
    rw [List.any_eq_false] at hb
    have h2 := hb y hy
    unfold qEO at h2
    rw [decide_eq_true_eq] at h2
    unfold okU I64 at *
    omega
  have hfl : (D.filter fun x => decide (x.t ≤ now)).length ≤ 4096 := Nat.le_trans (List.length_filter_le _ _) (by omega)
  refine Br.no rfl (qak (g := h1) (A.le l1) rfl (by omega) (fun h' p c l' O => ?_) D.length 0 h1 none 0 (by omega) (Heap.le_refl _) (.nil _ _ _))
  generalize hF : D.filter (fun x => decide (x.t ≤ now)) = F at *
  have go : ∀ h2 W q lc, h1.le h2 → W.Perm F → (W.Pairwise fun x y => ¬ (y.m < x.m ∨ (y.m = x.m ∧ y.c < x.c))) → W.length ≤ lc → Arr uV h2 q W → qFB pp PL.length pc now q F.length lc none 0 0 h2 K := fun h2 W q lc l2 hp hs hc A2 => by
    have hwl := hp.length_eq
    have := qaa (pc := pc) (N.le (Heap.le_trans l1 l2)) hP (f0 := W.length) (W0 := W) (fun h3 op oc l3 A3 => k W h3 op oc hp hs (fun y hy => ok y (hp.mem_iff.1 hy)) (Heap.le_trans l1 (Heap.le_trans l2 l3)) A3) W.length W q lc h2 [] none 0 (Nat.le_refl _) (by omega) hc (fun y hy => ok y (hp.mem_iff.1 hy)) A2 (Heap.le_refl _) (.nil _ _ _) (by simp; omega) rfl
    rw [hwl] at this
    exact this
  rcases O with ⟨e1, e2, e3⟩ | ⟨B, sp, e2, e0, AB, hc⟩
  · have hFn : F = [] := by
      have := congrArg List.length e1
      rw [qAO qAp] at this
      rw [List.length_nil] at this
      exact List.length_eq_zero_iff.1 (by omega)
    subst hFn e2 e3
    exact qTu ⟨rfl, go h' [] none 0 l' (.refl _) .nil (Nat.le_refl _) (.inl rfl)⟩
  · subst e2
    have hcl : F.length ≤ c := by
      rw [List.length_append, qAO qAp, show z4.length = 4 from rfl] at hc
      omega
    have Dau : DaU F h1 B F.length F.length sp h' (qHs F.length).toArray := ⟨l', by rw [show (qHs F.length).toArray.toList = qHs F.length from rfl, qR0]; exact AB, by simp [qKU], rfl⟩
    refine qX9 e0 rfl (by omega) Dau fun h2 d2 D2 P2 s2 => ⟨rfl, ?_⟩
    obtain ⟨q1, q2⟩ := qUv rfl P2 s2
    exact go h2 _ (some ⟨B, 0, none⟩) c D2.le q1 q2 (by rw [q1.length_eq]; exact hcl) (At.toRd D2.at_)
end
end Go.Proofs.YtjihfieahkbohaaGreat

/- Parts of a heap that lie apart from each other and from all else. -/
namespace Go.Proofs.YtjihfieahkbohaaGreat
open Go Go.Sy Go.Value
set_option linter.unusedVariables false
set_option linter.unusedSimpArgs false

structure SepT (H X g1 g2 : Heap) : Prop where
  x : X.le H
  a : g1.le H
  b : g2.le H
  xa : ∀ r o, X r = some o → g1 r = none
  xb : ∀ r o, X r = some o → g2 r = none
  ab : ∀ r o, g1 r = some o → g2 r = none
section
variable {P : Program} {f : FuncId} {args : List Value} {H H' X g1 g2 : Heap} {K : Value → Heap → Prop}
theorem SepT.le (s : SepT H X g1 g2) (l : H.le H') : SepT H' X g1 g2 := ⟨Heap.le_trans s.x l, Heap.le_trans s.a l, Heap.le_trans s.b l, s.xa, s.xb, s.ab⟩
theorem SepT.ba (s : SepT H X g1 g2) : ∀ r o, g2 r = some o → g1 r = none := fun r o e => by
  cases h : g1 r with
  | none => rfl
  | some y => have := s.ab r y h; rw [e] at this; cases this
theorem SepT.call1 (s : SepT H X g1 g2) (c : CallA P f args g1 fun v g' => ∀ H', SepT H' X g' g2 → K v H') : CallA P f args H K :=
  (c.frame2 s.a).mono fun v h' ⟨g', k, l', keep, off⟩ => k h' ⟨fun r o e => keep r o (s.x r o e) (s.xa r o e), l', fun r o e => keep r o (s.b r o e) (s.ba r o e), fun r o e => off r o (s.x r o e) (s.xa r o e), s.xb, fun r o e => by
    cases h : g2 r with
    | none => rfl
    | some y =>
      have := off r y (s.b r y h) (s.ba r y h)
      rw [e] at this; cases this⟩
theorem SepT.new1 (s : SepT H X qQ5 g2) (c : CallA P f args qQ5 fun v g' => ∀ H', SepT H' X g' g2 → K v H') : CallA P f args H K := s.call1 c
theorem SepT.start (h : Heap) : SepT h h qQ5 qQ5 := ⟨h.le_refl, qRY h, qRY h, fun _ _ _ => rfl, fun _ _ _ => rfl, fun _ _ _ => rfl⟩
theorem qXV {X H : Heap} (l : X.le H) (r : Nat) (o : Obj) : (X.ins r o).le (H.ins r o) := fun x y e => by
  unfold Heap.ins at e ⊢
  split
  · rename_i g; rw [if_pos g] at e; exact e
  · rename_i g; rw [if_neg g] at e; exact l x y e
theorem SepT.ins (s : SepT H X g1 g2) {r : Nat} (hr : H r = none) (o : Obj) : SepT (H.ins r o) (X.ins r o) g1 g2 := by
  have dj : ∀ g : Heap, g.le H → (∀ r o, X r = some o → g r = none) → ∀ x y, (X.ins r o) x = some y → g x = none := fun g l d x y e => by
    unfold Heap.ins at e
    split at e
    · rename_i h; rw [h]; exact qm l hr
    · exact d x y e
  exact ⟨qXV s.x r o, Heap.le_trans s.a (qi hr), Heap.le_trans s.b (qi hr), dj g1 s.a s.xa, dj g2 s.b s.xb, s.ab⟩
theorem qSg {h : Heap} {b o x : Nat} {ws : List Value} {y : Obj} (e : (h.setN b o ws) x = some y) : ∃ z, h x = some z := by
  by_cases g : x = b
  · subst g
    unfold Heap.setN at e
    cases hx : h x with
    | none => simp [hx] at e
    | some z => exact ⟨z, rfl⟩
  · rw [qCq g] at e; exact ⟨y, e⟩
theorem qVy {X H : Heap} (l : X.le H) {b o : Nat} {vs ws : List Value} (a : At X b vs) : (X.setN b o ws).le (H.setN b o ws) := fun x y e => by
  by_cases g : x = b
  · subst g
    obtain ⟨T, ea⟩ := a
    have eh := l _ _ ea
    unfold Heap.setN at e ⊢
    rw [ea] at e
    rw [eh]
    exact e
  · rw [qCq g] at e ⊢; exact l x y e
theorem SepT.set (s : SepT H X g1 g2) {b o : Nat} {vs ws : List Value} (a : At X b vs) : SepT (H.setN b o ws) (X.setN b o ws) g1 g2 := by
  obtain ⟨T, ea⟩ := a
  exact ⟨qVy s.x ⟨T, ea⟩, qj s.a (s.xa b _ ea), qj s.b (s.xb b _ ea), fun r y e => (qSg e).elim fun z hz => s.xa r z hz, fun r y e => (qSg e).elim fun z hz => s.xb r z hz, s.ab⟩
theorem SepT.cp (s : SepT H X g1 g2) {z vs : List Value} {T : TypeId} {J : Nat → Heap → Prop} (hv : vs.length = z.length)
    (k : ∀ r H1 X', SepT (H1.setN r 0 vs) X' g1 g2 → At X' r vs → (∀ b xs, At X b xs → At X' b xs) → H1.canSt r 0 z.length → X r = none → X.le X' → J r H1) : qL H z T J := fun r hr => by
  have s1 := s.ins hr (.cells z.toArray T (0, 0))
  have a1 := At.new X r z T
  have hx := qm s.x hr
  have a2 := a1.set (o := 0) (ws := vs)
  have e := qL8 vs [] z (by omega)
  rw [List.nil_append, List.nil_append, hv, List.drop_length, List.append_nil] at e
  rw [show ([] : List Value).length = 0 from rfl] at e
  rw [e] at a2
  exact k r _ _ (s1.set a1) a2 (fun b xs a => (a.ins hx).set_ne (a.ne hx)) (qOm _ _ _ _ _ _ (by omega)) hx (qj (qi hx) hx)
theorem SepT.box (s : SepT H X g1 g2) {z : List Value} {T : TypeId} {J : Nat → Heap → Prop}
    (k : ∀ r H1 X', SepT H1 X' g1 g2 → At X' r z → (∀ b xs, At X b xs → At X' b xs) → X r = none → X.le X' → J r H1) : qL H z T J := fun r hr => by
  have hx := qm s.x hr
  exact k r _ _ (s.ins hr _) (At.new X r z T) (fun b xs a => a.ins hx) hx (qi hx)
end
end Go.Proofs.YtjihfieahkbohaaGreat

/- Shares: the awake test answers true. -/

namespace Go.Proofs.YtjihfieahkbohaaGreat
open Go Go.Sy Go.Value
set_option linter.unusedVariables false
set_option linter.unusedSimpArgs false

theorem vB : qHu 10 3 = ([4, 3, 3], 0) := by
  unfold qHu
  rw [if_neg (by decide), if_neg (by decide), if_neg (by decide)]
  have e : ones (Int.toNat 3) = [1, 1, 1] := rfl
  rw [e]
  unfold qAf
  rw [if_neg (by decide), if_neg (by decide), if_neg (by decide), if_neg (by decide), if_neg (by decide)]
  unfold qIX
  have o : qEC (qCp 10 (qM [1, 1, 1]) [1, 1, 1]) ([1, 1, 1] : List Int).length = [0, 1, 2] := qY3 (by decide) (by decide)
  rw [o]; decide
section
variable {K : Value → Heap → Prop} {h : Heap}
theorem qU0 {a b : Option Addr} {la lb : List Int} {n ac bc : Nat} (Ia : Ints .i64 h a la) (Ib : Ints .i64 h b lb) (ha : la.length = n) (hb : lb.length = n) (hs : n ≤ 1099511627776) :
    ∀ (m j : Nat), m + j = n → Ret h K (.bool (decide (la.drop j = lb.drop j))) → qIK a n ac b n bc j h K := by
  intro m
  induction m with
  | zero =>
    intro j hj k
    refine qMw _ _ _ _ _ _ _ _ _ ?_
    unfold qJu
    refine Br.no (by simp; omega) ?_
    rw [List.drop_eq_nil_of_le (by omega), List.drop_eq_nil_of_le (by omega)] at k
    exact k
  | succ m ih =>
    intro j hj k
    refine qMw _ _ _ _ _ _ _ _ _ ?_
    unfold qJu
    have ea : la[j]? = some la[j] := List.getElem?_eq_getElem (by omega)
    have eb : lb[j]? = some lb[j] := List.getElem?_eq_getElem (by omega)
    rw [List.drop_eq_getElem_cons (by omega : j < la.length), List.drop_eq_getElem_cons (by omega : j < lb.length)] at k
    refine Br.yes (by simp; omega) (ix Ia ha rfl ea (ix Ib hb rfl eb ?_))
    refine Br.intro (fun e => ?_) (fun e => ?_)
    · have : la[j] ≠ lb[j] := by simpa using e
      rw [decide_eq_false (fun x => this (List.cons.inj x).1)] at k
      exact k
    · have e : la[j] = lb[j] := by simpa using e
      rw [qH (by omega) (by omega)]
      refine ih (j + 1) (by omega) ?_
      have e0 : ∀ (a b : Int) (x y : List Int), a = b → ((a :: x = b :: y) ↔ x = y) := by rintro a _ x y rfl; simp
      have := e0 _ _ (la.drop (j + 1)) (lb.drop (j + 1)) e
      rw [decide_eq_decide.2 this] at k
      exact k
theorem qT5 {a b : Option Addr} {la lb : List Int} {n m ac bc : Nat} (Ia : Ints .i64 h a la) (Ib : Ints .i64 h b lb) (ha : la.length = n) (hb : lb.length = m) (hs : n ≤ 1099511627776) (k : K (.bool (decide (la = lb))) h) :
    CallA Tryz.prog qLF [slice a n ac, slice b m bc] h K := by
  refine qSl _ _ _ _ _ _ _ _ ?_
  unfold qN3
  refine Br.intro (fun e => ?_) (fun e => ?_)
  · have : n ≠ m := by intro e2; subst e2; simp at e
    rw [decide_eq_false (fun x => this (by rw [← ha, ← hb, x]))] at k
    exact Ret.mk k
  · have : n = m := by simp at e; omega
    subst this
    refine qU0 Ia Ib ha hb hs n 0 (by omega) ?_
    simpa using Ret.mk k
end
end Go.Proofs.YtjihfieahkbohaaGreat

/- Plan: the calls whose answers the document fixes. -/
namespace Go.Proofs.YtjihfieahkbohaaGreat
open Go Go.Sy Go.Value
set_option linter.unusedVariables false
set_option linter.unusedSimpArgs false

section
variable {h : Heap} {K : Value → Heap → Prop}
theorem qat {p : Option Addr} {D : List Du} {n c : Nat} (A : Arr uV h p D) (hn : D.length = n) (hs : n ≤ 1000000) (k : ∀ h' q c', h.le h' → Arr uV h' q D → K (slice q D.length c') h') :
    ∀ (m j : Nat) (h1 : Heap) (q : Option Addr) (cp : Nat), m + j = n → h.le h1 → OwnL h h1 z4 q cp ((D.take j).flatMap uV) → qJK q (D.take j).length cp p n c n j h1 K := by
  intro m
  induction m with
  | zero =>
    intro j h1 q cp hj l O
    refine qNH _ _ _ _ _ _ _ _ _ _ ?_
    unfold qKV
    rw [List.take_of_length_le (by omega)] at O ⊢
    exact Br.no (by simp; omega) (Ret.mk (k h1 q cp l O.rd))
  | succ m ih =>
    intro j h1 q cp hj l O
    refine qNH _ _ _ _ _ _ _ _ _ _ ?_
    unfold qKV
    have hx : D[j]? = some D[j] := List.getElem?_eq_getElem (by omega)
    have tk : D.take (j + 1) = D.take j ++ [D[j]] := by rw [List.take_add_one, hx]; rfl
    generalize D[j] = x at *
    have hl : (D.take j).length = j := by rw [List.length_take]; omega
    refine Br.yes (by simp; omega) (ldX (A.le l) hn rfl hx (qFm (vs := uV x) rfl fun r h4 hr l4 A4 cs4 => ⟨cs4, ldU (a := 0) (fun o ho => A4.cellO ho) ?_⟩))
    refine qKm (ws := uV x) (O.le l4) (by decide) (Heap.le_trans l l4) (by omega) rfl rfl (by rw [qAO qAp]; rfl) fun r h5 p' c' h' hr l5 l' O' keep how => ?_
    rw [w1 (by omega)]
    have := ih (j + 1) h' p' c' (by omega) l' (by rw [tk, List.flatMap_append, List.flatMap_cons, List.flatMap_nil, List.append_nil]; exact O')
    rw [tk, List.length_append] at this
    exact this
theorem qQa {p : Option Addr} {D : List Du} {n c : Nat} (A : Arr uV h p D) (hn : D.length = n) (hs : n ≤ 1000000) (k : ∀ h' q c', h.le h' → Arr uV h' q D → K (slice q D.length c') h') : CallA Tryz.prog qGz [slice p n c] h K := by
  refine qTx _ _ _ _ _ ?_
  unfold qOu
  have := qat A hn hs (c := c) k n 0 h none 0 (by omega) h.le_refl (.nil _ _ _)
  exact this
theorem qYi {a b : Option Addr} {D : List Du} {n ac bc : Nat} (A : Arr uV h a D) (B : Arr uV h b D) (hn : D.length = n) (hs : n ≤ 1000000) (k : K (.bool true) h) : ∀ (m j : Nat), m + j = n → qIQ a n ac b n bc j h K := by
  intro m
  induction m with
  | zero =>
    intro j hj
    refine qMd _ _ _ _ _ _ _ _ _ ?_
    unfold qJ7
    exact Br.no (by simp; omega) (Ret.mk k)
  | succ m ih =>
    intro j hj
    refine qMd _ _ _ _ _ _ _ _ _ ?_
    unfold qJ7
    have hx : D[j]? = some D[j] := List.getElem?_eq_getElem (by omega)
    generalize D[j] = x at *
    refine Br.yes (by simp; omega) (ldX A hn rfl hx (ldX B hn rfl hx ?_))
    rw [w1 (by omega)]
    exact Br.no (by simp) (ih (j + 1) (by omega))
theorem qPK {a b : Option Addr} {D E : List Du} {n m ac bc : Nat} (A : Arr uV h a D) (B : Arr uV h b E) (e : D = E) (hn : D.length = n) (hm : E.length = m) (hs : n ≤ 1000000) (k : K (.bool true) h) : CallA Tryz.prog qJF [slice a n ac, slice b m bc] h K := by
  subst e
  subst hn hm
  refine qTI _ _ _ _ _ _ _ _ ?_
  unfold qN9
  exact Br.no (by simp) (qYi A B rfl hs k D.length 0 (by omega))
def qMB (L : List NRow) : Bool := (L.any fun x => decide ((x.l.length : Int) > 20)) || decide ((L.length : Int) > 40)
theorem qZQ {p : Option Addr} {L : List NRow} {n c : Nat} (X : Nets h p L) (hn : L.length = n) (hs : n ≤ 9223372036854775807) (k : K (.bool (qMB L)) h) :
    ∀ (m j : Nat), m + j = n → L.any (fun x => decide ((x.l.length : Int) > 20)) = (L.drop j).any (fun x => decide ((x.l.length : Int) > 20)) → qHv p n c n j h K := by
  intro m
  induction m with
  | zero =>
    intro j hj e
    refine qMI _ _ _ _ _ _ _ ?_
    unfold qJP
    rw [List.drop_eq_nil_of_le (by omega), List.any_nil] at e
    unfold qMB at k
    rw [e, Bool.false_or, hn] at k
    exact Br.no (by simp; omega) (Ret.mk k)
  | succ m ih =>
    intro j hj e
    refine qMI _ _ _ _ _ _ _ ?_
    unfold qJP
    have hx : L[j]? = some L[j] := List.getElem?_eq_getElem (by omega)
    rw [List.drop_eq_getElem_cons (by omega : j < L.length), List.any_cons] at e
    generalize L[j] = x at *
    refine Br.yes (by simp; omega) (nx X hn rfl hx ?_)
    refine Br.dec (fun g => ?_) fun g => ?_
    · rw [decide_eq_true g, Bool.true_or] at e
      unfold qMB at k
      rw [e, Bool.true_or] at k
      exact Ret.mk k
    · rw [decide_eq_false g, Bool.false_or] at e
      rw [qH (by omega) (by omega)]
      exact ih (j + 1) (by omega) e
theorem qUG {p : Option Addr} {L : List NRow} {n c : Nat} (X : Nets h p L) (hn : L.length = n) (hs : n ≤ 9223372036854775807) (k : K (.bool (qMB L)) h) : CallA Tryz.prog qIP [slice p n c] h K := by
  refine qSB _ _ _ _ _ ?_
  unfold qNT
  exact qZQ X hn hs k n 0 (by omega) rfl
end
/-! ### awake -/
def aD1 : Dl := ⟨7, 0, 1, 0, 1, 10, 8⟩
def aD2 : Dl := ⟨7, 1, 0, 1, 0, 8, 10⟩
def aS1 : Bk := ⟨2, 2, [⟨aD1, 1, 0, 0⟩], 0⟩
def aS2 : Bk := ⟨2, 2, [⟨aD1, 2, 0, 1⟩], 1⟩
theorem aE1 : qIJ ⟨2, 2, [], 0⟩ aD1 = (false, 0, aS1) := by unfold qIJ; rw [if_pos (by unfold qLG aD1; decide)]; rfl
theorem aE2 : qIJ aS1 aD2 = (true, 0, aS2) := by unfold qIJ; rw [if_pos (by unfold qLG aD2 aS1; decide)]; rfl
theorem aE3 : qQ1 aS2 2 2 = ([[-10, 8], [10, -8]], 0) := by decide +kernel
theorem aSh : shL (- -10) 3 = [4, 3, 3] := by
  have h1 := qPP (n := 10) (p := 3) (by decide) (by decide) (by decide)
  rw [show qHu 10 ((3 : Nat) : Int) = qHu 10 3 from rfl, vB] at h1
  exact (congrArg Prod.fst h1).symm
theorem aE4 : qGv [[-10]] [5, 9, 12] = ([⟨0, 0, 5, 4⟩, ⟨0, 0, 9, 3⟩, ⟨0, 0, 12, 3⟩], 0) := by
  have e : ∀ k c, qHN [5, 9, 12] k 0 c (-10) = if 0 < [(4 : Int), 3, 3].getD k 0 then [⟨((0 : Nat) : Int), c, [(5 : Int), 9, 12].getD k 0, [(4 : Int), 3, 3].getD k 0⟩] else [] := fun k c => by
    unfold qHN
    rw [show [(5 : Int), 9, 12].length = 3 from rfl, aSh]
    by_cases g : 0 < [(4 : Int), 3, 3].getD k 0
    · rw [if_pos ⟨by decide, g⟩, if_pos g]
    · rw [if_neg (fun x => g x.2), if_neg g]
  have e2 : qJp [[-10]] [5, 9, 12] = [⟨0, 0, 5, 4⟩, ⟨0, 0, 9, 3⟩, ⟨0, 0, 12, 3⟩] := by
    have m : ∀ k, qGJ [5, 9, 12] k [[-10]] 1 = qHN [5, 9, 12] k 0 0 (-10) := fun k => by
      unfold qGJ qM7
      simp
    unfold qJp
    show qGJ _ 0 _ 1 ++ (qGJ _ 1 _ 1 ++ (qGJ _ 2 _ 1 ++ [])) = _
    rw [m, m, m, e, e, e]
    rfl
  unfold qGv
  rw [e2]
  rfl
theorem aE5 : qGv [] [5, 5] = ([], 1) := rfl
theorem qac {x y : Du} {W : List Du} (h : W.Perm [x, y]) : W = [x, y] ∨ W = [y, x] := by
  have hl := h.length_eq
  match W, hl with
  | [a, b], _ =>
    have ha : a ∈ [x, y] := h.mem_iff.1 (List.mem_cons_self ..)
    rw [List.mem_cons, List.mem_singleton] at ha
    rcases ha with rfl | rfl
    · have := List.singleton_perm_singleton.1 ((List.perm_cons a).1 h)
      exact .inl (by rw [this])
    · have := List.singleton_perm_singleton.1 ((List.perm_cons a).1 (h.trans (List.Perm.swap ..)))
      exact .inr (by rw [this])
theorem aE6 {W : List Du} (h : W.Perm (([⟨0, 0, 5, 4⟩, ⟨0, 0, 9, 3⟩, ⟨0, 0, 12, 3⟩] : List Du).filter fun x => decide (x.t ≤ 9))) : qEj [[5]] 9 W.length W [] = ([⟨0, 0, 9, 2⟩], 0) := by
  have h : W.Perm [⟨0, 0, 5, 4⟩, ⟨0, 0, 9, 3⟩] := h
  rcases qac h with rfl | rfl <;> rfl
theorem qYY {h : Heap} {r1 r2 : Nat} {v : Int} {T : TypeId} (A1 : At h r1 [.int .i64 v]) (A2 : At h r2 [slice (some ⟨r1, 0, none⟩) 1 1]) : Nets h (some ⟨r2, 0, none⟩) [⟨some ⟨r1, 0, none⟩, 1, [v]⟩] :=
  ⟨At.toRd (ws := []) A2, fun x hx => by
    rw [List.mem_singleton] at hx
    subst hx
    exact At.toRd (ws := []) A1⟩
theorem qXl : ∀ {L : List NRow} {a b : List Int}, mxN L = [a, b] → ∃ X Y, L = [X, Y] ∧ X.l = a ∧ Y.l = b
  | [], _, _, h => by cases h
  | [_], _, _, h => by cases h
  | [X, Y], _, _, h => by
    unfold mxN at h
    simp only [List.map_cons, List.map_nil, List.cons.injEq, and_true] at h
    exact ⟨X, Y, rfl, h.1, h.2⟩
  | _ :: _ :: _ :: _, _, _, h => by cases h
theorem qRQ {h0 : Heap} {K : Value → Heap → Prop} (k : ∀ h', h0.le h' → K (.bool true) h') : CallA Tryz.prog qKW [] h0 K := by
  refine qSE _ _ ?_
  unfold qNF
  have s := SepT.start h0
  refine s.new1 (qah (fun g => (g ⟨by decide, by decide⟩).elim) fun _ p g1 _ P H s => ⟨_, _, rfl, Br.no rfl ?_⟩)
  refine s.call1 (qSp P (d := aD1) (by unfold qYK aD1; decide) fun g1 P H s => ⟨_, _, rfl, ?_⟩)
  rw [aE1] at P
  refine s.call1 (qSp P (d := aD2) (by unfold qYK aD2; decide) fun g1 P H s => ⟨_, _, rfl, ?_⟩)
  rw [show (qIJ (false, (0 : Int), aS1).2.2 aD2).2.2 = aS2 by rw [aE2]] at P
  have l0 := s.x
  have P := P.le s.a
  clear s
  refine qaZ P (ms := 2) (cs := 2) fun h1 q1 L1 c1 l1 N1 e1 => ⟨_, _, _, _, rfl, ?_⟩
  rw [aE3] at e1
  dsimp only at e1
  rw [show (qQ1 aS2 2 2).2 = 0 by rw [aE3]]
  refine qQy _ _ _ _ _ ?_
  unfold qM4
  refine Br.yes rfl (Ret.mk ⟨_, _, _, _, rfl, ?_⟩)
  refine qAK fun r1 h2 hr1 l2 A1 => qAK fun r2 h3 hr2 l3 A2 => qAK fun r3 h4 hr3 l4 A3 => ?_
  have N4 : Nets h4 (some ⟨r2, 0, none⟩) [⟨some ⟨r1, 0, none⟩, 1, [-10]⟩] := qYY (T := 0) (A1.le (Heap.le_trans l3 l4)) (A2.le l4)
  have I4 : Ints .i64 h4 (some ⟨r3, 0, none⟩) [5, 9, 12] := At.toRd (ws := []) A3
  refine qNx (L := [⟨some ⟨r1, 0, none⟩, 1, [-10]⟩]) (ds := [5, 9, 12]) (lc := 1) (qc := 3) N4 (by show 1 ≤ 1000000; omega) (fun x hx => by
    rw [List.mem_singleton] at hx
    subst hx
    exact ⟨by show 1 ≤ 1000000; omega, fun n hn => by rw [List.mem_singleton] at hn; subst hn; unfold I64; omega⟩) I4 (by decide) fun h5 q5 c5 l5 A5 => ?_
  rw [show mxN [⟨some ⟨r1, 0, none⟩, 1, [-10]⟩] = [[-10]] from rfl, aE4] at A5 ⊢
  dsimp only at A5 ⊢
  refine ⟨_, _, _, _, rfl, qAK fun r6 h6 hr6 l6 A6 => ?_⟩
  have I6 : Ints .i64 h6 (some ⟨r6, 0, none⟩) [5, 5] := At.toRd (ws := []) A6
  refine qNx (L := []) (ds := [5, 5]) (np := none) (lc := 0) (qc := 2) (h := h6) ⟨.inl rfl, fun x hx => by cases hx⟩ (by decide) (fun x hx => by cases hx) I6 (by decide) fun h7 q7 c7 l7 A7 => ?_
  rw [show mxN [] = [] from rfl, aE5] at A7 ⊢
  dsimp only at A7 ⊢
  refine ⟨_, _, _, _, rfl, qAK fun r8 h8 hr8 l8 A8 => qAK fun r9 h9 hr9 l9 A9 => ?_⟩
  have N9 : Nets h9 (some ⟨r9, 0, none⟩) [⟨some ⟨r8, 0, none⟩, 1, [5]⟩] := qYY (T := 0) (A8.le l9) A9
  have l59 := Heap.le_trans l6 (Heap.le_trans l7 (Heap.le_trans l8 l9))
  refine qS9 (PL := [⟨some ⟨r8, 0, none⟩, 1, [5]⟩]) (D := [⟨0, 0, 5, 4⟩, ⟨0, 0, 9, 3⟩, ⟨0, 0, 12, 3⟩]) (pc := 1) (dc := c5) (now := 9) (A5.le l59) (by decide) (fun x hx => by
    simp only [List.mem_cons, List.not_mem_nil, or_false] at hx
    rcases hx with rfl | rfl | rfl <;> (dsimp only; unfold I64; omega)) N9 (fun y hy => by
    rw [List.mem_singleton] at hy
    subst hy
    exact fun n hn => by rw [List.mem_singleton] at hn; subst hn; unfold I64; omega) (fun g => absurd g (by decide)) (fun _ g => absurd g (by decide)) fun _ _ W h10 q10 c10 hp _ _ l10 A10 => ?_
  rw [show mxN [⟨some ⟨r8, 0, none⟩, 1, [5]⟩] = [[5]] from rfl, aE6 hp] at A10 ⊢
  dsimp only at A10 ⊢
  refine ⟨_, _, _, _, rfl, ?_⟩
  have l14 := Heap.le_trans l2 (Heap.le_trans l3 l4)
  have l1a := Heap.le_trans l14 (Heap.le_trans l5 (Heap.le_trans l59 l10))
  have N10 := N1.le l1a
  obtain ⟨X, Y, eL, eX, eY⟩ := qXl e1
  subst eL
  have fX : X.l.length = 2 := by rw [eX]; rfl
  have fY : Y.l.length = 2 := by rw [eY]; rfl
  rcases N10.1 with e | ⟨b, o, e, hc⟩
  · cases e
  subst e
  have I1 : Ints .i64 h10 X.p X.l := N10.2 X (by simp)
  have I2 : Ints .i64 h10 Y.p Y.l := N10.2 Y (by simp)
  refine Br.yes rfl ⟨by decide, (by show (0 : Int) < 2; decide), qD rfl ⟨_, _, _, hc 0 (by show 0 < 2; decide), qAK fun r11 h11 hr11 l11 A11 => ?_⟩⟩
  refine qT5 (I1.le l11) (lb := [-10, 8]) (At.toRd (ws := []) A11) rfl rfl (by rw [eX]; decide) ⟨_, rfl, ?_⟩
  refine Br.yes (decide_eq_true eX) ⟨by decide, (by show (1 : Int) < 2; decide), qD rfl ⟨_, _, _, qRN l11 (hc 1 (by show 1 < 2; decide)), qAK fun r12 h12 hr12 l12 A12 => ?_⟩⟩
  refine qT5 (I2.le (Heap.le_trans l11 l12)) (lb := [10, -8]) (At.toRd (ws := []) A12) rfl rfl (by rw [eY]; decide) ⟨_, rfl, ?_⟩
  refine Br.yes (decide_eq_true eY) (Br.yes rfl (Br.yes rfl ?_))
  have l5c := Heap.le_trans l59 (Heap.le_trans l10 (Heap.le_trans l11 l12))
  refine qQa (A5.le l5c) rfl (by decide) fun h13 q13 c13 l13 A13 => ⟨_, _, _, rfl, qAK fun r14 h14 hr14 l14' A14 => ?_⟩
  refine qPK (A13.le l14') (E := [⟨0, 0, 5, 4⟩, ⟨0, 0, 9, 3⟩, ⟨0, 0, 12, 3⟩]) (At.toRd (ws := []) A14) rfl rfl rfl (by decide) ⟨_, rfl, ?_⟩
  refine Br.yes rfl (Br.yes rfl (Br.yes rfl ?_))
  refine qQa (A10.le (Heap.le_trans l11 (Heap.le_trans l12 (Heap.le_trans l13 l14')))) rfl (by decide) fun h15 q15 c15 l15 A15 => ⟨_, _, _, rfl, qAK fun r16 h16 hr16 l16 A16 => ?_⟩
  refine qPK (A15.le l16) (E := [⟨0, 0, 9, 2⟩]) (At.toRd (ws := []) A16) rfl rfl rfl (by decide) ⟨_, rfl, ?_⟩
  refine Br.yes rfl (Ret.mk (k _ ?_))
  exact Heap.le_trans l0 (Heap.le_trans l1 (Heap.le_trans l1a (Heap.le_trans l11 (Heap.le_trans l12 (Heap.le_trans l13 (Heap.le_trans l14' (Heap.le_trans l15 l16)))))))
end Go.Proofs.YtjihfieahkbohaaGreat

/- The reference's whole numbers of any size: digits, trimming, which is larger, turning. -/
namespace Go.Proofs.YtjihfieahkbohaaGreat
open Go Go.Sy Go.Value
set_option linter.unusedVariables false
set_option linter.unusedSimpArgs false

def dig : List Int → Int
  | [] => 0
  | d :: r => d + 10000 * dig r
def okD (l : List Int) : Prop := ∀ d ∈ l, 0 ≤ d ∧ d < 10000
def sg (neg : Bool) (l : List Int) : Int := if neg then -dig l else dig l
theorem qNv {d : Int} {l : List Int} (h : okD (d :: l)) : (0 ≤ d ∧ d < 10000) ∧ okD l := ⟨h d (by simp), fun x hx => h x (by simp [hx])⟩
theorem qBb : ∀ {l : List Int}, okD l → 0 ≤ dig l
  | [], _ => by simp [dig]
  | d :: l, h => by
    have := qBb (qNv h).2
    have := (qNv h).1
    simp only [dig]; omega
theorem qIM : ∀ (l m : List Int), dig (l ++ m) = dig l + 10000 ^ l.length * dig m
  | [], m => by simp [dig]
  | d :: l, m => by
    simp only [List.cons_append, dig, qIM l m, List.length_cons, Int.pow_succ]
    rw [Int.mul_add, ← Int.mul_assoc, Int.mul_comm 10000 (10000 ^ l.length)]
    omega
theorem qIE {l : List Int} (h : okD l) (n : Nat) : okD (l.take n) := fun d hd => h d (List.mem_of_mem_take hd)
theorem qNo {l m : List Int} (h : okD l) (h2 : okD m) : okD (l ++ m) := fun d hd => by
  rcases List.mem_append.1 hd with e | e
  · exact h d e
  · exact h2 d e
theorem qHW {l : List Int} {n : Nat} (h : n < l.length) : dig (l.take (n + 1)) = dig (l.take n) + 10000 ^ n * l[n] := by
  rw [List.take_add_one, qIM, List.getElem?_eq_getElem h, List.length_take, Nat.min_eq_left (by omega)]
  simp [dig]
def BigR (h : Heap) (v : Value) (x : Int) (b : Nat) : Prop := ∃ neg p c ds, v = agg #[.bool neg, slice p (List.length ds) c] ∧ Ints .i64 h p ds ∧ okD ds ∧ x = sg neg ds ∧ ds.length ≤ c ∧ ds.length ≤ b
def BigN (h : Heap) (v : Value) (x : Int) (b : Nat) : Prop := ∃ neg p c ds, v = agg #[.bool neg, slice p (List.length ds) c] ∧ Ints .i64 h p ds ∧ okD ds ∧ x = sg neg ds ∧ ds.length ≤ c ∧ ds.length ≤ b ∧ (dig ds = 0 → ds = [] ∧ neg = false)
theorem BigN.raw {h : Heap} {v : Value} {x : Int} {b : Nat} (n : BigN h v x b) : BigR h v x b := by
  obtain ⟨neg, p, c, ds, a1, a2, a3, a4, a5, a6, _⟩ := n
  exact ⟨neg, p, c, ds, a1, a2, a3, a4, a5, a6⟩
theorem BigR.le {h h' : Heap} {v : Value} {x : Int} {b : Nat} (n : BigR h v x b) (l : h.le h') : BigR h' v x b := by
  obtain ⟨neg, p, c, ds, a1, a2, a3⟩ := n
  exact ⟨neg, p, c, ds, a1, a2.le l, a3⟩
theorem BigN.le {h h' : Heap} {v : Value} {x : Int} {b : Nat} (n : BigN h v x b) (l : h.le h') : BigN h' v x b := by
  obtain ⟨neg, p, c, ds, a1, a2, a3⟩ := n
  exact ⟨neg, p, c, ds, a1, a2.le l, a3⟩
theorem BigR.more {h : Heap} {v : Value} {x : Int} {b b' : Nat} (n : BigR h v x b) (l : b ≤ b') : BigR h v x b' := by
  obtain ⟨neg, p, c, ds, a1, a2, a3, a4, a5, a6⟩ := n
  exact ⟨neg, p, c, ds, a1, a2, a3, a4, a5, by omega⟩

theorem qIZ {neg : Bool} {p : Option Addr} {c : Nat} {ds : List Int} {i : Nat} {h : Heap} (hr : Ints .i64 h p ds) {K : Value → Heap → Prop}
    (k : ∀ h', h.le h' → K (int .i64 (ds.getD i 0)) h') : CallA Tryz.prog qBj [agg #[.bool neg, slice p ds.length c], int .i64 (i : Int)] h K := by
  refine qSI _ _ _ _ _ _ _ ?_
  unfold qNN
  intro r hr0
  have a0 := At.new h r [.bool neg, slice p ds.length c] 78
  refine ⟨p, ds.length, c, a0.cell rfl, Br.dec (fun hlt => ?_) (fun hge => ?_)⟩
  · have hlt : i < ds.length := by omega
    obtain ⟨b, o, ea, hc⟩ := (hr.le (qi hr0 (o := .cells [.bool neg, slice p ds.length c].toArray 78 (0, 0)))).at hlt
    refine ⟨p, ds.length, c, a0.cell rfl, by omega, by omega, qD ea ⟨_, by rw [Int.toNat_natCast]; exact hc, Ret.mk ?_⟩⟩
    have := k _ (qi hr0 (o := .cells [.bool neg, slice p ds.length c].toArray 78 (0, 0)))
    rw [List.getD_eq_getElem?_getD, List.getElem?_eq_getElem hlt] at this
    exact this
  · have := k _ (qi hr0 (o := .cells [.bool neg, slice p ds.length c].toArray 78 (0, 0)))
    rw [List.getD_eq_getElem?_getD, List.getElem?_eq_none (by omega)] at this
    exact Ret.mk this

theorem qWH {neg : Bool} {p : Option Addr} {c : Nat} {ds : List Int} {a t2 : Nat} {h0 h : Heap} (l : h0.le h) (ht : h0 t2 = none) (hne : a ≠ t2) (hr : Ints .i64 h0 p ds) (ok : okD ds) (hc : ds.length ≤ c) (hb : ds.length ≤ 1048576)
    (at' : At h a [.bool neg, slice p ds.length c]) (tt : At h t2 [.bool false, slice none 0 0]) {K : Value → Heap → Prop}
    (k : ∀ v h', h0.le h' → BigN h' v (sg neg ds) ds.length → K v h') : ∀ n, n ≤ ds.length → dig (ds.take n) = dig ds → qId a t2 (n : Int) h K := by
  intro n
  -- the end, with n digits left
  have fin : ∀ n, n ≤ ds.length → dig (ds.take n) = dig ds → (n = 0 ∨ ∃ x, ds[n - 1]? = some x ∧ x ≠ 0) →
      Br ((n : Int) == 0)
        (Heap.canSt h t2 0 2 ∧ ∃ (b : Bool), Heap.cell (Heap.setN h t2 0 [.bool false, slice none 0 0]) t2 0 = some (.bool b) ∧
          ∃ (a : Option Addr), ∃ (n : Nat), ∃ (m : Nat), Heap.cell (Heap.setN h t2 0 [.bool false, slice none 0 0]) t2 1 = some (slice a n m) ∧
            Ret (Heap.setN h t2 0 [.bool false, slice none 0 0]) K (agg #[.bool b, slice a n m]))
        (∃ (b : Bool), Heap.cell h a 0 = some (.bool b) ∧ ∃ (a_1 : Option Addr), ∃ (n_1 : Nat), ∃ (m : Nat), Heap.cell h a 1 = some (slice a_1 n_1 m) ∧
          0 ≤ (n : Int) ∧ (n : Int) ≤ (m : Int) ∧ Heap.canSt h t2 0 2 ∧
          ∃ (b_1 : Bool), Heap.cell (Heap.setN h t2 0 [.bool b, slice a_1 (Int.toNat n) m]) t2 0 = some (.bool b_1) ∧
          ∃ (a : Option Addr), ∃ (n_2 : Nat), ∃ (m_1 : Nat), Heap.cell (Heap.setN h t2 0 [.bool b, slice a_1 (Int.toNat n) m]) t2 1 = some (slice a n_2 m_1) ∧
            Ret (Heap.setN h t2 0 [.bool b, slice a_1 (Int.toNat n) m]) K (agg #[.bool b_1, slice a n_2 m_1])) := by
    intro n hn hd hx
    have cs : h.canSt t2 0 2 := tt.canSt (by simp)
    refine Br.intro (fun e => ?_) (fun e => ?_)
    · have t3 := tt.set (o := 0) (ws := [.bool false, slice none 0 0])
      refine ⟨cs, _, t3.cell rfl, _, _, _, t3.cell rfl, Ret.mk (k _ _ (qj l ht) ?_)⟩
      have n0 : n = 0 := by simpa using e
      subst n0
      refine ⟨false, none, 0, [], rfl, .inl rfl, fun d hd => (by cases hd), ?_, by simp, by simp, fun _ => ⟨rfl, rfl⟩⟩
      have : dig ds = 0 := by rw [← hd]; rfl
      unfold sg; rw [this]; simp [dig]
    · have t3 := tt.set (o := 0) (ws := [.bool neg, slice p (Int.toNat n) c])
      refine ⟨_, at'.cell rfl, _, _, _, at'.cell rfl, by omega, by omega, cs, _, t3.cell rfl, _, _, _, t3.cell rfl, Ret.mk (k _ _ (qj l ht) ?_)⟩
      have hn0 : n ≠ 0 := by simpa using e
      have hlen : (ds.take n).length = n := by rw [List.length_take]; omega
      refine ⟨neg, p, c, ds.take n, by rw [hlen, Int.toNat_natCast], ?_, qIE ok n, by unfold sg; rw [hd], by omega, by omega, fun z => ?_⟩
      · have r2 : Ints .i64 h0 p (ds.take n) := by
          unfold Ints at hr ⊢
          rw [← List.take_append_drop n ds, qDB] at hr
          exact qNt hr
        exact r2.le (qj l ht)
      · rcases hx with hx | ⟨x, hx, hx0⟩
        · exact (hn0 hx).elim
        · exfalso
          obtain ⟨m, rfl⟩ : ∃ m, n = m + 1 := ⟨n - 1, by omega⟩
          have hm : m < ds.length := by omega
          rw [qHW hm] at z
          rw [Nat.add_sub_cancel, List.getElem?_eq_getElem hm] at hx
          cases hx
          have h1 := qBb (qIE ok m)
          have h2 := ok _ (List.getElem_mem hm)
          have h3 : (0 : Int) < 10000 ^ m := Int.pow_pos (by decide)
          have h4 : 0 < 10000 ^ m * ds[m] := Int.mul_pos h3 (by omega)
          omega
  induction n with
  | zero =>
    intro hn hd
    refine qMf _ _ _ _ _ ?_
    unfold qJs
    refine Br.no (by decide) ?_
    exact fin 0 hn hd (.inl rfl)
  | succ n ih =>
    intro hn hd
    refine qMf _ _ _ _ _ ?_
    unfold qJs
    have hlt : n < ds.length := by omega
    have cnt : IntKind.wrap .i64 (((n + 1 : Nat) : Int) - 1) = (n : Int) := by rw [qIB]; omega
    rw [cnt]
    obtain ⟨b, o, ea, hcell⟩ := (hr.le l).at hlt
    refine Br.yes (decide_eq_true (by omega)) ⟨_, _, _, at'.cell rfl, by omega, by omega, qD ea ⟨_, by rw [Int.toNat_natCast]; exact hcell, ?_⟩⟩
    refine Br.intro (fun e => ?_) (fun e => ?_)
    · have e : ds[n] = 0 := by simpa using e
      refine ih (by omega) ?_
      rw [qHW hlt, e] at hd
      omega
    · have e : ds[n] ≠ 0 := by simpa using e
      exact fin (n + 1) hn hd (.inr ⟨_, by rw [Nat.add_sub_cancel, List.getElem?_eq_getElem hlt], e⟩)
theorem qQW {neg : Bool} {p : Option Addr} {c : Nat} {ds : List Int} {h : Heap} (hr : Ints .i64 h p ds) (ok : okD ds) (hc : ds.length ≤ c) (hb : ds.length ≤ 1048576) {K : Value → Heap → Prop}
    (k : ∀ v h', h.le h' → BigN h' v (sg neg ds) ds.length → K v h') : CallA Tryz.prog qDD [agg #[.bool neg, slice p ds.length c]] h K := by
  refine qSS _ _ _ _ _ _ ?_
  unfold qOC
  intro r hr0 r1 hr1
  have a0 := (At.new h r [.bool neg, slice p ds.length c] 78).ins (x := .cells [.bool false, slice none 0 0].toArray 78 (0, 0)) hr1
  have t0 := At.new (h.ins r (.cells [.bool neg, slice p ds.length c].toArray 78 (0, 0))) r1 [.bool false, slice none 0 0] 78
  have l := qBs (x := .cells [.bool false, slice none 0 0].toArray 78 (0, 0)) (qi hr0 (o := .cells [.bool neg, slice p ds.length c].toArray 78 (0, 0))) hr1
  refine ⟨_, _, _, a0.cell rfl, ?_⟩
  exact qWH l (qm (qi hr0) hr1) ((At.new _ _ _ _).ne hr1) hr ok hc hb a0 t0 k ds.length (Nat.le_refl _) (by rw [List.take_length])
end Go.Proofs.YtjihfieahkbohaaGreat

/- The reference's whole numbers of any size: from an amount, turned, which is larger. -/
namespace Go.Proofs.YtjihfieahkbohaaGreat
open Go Go.Sy Go.Value
set_option linter.unusedVariables false
set_option linter.unusedSimpArgs false

theorem td (n : Int) : (0 ≤ n ∧ Int.tdiv n 10000 = n / 10000 ∧ Int.tmod n 10000 = n % 10000) ∨ (n < 0 ∧ Int.tdiv n 10000 = -((-n) / 10000) ∧ Int.tmod n 10000 = -((-n) % 10000)) := by
  by_cases h : 0 ≤ n
  · exact .inl ⟨h, Int.tdiv_eq_ediv_of_nonneg h, Int.tmod_eq_emod_of_nonneg h⟩
  · refine .inr ⟨by omega, ?_, ?_⟩
    · have e : n = -(-n) := by omega
      conv => lhs; rw [e, Int.neg_tdiv, Int.tdiv_eq_ediv_of_nonneg (by omega)]
    · have e : n = -(-n) := by omega
      conv => lhs; rw [e, Int.neg_tmod, Int.tmod_eq_emod_of_nonneg (by omega)]
theorem qP0 {h0 h : Heap} {neg : Bool} {out : Nat} {p : Option Addr} {c : Nat} {ds : List Int} {x : Int} (l : h0.le h) (oo : At h out [.bool neg, slice p ds.length c])
    (own : OwnL h0 h [int .i64 0] p c (qR .i64 ds)) (hp : p ≠ some ⟨out, 0, none⟩) (hn : h0 out = none) (hb : ds.length < 1048576) {J : Heap → Prop}
    (k : ∀ p' c' h', h0.le h' → At h' out [.bool neg, slice p' (ds ++ [x]).length c'] → OwnL h0 h' [int .i64 0] p' c' (qR .i64 (ds ++ [x])) → p' ≠ some ⟨out, 0, none⟩ →
      (∀ b xs, At h b xs → b ≠ out → p ≠ some ⟨b, 0, none⟩ → At h' b xs ∧ p' ≠ some ⟨b, 0, none⟩) → J h') :
    qL h [int .i64 x] 3 fun (r : Nat) (h : Heap) => AppA [int .i64 0] 3 h p ds.length c 1 (some { block := r, off := 0 }) fun (ap : Option Addr) (cp : Nat) (h : Heap) =>
      Heap.canSt h out 1 1 ∧ J (Heap.setN h out 1 [slice ap (ds.length + 1) cp]) := by
  intro r hr
  have l1 := qBs (x := .cells [int .i64 x].toArray 3 (0, 0)) l hr
  have o1 := oo.ins (x := .cells [int .i64 x].toArray 3 (0, 0)) hr
  have w1 := own.le (qi hr (o := .cells [int .i64 x].toArray 3 (0, 0)))
  have s1 : rdL (h.ins r (.cells [int .i64 x].toArray 3 (0, 0))) (some ⟨r, 0, none⟩) (qR .i64 [x]) := qL6 _ _ _ _ _
  refine w1.push (by decide) l1 (by omega) (by rw [qd]; rfl) s1 (qJG _ _) (by rw [qd]; simp) ?_
  intro p' c' h' l2 w2 keep how
  have o2 := keep _ _ o1 hp
  have hp' : p' ≠ some ⟨out, 0, none⟩ := by
    rcases how with rfl | ⟨r', rfl, hr'⟩
    · exact hp
    · intro e; cases e; exact o1.ne hr' rfl
  have o3 := o2.set (o := 1) (ws := [slice p' (ds.length + 1) c'])
  rw [← qDB] at w2
  refine ⟨o2.canSt (by simp), k p' c' _ (qj l2 hn) ?_ (w2.set_ne hp') hp' (fun b xs a hb1 hb2 => ?_)⟩
  · rw [List.length_append]; exact o3
  · have a1 := a.ins (x := .cells [int .i64 x].toArray 3 (0, 0)) hr
    refine ⟨(keep _ _ a1 hb2).set_ne hb1, ?_⟩
    rcases how with rfl | ⟨r', rfl, hr'⟩
    · exact hb2
    · intro e; cases e; exact a1.ne hr' rfl
theorem qOr {h : Heap} {q : Option Addr} {l : List Int} {b : Nat} {x : Bool} {p : Option Addr} {n c : Nat} (r : Ints .i64 h q l) (a : At h b [.bool x, slice p n c]) (hl : l ≠ []) : ∀ o, q ≠ some ⟨b, o, none⟩ := by
  intro o e
  obtain ⟨b', o', e2, hc⟩ := r.at (j := 0) (List.length_pos_iff.2 hl)
  rw [e] at e2
  cases e2
  obtain ⟨T, ea⟩ := a
  unfold Heap.cell at hc
  rw [ea] at hc
  match o with
  | 0 => simp at hc
  | 1 => simp at hc
  | o + 2 => simp at hc
theorem qKe {h0 h : Heap} {neg : Bool} {t2 : Nat} {p : Option Addr} {n c : Nat} {K : Value → Heap → Prop} (ht : h0 t2 = none) (l : h0.le h) {x : Bool} {p0 : Option Addr} {n0 c0 : Nat} (tt : At h t2 [.bool x, slice p0 n0 c0])
    (k : ∀ h', h0.le h' → (∀ q l, Ints .i64 h q l → Ints .i64 h' q l) → K (agg #[.bool neg, slice p n c]) h') :
    Heap.canSt h t2 0 2 ∧ ∃ (b_1 : Bool), Heap.cell (Heap.setN h t2 0 [.bool neg, slice p n c]) t2 0 = some (.bool b_1) ∧
      ∃ (a_1 : Option Addr), ∃ (n_1 : Nat), ∃ (m_1 : Nat), Heap.cell (Heap.setN h t2 0 [.bool neg, slice p n c]) t2 1 = some (slice a_1 n_1 m_1) ∧ Ret (Heap.setN h t2 0 [.bool neg, slice p n c]) K (agg #[.bool b_1, slice a_1 n_1 m_1]) := by
  have t3 := tt.set (o := 0) (ws := [.bool neg, slice p n c])
  refine ⟨tt.canSt (by simp), _, t3.cell rfl, _, _, _, t3.cell rfl, Ret.mk (k _ (qj l ht) fun q l r => ?_)⟩
  by_cases hl : l = []
  · subst hl; exact .inl rfl
  have hq := qOr r tt hl
  rcases r with r | ⟨b, o, e, r⟩
  · exact .inl r
  · refine .inr ⟨b, o, e, fun j hj => ?_⟩
    have := r j hj
    unfold Heap.cell at this ⊢
    rw [qCq (fun e2 => hq o (by rw [e, e2]))]
    exact this
theorem qZD {N : Int} {h0 : Heap} {t2 out : Nat} (ht : h0 t2 = none) (ho : h0 out = none) (hne : t2 ≠ out) {K : Value → Heap → Prop}
    (k : ∀ v h', h0.le h' → BigN h' v N 5 → K v h') : ∀ (f : Nat) (n : Int) (h : Heap) (p : Option Addr) (c : Nat) (ds : List Int), h0.le h → -(10000 : Int) ^ f < n → n < (10000 : Int) ^ f → ds.length + f ≤ 5 → okD ds →
      N = sg (decide (N < 0)) ds + 10000 ^ ds.length * n → (N < 0 → n ≤ 0) → (0 ≤ N → 0 ≤ n) → (N = 0 → ds = []) → I64 n →
      At h out [.bool (decide (N < 0)), slice p ds.length c] → At h t2 [.bool false, slice none 0 0] → OwnL h0 h [int .i64 0] p c (qR .i64 ds) → p ≠ some ⟨out, 0, none⟩ → p ≠ some ⟨t2, 0, none⟩ →
      qF0 n t2 out h K := by
  intro f
  induction f with
  | zero =>
    intro n h p c ds l f1 f2 hf ok hN s1 s2 hz hI oo tt own hp1 hp2
    have n0 : n = 0 := by simp at f1 f2; omega
    subst n0
    refine qOE _ _ _ _ _ ?_
    unfold qLM
    refine Br.no (by decide) ?_
    rw [Int.mul_zero, Int.add_zero] at hN
    refine ⟨_, oo.cell rfl, _, _, _, oo.cell rfl, qKe ht l tt fun h' l' rd => k _ _ l' ?_⟩
    have hc : ds.length ≤ c := by
      rcases own with ⟨e, _, _⟩ | ⟨r, sp, _, _, _, e⟩
      · have := congrArg List.length e; rw [qd, List.length_nil] at this; omega
      · simp [qd] at e; omega
    refine ⟨_, p, c, ds, rfl, rd _ _ own.rd, ok, hN, hc, by omega, fun z => ?_⟩
    have : N = 0 := by rw [hN]; unfold sg; rw [z]; simp
    exact ⟨hz this, by simp [this]⟩
  | succ f ih =>
    intro n h p c ds l f1 f2 hf ok hN s1 s2 hz hI oo tt own hp1 hp2
    by_cases n0 : n = 0
    · exact (fun x : (-(10000 : Int) ^ f < n ∧ n < (10000 : Int) ^ f) => ih n h p c ds l x.1 x.2 (by omega) ok hN s1 s2 hz hI oo tt own hp1 hp2) (by
        subst n0; have : (0 : Int) < 10000 ^ f := Int.pow_pos (by decide)
        omega)
    refine qOE _ _ _ _ _ ?_
    unfold qLM
    refine Br.yes (by simpa using n0) ?_
    unfold I64 at hI
    rw [Int.pow_succ] at f1 f2
    generalize hP : (10000 : Int) ^ f = P at *
    -- the next round, whatever the digit
    have next : ∀ (d : Int), 0 ≤ d → d < 10000 → (N < 0 → n = -(d + 10000 * (-(Int.tdiv n 10000)))) → (0 ≤ N → n = d + 10000 * Int.tdiv n 10000) →
        qL h [int .i64 d] 3 fun (r : Nat) (h : Heap) => AppA [int .i64 0] 3 h p ds.length c 1 (some { block := r, off := 0 }) fun (ap : Option Addr) (cp : Nat) (h : Heap) =>
          Heap.canSt h out 1 1 ∧ qF0 (IntKind.wrap .i64 (Int.tdiv n 10000)) t2 out (Heap.setN h out 1 [slice ap (ds.length + 1) cp]) K := by
      intro d d0 d1 e1 e2
      refine qP0 (J := fun h => qF0 _ t2 out h K) l oo own hp1 ho (by omega) fun p' c' h' l' o' w' hp' keep => ?_
      have tq : I64 (Int.tdiv n 10000) := by unfold I64; rcases td n with ⟨a, b, _⟩ | ⟨a, b, _⟩ <;> rw [b] <;> omega
      rw [qH tq.1 tq.2]
      obtain ⟨t', hp2'⟩ := keep _ _ tt hne hp2
      have hlen : (ds ++ [d]).length = ds.length + 1 := by simp
      refine ih _ h' p' c' (ds ++ [d]) l' ?_ ?_ (by rw [hlen]; omega) (qNo ok (fun x hx => by simp at hx; omega)) ?_ ?_ ?_ ?_ tq o' t' w' hp' hp2'
      · rcases td n with ⟨a, b, _⟩ | ⟨a, b, _⟩ <;> rw [b] <;> omega
      · rcases td n with ⟨a, b, _⟩ | ⟨a, b, _⟩ <;> rw [b] <;> omega
      · have ed : dig (ds ++ [d]) = dig ds + 10000 ^ ds.length * d := by rw [qIM]; simp [dig]
        rw [hlen, Int.pow_succ, Int.mul_assoc]
        unfold sg at hN ⊢
        rw [ed]
        by_cases hn : N < 0
        · have e := e1 hn
          simp only [hn, decide_true, if_true] at hN ⊢
          have e3 : 10000 ^ ds.length * n = 10000 ^ ds.length * (10000 * Int.tdiv n 10000) - 10000 ^ ds.length * d := by
            rw [← Int.mul_sub]; congr 1; omega
          omega
        · have e := e2 (by omega)
          simp only [hn, decide_false, Bool.false_eq_true, if_false] at hN ⊢
          have e3 : 10000 ^ ds.length * n = 10000 ^ ds.length * (10000 * Int.tdiv n 10000) + 10000 ^ ds.length * d := by
            rw [← Int.mul_add]; congr 1; omega
          omega
      · intro hn; have := s1 hn; rcases td n with ⟨a, b, _⟩ | ⟨a, b, _⟩ <;> rw [b] <;> omega
      · intro hn; have := s2 hn; rcases td n with ⟨a, b, _⟩ | ⟨a, b, _⟩ <;> rw [b] <;> omega
      · intro hn; have := s2 (by omega); have e := hz hn
        subst e
        simp [sg, dig] at hN
        omega
    refine Br.dec (fun hneg => ?_) (fun hpos => ?_)
    · have hw : IntKind.wrap .i64 (0 - Int.tmod n 10000) = -(Int.tmod n 10000) := by
        rcases td n with ⟨a, _, b⟩ | ⟨a, _, b⟩ <;> rw [qH (by omega) (by omega)] <;> omega
      rw [hw]
      refine ⟨p, _, c, oo.cell rfl, next _ ?_ ?_ ?_ ?_⟩
      · omega
      · rcases td n with ⟨a, _, b⟩ | ⟨a, _, b⟩ <;> rw [b] <;> omega
      · intro _; rcases td n with ⟨a, b, c⟩ | ⟨a, b, c⟩ <;> rw [b, c] <;> omega
      · intro hn; have := s2 hn; rcases td n with ⟨a, b, c⟩ | ⟨a, b, c⟩ <;> omega
    · refine ⟨p, _, c, oo.cell rfl, next _ ?_ ?_ ?_ ?_⟩
      · omega
      · rcases td n with ⟨a, _, b⟩ | ⟨a, _, b⟩ <;> rw [b] <;> omega
      · intro hn; have := s1 hn; rcases td n with ⟨a, b, c⟩ | ⟨a, b, c⟩ <;> rw [b, c] <;> omega
      · intro hn; have := s2 hn; rcases td n with ⟨a, b, c⟩ | ⟨a, b, c⟩ <;> rw [b, c] <;> omega
theorem qLP {n : Int} (hn : I64 n) {h : Heap} {K : Value → Heap → Prop} (k : ∀ v h', h.le h' → BigN h' v n 5 → K v h') : CallA Tryz.prog qAk [int .i64 n] h K := by
  refine qVY _ _ _ ?_
  unfold qPq
  intro r hr r1 hr1
  have t0 := (At.new h r [.bool false, slice none 0 0] 78).ins (x := .cells [.bool false, slice none 0 0].toArray 78 (0, 0)) hr1
  have o0 := At.new (h.ins r (.cells [.bool false, slice none 0 0].toArray 78 (0, 0))) r1 [.bool false, slice none 0 0] 78
  have l := qBs (x := .cells [.bool false, slice none 0 0].toArray 78 (0, 0)) (qi hr (o := .cells [.bool false, slice none 0 0].toArray 78 (0, 0))) hr1
  have hne : r ≠ r1 := (At.new _ _ _ _).ne hr1
  have h1 : h r1 = none := qm (qi hr) hr1
  refine ⟨o0.canSt (by simp), ?_⟩
  have o1 := o0.set (o := 0) (ws := [.bool (decide (n < 0)), slice none 0 0])
  unfold I64 at hn
  refine qZD (N := n) hr h1 hne k 5 n _ none 0 [] (qj l h1) (by omega) (by omega) (by simp) (fun d hd => (by cases hd)) (by simp [sg, dig]) (fun h => by omega) (fun h => by omega) (fun _ => rfl) hn o1 (t0.set_ne hne) (OwnL.nil _ _ _) (by simp) (by simp)
theorem qQJ {v : Value} {x : Int} {b : Nat} {h : Heap} (hv : BigR h v x b) (hb : b ≤ 1048576) {K : Value → Heap → Prop} (k : ∀ v' h', h.le h' → BigN h' v' (-x) b → K v' h') : CallA Tryz.prog qHw [v] h K := by
  obtain ⟨neg, p, c, ds, rfl, hr, ok, hx, hc, hl⟩ := hv
  refine qRH _ _ _ _ _ _ ?_
  unfold qMb
  intro r hr0 r1 hr1
  have a0 := (At.new h r [.bool neg, slice p ds.length c] 78).ins (x := .cells [.bool false, slice none 0 0].toArray 78 (0, 0)) hr1
  have t0 := At.new (h.ins r (.cells [.bool neg, slice p ds.length c].toArray 78 (0, 0))) r1 [.bool false, slice none 0 0] 78
  have l := qBs (x := .cells [.bool false, slice none 0 0].toArray 78 (0, 0)) (qi hr0 (o := .cells [.bool neg, slice p ds.length c].toArray 78 (0, 0))) hr1
  have h1 : h r1 = none := qm (qi hr0) hr1
  refine ⟨_, a0.cell rfl, _, _, _, a0.cell rfl, qQW (hr.le l) ok hc (by omega) fun v' h' l' nb => ?_⟩
  obtain ⟨neg2, p2, c2, ds2, rfl, r2, ok2, x2, c3, b2, nz⟩ := nb
  refine ⟨_, _, _, _, rfl, qKe h1 (Heap.le_trans l l') (t0.le l') fun h'' l'' rd => k _ _ l'' ?_⟩
  refine ⟨neg2, p2, c2, ds2, rfl, rd _ _ r2, ok2, ?_, c3, by omega, nz⟩
  · rw [hx, ← x2]; unfold sg; cases neg <;> simp
end Go.Proofs.YtjihfieahkbohaaGreat
