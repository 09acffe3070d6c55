import Derived.Test.YtjihfieahkbohaaGreatM11
import Derived.Test.YtjihfieahkbohaaGreatM06
import Derived.Test.YtjihfieahkbohaaGreatM02
import Derived.Test.YtjihfieahkbohaaGreatM05
import Derived.Test.YtjihfieahkbohaaGreatM10
import Derived.Test.YtjihfieahkbohaaGreatM13
/- Who is behind, whole: what plan.Behind answers. -/
namespace Go.Proofs.YtjihfieahkbohaaGreat
open Go Go.Sy Go.Value
set_option linter.unusedVariables false
set_option linter.unusedSimpArgs false

theorem qUp {h : Heap} {q : Option Addr} {W : List Du} {j lc : Nat} (A : Arr uV h q W) (hj : j ≤ W.length) (hc : W.length ≤ lc) : Arr uV h (qGG q j lc 4) (W.drop j) := by
  by_cases e : W.drop j = []
  · rw [e]; exact .inl rfl
  have hj2 : j < W.length := by
    rcases Nat.lt_or_ge j W.length with h | h
    · exact h
    · exact (e (List.drop_eq_nil_of_le h)).elim
  rcases A with A | ⟨b, o, e1, A⟩
  · have := congrArg List.length A
    rw [qm qCq] at this
    simp at this; omega
  unfold qGG
  rw [if_neg (by omega), e1]
  refine .inr ⟨b, o + j * 4, by rw [Option.map_some, Addr.add_none], fun i hi => ?_⟩
  have hl := qm qCq (W.drop j)
  rw [hl, List.length_drop] at hi
  have hw := qm qCq W
  have := A (j * 4 + i) (by rw [hw]; omega)
  rw [← Nat.add_assoc] at this
  rw [this]
  have es : W.flatMap uV = (W.take j).flatMap uV ++ (W.drop j).flatMap uV := by rw [← List.flatMap_append, List.take_append_drop]
  rw [es, List.getElem?_append_right (by rw [qm qCq, List.length_take]; omega), qm qCq, List.length_take]
  congr 1
  omega
section
variable {g : Heap} {K : Value → Heap → Prop} {pp : Option Addr} {PL : List NRow} {pc : Nat} {now : Int}
theorem qXb (N : Nets g pp PL) (hP : ∀ y ∈ PL, qFI y.l) {f0 : Nat} {W0 : List Du} (k : ∀ h' op oc, g.le h' → Arr uV h' op (qJr (mxN PL) now f0 W0 []).1 → K (tuple #[slice op (qJr (mxN PL) now f0 W0 []).1.length oc, .int .i64 (qJr (mxN PL) now f0 W0 []).2]) h') :
    ∀ (f : Nat) (W : List Du) (q : Option Addr) (lc : Nat) (h : Heap) (out : List Du) (op : Option Addr) (oc : Nat), W.length ≤ f → W.length ≤ 100000 → W.length ≤ lc → (∀ y ∈ W, okU y) → Arr uV g q W → g.le h → OwnL g h z4 op oc (out.flatMap uV) → out.length + W.length ≤ 200000 →
    qJr (mxN PL) now f0 W0 [] = qJr (mxN PL) now f W out → qEh pp PL.length pc now q W.length lc op out.length oc h K := by
  intro f
  induction f with
  | zero =>
    intro W q lc h out op oc h1 h2 h3 ho A l O hl e
    refine qKl _ _ _ _ _ _ _ _ _ _ _ _ ?_
    unfold qHu
    have hW : W = [] := List.length_eq_zero_iff.1 (by omega)
    subst hW
    rw [e] at k
    exact Br.no (by decide) (Ret.mk (k h op oc l O.rd))
  | succ f ih =>
    intro W q lc h out op oc h1 h2 h3 ho A l O hl e
    refine qKl _ _ _ _ _ _ _ _ _ _ _ _ ?_
    unfold qHu
    cases hW : W with
    | nil =>
      subst hW
      rw [e] at k
      exact Br.no (by decide) (Ret.mk (k h op oc l O.rd))
    | cons x R =>
    rw [← hW]
    have hx0 : W[0]? = some x := by rw [hW]; rfl
    have hx := ho x (by rw [hW]; exact List.mem_cons_self ..)
    have hx' := hx
    unfold okU at hx'
    have hWl : W.length = R.length + 1 := by rw [hW]; rfl
    have e' : qJr (mxN PL) now (f + 1) W out = match qKQ x x.n 1 R with
      | none => ([], 3)
      | some (s, j) => qJr (mxN PL) now f (W.drop j) (out ++ qMz (mxN PL) now x s) := by rw [hW]; rfl
    rw [e'] at e
    have A0 := A.le l
    refine Br.yes (decide_eq_true (by omega)) ⟨by omega, by omega, ?_⟩
    have ld := ldX (J := fun a b c d => qa h [.int .i64 0, .int .i64 0, .int .i64 0, .int .i64 0] 39 fun r h => h.canSt r 0 4 ∧ ∃ n_4 : Int, (h.setN r 0 [.int .i64 a, .int .i64 b, .int .i64 c, .int .i64 d]).cell r 3 = some (.int .i64 n_4) ∧
      qFl pp PL.length pc now q W.length lc op out.length oc r 1 n_4 (h.setN r 0 [.int .i64 a, .int .i64 b, .int .i64 c, .int .i64 d]) K) A0 rfl (j := 0) (i := 0) rfl hx0 ?_
    · have ld := ld.2.2
      simpa using ld
    refine qH9 (vs := uV x) rfl fun r h4 hr l4 A4 cs4 => ⟨cs4, _, A4.cell rfl, ?_⟩
    have lg := Heap.le_trans l l4
    have O4 := O.le l4
    refine qXY hW A ho (by omega) lg A4 (fun h' l' hr => ?_) (fun h' s j l' hr => ?_) R 1 x.n _ (Heap.le_refl _) (by rw [hW]; rfl) (by omega) (by omega) (by omega) rfl
    · rw [hr] at e
      dsimp only at e
      rw [e] at k
      exact k h' none 0 (Heap.le_trans lg l') (.inl rfl)
    · rw [hr] at e
      dsimp only at e
      obtain ⟨r1, r2, r3, r4⟩ := qRK (fun y hy => ho y (by rw [hW]; exact List.mem_cons_of_mem _ hy)) (by omega) (by omega) hr
      refine qTv (A4.le l') (N.le (Heap.le_trans lg l')) hx ⟨r1, r2⟩ hP ?_
      refine qUo (A4.le l') (Heap.le_trans lg l') (O4.le l') (by omega) fun h5 op' oc' l5 O5 => ?_
      refine qME _ _ _ _ _ _ _ _ _ _ _ _ _ ?_
      unfold qIm
      refine ⟨by omega, by omega, ?_⟩
      rw [Int.toNat_natCast]
      have hil : (qMz (mxN PL) now x s).length ≤ 1 := by unfold qMz; split <;> simp
      have hdl : (W.drop j).length = W.length - j := List.length_drop ..
      have := ih (W.drop j) (qGG q j lc 4) (lc - j) h5 (out ++ qMz (mxN PL) now x s) op' oc' (by omega) (by omega) (by omega) (fun y hy => ho y (List.mem_of_mem_drop hy)) (qUp A (by omega) h3) l5 O5 (by rw [List.length_append]; omega) e
      rw [hdl] at this
      exact this
theorem qXN {q : Option Addr} {D : List Du} {n dc : Nat} (A : Arr uV g q D) (hn : D.length = n) (hs : n ≤ 4096) {PNn : Nat}
    (k : ∀ h' p c, g.le h' → OwnL g h' z4 p c ((D.filter fun x => decide (x.t ≤ now)).flatMap uV) → CallA Tryz.prog qv [slice p (D.filter fun x => decide (x.t ≤ now)).length c, func (Fn.func qI) #[] #[]] h' fun v h => v = tuple #[] ∧ qEh pp PNn pc now p (D.filter fun x => decide (x.t ≤ now)).length c none 0 0 h K) :
    ∀ (m j : Nat) (h : Heap) (p : Option Addr) (c : Nat), m + j = n → g.le h → OwnL g h z4 p c (((D.take j).filter fun x => decide (x.t ≤ now)).flatMap uV) →
    qFu pp PNn pc now p ((D.take j).filter fun x => decide (x.t ≤ now)).length c q n dc n j h K := by
  intro m
  induction m with
  | zero =>
    intro j h p c hj l O
    refine qKO _ _ _ _ _ _ _ _ _ _ _ _ _ _ ?_
    unfold qHy
    rw [List.take_of_length_le (by omega)] at O ⊢
    exact Br.no (by simp; omega) (k h p c l O)
  | succ m ih =>
    intro j h p c hj l O
    refine qKO _ _ _ _ _ _ _ _ _ _ _ _ _ _ ?_
    unfold qHy
    have hx : D[j]? = some D[j] := List.getElem?_eq_getElem (by omega)
    have tk : D.take (j + 1) = D.take j ++ [D[j]] := by rw [List.take_add_one, hx]; rfl
    generalize D[j] = x at *
    have hlen : ((D.take j).filter fun x => decide (x.t ≤ now)).length ≤ j := Nat.le_trans (List.length_filter_le _ _) (by rw [List.length_take]; omega)
    refine Br.yes (by simp; omega) (ldX (A.le l) hn rfl hx (qH9 (vs := uV x) rfl fun r h4 hr l4 A4 cs4 => ⟨cs4, _, A4.cell rfl, ?_⟩))
    have lg := Heap.le_trans l l4
    have O4 := O.le l4
    rw [w1 (j := j) (by omega)]
    refine Br.dec (fun g1 => ?_) fun g1 => ?_
    · refine ldU (a := 0) (fun o ho => A4.cellO ho) (qKD (ws := uV x) O4 (by decide) lg (by omega) rfl rfl (by rw [qm qCq]; rfl) fun r h5 p' c' h' hr l5 l' O' keep how => ?_)
      have e : (D.take (j + 1)).filter (fun x => decide (x.t ≤ now)) = (D.take j).filter (fun x => decide (x.t ≤ now)) ++ [x] := by rw [tk, List.filter_append, List.filter_cons_of_pos (by simpa using g1)]; rfl
      have := ih (j + 1) h' p' c' (by omega) l' (by rw [e, List.flatMap_append, List.flatMap_cons, List.flatMap_nil, List.append_nil]; exact O')
      rw [e, List.length_append] at this
      exact this
    · have e : (D.take (j + 1)).filter (fun x => decide (x.t ≤ now)) = (D.take j).filter (fun x => decide (x.t ≤ now)) := by rw [tk, List.filter_append, List.filter_cons_of_neg (by simpa using g1)]; simp
      have := ih (j + 1) _ p c (by omega) lg (by rw [e]; exact O4)
      rw [e] at this
      exact this
theorem qT0 {h : Heap} {q : Option Addr} {D : List Du} {dc : Nat} (A : Arr uV h q D) (hs : D.length ≤ 1000000) (hD : ∀ x ∈ D, I64 x.m ∧ I64 x.c ∧ I64 x.t ∧ I64 x.n) (N : Nets h pp PL) (hP : ∀ y ∈ PL, qFI y.l)
    (k4 : 4096 < D.length → K (tuple #[slice none 0 0, .int .i64 4]) h) (k1 : D.length ≤ 4096 → D.any qIy = true → ∀ h', h.le h' → K (tuple #[slice none 0 0, .int .i64 1]) h')
    (k : D.length ≤ 4096 → D.any qIy = false → ∀ (W : List Du) h' q' c', W.Perm (D.filter fun x => decide (x.t ≤ now)) → (W.Pairwise fun x y => ¬ (y.m < x.m ∨ (y.m = x.m ∧ y.c < x.c))) → (∀ y ∈ W, okU y) → h.le h' → Arr uV h' q' (qJr (mxN PL) now W.length W []).1 →
      K (tuple #[slice q' (qJr (mxN PL) now W.length W []).1.length c', .int .i64 (qJr (mxN PL) now W.length W []).2]) h') :
    CallA Tryz.prog qIp [slice q D.length dc, slice pp PL.length pc, .int .i64 now] h K := by
  refine qPe _ _ _ _ _ _ _ _ _ ?_
  unfold qLR
  refine Br.dec (fun g1 => Ret.mk (k4 (by omega))) fun g1 => qUA A rfl hs fun h1 l1 => ⟨_, rfl, ?_⟩
  cases hb : D.any qIy with
  | true => exact Br.yes rfl (Ret.mk (k1 (by omega) hb h1 l1))
  | false =>
  have k := k (by omega) hb
  have ok : ∀ y ∈ D.filter (fun x => decide (x.t ≤ now)), okU y := fun y hy => by
    have hy := (List.mem_filter.1 hy).1
    have h1 := hD y hy
    rw [List.any_eq_false] at hb
    have h2 := hb y hy
    unfold qIy at h2
    rw [decide_eq_true_eq] at h2
    unfold okU I64 at *
    omega
  have hfl : (D.filter fun x => decide (x.t ≤ now)).length ≤ 4096 := Nat.le_trans (List.length_filter_le _ _) (by omega)
  refine Br.no rfl (qXN (g := h1) (A.le l1) rfl (by omega) (fun h' p c l' O => ?_) D.length 0 h1 none 0 (by omega) (Heap.le_refl _) (.nil _ _ _))
  generalize hF : D.filter (fun x => decide (x.t ≤ now)) = F at *
  have go : ∀ h2 W q lc, h1.le h2 → W.Perm F → (W.Pairwise fun x y => ¬ (y.m < x.m ∨ (y.m = x.m ∧ y.c < x.c))) → W.length ≤ lc → Arr uV h2 q W → qEh pp PL.length pc now q F.length lc none 0 0 h2 K := fun h2 W q lc l2 hp hs hc A2 => by
    have hwl := hp.length_eq
    have := qXb (pc := pc) (N.le (Heap.le_trans l1 l2)) hP (f0 := W.length) (W0 := W) (fun h3 op oc l3 A3 => k W h3 op oc hp hs (fun y hy => ok y (hp.mem_iff.1 hy)) (Heap.le_trans l1 (Heap.le_trans l2 l3)) A3) W.length W q lc h2 [] none 0 (Nat.le_refl _) (by omega) hc (fun y hy => ok y (hp.mem_iff.1 hy)) A2 (Heap.le_refl _) (.nil _ _ _) (by simp; omega) rfl
    rw [hwl] at this
    exact this
  rcases O with ⟨e1, e2, e3⟩ | ⟨B, sp, e2, e0, AB, hc⟩
  · have hFn : F = [] := by
      have := congrArg List.length e1
      rw [qm qCq] at this
      rw [List.length_nil] at this
      exact List.length_eq_zero_iff.1 (by omega)
    subst hFn e2 e3
    exact qQ8 ⟨rfl, go h' [] none 0 l' (.refl _) .nil (Nat.le_refl _) (.inl rfl)⟩
  · subst e2
    have hcl : F.length ≤ c := by
      rw [List.length_append, qm qCq, show z4.length = 4 from rfl] at hc
      omega
    have Dau : DaU F h1 B F.length F.length sp h' (qGt F.length).toArray := ⟨l', by rw [show (qGt F.length).toArray.toList = qGt F.length from rfl, qPU]; exact AB, by simp [qI1], rfl⟩
    refine qUN e0 rfl (by omega) Dau fun h2 d2 D2 P2 s2 => ⟨rfl, ?_⟩
    obtain ⟨q1, q2⟩ := qSt rfl P2 s2
    exact go h2 _ (some ⟨B, 0, none⟩) c D2.le q1 q2 (by rw [q1.length_eq]; exact hcl) (At.toRd D2.at_)
end
end Go.Proofs.YtjihfieahkbohaaGreat

/- Parts of a heap that lie apart from each other and from all else. -/
namespace Go.Proofs.YtjihfieahkbohaaGreat
open Go Go.Sy Go.Value
set_option linter.unusedVariables false
set_option linter.unusedSimpArgs false

structure SepT (H X g1 g2 : Heap) : Prop where
  x : X.le H
  a : g1.le H
  b : g2.le H
  xa : ∀ r o, X r = some o → g1 r = none
  xb : ∀ r o, X r = some o → g2 r = none
  ab : ∀ r o, g1 r = some o → g2 r = none
section
variable {P : Program} {f : FuncId} {args : List Value} {H H' X g1 g2 : Heap} {K : Value → Heap → Prop}
theorem SepT.le (s : SepT H X g1 g2) (l : H.le H') : SepT H' X g1 g2 := ⟨Heap.le_trans s.x l, Heap.le_trans s.a l, Heap.le_trans s.b l, s.xa, s.xb, s.ab⟩
theorem SepT.ba (s : SepT H X g1 g2) : ∀ r o, g2 r = some o → g1 r = none := fun r o e => by
  cases h : g1 r with
  | none => rfl
  | some y => have := s.ab r y h; rw [e] at this; cases this
theorem SepT.call1 (s : SepT H X g1 g2) (c : CallA P f args g1 fun v g' => ∀ H', SepT H' X g' g2 → K v H') : CallA P f args H K :=
  (c.frame2 s.a).mono fun v h' ⟨g', k, l', keep, off⟩ => k h' ⟨fun r o e => keep r o (s.x r o e) (s.xa r o e), l', fun r o e => keep r o (s.b r o e) (s.ba r o e), fun r o e => off r o (s.x r o e) (s.xa r o e), s.xb, fun r o e => by
    cases h : g2 r with
    | none => rfl
    | some y =>
      have := off r y (s.b r y h) (s.ba r y h)
      rw [e] at this; cases this⟩
theorem SepT.call2 (s : SepT H X g1 g2) (c : CallA P f args g2 fun v g' => ∀ H', SepT H' X g1 g' → K v H') : CallA P f args H K :=
  (c.frame2 s.b).mono fun v h' ⟨g', k, l', keep, off⟩ => k h' ⟨fun r o e => keep r o (s.x r o e) (s.xb r o e), fun r o e => keep r o (s.a r o e) (s.ab r o e), l', s.xa, fun r o e => off r o (s.x r o e) (s.xb r o e), fun r o e => off r o (s.a r o e) (s.ab r o e)⟩
theorem SepT.new2 (s : SepT H X g1 qLE) (c : CallA P f args qLE fun v g' => ∀ H', SepT H' X g1 g' → K v H') : CallA P f args H K := s.call2 c
theorem SepT.new1 (s : SepT H X qLE g2) (c : CallA P f args qLE fun v g' => ∀ H', SepT H' X g' g2 → K v H') : CallA P f args H K := s.call1 c
theorem SepT.start (h : Heap) : SepT h h qLE qLE := ⟨h.le_refl, qO7 h, qO7 h, fun _ _ _ => rfl, fun _ _ _ => rfl, fun _ _ _ => rfl⟩
theorem qUS {X H : Heap} (l : X.le H) (r : Nat) (o : Obj) : (X.ins r o).le (H.ins r o) := fun x y e => by
  unfold Heap.ins at e ⊢
  split
  · rename_i g; rw [if_pos g] at e; exact e
  · rename_i g; rw [if_neg g] at e; exact l x y e
theorem SepT.ins (s : SepT H X g1 g2) {r : Nat} (hr : H r = none) (o : Obj) : SepT (H.ins r o) (X.ins r o) g1 g2 := by
  have dj : ∀ g : Heap, g.le H → (∀ r o, X r = some o → g r = none) → ∀ x y, (X.ins r o) x = some y → g x = none := fun g l d x y e => by
    unfold Heap.ins at e
    split at e
    · rename_i h; rw [h]; exact qEC l hr
    · exact d x y e
  exact ⟨qUS s.x r o, Heap.le_trans s.a (qBf hr), Heap.le_trans s.b (qBf hr), dj g1 s.a s.xa, dj g2 s.b s.xb, s.ab⟩
theorem qQq {h : Heap} {b o x : Nat} {ws : List Value} {y : Obj} (e : (h.setN b o ws) x = some y) : ∃ z, h x = some z := by
  by_cases g : x = b
  · subst g
    unfold Heap.setN at e
    cases hx : h x with
    | none => simp [hx] at e
    | some z => exact ⟨z, rfl⟩
  · rw [qFn g] at e; exact ⟨y, e⟩
theorem qTX {X H : Heap} (l : X.le H) {b o : Nat} {vs ws : List Value} (a : At X b vs) : (X.setN b o ws).le (H.setN b o ws) := fun x y e => by
  by_cases g : x = b
  · subst g
    obtain ⟨T, ea⟩ := a
    have eh := l _ _ ea
    unfold Heap.setN at e ⊢
    rw [ea] at e
    rw [eh]
    exact e
  · rw [qFn g] at e ⊢; exact l x y e
theorem SepT.set (s : SepT H X g1 g2) {b o : Nat} {vs ws : List Value} (a : At X b vs) : SepT (H.setN b o ws) (X.setN b o ws) g1 g2 := by
  obtain ⟨T, ea⟩ := a
  exact ⟨qTX s.x ⟨T, ea⟩, qCc s.a (s.xa b _ ea), qCc s.b (s.xb b _ ea), fun r y e => (qQq e).elim fun z hz => s.xa r z hz, fun r y e => (qQq e).elim fun z hz => s.xb r z hz, s.ab⟩
theorem SepT.cp (s : SepT H X g1 g2) {z vs : List Value} {T : TypeId} {J : Nat → Heap → Prop} (hv : vs.length = z.length)
    (k : ∀ r H1 X', SepT (H1.setN r 0 vs) X' g1 g2 → At X' r vs → (∀ b xs, At X b xs → At X' b xs) → H1.canSt r 0 z.length → X r = none → X.le X' → J r H1) : qa H z T J := fun r hr => by
  have s1 := s.ins hr (.cells z.toArray T (0, 0))
  have a1 := At.new X r z T
  have hx := qEC s.x hr
  have a2 := a1.set (o := 0) (ws := vs)
  have e := qKh vs [] z (by omega)
  rw [List.nil_append, List.nil_append, hv, List.drop_length, List.append_nil] at e
  rw [show ([] : List Value).length = 0 from rfl] at e
  rw [e] at a2
  exact k r _ _ (s1.set a1) a2 (fun b xs a => (a.ins hx).set_ne (a.ne hx)) (qMT _ _ _ _ _ _ (by omega)) hx (qCc (qBf hx) hx)
theorem SepT.box (s : SepT H X g1 g2) {z : List Value} {T : TypeId} {J : Nat → Heap → Prop}
    (k : ∀ r H1 X', SepT H1 X' g1 g2 → At X' r z → (∀ b xs, At X b xs → At X' b xs) → X r = none → X.le X' → J r H1) : qa H z T J := fun r hr => by
  have hx := qEC s.x hr
  exact k r _ _ (s.ins hr _) (At.new X r z T) (fun b xs a => a.ins hx) hx (qBf hx)
end
end Go.Proofs.YtjihfieahkbohaaGreat

/- Shares: the awake test answers true. -/

namespace Go.Proofs.YtjihfieahkbohaaGreat
open Go Go.Sy Go.Value
set_option linter.unusedVariables false
set_option linter.unusedSimpArgs false

theorem vB : qI7 10 3 = ([4, 3, 3], 0) := by
  unfold qI7
  rw [if_neg (by decide), if_neg (by decide), if_neg (by decide)]
  have e : ones (Int.toNat 3) = [1, 1, 1] := rfl
  rw [e]
  unfold qI4
  rw [if_neg (by decide), if_neg (by decide), if_neg (by decide), if_neg (by decide), if_neg (by decide)]
  unfold qID
  have o : qMj (qFb 10 (qL [1, 1, 1]) [1, 1, 1]) ([1, 1, 1] : List Int).length = [0, 1, 2] := qVr (by decide) (by decide)
  rw [o]; decide
section
variable {K : Value → Heap → Prop} {h : Heap}
theorem qRz {a b : Option Addr} {la lb : List Int} {n ac bc : Nat} (Ia : Ints .i64 h a la) (Ib : Ints .i64 h b lb) (ha : la.length = n) (hb : lb.length = n) (hs : n ≤ 1099511627776) :
    ∀ (m j : Nat), m + j = n → Ret h K (.bool (decide (la.drop j = lb.drop j))) → qHF a n ac b n bc j h K := by
  intro m
  induction m with
  | zero =>
    intro j hj k
    refine qK4 _ _ _ _ _ _ _ _ _ ?_
    unfold qIZ
    refine Br.no (by simp; omega) ?_
    rw [List.drop_eq_nil_of_le (by omega), List.drop_eq_nil_of_le (by omega)] at k
    exact k
  | succ m ih =>
    intro j hj k
    refine qK4 _ _ _ _ _ _ _ _ _ ?_
    unfold qIZ
    have ea : la[j]? = some la[j] := List.getElem?_eq_getElem (by omega)
    have eb : lb[j]? = some lb[j] := List.getElem?_eq_getElem (by omega)
    rw [List.drop_eq_getElem_cons (by omega : j < la.length), List.drop_eq_getElem_cons (by omega : j < lb.length)] at k
    refine Br.yes (by simp; omega) (ix Ia ha rfl ea (ix Ib hb rfl eb ?_))
    refine Br.intro (fun e => ?_) (fun e => ?_)
    · have : la[j] ≠ lb[j] := by simpa using e
      rw [decide_eq_false (fun x => this (List.cons.inj x).1)] at k
      exact k
    · have e : la[j] = lb[j] := by simpa using e
      rw [qZ (by omega) (by omega)]
      refine ih (j + 1) (by omega) ?_
      have e0 : ∀ (a b : Int) (x y : List Int), a = b → ((a :: x = b :: y) ↔ x = y) := by rintro a _ x y rfl; simp
      have := e0 _ _ (la.drop (j + 1)) (lb.drop (j + 1)) e
      rw [decide_eq_decide.2 this] at k
      exact k
theorem qRj {a b : Option Addr} {la lb : List Int} {n m ac bc : Nat} (Ia : Ints .i64 h a la) (Ib : Ints .i64 h b lb) (ha : la.length = n) (hb : lb.length = m) (hs : n ≤ 1099511627776) (k : K (.bool (decide (la = lb))) h) :
    CallA Tryz.prog qJm [slice a n ac, slice b m bc] h K := by
  refine qQJ _ _ _ _ _ _ _ _ ?_
  unfold qL4
  refine Br.intro (fun e => ?_) (fun e => ?_)
  · have : n ≠ m := by intro e2; subst e2; simp at e
    rw [decide_eq_false (fun x => this (by rw [← ha, ← hb, x]))] at k
    exact Ret.mk k
  · have : n = m := by simp at e; omega
    subst this
    refine qRz Ia Ib ha hb hs n 0 (by omega) ?_
    simpa using Ret.mk k
end
end Go.Proofs.YtjihfieahkbohaaGreat

/- Plan: the calls whose answers the document fixes. -/
namespace Go.Proofs.YtjihfieahkbohaaGreat
open Go Go.Sy Go.Value
set_option linter.unusedVariables false
set_option linter.unusedSimpArgs false

section
variable {h : Heap} {K : Value → Heap → Prop}
theorem qXL {p : Option Addr} {D : List Du} {n c : Nat} (A : Arr uV h p D) (hn : D.length = n) (hs : n ≤ 1000000) (k : ∀ h' q c', h.le h' → Arr uV h' q D → K (slice q D.length c') h') :
    ∀ (m j : Nat) (h1 : Heap) (q : Option Addr) (cp : Nat), m + j = n → h.le h1 → OwnL h h1 z4 q cp ((D.take j).flatMap uV) → qHt q (D.take j).length cp p n c n j h1 K := by
  intro m
  induction m with
  | zero =>
    intro j h1 q cp hj l O
    refine qLV _ _ _ _ _ _ _ _ _ _ ?_
    unfold qIu
    rw [List.take_of_length_le (by omega)] at O ⊢
    exact Br.no (by simp; omega) (Ret.mk (k h1 q cp l O.rd))
  | succ m ih =>
    intro j h1 q cp hj l O
    refine qLV _ _ _ _ _ _ _ _ _ _ ?_
    unfold qIu
    have hx : D[j]? = some D[j] := List.getElem?_eq_getElem (by omega)
    have tk : D.take (j + 1) = D.take j ++ [D[j]] := by rw [List.take_add_one, hx]; rfl
    generalize D[j] = x at *
    have hl : (D.take j).length = j := by rw [List.length_take]; omega
    refine Br.yes (by simp; omega) (ldX (A.le l) hn rfl hx (qH9 (vs := uV x) rfl fun r h4 hr l4 A4 cs4 => ⟨cs4, ldU (a := 0) (fun o ho => A4.cellO ho) ?_⟩))
    refine qKD (ws := uV x) (O.le l4) (by decide) (Heap.le_trans l l4) (by omega) rfl rfl (by rw [qm qCq]; rfl) fun r h5 p' c' h' hr l5 l' O' keep how => ?_
    rw [w1 (by omega)]
    have := ih (j + 1) h' p' c' (by omega) l' (by rw [tk, List.flatMap_append, List.flatMap_cons, List.flatMap_nil, List.append_nil]; exact O')
    rw [tk, List.length_append] at this
    exact this
theorem qVQ {p : Option Addr} {D : List Du} {n c : Nat} (A : Arr uV h p D) (hn : D.length = n) (hs : n ≤ 1000000) (k : ∀ h' q c', h.le h' → Arr uV h' q D → K (slice q D.length c') h') : CallA Tryz.prog qKN [slice p n c] h K := by
  refine qQv _ _ _ _ _ ?_
  unfold qMi
  have := qXL A hn hs (c := c) k n 0 h none 0 (by omega) h.le_refl (.nil _ _ _)
  exact this
theorem qVd {a b : Option Addr} {D : List Du} {n ac bc : Nat} (A : Arr uV h a D) (B : Arr uV h b D) (hn : D.length = n) (hs : n ≤ 1000000) (k : K (.bool true) h) : ∀ (m j : Nat), m + j = n → qHM a n ac b n bc j h K := by
  intro m
  induction m with
  | zero =>
    intro j hj
    refine qKn _ _ _ _ _ _ _ _ _ ?_
    unfold qIO
    exact Br.no (by simp; omega) (Ret.mk k)
  | succ m ih =>
    intro j hj
    refine qKn _ _ _ _ _ _ _ _ _ ?_
    unfold qIO
    have hx : D[j]? = some D[j] := List.getElem?_eq_getElem (by omega)
    generalize D[j] = x at *
    refine Br.yes (by simp; omega) (ldX A hn rfl hx (ldX B hn rfl hx ?_))
    rw [w1 (by omega)]
    exact Br.no (by simp) (ih (j + 1) (by omega))
theorem qRP {a b : Option Addr} {D E : List Du} {n m ac bc : Nat} (A : Arr uV h a D) (B : Arr uV h b E) (e : D = E) (hn : D.length = n) (hm : E.length = m) (hs : n ≤ 1000000) (k : K (.bool true) h) : CallA Tryz.prog qMC [slice a n ac, slice b m bc] h K := by
  subst e
  subst hn hm
  refine qQk _ _ _ _ _ _ _ _ ?_
  unfold qMA
  exact Br.no (by simp) (qVd A B rfl hs k D.length 0 (by omega))
end
/-! ### awake -/
def aD1 : Dl := ⟨7, 0, 1, 0, 1, 10, 8⟩
def aD2 : Dl := ⟨7, 1, 0, 1, 0, 8, 10⟩
def aS1 : Bk := ⟨2, 2, [⟨aD1, 1, 0, 0⟩], 0⟩
def aS2 : Bk := ⟨2, 2, [⟨aD1, 2, 0, 1⟩], 1⟩
theorem aE1 : qB0 ⟨2, 2, [], 0⟩ aD1 = (false, 0, aS1) := by unfold qB0; rw [if_pos (by unfold qGz aD1; decide)]; rfl
theorem aE2 : qB0 aS1 aD2 = (true, 0, aS2) := by unfold qB0; rw [if_pos (by unfold qGz aD2 aS1; decide)]; rfl
theorem aE3 : qML aS2 2 2 = ([[-10, 8], [10, -8]], 0) := by decide +kernel
theorem aSh : shL (- -10) 3 = [4, 3, 3] := by
  have h1 := qOw (n := 10) (p := 3) (by decide) (by decide) (by decide)
  rw [show qI7 10 ((3 : Nat) : Int) = qI7 10 3 from rfl, vB] at h1
  exact (congrArg Prod.fst h1).symm
theorem aE4 : qKP [[-10]] [5, 9, 12] = ([⟨0, 0, 5, 4⟩, ⟨0, 0, 9, 3⟩, ⟨0, 0, 12, 3⟩], 0) := by
  have e : ∀ k c, qH4 [5, 9, 12] k 0 c (-10) = if 0 < [(4 : Int), 3, 3].getD k 0 then [⟨((0 : Nat) : Int), c, [(5 : Int), 9, 12].getD k 0, [(4 : Int), 3, 3].getD k 0⟩] else [] := fun k c => by
    unfold qH4
    rw [show [(5 : Int), 9, 12].length = 3 from rfl, aSh]
    by_cases g : 0 < [(4 : Int), 3, 3].getD k 0
    · rw [if_pos ⟨by decide, g⟩, if_pos g]
    · rw [if_neg (fun x => g x.2), if_neg g]
  have e2 : qLI [[-10]] [5, 9, 12] = [⟨0, 0, 5, 4⟩, ⟨0, 0, 9, 3⟩, ⟨0, 0, 12, 3⟩] := by
    have m : ∀ k, qIs [5, 9, 12] k [[-10]] 1 = qH4 [5, 9, 12] k 0 0 (-10) := fun k => by
      unfold qIs qMs
      simp
    unfold qLI
    show qIs _ 0 _ 1 ++ (qIs _ 1 _ 1 ++ (qIs _ 2 _ 1 ++ [])) = _
    rw [m, m, m, e, e, e]
    rfl
  unfold qKP
  rw [e2]
  rfl
theorem aE5 : qKP [] [5, 5] = ([], 1) := rfl
theorem qW7 {x y : Du} {W : List Du} (h : W.Perm [x, y]) : W = [x, y] ∨ W = [y, x] := by
  have hl := h.length_eq
  match W, hl with
  | [a, b], _ =>
    have ha : a ∈ [x, y] := h.mem_iff.1 (List.mem_cons_self ..)
    rw [List.mem_cons, List.mem_singleton] at ha
    rcases ha with rfl | rfl
    · have := List.singleton_perm_singleton.1 ((List.perm_cons a).1 h)
      exact .inl (by rw [this])
    · have := List.singleton_perm_singleton.1 ((List.perm_cons a).1 (h.trans (List.Perm.swap ..)))
      exact .inr (by rw [this])
theorem aE6 {W : List Du} (h : W.Perm (([⟨0, 0, 5, 4⟩, ⟨0, 0, 9, 3⟩, ⟨0, 0, 12, 3⟩] : List Du).filter fun x => decide (x.t ≤ 9))) : qJr [[5]] 9 W.length W [] = ([⟨0, 0, 9, 2⟩], 0) := by
  have h : W.Perm [⟨0, 0, 5, 4⟩, ⟨0, 0, 9, 3⟩] := h
  rcases qW7 h with rfl | rfl <;> rfl
theorem qVH {h : Heap} {r1 r2 : Nat} {v : Int} {T : TypeId} (A1 : At h r1 [.int .i64 v]) (A2 : At h r2 [slice (some ⟨r1, 0, none⟩) 1 1]) : Nets h (some ⟨r2, 0, none⟩) [⟨some ⟨r1, 0, none⟩, 1, [v]⟩] :=
  ⟨At.toRd (ws := []) A2, fun x hx => by
    rw [List.mem_singleton] at hx
    subst hx
    exact At.toRd (ws := []) A1⟩
theorem qUV : ∀ {L : List NRow} {a b : List Int}, mxN L = [a, b] → ∃ X Y, L = [X, Y] ∧ X.l = a ∧ Y.l = b
  | [], _, _, h => by cases h
  | [_], _, _, h => by cases h
  | [X, Y], _, _, h => by
    unfold mxN at h
    simp only [List.map_cons, List.map_nil, List.cons.injEq, and_true] at h
    exact ⟨X, Y, rfl, h.1, h.2⟩
  | _ :: _ :: _ :: _, _, _, h => by cases h
theorem qOs {h0 : Heap} {K : Value → Heap → Prop} (k : ∀ h', h0.le h' → K (.bool true) h') : CallA Tryz.prog qIx [] h0 K := by
  refine qPf _ _ ?_
  unfold qLJ
  have s := SepT.start h0
  refine s.new1 (qVP (fun g => (g ⟨by decide, by decide⟩).elim) fun _ p g1 _ P H s => ⟨_, _, rfl, Br.no rfl ?_⟩)
  refine s.call1 (qLr P (d := aD1) (by unfold qLu aD1; decide) fun g1 P H s => ⟨_, _, rfl, ?_⟩)
  rw [aE1] at P
  refine s.call1 (qLr P (d := aD2) (by unfold qLu aD2; decide) fun g1 P H s => ⟨_, _, rfl, ?_⟩)
  rw [show (qB0 (false, (0 : Int), aS1).2.2 aD2).2.2 = aS2 by rw [aE2]] at P
  have l0 := s.x
  have P := P.le s.a
  clear s
  refine qVT P (ms := 2) (cs := 2) fun h1 q1 L1 c1 l1 N1 e1 => ⟨_, _, _, _, rfl, ?_⟩
  rw [aE3] at e1
  dsimp only at e1
  rw [show (qML aS2 2 2).2 = 0 by rw [aE3]]
  refine qOR _ _ _ _ _ ?_
  unfold qK9
  refine Br.yes rfl (Ret.mk ⟨_, _, _, _, rfl, ?_⟩)
  refine qo fun r1 h2 hr1 l2 A1 => qo fun r2 h3 hr2 l3 A2 => qo fun r3 h4 hr3 l4 A3 => ?_
  have N4 : Nets h4 (some ⟨r2, 0, none⟩) [⟨some ⟨r1, 0, none⟩, 1, [-10]⟩] := qVH (T := 0) (A1.le (Heap.le_trans l3 l4)) (A2.le l4)
  have I4 : Ints .i64 h4 (some ⟨r3, 0, none⟩) [5, 9, 12] := At.toRd (ws := []) A3
  refine qOX (L := [⟨some ⟨r1, 0, none⟩, 1, [-10]⟩]) (ds := [5, 9, 12]) (lc := 1) (qc := 3) N4 (by show 1 ≤ 1000000; omega) (fun x hx => by
    rw [List.mem_singleton] at hx
    subst hx
    exact ⟨by show 1 ≤ 1000000; omega, fun n hn => by rw [List.mem_singleton] at hn; subst hn; unfold I64; omega⟩) I4 (by decide) fun h5 q5 c5 l5 A5 => ?_
  rw [show mxN [⟨some ⟨r1, 0, none⟩, 1, [-10]⟩] = [[-10]] from rfl, aE4] at A5 ⊢
  dsimp only at A5 ⊢
  refine ⟨_, _, _, _, rfl, qo fun r6 h6 hr6 l6 A6 => ?_⟩
  have I6 : Ints .i64 h6 (some ⟨r6, 0, none⟩) [5, 5] := At.toRd (ws := []) A6
  refine qOX (L := []) (ds := [5, 5]) (np := none) (lc := 0) (qc := 2) (h := h6) ⟨.inl rfl, fun x hx => by cases hx⟩ (by decide) (fun x hx => by cases hx) I6 (by decide) fun h7 q7 c7 l7 A7 => ?_
  rw [show mxN [] = [] from rfl, aE5] at A7 ⊢
  dsimp only at A7 ⊢
  refine ⟨_, _, _, _, rfl, qo fun r8 h8 hr8 l8 A8 => qo fun r9 h9 hr9 l9 A9 => ?_⟩
  have N9 : Nets h9 (some ⟨r9, 0, none⟩) [⟨some ⟨r8, 0, none⟩, 1, [5]⟩] := qVH (T := 0) (A8.le l9) A9
  have l59 := Heap.le_trans l6 (Heap.le_trans l7 (Heap.le_trans l8 l9))
  refine qT0 (PL := [⟨some ⟨r8, 0, none⟩, 1, [5]⟩]) (D := [⟨0, 0, 5, 4⟩, ⟨0, 0, 9, 3⟩, ⟨0, 0, 12, 3⟩]) (pc := 1) (dc := c5) (now := 9) (A5.le l59) (by decide) (fun x hx => by
    simp only [List.mem_cons, List.not_mem_nil, or_false] at hx
    rcases hx with rfl | rfl | rfl <;> (dsimp only; unfold I64; omega)) N9 (fun y hy => by
    rw [List.mem_singleton] at hy
    subst hy
    exact fun n hn => by rw [List.mem_singleton] at hn; subst hn; unfold I64; omega) (fun g => absurd g (by decide)) (fun _ g => absurd g (by decide)) fun _ _ W h10 q10 c10 hp _ _ l10 A10 => ?_
  rw [show mxN [⟨some ⟨r8, 0, none⟩, 1, [5]⟩] = [[5]] from rfl, aE6 hp] at A10 ⊢
  dsimp only at A10 ⊢
  refine ⟨_, _, _, _, rfl, ?_⟩
  have l14 := Heap.le_trans l2 (Heap.le_trans l3 l4)
  have l1a := Heap.le_trans l14 (Heap.le_trans l5 (Heap.le_trans l59 l10))
  have N10 := N1.le l1a
  obtain ⟨X, Y, eL, eX, eY⟩ := qUV e1
  subst eL
  have fX : X.l.length = 2 := by rw [eX]; rfl
  have fY : Y.l.length = 2 := by rw [eY]; rfl
  rcases N10.1 with e | ⟨b, o, e, hc⟩
  · cases e
  subst e
  have I1 : Ints .i64 h10 X.p X.l := N10.2 X (by simp)
  have I2 : Ints .i64 h10 Y.p Y.l := N10.2 Y (by simp)
  refine Br.yes rfl ⟨by decide, (by show (0 : Int) < 2; decide), qD rfl ⟨_, _, _, hc 0 (by show 0 < 2; decide), qo fun r11 h11 hr11 l11 A11 => ?_⟩⟩
  refine qRj (I1.le l11) (lb := [-10, 8]) (At.toRd (ws := []) A11) rfl rfl (by rw [eX]; decide) ⟨_, rfl, ?_⟩
  refine Br.yes (decide_eq_true eX) ⟨by decide, (by show (1 : Int) < 2; decide), qD rfl ⟨_, _, _, qOu l11 (hc 1 (by show 1 < 2; decide)), qo fun r12 h12 hr12 l12 A12 => ?_⟩⟩
  refine qRj (I2.le (Heap.le_trans l11 l12)) (lb := [10, -8]) (At.toRd (ws := []) A12) rfl rfl (by rw [eY]; decide) ⟨_, rfl, ?_⟩
  refine Br.yes (decide_eq_true eY) (Br.yes rfl (Br.yes rfl ?_))
  have l5c := Heap.le_trans l59 (Heap.le_trans l10 (Heap.le_trans l11 l12))
  refine qVQ (A5.le l5c) rfl (by decide) fun h13 q13 c13 l13 A13 => ⟨_, _, _, rfl, qo fun r14 h14 hr14 l14' A14 => ?_⟩
  refine qRP (A13.le l14') (E := [⟨0, 0, 5, 4⟩, ⟨0, 0, 9, 3⟩, ⟨0, 0, 12, 3⟩]) (At.toRd (ws := []) A14) rfl rfl rfl (by decide) ⟨_, rfl, ?_⟩
  refine Br.yes rfl (Br.yes rfl (Br.yes rfl ?_))
  refine qVQ (A10.le (Heap.le_trans l11 (Heap.le_trans l12 (Heap.le_trans l13 l14')))) rfl (by decide) fun h15 q15 c15 l15 A15 => ⟨_, _, _, rfl, qo fun r16 h16 hr16 l16 A16 => ?_⟩
  refine qRP (A15.le l16) (E := [⟨0, 0, 9, 2⟩]) (At.toRd (ws := []) A16) rfl rfl rfl (by decide) ⟨_, rfl, ?_⟩
  refine Br.yes rfl (Ret.mk (k _ ?_))
  exact Heap.le_trans l0 (Heap.le_trans l1 (Heap.le_trans l1a (Heap.le_trans l11 (Heap.le_trans l12 (Heap.le_trans l13 (Heap.le_trans l14' (Heap.le_trans l15 l16)))))))
end Go.Proofs.YtjihfieahkbohaaGreat

/- What lists of Ids say, as far as nets need it. -/
namespace Go.Proofs.YtjihfieahkbohaaGreat
open Go Go.Sy Go.Value
set_option linter.unusedVariables false
set_option linter.unusedSimpArgs false

theorem qUH {S : Bk} {id : Int} {x : En} (h : qQr S id = some x) : x ∈ S.L ∧ x.d.id = id := by
  unfold qQr at h
  cases hp : qAc id S.L with
  | none => rw [hp] at h; cases h
  | some i =>
    rw [hp] at h
    have h : S.L[i]? = some x := h
    obtain ⟨y, e, g⟩ := qJK hp
    rw [h] at e; cases e
    exact ⟨List.mem_of_getElem? h, g⟩
end Go.Proofs.YtjihfieahkbohaaGreat

/- All nets of a currency are together 0: plainly. -/
namespace Go.Proofs.YtjihfieahkbohaaGreat
open Go Go.Sy Go.Value
set_option linter.unusedVariables false
set_option linter.unusedSimpArgs false

theorem qR5 (x : Int × Int × Int) (fl : List (Int × Int × Int)) (m c : Nat) : qEi (x :: fl) m c = (if x.1 = (m : Int) ∧ x.2.1 = (c : Int) then x.2.2 else 0) + qEi fl m c := by
  unfold qEi
  rw [show x :: fl = [x] ++ fl from rfl, qRc, qLh, show x = (x.1, x.2.1, x.2.2) from rfl, qRD]
  congr 1
  by_cases h : x.1 = (m : Int) ∧ x.2.1 = (c : Int)
  · rw [if_pos h, if_pos ⟨h.1.symm, h.2.symm⟩]
    simp [qL]
  · rw [if_neg h, if_neg fun e => h ⟨e.1.symm, e.2.symm⟩]; rfl
def qLf (fl : List (Int × Int × Int)) (c : Int) : Int := qL ((fl.filter fun x => decide (x.2.1 = c)).map fun x => x.2.2)
theorem qPt (a b : List (Int × Int × Int)) (c : Int) : qLf (a ++ b) c = qLf a c + qLf b c := by unfold qLf; rw [List.filter_append, List.map_append, qLh]
theorem qRQ {α : Type} (f g : α → Int) : ∀ l : List α, qL (l.map fun x => f x + g x) = qL (l.map f) + qL (l.map g)
  | [] => rfl
  | x :: l => by
    rw [List.map_cons, List.map_cons, List.map_cons, qL, qL, qL, qRQ f g l]; omega
theorem qRd {α : Type} : ∀ l : List α, qL (l.map fun _ => (0 : Int)) = 0
  | [] => rfl
  | _ :: l => by rw [List.map_cons, qL, qRd l]; rfl
theorem qRM (k v : Int) : ∀ n : Nat, qL ((List.range n).map fun m : Nat => if k = (m : Int) then v else 0) = if 0 ≤ k ∧ k < (n : Int) then v else 0
  | 0 => by rw [if_neg (by omega)]; rfl
  | n + 1 => by
    rw [List.range_succ, List.map_append, qLh, qRM k v n, List.map_cons, List.map_nil, qL, qL]
    by_cases h : k = (n : Int)
    · rw [if_neg (by omega), if_pos h, if_pos (by omega)]; omega
    · rw [if_neg h]
      by_cases g : 0 ≤ k ∧ k < (n : Int)
      · rw [if_pos g, if_pos (by omega)]; omega
      · rw [if_neg g, if_neg (by omega)]; rfl
theorem qRR {n : Nat} (c : Nat) : ∀ {fl : List (Int × Int × Int)}, (∀ x ∈ fl, 0 ≤ x.1 ∧ x.1 < (n : Int)) → qL ((List.range n).map fun m => qEi fl m c) = qLf fl c
  | [], _ => qRd (List.range n)
  | x :: fl, h => by
    have hx := h x (List.mem_cons_self ..)
    have e : (fun m : Nat => qEi (x :: fl) m c) = fun m : Nat => (if x.1 = (m : Int) then (if x.2.1 = (c : Int) then x.2.2 else 0) else 0) + qEi fl m c := by
      funext m
      rw [qR5]
      by_cases h1 : x.1 = (m : Int)
      · by_cases h2 : x.2.1 = (c : Int)
        · rw [if_pos ⟨h1, h2⟩, if_pos h1, if_pos h2]
        · rw [if_neg fun e => h2 e.2, if_pos h1, if_neg h2]
      · rw [if_neg fun e => h1 e.1, if_neg h1]
    rw [e, qRQ, qRM, if_pos hx, qRR c fun y hy => h y (List.mem_cons_of_mem _ hy)]
    rw [show x :: fl = [x] ++ fl from rfl, qPt]
    congr 1
    unfold qLf
    by_cases h2 : x.2.1 = (c : Int)
    · rw [if_pos h2, List.filter_cons_of_pos (by simpa using h2)]
      simp [qL]
    · rw [if_neg h2, List.filter_cons_of_neg (by simpa using h2)]; rfl
theorem qT5 (d : Dl) (c : Int) : qLf (flD d) c = 0 := by
  unfold qLf flD
  by_cases h1 : d.sc = c <;> by_cases h2 : d.bc = c <;> simp [h1, h2, qL] <;> omega
theorem qPK (c : Int) : ∀ l : List Dl, qLf (l.flatMap flD) c = 0
  | [] => rfl
  | d :: l => by rw [List.flatMap_cons, qPt, qT5, qPK c l]; rfl
theorem qRH {S : Bk} (ok : S.Ok) (id : Int) : (qEe S id).1.a < S.mem ∧ (qEe S id).1.b < S.mem ∧ (qEe S id).1.sc < S.cur ∧ (qEe S id).1.bc < S.cur := by
  have hm := ok.m1
  have hc := ok.c1
  unfold qEe
  split
  · rename_i x hx
    have h1 := ok.may x (qUH hx).1
    unfold qGz qJc at h1
    simp only [decide_eq_true_eq] at h1
    dsimp only
    omega
  · unfold dl0; dsimp only; omega
theorem qW8 {S : Bk} (ok : S.Ok) : (dsM S).all (inD S.mem S.cur) = true := by
  rw [List.all_eq_true]
  intro d hd
  unfold dsM at hd
  obtain ⟨id, _, rfl⟩ := List.mem_map.1 hd
  have := qRH ok id
  unfold inD
  rw [decide_eq_true_eq]
  exact this
theorem qUr {S : Bk} (ok : S.Ok) (c : Nat) : qL ((List.range S.mem.toNat).map fun m => qEi (flS S) m c) = 0 := by
  have hm := ok.m1
  rw [qRR c fun x hx => ?_]
  · exact qPK c (dsM S)
  · unfold flS at hx
    obtain ⟨d, hd, hx⟩ := List.mem_flatMap.1 hx
    unfold dsM at hd
    obtain ⟨id, _, rfl⟩ := List.mem_map.1 hd
    have h1 := qRH ok id
    have h2 := (qNu ok id).1
    unfold flD at hx
    simp only [List.mem_cons, List.not_mem_nil, or_false] at hx
    rcases hx with rfl | rfl | rfl | rfl <;> (dsimp only; omega)
end Go.Proofs.YtjihfieahkbohaaGreat

/- The reference's book of instructions in memory. -/
namespace Go.Proofs.YtjihfieahkbohaaGreat
open Go Go.Sy Go.Value
set_option linter.unusedVariables false
set_option linter.unusedSimpArgs false

def byA (x : En) : Bool := x.ask % 2 == 1
def byB (x : En) : Bool := x.ask / 2 == 1
def rV (x : En) : List Value := [.int .i64 x.d.id, .int .i64 x.d.a, .int .i64 x.d.b, .int .i64 x.d.sc, .int .i64 x.d.bc, .int .i64 x.d.sell, .int .i64 x.d.buy, .int .i64 x.st, .bool (byA x), .bool (byB x), .int .i64 x.ord]
theorem qGH (x : En) : (rV x).length = 11 := rfl
def z11 : List Value := [.int .i64 0, .int .i64 0, .int .i64 0, .int .i64 0, .int .i64 0, .int .i64 0, .int .i64 0, .int .i64 0, .bool false, .bool false, .int .i64 0]
theorem qTr {L : List En} {i o : Nat} {x y : En} {ws sp : List Value} (hx : L[i]? = some x) (ho : o + ws.length ≤ 11) (e : qBJ (rV x) o ws = rV y) : qBJ (L.flatMap rV ++ sp) (i * 11 + o) ws = (L.set i y).flatMap rV ++ sp := by
  have hi := (List.getElem?_eq_some_iff.1 hx).1
  have hxi := (List.getElem?_eq_some_iff.1 hx).2
  have es : L = L.take i ++ x :: L.drop (i + 1) := by rw [← hxi, ← List.drop_eq_getElem_cons hi, List.take_append_drop]
  have lt : ((L.take i).flatMap rV).length = i * 11 := by rw [qm qGH, List.length_take]; congr 1; omega
  rw [List.set_eq_take_append_cons_drop, if_pos hi]
  conv => lhs; rw [es]
  rw [List.flatMap_append, List.flatMap_append, List.flatMap_cons, List.flatMap_cons]
  simp only [List.append_assoc]
  rw [← lt, qNj, qN6 (by rw [qGH]; exact ho), e]
structure RBk (h : Heap) (q : Nat) (S : Bk) (lp : Option Addr) (c : Nat) : Prop where
  ap : At h q [.int .i64 S.mem, .int .i64 S.cur, .slice lp S.L.length c, .int .i64 (S.mat : Int)]
  ol : OwnL qLE h z11 lp c (S.L.flatMap rV)
  np : lp ≠ some ⟨q, 0, none⟩
def RB (h : Heap) (q : Nat) (S : Bk) : Prop := S.Ok ∧ ∃ lp c, RBk h q S lp c
section
variable {h h' : Heap} {q : Nat} {S : Bk} {lp : Option Addr} {c : Nat}
theorem RBk.le (B : RBk h q S lp c) (l : h.le h') : RBk h' q S lp c := ⟨B.ap.le l, B.ol.le l, B.np⟩
theorem RB.le (B : RB h q S) (l : h.le h') : RB h' q S := ⟨B.1, B.2.elim fun lp ⟨c, x⟩ => ⟨lp, c, x.le l⟩⟩
theorem RBk.arr (B : RBk h q S lp c) : Arr rV h lp S.L := B.ol.rd
end
end Go.Proofs.YtjihfieahkbohaaGreat

/- The reference's book of instructions: made, asked, changed. -/
namespace Go.Proofs.YtjihfieahkbohaaGreat
open Go Go.Sy Go.Value
set_option linter.unusedVariables false
set_option linter.unusedSimpArgs false

def rA (x : En) : Value := agg #[.int .i64 x.d.id, .int .i64 x.d.a, .int .i64 x.d.b, .int .i64 x.d.sc, .int .i64 x.d.bc, .int .i64 x.d.sell, .int .i64 x.d.buy, .int .i64 x.st, .bool (byA x), .bool (byB x), .int .i64 x.ord]
theorem qMa : ∀ (a b : List Value), qs a = true → qs b = true → qs (a ++ b) = true
  | [], b, _, h => h
  | v :: a, b, h1, h2 => by
    rw [List.cons_append]
    unfold qs at h1 ⊢
    split at h1
    · exact qMa a b h1 h2
    · cases h1
theorem qJq : ∀ L : List En, qs (L.flatMap rV) = true
  | [] => rfl
  | x :: L => by rw [List.flatMap_cons]; exact qMa _ _ rfl (qJq L)
def atI (id : Int) (L : List En) : Int := match qAc id L with
  | some i => (i : Int)
  | none => -1
section
variable {h : Heap} {K : Value → Heap → Prop} {q : Nat} {S : Bk} {lp : Option Addr} {c : Nat}
theorem qWR {m cu : Int} (k0 : ¬ ((1 ≤ m ∧ m ≤ 16) ∧ 1 ≤ cu ∧ cu ≤ 8) → K (tuple #[pointer none, .int .i64 1]) h)
    (k1 : (1 ≤ m ∧ m ≤ 16) ∧ 1 ≤ cu ∧ cu ≤ 8 → ∀ p h', h.le h' → RB h' p ⟨m, cu, [], 0⟩ → K (tuple #[pointer (some ⟨p, 0, none⟩), .int .i64 0]) h') : CallA Tryz.prog qKS [.int .i64 m, .int .i64 cu] h K := by
  refine qQ2 _ _ _ _ ?_
  unfold qMl
  refine Br.dec (fun g => Ret.mk (k0 (by omega))) fun g1 => Br.dec (fun g => Ret.mk (k0 (by omega))) fun g2 => Br.dec (fun g => Ret.mk (k0 (by omega))) fun g3 => Br.dec (fun g => Ret.mk (k0 (by omega))) fun g4 => ?_
  refine qo fun r2 h2 hr2 l2 A2 => Ret.mk (k1 (by omega) _ _ l2 ⟨?_, none, 0, ⟨A2, .nil _ _ _, fun e => by cases e⟩⟩)
  exact { m1 := by dsimp only; omega, c1 := by dsimp only; omega, n := Nat.zero_le _, may := fun _ x => (by cases x), i64 := fun _ x => (by cases x), nd := fun i x e => (by simp at e), could := fun _ x => (by cases x), ords := .refl _ }
theorem qWl (B : RBk h q S lp c) {d : Dl} (k : ∀ h', h.le h' → K (.bool (decide (qGz S.mem S.cur d))) h') : CallA Tryz.prog qG1 [pointer (some ⟨q, 0, none⟩), dA d] h K := by
  refine qNZ _ _ _ _ _ _ _ _ _ _ ?_
  unfold qJb
  refine qo fun r h1 hr l1 A => ?_
  have B1 := B.le l1
  have no : ¬ qGz S.mem S.cur d → Ret h1 K (.bool false) := fun g => by
    have := k h1 l1
    rw [decide_eq_false g] at this; exact Ret.mk this
  have yes : qGz S.mem S.cur d → Ret h1 K (.bool true) := fun g => by
    have := k h1 l1
    rw [decide_eq_true g] at this; exact Ret.mk this
  have tw : ∀ {a b m : Int}, qJc a b m = true ↔ 0 ≤ a ∧ 0 ≤ b ∧ a < m ∧ b < m ∧ a ≠ b := by intro a b m; unfold qJc; rw [decide_eq_true_eq]
  refine ⟨_, A.cell rfl, Br.dec (fun g => no fun m => by have := m.1; omega) fun g1 => ⟨_, A.cell rfl, Br.dec (fun g => no fun m => by have := m.2.1; omega) fun g2 => ⟨_, A.cell rfl, Br.dec (fun g => no fun m => by have := m.2.2.2.2.1; omega) fun g3 => ⟨_, A.cell rfl, Br.dec (fun g => no fun m => by have := m.2.2.2.2.2; omega) fun g4 => ?_⟩⟩⟩⟩
  refine ⟨_, A.cell rfl, _, A.cell rfl, Br.intro (fun g => no fun m => (tw.1 m.2.2.1).2.2.2.2 (by simpa using g)) fun g5 => ⟨_, A.cell rfl, _, A.cell rfl, Br.intro (fun g => no fun m => (tw.1 m.2.2.2.1).2.2.2.2 (by simpa using g)) fun g6 => ?_⟩⟩
  have g5 : d.a ≠ d.b := by simpa using g5
  have g6 : d.sc ≠ d.bc := by simpa using g6
  refine ⟨_, A.cell rfl, Br.dec (fun g => no fun m => by have := tw.1 m.2.2.1; omega) fun g7 => ⟨_, A.cell rfl, qD rfl ⟨_, B1.ap.cell rfl, Br.dec (fun g => no fun m => by have := tw.1 m.2.2.1; omega) fun g8 => ?_⟩⟩⟩
  refine ⟨_, A.cell rfl, Br.dec (fun g => no fun m => by have := tw.1 m.2.2.1; omega) fun g9 => ⟨_, A.cell rfl, qD rfl ⟨_, B1.ap.cell rfl, Br.dec (fun g => no fun m => by have := tw.1 m.2.2.1; omega) fun g10 => ?_⟩⟩⟩
  refine ⟨_, A.cell rfl, Br.dec (fun g11 => ⟨_, A.cell rfl, qD rfl ⟨_, B1.ap.cell rfl, Br.dec (fun g12 => ⟨_, A.cell rfl, Br.dec (fun g13 => ⟨_, A.cell rfl, qD rfl ⟨_, B1.ap.cell rfl, ?_⟩⟩) fun g => no fun m => by have := tw.1 m.2.2.2.1; omega⟩) fun g => no fun m => by have := tw.1 m.2.2.2.1; omega⟩⟩) fun g => no fun m => by have := tw.1 m.2.2.2.1; omega⟩
  by_cases g14 : d.bc < S.cur
  · rw [decide_eq_true g14]
    exact yes ⟨by omega, by omega, tw.2 ⟨by omega, by omega, by omega, by omega, g5⟩, tw.2 ⟨by omega, by omega, g12, g14, g6⟩, by omega, by omega⟩
  · rw [decide_eq_false g14]
    exact no fun m => g14 (tw.1 m.2.2.2.1).2.2.2.1
theorem qW9 (B : RBk h q S lp c) {id : Int} (hn : S.L.length ≤ 1000) (k : K (.int .i64 (atI id S.L)) h) : ∀ (m j : Nat), m + j = S.L.length → qAc id S.L = (qAc id (S.L.drop j)).map (· + j) → qFx (some ⟨q, 0, none⟩) id (j : Int) h K := by
  intro m
  induction m with
  | zero =>
    intro j hj e
    refine qIo _ _ _ _ _ ?_
    unfold qGs
    rw [List.drop_eq_nil_of_le (by omega)] at e
    have e : qAc id S.L = none := e
    unfold atI at k
    rw [e] at k
    exact qD rfl ⟨_, _, _, B.ap.cell rfl, Br.no (by simp; omega) (Ret.mk k)⟩
  | succ m ih =>
    intro j hj e
    refine qIo _ _ _ _ _ ?_
    unfold qGs
    have hjl : j < S.L.length := by omega
    rw [List.drop_eq_getElem_cons hjl, qAc] at e
    refine qD rfl ⟨_, _, _, B.ap.cell rfl, Br.yes (decide_eq_true (by omega)) (qD rfl ⟨_, _, _, B.ap.cell rfl, ax qGH B.arr rfl rfl (List.getElem?_eq_getElem hjl) (by decide) fun b o hb hc => ⟨_, hc 0 (by decide), Br.intro (fun g => ?_) fun g => ?_⟩⟩)⟩
    · rw [if_pos (by simpa using g)] at e
      have e : qAc id S.L = some (0 + j) := e
      unfold atI at k
      rw [e, Nat.zero_add] at k
      exact Ret.mk k
    · rw [if_neg (by simpa using g)] at e
      rw [qZ (n := (j : Int) + 1) (by omega) (by omega)]
      refine ih (j + 1) (by omega) ?_
      rw [e]
      cases qAc id (S.L.drop (j + 1)) with
      | none => rfl
      | some i => show some (i + 1 + j) = some (i + (j + 1)); congr 1; omega
theorem qXG (B : RBk h q S lp c) {id : Int} (hn : S.L.length ≤ 1000) (k : K (.int .i64 (atI id S.L)) h) : CallA Tryz.prog qHT [pointer (some ⟨q, 0, none⟩), .int .i64 id] h K := by
  refine qN5 _ _ _ _ ?_
  unfold qJ1
  refine qW9 B hn k S.L.length 0 (by omega) ?_
  rw [List.drop_zero]
  cases qAc id S.L <;> rfl
theorem qWU (B : RBk h q S lp c) {i : Nat} {x y : En} (hx : S.L[i]? = some x) (hn : S.L.length ≤ 1000)
    (k : ∀ h' lp' c', RBk h' q { S with L := S.L.set i y } lp' c' → (∀ b xs, At h b xs → b ≠ q → At h' b xs ∧ lp' ≠ some ⟨b, 0, none⟩) → K (tuple #[]) h') :
    CallA Tryz.prog qJG [pointer (some ⟨q, 0, none⟩), .int .i64 (i : Int), rA y] h K := by
  refine qNU _ _ _ _ _ _ _ _ _ _ _ _ _ _ _ ?_
  unfold qJN
  refine qo fun r1 h1 hr1 l1 A1 => ?_
  intro r2 hr2
  have ow := qRh (T := 76) (z := z11) hr2
  have l2 : h1.le (h1.ins r2 (.cells [].toArray 76 (0, 0))) := qBf hr2
  have a2 := At.new h1 r2 [] 76
  generalize h1.ins r2 (.cells [].toArray 76 (0, 0)) = h2 at *
  have B2 := (B.le l1).le l2
  have hi := (List.getElem?_eq_some_iff.1 hx).1
  refine qD rfl ⟨_, _, _, B2.ap.cell rfl, ?_⟩
  refine ow.push (n := S.L.length) (ws := S.L.flatMap rV) (by decide) l2 (by omega) (by rw [qm qGH]; rfl) B2.arr (qJq _) rfl fun p' c' h3 l3 ow3 keep how => ?_
  have At3 : ∀ b xs, At h1 b xs → At h3 b xs := fun b xs a => a.le l3
  have A3 := At3 _ _ A1
  refine ⟨_, A3.cell rfl, _, A3.cell rfl, _, A3.cell rfl, _, A3.cell rfl, _, A3.cell rfl, _, A3.cell rfl, _, A3.cell rfl, _, A3.cell rfl, _, A3.cell rfl, _, A3.cell rfl, _, A3.cell rfl, by omega, by omega, ?_⟩
  rcases ow3 with ⟨e, _, _⟩ | ⟨s, sp, rfl, hs, a3, ek⟩
  · have := congrArg List.length e
    rw [List.nil_append, qm qGH, List.length_nil] at this
    omega
  rw [List.nil_append] at a3 ek
  have hne : ∀ b xs, At h1 b xs → b ≠ s := fun b xs a g => by subst g; exact a.ne hs rfl
  have aq := At3 _ _ (B.le l1).ap
  have nq := hne _ _ (B.le l1).ap
  refine qD rfl ?_
  rw [Int.toNat_natCast, Nat.zero_add]
  refine ⟨a3.canSt (by rw [List.length_append, qm qGH]; omega), qD rfl ⟨(aq.set_ne nq).canSt (by simp), Ret.mk (k _ (some ⟨s, 0, none⟩) c' ⟨?_, .inr ⟨s, sp, rfl, rfl, ?_, ?_⟩, fun e => nq (by simpa using e.symm)⟩ fun b xs a hb => ?_)⟩⟩
  · have := (aq.set_ne (o := i * 11) (ws := rV y) nq).set (o := 2) (ws := [.slice (some ⟨s, 0, none⟩) (0 + S.L.length) c'])
    show At _ q [.int .i64 S.mem, .int .i64 S.cur, .slice (some ⟨s, 0, none⟩) (S.L.set i y).length c', .int .i64 (S.mat : Int)]
    rw [List.length_set]
    simp only [Nat.zero_add] at this ⊢
    exact this
  · have := a3.set (o := i * 11 + 0) (ws := rV y)
    rw [qTr hx (by rw [qGH]; omega) (y := y) rfl] at this
    exact this.set_ne (Ne.symm nq)
  · rw [ek, List.length_append, List.length_append, qm qGH, qm qGH, List.length_set]
  · have h1b := a.le l1
    exact ⟨((At3 _ _ h1b).set_ne (hne _ _ h1b)).set_ne hb, fun e => hne _ _ h1b (by simpa using e.symm)⟩
end
end Go.Proofs.YtjihfieahkbohaaGreat

/- The reference's book of instructions: submitted to, rescinded, settled. -/
namespace Go.Proofs.YtjihfieahkbohaaGreat
open Go Go.Sy Go.Value
set_option linter.unusedVariables false
set_option linter.unusedSimpArgs false

theorem RBk.oth {h : Heap} {q : Nat} {S : Bk} {lp : Option Addr} {c b o : Nat} {ws : List Value} (B : RBk h q S lp c) (h1 : q ≠ b) (h2 : lp ≠ some ⟨b, 0, none⟩) : RBk (h.setN b o ws) q S lp c := ⟨B.ap.set_ne h1, B.ol.set_ne h2, B.np⟩
theorem RBk.wrM {h : Heap} {q : Nat} {S : Bk} {lp : Option Addr} {c : Nat} (B : RBk h q S lp c) (m : Nat) : RBk (h.setN q 3 [.int .i64 (m : Int)]) q { S with mat := m } lp c := ⟨B.ap.set (o := 3) (ws := [.int .i64 (m : Int)]), B.ol.set_ne B.np, B.np⟩
section
variable {h : Heap} {K : Value → Heap → Prop} {q : Nat} {S : Bk} {lp : Option Addr} {c : Nat}
theorem qUX {id : Int} {L : List En} {i : Nat} (h : qAc id L = some i) : atI id L = (i : Int) := by unfold atI; rw [h]
theorem qUL {id : Int} {L : List En} (h : qAc id L = none) : atI id L = -1 := by unfold atI; rw [h]
theorem qPa (P : RB h q S) {d : Dl} (hi : qLu d) (k : ∀ h', RB h' q (qB0 S d).2.2 → K (tuple #[.bool (qB0 S d).1, .int .i64 (qB0 S d).2.1]) h') :
    CallA Tryz.prog qIC [pointer (some ⟨q, 0, none⟩), dA d] h K := by
  obtain ⟨ok, lp, c, B⟩ := P
  have hn := ok.n
  refine qLt _ _ _ _ _ _ _ _ _ _ ?_
  unfold qIA
  unfold qB0 at k
  refine qo fun r h1 hr l1 A => ⟨_, A.cell rfl, _, A.cell rfl, _, A.cell rfl, _, A.cell rfl, _, A.cell rfl, _, A.cell rfl, _, A.cell rfl, ?_⟩
  refine qWl (d := d) (B.le l1) fun h2 l2 => ⟨_, rfl, ?_⟩
  have nq : q ≠ r := B.ap.ne hr
  have A := A.le l2
  have B := B.le (Heap.le_trans l1 l2)

  by_cases gm : qGz S.mem S.cur d
  rotate_left
  · rw [decide_eq_false gm]
    rw [if_neg gm] at k
    exact Br.yes rfl (Ret.mk (k _ ⟨ok, lp, c, B⟩))
  rw [decide_eq_true gm]
  rw [if_pos gm] at k
  refine Br.no rfl ⟨_, A.cell rfl, qXG B (by omega) ⟨_, rfl, ?_⟩⟩
  cases hp : qAc d.id S.L with
  | none =>
    rw [hp] at k
    dsimp only at k
    rw [qUL hp]
    refine Br.yes (by decide) (qD rfl ⟨_, _, _, B.ap.cell rfl, Br.dec (fun g => ?_) fun g => ?_⟩)
    · rw [if_pos (by omega)] at k
      exact Ret.mk (k _ ⟨ok, lp, c, B⟩)
    rw [if_neg (by omega)] at k
    refine qD rfl ⟨_, _, _, B.ap.cell rfl, _, A.cell rfl, _, A.cell rfl, _, A.cell rfl, _, A.cell rfl, _, A.cell rfl, _, A.cell rfl, _, A.cell rfl, ?_⟩
    intro r2 hr2
    have ow := qRh (T := 76) (z := z11) hr2
    have l2 : h2.le (h2.ins r2 (.cells [].toArray 76 (0, 0))) := qBf hr2
    generalize h2.ins r2 (.cells [].toArray 76 (0, 0)) = h3 at *
    have ne2 : ∀ b y, h2 b = some y → (some (⟨r2, 0, none⟩ : Addr)) ≠ some ⟨b, 0, none⟩ := fun b y e g => by
      have g : r2 = b := by simpa using g
      rw [← g, hr2] at e; cases e
    refine ow.push2 (n := S.L.length) (ws := S.L.flatMap rV) (by decide) l2 (by omega) (by rw [qm qGH]; rfl) (B.le l2).arr (qJq _) rfl fun p' c' h4 l4 ow4 keep how => ⟨.inr fun x hx y hy => ?_, ?_⟩
    · rw [List.mem_singleton] at hx
      subst hx
      refine keep x y hy ?_
      obtain ⟨T, ea⟩ := A
      exact ne2 x _ ea
    rw [List.nil_append] at ow4
    have aq : At h4 q _ := B.ap.le l4
    have np4 : p' ≠ some ⟨q, 0, none⟩ := by
      obtain ⟨T, ea⟩ := B.ap
      rcases how with rfl | ⟨s, rfl, hs⟩
      · exact ne2 q _ ea
      · intro e
        have e : s = q := by simpa using e
        rw [e, l2 q _ ea] at hs; cases hs
    refine qKD ow4 (by decide) l4 (by omega) rfl rfl (by rw [qm qGH, Nat.zero_add]; rfl) fun r5 h5 p6 c6 h6 hr5 l5 l6 ow6 keep6 how6 => ?_
    have ap6 := qKX keep6 (aq.le l5) np4
    have np6 := qM6 how6 (aq.le l5) np4
    refine qD rfl ⟨ap6.canSt (by simp), Ret.mk (k _ ⟨ok.snoc gm hi (by omega) hp, p6, c6, ?_, ?_, np6⟩)⟩
    · have := ap6.set (o := 2) (ws := [.slice p6 (0 + S.L.length + 1) c6])
      have e : (S.L ++ [(⟨d, 1, 0, 0⟩ : En)]).length = 0 + S.L.length + 1 := by simp
      dsimp only
      rw [e]
      exact this
    · have e : (S.L ++ [(⟨d, 1, 0, 0⟩ : En)]).flatMap rV = S.L.flatMap rV ++ rV ⟨d, 1, 0, 0⟩ := by rw [List.flatMap_append]; simp
      dsimp only
      rw [e]
      have w : OwnL qLE h6 z11 p6 c6 (S.L.flatMap rV ++ rV ⟨d, 1, 0, 0⟩) := by
        rcases ow6 with x | ⟨s, sp, e1, _, a, k2⟩
        · exact .inl x
        · exact .inr ⟨s, sp, e1, rfl, a, k2⟩
      exact w.set_ne (o := 2) (ws := [.slice p6 (0 + S.L.length + 1) c6]) np6
  | some i =>
    obtain ⟨x, hx, hid⟩ := qJK hp
    have hil := (List.getElem?_eq_some_iff.1 hx).1
    rw [hp] at k
    dsimp only at k
    rw [hx] at k
    dsimp only at k
    rw [qUX hp]
    refine Br.no (by simp) (qD rfl ⟨_, _, _, B.ap.cell rfl, ax qGH B.arr rfl rfl hx (by decide) fun b o hb hc => ?_⟩)
    refine ⟨_, hc 0 (by decide), _, hc 1 (by decide), _, hc 2 (by decide), _, hc 3 (by decide), _, hc 4 (by decide), _, hc 5 (by decide), _, hc 6 (by decide), _, hc 7 (by decide), _, hc 8 (by decide), _, hc 9 (by decide), _, hc 10 (by decide), qH9 (vs := rV x) rfl fun r2 h3 hr2 l3 A2 cs => ⟨cs, ?_⟩⟩
    have n2 : q ≠ r2 := B.ap.ne hr2
    have m2 : lp ≠ some ⟨r2, 0, none⟩ := B.ol.fresh hr2
    have n12 : r ≠ r2 := A.ne hr2
    have A1 := A.le l3
    have B1 := B.le l3
    have done : ∀ (e : Int), K (tuple #[.bool false, .int .i64 e]) (h3.setN r2 0 (rV x)) → Ret (h3.setN r2 0 (rV x)) K (tuple #[.bool false, .int .i64 e]) := fun e x => Ret.mk x
    refine ⟨_, A2.cell rfl, Br.intro (fun g => ?_) fun g => ?_⟩
    · rw [if_pos (.inl (by simpa using g))] at k
      exact Ret.mk (k _ ⟨ok, lp, c, B1⟩)
    have g1 : x.st = 1 := by simpa using g
    refine ⟨_, A2.cell rfl, _, A1.cell rfl, Br.intro (fun g => ?_) fun g => ?_⟩
    · rw [if_pos (.inr (by simpa using g))] at k
      exact Ret.mk (k _ ⟨ok, lp, c, B1⟩)
    have g2 : x.d.a ≠ d.a := by simpa using g
    rw [if_neg (by simp [g1, g2])] at k
    have bad : x.d ≠ qE5 d → K (tuple #[.bool false, .int .i64 12]) (h3.setN r2 0 (rV x)) := fun e => by
      have : eqD x.d (qE5 d) = false := by
        cases he : eqD x.d (qE5 d) with
        | false => rfl
        | true => exact (e (qRE.1 he)).elim
      rw [if_pos this] at k
      exact k _ ⟨ok, lp, c, B1⟩
    refine ⟨_, A2.cell rfl, _, A1.cell rfl, Br.intro (fun g => Ret.mk (bad fun e => by simp [e, qE5] at g)) fun g3 => ?_⟩
    refine ⟨_, A2.cell rfl, _, A1.cell rfl, Br.intro (fun g => Ret.mk (bad fun e => by simp [e, qE5] at g)) fun g4 => ?_⟩
    refine ⟨_, A2.cell rfl, _, A1.cell rfl, Br.intro (fun g => Ret.mk (bad fun e => by simp [e, qE5] at g)) fun g5 => ?_⟩
    refine ⟨_, A2.cell rfl, _, A1.cell rfl, Br.intro (fun g => Ret.mk (bad fun e => by simp [e, qE5] at g)) fun g6 => ?_⟩
    refine ⟨_, A2.cell rfl, _, A1.cell rfl, Br.intro (fun g => Ret.mk (bad fun e => by simp [e, qE5] at g)) fun g7 => ?_⟩
    refine ⟨_, A2.cell rfl, _, A1.cell rfl, Br.intro (fun g => Ret.mk (bad fun e => by simp [e, qE5] at g)) fun g8 => ?_⟩
    have he : x.d = qE5 d := by
      have e3 : x.d.a = d.b := by simpa using g3
      have e4 : x.d.b = d.a := by simpa using g4
      have e5 : x.d.sc = d.bc := by simpa using g5
      have e6 : x.d.bc = d.sc := by simpa using g6
      have e7 : x.d.sell = d.buy := by simpa using g7
      have e8 : x.d.buy = d.sell := by simpa using g8
      unfold qE5
      rw [← hid, ← e3, ← e4, ← e5, ← e6, ← e7, ← e8]
    rw [if_neg (by rw [qRE.2 he]; decide)] at k
    have hm := ok.mat
    have w : IntKind.wrap .i64 ((S.mat : Int) + 1) = ((S.mat + 1 : Nat) : Int) := by rw [qZ (by omega) (by omega)]; omega
    have B3 := B1.wrM (S.mat + 1)
    have A3 := A2.set_ne (o := 3) (ws := [.int .i64 ((S.mat + 1 : Nat) : Int)]) (Ne.symm n2)
    refine qD rfl ⟨_, B1.ap.cell rfl, qD rfl ⟨B1.ap.canSt (by simp), ?_⟩⟩
    rw [w]
    have A4 := A3.set (o := 7) (ws := [.int .i64 2])
    have B4 := B3.oth (o := 7) (ws := [.int .i64 2]) n2 m2
    have A5 := A4.set (o := 10) (ws := [.int .i64 ((S.mat + 1 : Nat) : Int)])
    have B5 := B4.oth (o := 10) (ws := [.int .i64 ((S.mat + 1 : Nat) : Int)]) n2 m2
    refine ⟨A3.canSt (by rw [qGH]; omega), qD rfl ⟨_, B4.ap.cell rfl, A4.canSt (by simp [qBJ, qEo, rV]), ?_⟩⟩
    refine ⟨_, A5.cell rfl, _, A5.cell rfl, _, A5.cell rfl, _, A5.cell rfl, _, A5.cell rfl, _, A5.cell rfl, _, A5.cell rfl, _, A5.cell rfl, _, A5.cell rfl, _, A5.cell rfl, _, A5.cell rfl, ?_⟩
    refine qWU (y := { x with st := 2, ord := ((S.mat + 1 : Nat) : Int) }) B5 hx (by show S.L.length ≤ 1000; omega) fun h' lp' c' B6 _ => ⟨rfl, Ret.mk (k _ ⟨ok.match hx g1, lp', c', B6⟩)⟩
end
end Go.Proofs.YtjihfieahkbohaaGreat
