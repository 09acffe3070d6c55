import Derived.Test.YtjihfieahkbohaaM10
import Derived.Test.YtjihfieahkbohaaM02
import Derived.Test.YtjihfieahkbohaaM11
import Derived.Test.YtjihfieahkbohaaM06
import Derived.Test.YtjihfieahkbohaaM05
import Derived.Test.YtjihfieahkbohaaM13
/- The dues of nets, whole: what plan.Schedule answers. -/
namespace Go.Proofs.Ytjihfieahkbohaa
open Go Go.Sy Go.Value
set_option linter.unusedVariables false
set_option linter.unusedSimpArgs false

theorem Tbl.call {α : Type} {enc : α → List Value} {z : List Value} {g h : Heap} {B n : Nat} {p : Nat → Option Addr} {c : Nat → Nat} {X : Nat → List α} {K Q : Value → Heap → Prop} {f : FuncId} {args : List Value} (T : Tbl enc z g h B n p c X)
    (cl : CallA Try.prog f args g Q) (k : ∀ v g' h', Q v g' → Tbl enc z g' h' B n p c X → K v h') : CallA Try.prog f args h K := by
  refine (cl.frame2 T.le).mono fun v h' ⟨g', q, l, e1, e2⟩ => k v g' h' q ⟨l, ?_, ?_, ⟨fun i => ?_, T.fam.ne⟩, T.ne⟩
  · obtain ⟨t, e⟩ := T.at_
    exact e2 B _ e T.gB
  · obtain ⟨t, e⟩ := T.at_
    exact ⟨t, e1 B _ e T.gB⟩
  · rcases T.fam.own i with o | ⟨r, sp, e, e0, ⟨t, a⟩, q⟩
    · exact .inl o
    · exact .inr ⟨r, sp, e, e2 r _ a e0, ⟨t, e1 r _ a e0⟩, q⟩
theorem qUX {ds : List Int} {k m c : Nat} {n : Int} (h : ds.length ≤ k) : qFB ds k m c n = [] := by
  unfold qFB
  rw [List.getD_eq_getElem?_getD, List.getElem?_eq_none (by rw [qKe]; exact h), if_neg (by simp)]
section
variable {g : Heap} {K : Value → Heap → Prop} {B : Nat} {ds : List Int} {L : List NRow} {q np : Option Addr} {qc lc : Nat}
theorem qYP {X : Nat → List Du} (hX : ∀ i, (X i).length ≤ 1000) (Xd : Ints .i64 g q ds) (hnd2 : ds.length ≤ 16) {n : Int} {sp rp : Option Addr} {sc rn rc : Nat} (Sh : Ints .i64 g sp (shL (-n) ds.length)) (hn : n < 0) {m j : Nat} {t38 : Int} {ln : Nat}
    (k : ∀ h' p' c', Tbl uV z4 g h' B ds.length p' c' (fun i => X i ++ qFB ds i m j n) → qDi q ds.length qc (some ⟨B, 0, none⟩) ds.length ds.length m np ln lc t38 m rp rn rc rn (IntKind.wrap .i64 ((j : Int) + 1)) h' K) :
    ∀ (a t : Nat) (h : Heap) (p : Nat → Option Addr) (c : Nat → Nat), a + t = ds.length → Tbl uV z4 g h B ds.length p c (fun i => X i ++ if i < t then qFB ds i m j n else []) →
    qDk q ds.length qc (some ⟨B, 0, none⟩) ds.length ds.length m j np ln lc t38 m rp rn rc rn j sp ds.length sc ds.length t h K := by
  intro a
  induction a with
  | zero =>
    intro t h p c ht T
    refine qJf _ _ _ _ _ _ _ _ _ _ _ _ _ _ _ _ _ _ _ _ _ _ _ _ _ ?_
    unfold qHJ
    refine Br.no (by simp; omega) (k h p c (T.congr fun i => ?_))
    by_cases hi : i < t
    · rw [if_pos hi]
    · rw [if_neg hi, qUX (by omega)]
  | succ a ih =>
    intro t h p c ht T
    refine qJf _ _ _ _ _ _ _ _ _ _ _ _ _ _ _ _ _ _ _ _ _ _ _ _ _ ?_
    unfold qHJ
    have hs : (shL (-n) ds.length)[t]? = some ((shL (-n) ds.length).getD t 0) := by
      rw [List.getD_eq_getElem?_getD, List.getElem?_eq_getElem (by rw [qKe]; omega)]; rfl
    have hd : ds[t]? = some (ds.getD t 0) := by
      rw [List.getD_eq_getElem?_getD, List.getElem?_eq_getElem (by omega)]; rfl
    refine Br.yes (by simp; omega) (ix (Sh.le T.le) (qKe _ _) rfl hs ?_)
    rw [w1 (j := t) (by omega)]
    refine Br.dec (fun g1 => ?_) fun g1 => ?_
    · have hl : (X t ++ if t < t then qFB ds t m j n else []).length ≤ 1000000 := by
        rw [if_neg (by omega), List.append_nil]
        have := hX t
        omega
      refine ⟨by omega, by omega, qD rfl ⟨_, _, _, T.get (by omega), ix (Xd.le T.le) rfl rfl hd ?_⟩⟩
      refine T.push (J := fun h => qDk q ds.length qc (some ⟨B, 0, none⟩) ds.length ds.length m j np ln lc t38 m rp rn rc rn j sp ds.length sc ds.length ((t + 1 : Nat) : Int) h K) (x := ⟨m, j, ds.getD t 0, (shL (-n) ds.length).getD t 0⟩) (by decide) qCN (show t < ds.length by omega) hl rfl rfl fun h' p' c' _ T' => ?_
      refine ih (t + 1) h' p' c' (by omega) (T'.congr fun i => ?_)
      by_cases hi : i = t
      · subst hi
        rw [upd_same, if_neg (by omega), if_pos (by omega), List.append_nil]
        unfold qFB
        rw [if_pos ⟨hn, g1⟩]
      · rw [upd_ne _ _ hi]
        by_cases h2 : i < t
        · rw [if_pos h2, if_pos (by omega)]
        · rw [if_neg h2, if_neg (by omega)]
    · refine ih (t + 1) h p c (by omega) (T.congr fun i => ?_)
      by_cases hi : i = t
      · subst hi
        rw [if_neg (by omega), if_pos (by omega)]
        unfold qFB
        rw [if_neg (fun x => g1 x.2)]
      · by_cases h2 : i < t
        · rw [if_pos h2, if_pos (by omega)]
        · rw [if_neg h2, if_neg (by omega)]
def qSM (x : NRow) : Prop := x.l.length ≤ 8 ∧ qEh x.l ∧ qJN (-9223372036854775808) x.l = false
theorem qWF {v : Int} {l : List Int} (h : qJN v l = false) : ∀ x ∈ l, x ≠ v := fun x hx e => by
  unfold qJN at h
  rw [List.any_eq_false] at h
  exact h x hx (by simp [e])
theorem qYF {h0 : Heap} (hnd1 : 1 ≤ ds.length) (hnd2 : ds.length ≤ 16) (hM : ∀ x ∈ L, qSM x) (hL : L.length ≤ 16) {m : Nat} {x : NRow} (hx : L[m]? = some x) {t38 : Int}
    (k : ∀ g h' p' c', h0.le g → Nets g np L → Ints .i64 g q ds → Tbl uV z4 g h' B ds.length p' c' (fun i => qGs ds i (mxN L) (m + 1)) → qE0 q ds.length qc (some ⟨B, 0, none⟩) ds.length ds.length np L.length lc t38 ((m + 1 : Nat) : Int) h' K) :
    ∀ (a j : Nat) (g h : Heap) (p : Nat → Option Addr) (c : Nat → Nat), a + j = x.l.length → h0.le g → Nets g np L → Ints .i64 g q ds → Tbl uV z4 g h B ds.length p c (fun i => qGs ds i (mxN L) m ++ qJ6 ds i m x.l j) →
    qDi q ds.length qc (some ⟨B, 0, none⟩) ds.length ds.length m np L.length lc t38 m x.p x.l.length x.c x.l.length j h K := by
  have hml : m < L.length := (List.getElem?_eq_some_iff.1 hx).1
  have hmem : x ∈ L := List.mem_of_getElem? hx
  obtain ⟨hw, hI, hmin⟩ := hM x hmem
  have hgd : (mxN L).getD m [] = x.l := by
    unfold mxN
    rw [List.getD_eq_getElem?_getD, List.getElem?_map, hx]; rfl
  have h8 : ∀ l ∈ mxN L, l.length ≤ 8 := fun l hl => by
    unfold mxN at hl
    obtain ⟨y, hy, rfl⟩ := List.mem_map.1 hl
    exact (hM y hy).1
  intro a
  induction a with
  | zero =>
    intro j g h p c hj l0 N X T
    refine qJk _ _ _ _ _ _ _ _ _ _ _ _ _ _ _ _ _ _ _ ?_
    unfold qHT
    have hj : j = x.l.length := by omega
    subst hj
    rw [w1 (j := m) (by omega)]
    refine Br.no (by simp) (k g h p c l0 N X (T.congr fun i => ?_))
    unfold qGs
    rw [qFP, hgd]
  | succ a ih =>
    intro j g h p c hj l0 N X T
    refine qJk _ _ _ _ _ _ _ _ _ _ _ _ _ _ _ _ _ _ _ ?_
    unfold qHT
    have hv : x.l[j]? = some (x.l.getD j 0) := by
      rw [List.getD_eq_getElem?_getD, List.getElem?_eq_getElem (by omega)]; rfl
    have hvm : x.l.getD j 0 ∈ x.l := List.mem_of_getElem? hv
    have hvI := hI _ hvm
    have hvn := qWF hmin _ hvm
    unfold I64 at hvI
    have nxt : ∀ i, qJ6 ds i m x.l (j + 1) = qJ6 ds i m x.l j ++ qFB ds i m j (x.l.getD j 0) := fun i => qFP _ j
    refine Br.yes (by simp; omega) (ix ((N.2 x hmem).le T.le) rfl rfl hv ?_)
    refine Br.dec (fun g1 => ?_) fun g1 => ?_
    · rw [w1 (j := j) (by omega)]
      refine ih (j + 1) g h p c (by omega) l0 N X (T.congr fun i => ?_)
      rw [nxt]
      unfold qFB
      rw [if_neg (by omega), List.append_nil]
    · have hneg : IntKind.wrap .i64 (0 - x.l.getD j 0) = -x.l.getD j 0 := by rw [qW (by omega) (by omega)]; omega
      rw [hneg]
      refine T.call (qWw (t := -x.l.getD j 0) (p := (ds.length : Int)) (by unfold I64; omega) (K := fun v g' => g.le g' ∧ ∃ sp sc, v = tuple #[slice sp ds.length sc, .int .i64 0] ∧ Ints .i64 g' sp (shL (-x.l.getD j 0) ds.length)) fun sp sc g' l I => ⟨l, sp, sc, ?_, ?_⟩) fun v g' h' ⟨l, sp, sc, e, I⟩ T' => ⟨_, _, _, _, e, ?_⟩
      · rw [qPJ (by omega) hnd1 (by omega), qKe]
      · rw [qPJ (by omega) hnd1 (by omega)] at I; exact I
      · refine qYP (X := fun i => qGs ds i (mxN L) m ++ qJ6 ds i m x.l j) (fun i => ?_) (X.le l) hnd2 I (by omega) (fun h2 p2 c2 T2 => ?_) ds.length 0 h' p c (by omega) (T'.congr fun i => by rw [if_neg (by omega), List.append_nil])
        · have e1 := qN0 ds i h8 m
          have e2 := qRH ds i m x.l j
          rw [List.length_append]
          omega
        · rw [w1 (j := j) (by omega)]
          exact ih (j + 1) g' h2 p2 c2 (by omega) (Heap.le_trans l0 l) (N.le l) (X.le l) (T2.congr fun i => by rw [nxt, List.append_assoc])
theorem qYM {h0 : Heap} (hnd1 : 1 ≤ ds.length) (hnd2 : ds.length ≤ 16) (hM : ∀ x ∈ L, qSM x) (hL : L.length ≤ 16) (k : ∀ h' q' c', h0.le h' → Arr uV h' q' (qAT (mxN L) ds) → K (tuple #[slice q' (qAT (mxN L) ds).length c', .int .i64 0]) h') :
    ∀ (a m : Nat) (g h : Heap) (p : Nat → Option Addr) (c : Nat → Nat), a + m = L.length → h0.le g → Nets g np L → Ints .i64 g q ds → Tbl uV z4 g h B ds.length p c (fun i => qGs ds i (mxN L) m) →
    qE0 q ds.length qc (some ⟨B, 0, none⟩) ds.length ds.length np L.length lc L.length m h K := by
  have h8 : ∀ l ∈ mxN L, l.length ≤ 8 := fun l hl => by
    unfold mxN at hl
    obtain ⟨y, hy, rfl⟩ := List.mem_map.1 hl
    exact (hM y hy).1
  intro a
  induction a with
  | zero =>
    intro m g h p c hm l0 N X T
    refine qJl _ _ _ _ _ _ _ _ _ _ _ _ _ ?_
    unfold qHK
    have hm : m = L.length := by omega
    subst hm
    have e : (mxN L).length = L.length := by unfold mxN; rw [List.length_map]
    refine Br.no (by simp) (qUl T (fun i => Nat.le_trans (qN0 ds i h8 _) (by omega)) (by omega) fun h' q' cp l' A => ⟨_, _, _, rfl, Ret.mk ?_⟩)
    unfold qAT at k
    rw [e] at k
    exact k h' q' cp (Heap.le_trans l0 (Heap.le_trans T.le l')) A
  | succ a ih =>
    intro m g h p c hm l0 N X T
    refine qJl _ _ _ _ _ _ _ _ _ _ _ _ _ ?_
    unfold qHK
    have hx : L[m]? = some L[m] := List.getElem?_eq_getElem (by omega)
    refine Br.yes (by simp; omega) (nx (N.le T.le) rfl rfl hx ?_)
    exact qYF hnd1 hnd2 hM hL hx (fun g' h' p' c' l N X T => ih (m + 1) g' h' p' c' (by omega) l N X T) L[m].l.length 0 g h p c (by omega) l0 N X (T.congr fun i => by
      unfold qJ6
      simp)
theorem qQm : ∀ n, qAk n [Value.slice none 0 0] = hdV (α := Du) (fun _ => none) (fun _ => 0) (fun _ => []) n
  | 0 => rfl
  | n + 1 => by
    unfold hdV
    rw [List.range_succ_eq_map, List.map_cons, List.map_map]
    show [Value.slice none 0 0] ++ qAk n [Value.slice none 0 0] = _
    rw [qQm n]; rfl
theorem qML {h : Heap} (N : Nets h np L) (hn : L.length ≤ 1000000) (hr : ∀ x ∈ L, x.l.length ≤ 1000000 ∧ qEh x.l) (X : Ints .i64 h q ds) (hd : ds.length ≤ 1000000)
    (k : ∀ h' q' c', h.le h' → Arr uV h' q' (qEZ (mxN L) ds).1 → K (tuple #[slice q' (qEZ (mxN L) ds).1.length c', .int .i64 (qEZ (mxN L) ds).2]) h') :
    CallA Try.prog qFU [slice np L.length lc, slice q ds.length qc] h K := by
  refine qOp _ _ _ _ _ _ _ _ ?_
  unfold qKx
  have e : (mxN L).length = L.length := by unfold mxN; rw [List.length_map]
  have e1 : ((mxN L).any fun l => decide ((l.length : Int) > 8)) = L.any qKW := by unfold mxN; rw [List.any_map]; rfl
  have e2 : ((mxN L).any (qJN (-9223372036854775808))) = L.any qIy := by unfold mxN; rw [List.any_map]; rfl
  unfold qEZ at k
  rw [e, e1, e2] at k
  refine qWH X rfl hd ⟨_, rfl, ?_⟩
  cases hb : qG5 ds with
  | false =>
    rw [hb, if_pos rfl] at k
    exact Br.yes rfl (Ret.mk (k h none 0 h.le_refl (.inl rfl)))
  | true =>
  rw [hb, if_neg (by decide)] at k
  refine Br.no rfl (Br.dec (fun g1 => ?_) fun g1 => ?_)
  · rw [if_pos (by omega)] at k
    exact Ret.mk (k h none 0 h.le_refl (.inl rfl))
  rw [if_neg (by omega)] at k
  refine qXI N rfl hn ⟨_, rfl, ?_⟩
  cases hb1 : L.any qKW with
  | true =>
    rw [hb1, if_pos rfl] at k
    exact Br.yes rfl (Ret.mk (k h none 0 h.le_refl (.inl rfl)))
  | false =>
  rw [hb1, if_neg (by decide)] at k
  refine Br.no rfl (qXL N rfl hn (fun x hx => (hr x hx).1) ⟨_, rfl, ?_⟩)
  cases hb2 : L.any qIy with
  | true =>
    rw [hb2, if_pos rfl] at k
    exact Br.yes rfl (Ret.mk (k h none 0 h.le_refl (.inl rfl)))
  | false =>
  rw [hb2, if_neg (by decide)] at k
  have hds : 1 ≤ ds.length ∧ ds.length ≤ 16 := by
    unfold qG5 at hb
    rw [Bool.and_eq_true, decide_eq_true_eq] at hb
    exact hb.2
  have hM : ∀ x ∈ L, qSM x := fun x hx => by
    rw [List.any_eq_false] at hb1 hb2
    have h1 := hb1 x hx
    have h2 := hb2 x hx
    unfold qKW at h1
    unfold qIy at h2
    rw [decide_eq_true_eq] at h1
    exact ⟨by omega, (hr x hx).2, by simpa using h2⟩
  refine Br.no rfl ⟨by omega, by omega, by omega, by omega, qAE fun B h2 hB l2 A2 => ?_⟩
  rw [Int.toNat_natCast] at A2 ⊢
  refine qYM (h0 := h) hds.1 hds.2 hM (by omega) (fun h' q' c' l A => k h' q' c' l A) L.length 0 h h2 (fun _ => none) (fun _ => 0) (by omega) h.le_refl N X ⟨l2, hB, ?_, ?_, fun i e => by cases e⟩
  · have e : (fun i => qGs ds i (mxN L) 0) = fun _ => [] := rfl
    rw [e, ← qQm]
    exact A2
  · exact .nil _ _ _
end
end Go.Proofs.Ytjihfieahkbohaa

/- Who is behind, whole: what plan.Behind answers. -/
namespace Go.Proofs.Ytjihfieahkbohaa
open Go Go.Sy Go.Value
set_option linter.unusedVariables false
set_option linter.unusedSimpArgs false

theorem qVG {h : Heap} {q : Option Addr} {W : List Du} {j lc : Nat} (A : Arr uV h q W) (hj : j ≤ W.length) (hc : W.length ≤ lc) : Arr uV h (qGP q j lc 4) (W.drop j) := by
  by_cases e : W.drop j = []
  · rw [e]; exact .inl rfl
  have hj2 : j < W.length := by
    rcases Nat.lt_or_ge j W.length with h | h
    · exact h
    · exact (e (List.drop_eq_nil_of_le h)).elim
  rcases A with A | ⟨b, o, e1, A⟩
  · have := congrArg List.length A
    rw [qAY qCN] at this
    simp at this; omega
  unfold qGP
  rw [if_neg (by omega), e1]
  refine .inr ⟨b, o + j * 4, by rw [Option.map_some, Addr.add_none], fun i hi => ?_⟩
  have hl := qAY qCN (W.drop j)
  rw [hl, List.length_drop] at hi
  have hw := qAY qCN W
  have := A (j * 4 + i) (by rw [hw]; omega)
  rw [← Nat.add_assoc] at this
  rw [this]
  have es : W.flatMap uV = (W.take j).flatMap uV ++ (W.drop j).flatMap uV := by rw [← List.flatMap_append, List.take_append_drop]
  rw [es, List.getElem?_append_right (by rw [qAY qCN, List.length_take]; omega), qAY qCN, List.length_take]
  congr 1
  omega
section
variable {g : Heap} {K : Value → Heap → Prop} {pp : Option Addr} {PL : List NRow} {pc : Nat} {now : Int}
theorem qXd (N : Nets g pp PL) (hP : ∀ y ∈ PL, qEh y.l) {f0 : Nat} {W0 : List Du} (k : ∀ h' op oc, g.le h' → Arr uV h' op (qGO (mxN PL) now f0 W0 []).1 → K (tuple #[slice op (qGO (mxN PL) now f0 W0 []).1.length oc, .int .i64 (qGO (mxN PL) now f0 W0 []).2]) h') :
    ∀ (f : Nat) (W : List Du) (q : Option Addr) (lc : Nat) (h : Heap) (out : List Du) (op : Option Addr) (oc : Nat), W.length ≤ f → W.length ≤ 100000 → W.length ≤ lc → (∀ y ∈ W, okU y) → Arr uV g q W → g.le h → OwnL g h z4 op oc (out.flatMap uV) → out.length + W.length ≤ 200000 →
    qGO (mxN PL) now f0 W0 [] = qGO (mxN PL) now f W out → qEo pp PL.length pc now q W.length lc op out.length oc h K := by
  intro f
  induction f with
  | zero =>
    intro W q lc h out op oc h1 h2 h3 ho A l O hl e
    refine qKi _ _ _ _ _ _ _ _ _ _ _ _ ?_
    unfold qIG
    have hW : W = [] := List.length_eq_zero_iff.1 (by omega)
    subst hW
    rw [e] at k
    exact Br.no (by decide) (Ret.mk (k h op oc l O.rd))
  | succ f ih =>
    intro W q lc h out op oc h1 h2 h3 ho A l O hl e
    refine qKi _ _ _ _ _ _ _ _ _ _ _ _ ?_
    unfold qIG
    cases hW : W with
    | nil =>
      subst hW
      rw [e] at k
      exact Br.no (by decide) (Ret.mk (k h op oc l O.rd))
    | cons x R =>
    rw [← hW]
    have hx0 : W[0]? = some x := by rw [hW]; rfl
    have hx := ho x (by rw [hW]; exact List.mem_cons_self ..)
    have hx' := hx
    unfold okU at hx'
    have hWl : W.length = R.length + 1 := by rw [hW]; rfl
    have e' : qGO (mxN PL) now (f + 1) W out = match qIQ x x.n 1 R with
      | none => ([], 3)
      | some (s, j) => qGO (mxN PL) now f (W.drop j) (out ++ qGi (mxN PL) now x s) := by rw [hW]; rfl
    rw [e'] at e
    have A0 := A.le l
    refine Br.yes (decide_eq_true (by omega)) ⟨by omega, by omega, ?_⟩
    have ld := ldX (J := fun a b c d => qd h [.int .i64 0, .int .i64 0, .int .i64 0, .int .i64 0] 61 fun r h => h.canSt r 0 4 ∧ ∃ n_4 : Int, (h.setN r 0 [.int .i64 a, .int .i64 b, .int .i64 c, .int .i64 d]).cell r 3 = some (.int .i64 n_4) ∧
      qF9 pp PL.length pc now q W.length lc op out.length oc r 1 n_4 (h.setN r 0 [.int .i64 a, .int .i64 b, .int .i64 c, .int .i64 d]) K) A0 rfl (j := 0) (i := 0) rfl hx0 ?_
    · have ld := ld.2.2
      simpa using ld
    refine qHY (vs := uV x) rfl fun r h4 hr l4 A4 cs4 => ⟨cs4, _, A4.cell rfl, ?_⟩
    have lg := Heap.le_trans l l4
    have O4 := O.le l4
    refine qXZ hW A ho (by omega) lg A4 (fun h' l' hr => ?_) (fun h' s j l' hr => ?_) R 1 x.n _ (Heap.le_refl _) (by rw [hW]; rfl) (by omega) (by omega) (by omega) rfl
    · rw [hr] at e
      dsimp only at e
      rw [e] at k
      exact k h' none 0 (Heap.le_trans lg l') (.inl rfl)
    · rw [hr] at e
      dsimp only at e
      obtain ⟨r1, r2, r3, r4⟩ := qRl (fun y hy => ho y (by rw [hW]; exact List.mem_cons_of_mem _ hy)) (by omega) (by omega) hr
      refine qUK (A4.le l') (N.le (Heap.le_trans lg l')) hx ⟨r1, r2⟩ hP ?_
      refine qUZ (A4.le l') (Heap.le_trans lg l') (O4.le l') (by omega) fun h5 op' oc' l5 O5 => ?_
      refine qMf _ _ _ _ _ _ _ _ _ _ _ _ _ ?_
      unfold qI9
      refine ⟨by omega, by omega, ?_⟩
      rw [Int.toNat_natCast]
      have hil : (qGi (mxN PL) now x s).length ≤ 1 := by unfold qGi; split <;> simp
      have hdl : (W.drop j).length = W.length - j := List.length_drop ..
      have := ih (W.drop j) (qGP q j lc 4) (lc - j) h5 (out ++ qGi (mxN PL) now x s) op' oc' (by omega) (by omega) (by omega) (fun y hy => ho y (List.mem_of_mem_drop hy)) (qVG A (by omega) h3) l5 O5 (by rw [List.length_append]; omega) e
      rw [hdl] at this
      exact this
theorem qXc {q : Option Addr} {D : List Du} {n dc : Nat} (A : Arr uV g q D) (hn : D.length = n) (hs : n ≤ 4096) {PNn : Nat}
    (k : ∀ h' p c, g.le h' → OwnL g h' z4 p c ((D.filter fun x => decide (x.t ≤ now)).flatMap uV) → CallA Try.prog qv [slice p (D.filter fun x => decide (x.t ≤ now)).length c, func (Fn.func qI) #[] #[]] h' fun v h => v = tuple #[] ∧ qEo pp PNn pc now p (D.filter fun x => decide (x.t ≤ now)).length c none 0 0 h K) :
    ∀ (m j : Nat) (h : Heap) (p : Option Addr) (c : Nat), m + j = n → g.le h → OwnL g h z4 p c (((D.take j).filter fun x => decide (x.t ≤ now)).flatMap uV) →
    qF6 pp PNn pc now p ((D.take j).filter fun x => decide (x.t ≤ now)).length c q n dc n j h K := by
  intro m
  induction m with
  | zero =>
    intro j h p c hj l O
    refine qKw _ _ _ _ _ _ _ _ _ _ _ _ _ _ ?_
    unfold qIU
    rw [List.take_of_length_le (by omega)] at O ⊢
    exact Br.no (by simp; omega) (k h p c l O)
  | succ m ih =>
    intro j h p c hj l O
    refine qKw _ _ _ _ _ _ _ _ _ _ _ _ _ _ ?_
    unfold qIU
    have hx : D[j]? = some D[j] := List.getElem?_eq_getElem (by omega)
    have tk : D.take (j + 1) = D.take j ++ [D[j]] := by rw [List.take_add_one, hx]; rfl
    generalize D[j] = x at *
    have hlen : ((D.take j).filter fun x => decide (x.t ≤ now)).length ≤ j := Nat.le_trans (List.length_filter_le _ _) (by rw [List.length_take]; omega)
    refine Br.yes (by simp; omega) (ldX (A.le l) hn rfl hx (qHY (vs := uV x) rfl fun r h4 hr l4 A4 cs4 => ⟨cs4, _, A4.cell rfl, ?_⟩))
    have lg := Heap.le_trans l l4
    have O4 := O.le l4
    rw [w1 (j := j) (by omega)]
    refine Br.dec (fun g1 => ?_) fun g1 => ?_
    · refine ldU (a := 0) (fun o ho => A4.cellO ho) (qJT (ws := uV x) O4 (by decide) lg (by omega) rfl rfl (by rw [qAY qCN]; rfl) fun r h5 p' c' h' hr l5 l' O' keep how => ?_)
      have e : (D.take (j + 1)).filter (fun x => decide (x.t ≤ now)) = (D.take j).filter (fun x => decide (x.t ≤ now)) ++ [x] := by rw [tk, List.filter_append, List.filter_cons_of_pos (by simpa using g1)]; rfl
      have := ih (j + 1) h' p' c' (by omega) l' (by rw [e, List.flatMap_append, List.flatMap_cons, List.flatMap_nil, List.append_nil]; exact O')
      rw [e, List.length_append] at this
      exact this
    · have e : (D.take (j + 1)).filter (fun x => decide (x.t ≤ now)) = (D.take j).filter (fun x => decide (x.t ≤ now)) := by rw [tk, List.filter_append, List.filter_cons_of_neg (by simpa using g1)]; simp
      have := ih (j + 1) _ p c (by omega) lg (by rw [e]; exact O4)
      rw [e] at this
      exact this
theorem qOE {h : Heap} {q : Option Addr} {D : List Du} {dc : Nat} (A : Arr uV h q D) (hs : D.length ≤ 1000000) (hD : ∀ x ∈ D, I64 x.m ∧ I64 x.c ∧ I64 x.t ∧ I64 x.n) (N : Nets h pp PL) (hP : ∀ y ∈ PL, qEh y.l)
    (k4 : 4096 < D.length → K (tuple #[slice none 0 0, .int .i64 4]) h) (k1 : D.length ≤ 4096 → D.any qHt = true → ∀ h', h.le h' → K (tuple #[slice none 0 0, .int .i64 1]) h')
    (k : D.length ≤ 4096 → D.any qHt = false → ∀ (W : List Du) h' q' c', W.Perm (D.filter fun x => decide (x.t ≤ now)) → (W.Pairwise fun x y => ¬ (y.m < x.m ∨ (y.m = x.m ∧ y.c < x.c))) → (∀ y ∈ W, okU y) → h.le h' → Arr uV h' q' (qGO (mxN PL) now W.length W []).1 →
      K (tuple #[slice q' (qGO (mxN PL) now W.length W []).1.length c', .int .i64 (qGO (mxN PL) now W.length W []).2]) h') :
    CallA Try.prog qGU [slice q D.length dc, slice pp PL.length pc, .int .i64 now] h K := by
  refine qPw _ _ _ _ _ _ _ _ _ ?_
  unfold qLu
  refine Br.dec (fun g1 => Ret.mk (k4 (by omega))) fun g1 => qU1 A rfl hs fun h1 l1 => ⟨_, rfl, ?_⟩
  cases hb : D.any qHt with
  | true => exact Br.yes rfl (Ret.mk (k1 (by omega) hb h1 l1))
  | false =>
  have k := k (by omega) hb
  have ok : ∀ y ∈ D.filter (fun x => decide (x.t ≤ now)), okU y := fun y hy => by
    have hy := (List.mem_filter.1 hy).1
    have h1 := hD y hy
    rw [List.any_eq_false] at hb
    have h2 := hb y hy
    unfold qHt at h2
    rw [decide_eq_true_eq] at h2
    unfold okU I64 at *
    omega
  have hfl : (D.filter fun x => decide (x.t ≤ now)).length ≤ 4096 := Nat.le_trans (List.length_filter_le _ _) (by omega)
  refine Br.no rfl (qXc (g := h1) (A.le l1) rfl (by omega) (fun h' p c l' O => ?_) D.length 0 h1 none 0 (by omega) (Heap.le_refl _) (.nil _ _ _))
  generalize hF : D.filter (fun x => decide (x.t ≤ now)) = F at *
  have go : ∀ h2 W q lc, h1.le h2 → W.Perm F → (W.Pairwise fun x y => ¬ (y.m < x.m ∨ (y.m = x.m ∧ y.c < x.c))) → W.length ≤ lc → Arr uV h2 q W → qEo pp PL.length pc now q F.length lc none 0 0 h2 K := fun h2 W q lc l2 hp hs hc A2 => by
    have hwl := hp.length_eq
    have := qXd (pc := pc) (N.le (Heap.le_trans l1 l2)) hP (f0 := W.length) (W0 := W) (fun h3 op oc l3 A3 => k W h3 op oc hp hs (fun y hy => ok y (hp.mem_iff.1 hy)) (Heap.le_trans l1 (Heap.le_trans l2 l3)) A3) W.length W q lc h2 [] none 0 (Nat.le_refl _) (by omega) hc (fun y hy => ok y (hp.mem_iff.1 hy)) A2 (Heap.le_refl _) (.nil _ _ _) (by simp; omega) rfl
    rw [hwl] at this
    exact this
  rcases O with ⟨e1, e2, e3⟩ | ⟨B, sp, e2, e0, AB, hc⟩
  · have hFn : F = [] := by
      have := congrArg List.length e1
      rw [qAY qCN] at this
      rw [List.length_nil] at this
      exact List.length_eq_zero_iff.1 (by omega)
    subst hFn e2 e3
    exact qRa ⟨rfl, go h' [] none 0 l' (.refl _) .nil (Nat.le_refl _) (.inl rfl)⟩
  · subst e2
    have hcl : F.length ≤ c := by
      rw [List.length_append, qAY qCN, show z4.length = 4 from rfl] at hc
      omega
    have Dau : DaU F h1 B F.length F.length sp h' (qHE F.length).toArray := ⟨l', by rw [show (qHE F.length).toArray.toList = qHE F.length from rfl, qPk]; exact AB, by simp [qJQ], rfl⟩
    refine qUY e0 rfl (by omega) Dau fun h2 d2 D2 P2 s2 => ⟨rfl, ?_⟩
    obtain ⟨q1, q2⟩ := qSE rfl P2 s2
    exact go h2 _ (some ⟨B, 0, none⟩) c D2.le q1 q2 (by rw [q1.length_eq]; exact hcl) (At.toRd D2.at_)
end
end Go.Proofs.Ytjihfieahkbohaa

/- Parts of a heap that lie apart from each other and from all else. -/
namespace Go.Proofs.Ytjihfieahkbohaa
open Go Go.Sy Go.Value
set_option linter.unusedVariables false
set_option linter.unusedSimpArgs false

structure SepT (H X g1 g2 : Heap) : Prop where
  x : X.le H
  a : g1.le H
  b : g2.le H
  xa : ∀ r o, X r = some o → g1 r = none
  xb : ∀ r o, X r = some o → g2 r = none
  ab : ∀ r o, g1 r = some o → g2 r = none
section
variable {P : Program} {f : FuncId} {args : List Value} {H H' X g1 g2 : Heap} {K : Value → Heap → Prop}
theorem SepT.le (s : SepT H X g1 g2) (l : H.le H') : SepT H' X g1 g2 := ⟨Heap.le_trans s.x l, Heap.le_trans s.a l, Heap.le_trans s.b l, s.xa, s.xb, s.ab⟩
theorem SepT.ba (s : SepT H X g1 g2) : ∀ r o, g2 r = some o → g1 r = none := fun r o e => by
  cases h : g1 r with
  | none => rfl
  | some y => have := s.ab r y h; rw [e] at this; cases this
theorem SepT.call1 (s : SepT H X g1 g2) (c : CallA P f args g1 fun v g' => ∀ H', SepT H' X g' g2 → K v H') : CallA P f args H K :=
  (c.frame2 s.a).mono fun v h' ⟨g', k, l', keep, off⟩ => k h' ⟨fun r o e => keep r o (s.x r o e) (s.xa r o e), l', fun r o e => keep r o (s.b r o e) (s.ba r o e), fun r o e => off r o (s.x r o e) (s.xa r o e), s.xb, fun r o e => by
    cases h : g2 r with
    | none => rfl
    | some y =>
      have := off r y (s.b r y h) (s.ba r y h)
      rw [e] at this; cases this⟩
theorem SepT.new1 (s : SepT H X qPE g2) (c : CallA P f args qPE fun v g' => ∀ H', SepT H' X g' g2 → K v H') : CallA P f args H K := s.call1 c
theorem SepT.start (h : Heap) : SepT h h qPE qPE := ⟨h.le_refl, qPF h, qPF h, fun _ _ _ => rfl, fun _ _ _ => rfl, fun _ _ _ => rfl⟩
theorem qU0 {X H : Heap} (l : X.le H) (r : Nat) (o : Obj) : (X.ins r o).le (H.ins r o) := fun x y e => by
  unfold Heap.ins at e ⊢
  split
  · rename_i g; rw [if_pos g] at e; exact e
  · rename_i g; rw [if_neg g] at e; exact l x y e
theorem SepT.ins (s : SepT H X g1 g2) {r : Nat} (hr : H r = none) (o : Obj) : SepT (H.ins r o) (X.ins r o) g1 g2 := by
  have dj : ∀ g : Heap, g.le H → (∀ r o, X r = some o → g r = none) → ∀ x y, (X.ins r o) x = some y → g x = none := fun g l d x y e => by
    unfold Heap.ins at e
    split at e
    · rename_i h; rw [h]; exact qDg l hr
    · exact d x y e
  exact ⟨qU0 s.x r o, Heap.le_trans s.a (qB7 hr), Heap.le_trans s.b (qB7 hr), dj g1 s.a s.xa, dj g2 s.b s.xb, s.ab⟩
theorem qQk {h : Heap} {b o x : Nat} {ws : List Value} {y : Obj} (e : (h.setN b o ws) x = some y) : ∃ z, h x = some z := by
  by_cases g : x = b
  · subst g
    unfold Heap.setN at e
    cases hx : h x with
    | none => simp [hx] at e
    | some z => exact ⟨z, rfl⟩
  · rw [qFz g] at e; exact ⟨y, e⟩
theorem qTu {X H : Heap} (l : X.le H) {b o : Nat} {vs ws : List Value} (a : At X b vs) : (X.setN b o ws).le (H.setN b o ws) := fun x y e => by
  by_cases g : x = b
  · subst g
    obtain ⟨T, ea⟩ := a
    have eh := l _ _ ea
    unfold Heap.setN at e ⊢
    rw [ea] at e
    rw [eh]
    exact e
  · rw [qFz g] at e ⊢; exact l x y e
theorem SepT.set (s : SepT H X g1 g2) {b o : Nat} {vs ws : List Value} (a : At X b vs) : SepT (H.setN b o ws) (X.setN b o ws) g1 g2 := by
  obtain ⟨T, ea⟩ := a
  exact ⟨qTu s.x ⟨T, ea⟩, qCL s.a (s.xa b _ ea), qCL s.b (s.xb b _ ea), fun r y e => (qQk e).elim fun z hz => s.xa r z hz, fun r y e => (qQk e).elim fun z hz => s.xb r z hz, s.ab⟩
theorem SepT.cp (s : SepT H X g1 g2) {z vs : List Value} {T : TypeId} {J : Nat → Heap → Prop} (hv : vs.length = z.length)
    (k : ∀ r H1 X', SepT (H1.setN r 0 vs) X' g1 g2 → At X' r vs → (∀ b xs, At X b xs → At X' b xs) → H1.canSt r 0 z.length → X r = none → X.le X' → J r H1) : qd H z T J := fun r hr => by
  have s1 := s.ins hr (.cells z.toArray T (0, 0))
  have a1 := At.new X r z T
  have hx := qDg s.x hr
  have a2 := a1.set (o := 0) (ws := vs)
  have e := qKy vs [] z (by omega)
  rw [List.nil_append, List.nil_append, hv, List.drop_length, List.append_nil] at e
  rw [show ([] : List Value).length = 0 from rfl] at e
  rw [e] at a2
  exact k r _ _ (s1.set a1) a2 (fun b xs a => (a.ins hx).set_ne (a.ne hx)) (qMk _ _ _ _ _ _ (by omega)) hx (qCL (qB7 hx) hx)
theorem SepT.box (s : SepT H X g1 g2) {z : List Value} {T : TypeId} {J : Nat → Heap → Prop}
    (k : ∀ r H1 X', SepT H1 X' g1 g2 → At X' r z → (∀ b xs, At X b xs → At X' b xs) → X r = none → X.le X' → J r H1) : qd H z T J := fun r hr => by
  have hx := qDg s.x hr
  exact k r _ _ (s.ins hr _) (At.new X r z T) (fun b xs a => a.ins hx) hx (qB7 hx)
end
end Go.Proofs.Ytjihfieahkbohaa

/- Shares: the awake test answers true. -/

namespace Go.Proofs.Ytjihfieahkbohaa
open Go Go.Sy Go.Value
set_option linter.unusedVariables false
set_option linter.unusedSimpArgs false

theorem vB : qJZ 10 3 = ([4, 3, 3], 0) := by
  unfold qJZ
  rw [if_neg (by decide), if_neg (by decide), if_neg (by decide)]
  have e : ones (Int.toNat 3) = [1, 1, 1] := rfl
  rw [e]
  unfold qJL
  rw [if_neg (by decide), if_neg (by decide), if_neg (by decide), if_neg (by decide), if_neg (by decide)]
  unfold qDJ
  have o : qJE (qC2 10 (qK [1, 1, 1]) [1, 1, 1]) ([1, 1, 1] : List Int).length = [0, 1, 2] := qWA (by decide) (by decide)
  rw [o]; decide
section
variable {K : Value → Heap → Prop} {h : Heap}
theorem qSk {a b : Option Addr} {la lb : List Int} {n ac bc : Nat} (Ia : Ints .i64 h a la) (Ib : Ints .i64 h b lb) (ha : la.length = n) (hb : lb.length = n) (hs : n ≤ 1099511627776) :
    ∀ (m j : Nat), m + j = n → Ret h K (.bool (decide (la.drop j = lb.drop j))) → qHc a n ac b n bc j h K := by
  intro m
  induction m with
  | zero =>
    intro j hj k
    refine qLM _ _ _ _ _ _ _ _ _ ?_
    unfold qIk
    refine Br.no (by simp; omega) ?_
    rw [List.drop_eq_nil_of_le (by omega), List.drop_eq_nil_of_le (by omega)] at k
    exact k
  | succ m ih =>
    intro j hj k
    refine qLM _ _ _ _ _ _ _ _ _ ?_
    unfold qIk
    have ea : la[j]? = some la[j] := List.getElem?_eq_getElem (by omega)
    have eb : lb[j]? = some lb[j] := List.getElem?_eq_getElem (by omega)
    rw [List.drop_eq_getElem_cons (by omega : j < la.length), List.drop_eq_getElem_cons (by omega : j < lb.length)] at k
    refine Br.yes (by simp; omega) (ix Ia ha rfl ea (ix Ib hb rfl eb ?_))
    refine Br.intro (fun e => ?_) (fun e => ?_)
    · have : la[j] ≠ lb[j] := by simpa using e
      rw [decide_eq_false (fun x => this (List.cons.inj x).1)] at k
      exact k
    · have e : la[j] = lb[j] := by simpa using e
      rw [qW (by omega) (by omega)]
      refine ih (j + 1) (by omega) ?_
      have e0 : ∀ (a b : Int) (x y : List Int), a = b → ((a :: x = b :: y) ↔ x = y) := by rintro a _ x y rfl; simp
      have := e0 _ _ (la.drop (j + 1)) (lb.drop (j + 1)) e
      rw [decide_eq_decide.2 this] at k
      exact k
theorem qRw {a b : Option Addr} {la lb : List Int} {n m ac bc : Nat} (Ia : Ints .i64 h a la) (Ib : Ints .i64 h b lb) (ha : la.length = n) (hb : lb.length = m) (hs : n ≤ 1099511627776) (k : K (.bool (decide (la = lb))) h) :
    CallA Try.prog qJ2 [slice a n ac, slice b m bc] h K := by
  refine qQw _ _ _ _ _ _ _ _ ?_
  unfold qMW
  refine Br.intro (fun e => ?_) (fun e => ?_)
  · have : n ≠ m := by intro e2; subst e2; simp at e
    rw [decide_eq_false (fun x => this (by rw [← ha, ← hb, x]))] at k
    exact Ret.mk k
  · have : n = m := by simp at e; omega
    subst this
    refine qSk Ia Ib ha hb hs n 0 (by omega) ?_
    simpa using Ret.mk k
end
end Go.Proofs.Ytjihfieahkbohaa

/- Plan: the calls whose answers the document fixes. -/
namespace Go.Proofs.Ytjihfieahkbohaa
open Go Go.Sy Go.Value
set_option linter.unusedVariables false
set_option linter.unusedSimpArgs false

section
variable {h : Heap} {K : Value → Heap → Prop}
theorem qXx {p : Option Addr} {D : List Du} {n c : Nat} (A : Arr uV h p D) (hn : D.length = n) (hs : n ≤ 1000000) (k : ∀ h' q c', h.le h' → Arr uV h' q D → K (slice q D.length c') h') :
    ∀ (m j : Nat) (h1 : Heap) (q : Option Addr) (cp : Nat), m + j = n → h.le h1 → OwnL h h1 z4 q cp ((D.take j).flatMap uV) → qIC q (D.take j).length cp p n c n j h1 K := by
  intro m
  induction m with
  | zero =>
    intro j h1 q cp hj l O
    refine qLv _ _ _ _ _ _ _ _ _ _ ?_
    unfold qJF
    rw [List.take_of_length_le (by omega)] at O ⊢
    exact Br.no (by simp; omega) (Ret.mk (k h1 q cp l O.rd))
  | succ m ih =>
    intro j h1 q cp hj l O
    refine qLv _ _ _ _ _ _ _ _ _ _ ?_
    unfold qJF
    have hx : D[j]? = some D[j] := List.getElem?_eq_getElem (by omega)
    have tk : D.take (j + 1) = D.take j ++ [D[j]] := by rw [List.take_add_one, hx]; rfl
    generalize D[j] = x at *
    have hl : (D.take j).length = j := by rw [List.length_take]; omega
    refine Br.yes (by simp; omega) (ldX (A.le l) hn rfl hx (qHY (vs := uV x) rfl fun r h4 hr l4 A4 cs4 => ⟨cs4, ldU (a := 0) (fun o ho => A4.cellO ho) ?_⟩))
    refine qJT (ws := uV x) (O.le l4) (by decide) (Heap.le_trans l l4) (by omega) rfl rfl (by rw [qAY qCN]; rfl) fun r h5 p' c' h' hr l5 l' O' keep how => ?_
    rw [w1 (by omega)]
    have := ih (j + 1) h' p' c' (by omega) l' (by rw [tk, List.flatMap_append, List.flatMap_cons, List.flatMap_nil, List.append_nil]; exact O')
    rw [tk, List.length_append] at this
    exact this
theorem qVp {p : Option Addr} {D : List Du} {n c : Nat} (A : Arr uV h p D) (hn : D.length = n) (hs : n ≤ 1000000) (k : ∀ h' q c', h.le h' → Arr uV h' q D → K (slice q D.length c') h') : CallA Try.prog qKf [slice p n c] h K := by
  refine qRN _ _ _ _ _ ?_
  unfold qMh
  have := qXx A hn hs (c := c) k n 0 h none 0 (by omega) h.le_refl (.nil _ _ _)
  exact this
theorem qVt {a b : Option Addr} {D : List Du} {n ac bc : Nat} (A : Arr uV h a D) (B : Arr uV h b D) (hn : D.length = n) (hs : n ≤ 1000000) (k : K (.bool true) h) : ∀ (m j : Nat), m + j = n → qHd a n ac b n bc j h K := by
  intro m
  induction m with
  | zero =>
    intro j hj
    refine qK7 _ _ _ _ _ _ _ _ _ ?_
    unfold qIq
    exact Br.no (by simp; omega) (Ret.mk k)
  | succ m ih =>
    intro j hj
    refine qK7 _ _ _ _ _ _ _ _ _ ?_
    unfold qIq
    have hx : D[j]? = some D[j] := List.getElem?_eq_getElem (by omega)
    generalize D[j] = x at *
    refine Br.yes (by simp; omega) (ldX A hn rfl hx (ldX B hn rfl hx ?_))
    rw [w1 (by omega)]
    exact Br.no (by simp) (ih (j + 1) (by omega))
theorem qR3 {a b : Option Addr} {D E : List Du} {n m ac bc : Nat} (A : Arr uV h a D) (B : Arr uV h b E) (e : D = E) (hn : D.length = n) (hm : E.length = m) (hs : n ≤ 1000000) (k : K (.bool true) h) : CallA Try.prog qMQ [slice a n ac, slice b m bc] h K := by
  subst e
  subst hn hm
  refine qQ4 _ _ _ _ _ _ _ _ ?_
  unfold qMT
  exact Br.no (by simp) (qVt A B rfl hs k D.length 0 (by omega))
def qLw (L : List NRow) : Bool := (L.any fun x => decide ((x.l.length : Int) > 20)) || decide ((L.length : Int) > 40)
theorem qWQ {p : Option Addr} {L : List NRow} {n c : Nat} (X : Nets h p L) (hn : L.length = n) (hs : n ≤ 9223372036854775807) (k : K (.bool (qLw L)) h) :
    ∀ (m j : Nat), m + j = n → L.any (fun x => decide ((x.l.length : Int) > 20)) = (L.drop j).any (fun x => decide ((x.l.length : Int) > 20)) → qHG p n c n j h K := by
  intro m
  induction m with
  | zero =>
    intro j hj e
    refine qKt _ _ _ _ _ _ _ ?_
    unfold qIH
    rw [List.drop_eq_nil_of_le (by omega), List.any_nil] at e
    unfold qLw at k
    rw [e, Bool.false_or, hn] at k
    exact Br.no (by simp; omega) (Ret.mk k)
  | succ m ih =>
    intro j hj e
    refine qKt _ _ _ _ _ _ _ ?_
    unfold qIH
    have hx : L[j]? = some L[j] := List.getElem?_eq_getElem (by omega)
    rw [List.drop_eq_getElem_cons (by omega : j < L.length), List.any_cons] at e
    generalize L[j] = x at *
    refine Br.yes (by simp; omega) (nx X hn rfl hx ?_)
    refine Br.dec (fun g => ?_) fun g => ?_
    · rw [decide_eq_true g, Bool.true_or] at e
      unfold qLw at k
      rw [e, Bool.true_or] at k
      exact Ret.mk k
    · rw [decide_eq_false g, Bool.false_or] at e
      rw [qW (by omega) (by omega)]
      exact ih (j + 1) (by omega) e
theorem qV5 {p : Option Addr} {L : List NRow} {n c : Nat} (X : Nets h p L) (hn : L.length = n) (hs : n ≤ 9223372036854775807) (k : K (.bool (qLw L)) h) : CallA Try.prog qJO [slice p n c] h K := by
  refine qP1 _ _ _ _ _ ?_
  unfold qLk
  exact qWQ X hn hs k n 0 (by omega) rfl
end
/-! ### awake -/
def aD1 : Dl := ⟨7, 0, 1, 0, 1, 10, 8⟩
def aD2 : Dl := ⟨7, 1, 0, 1, 0, 8, 10⟩
def aS1 : Bk := ⟨2, 2, [⟨aD1, 1, 0, 0⟩], 0⟩
def aS2 : Bk := ⟨2, 2, [⟨aD1, 2, 0, 1⟩], 1⟩
theorem aE1 : qHZ ⟨2, 2, [], 0⟩ aD1 = (false, 0, aS1) := by unfold qHZ; rw [if_pos (by unfold qKB aD1; decide)]; rfl
theorem aE2 : qHZ aS1 aD2 = (true, 0, aS2) := by unfold qHZ; rw [if_pos (by unfold qKB aD2 aS1; decide)]; rfl
theorem aE3 : qO0 aS2 2 2 = ([[-10, 8], [10, -8]], 0) := by decide +kernel
theorem aSh : shL (- -10) 3 = [4, 3, 3] := by
  have h1 := qPJ (n := 10) (p := 3) (by decide) (by decide) (by decide)
  rw [show qJZ 10 ((3 : Nat) : Int) = qJZ 10 3 from rfl, vB] at h1
  exact (congrArg Prod.fst h1).symm
theorem aE4 : qEZ [[-10]] [5, 9, 12] = ([⟨0, 0, 5, 4⟩, ⟨0, 0, 9, 3⟩, ⟨0, 0, 12, 3⟩], 0) := by
  have e : ∀ k c, qFB [5, 9, 12] k 0 c (-10) = if 0 < [(4 : Int), 3, 3].getD k 0 then [⟨((0 : Nat) : Int), c, [(5 : Int), 9, 12].getD k 0, [(4 : Int), 3, 3].getD k 0⟩] else [] := fun k c => by
    unfold qFB
    rw [show [(5 : Int), 9, 12].length = 3 from rfl, aSh]
    by_cases g : 0 < [(4 : Int), 3, 3].getD k 0
    · rw [if_pos ⟨by decide, g⟩, if_pos g]
    · rw [if_neg (fun x => g x.2), if_neg g]
  have e2 : qAT [[-10]] [5, 9, 12] = [⟨0, 0, 5, 4⟩, ⟨0, 0, 9, 3⟩, ⟨0, 0, 12, 3⟩] := by
    have m : ∀ k, qGs [5, 9, 12] k [[-10]] 1 = qFB [5, 9, 12] k 0 0 (-10) := fun k => by
      unfold qGs qJ6
      simp
    unfold qAT
    show qGs _ 0 _ 1 ++ (qGs _ 1 _ 1 ++ (qGs _ 2 _ 1 ++ [])) = _
    rw [m, m, m, e, e, e]
    rfl
  unfold qEZ
  rw [e2]
  rfl
theorem aE5 : qEZ [] [5, 5] = ([], 1) := rfl
theorem qXs {x y : Du} {W : List Du} (h : W.Perm [x, y]) : W = [x, y] ∨ W = [y, x] := by
  have hl := h.length_eq
  match W, hl with
  | [a, b], _ =>
    have ha : a ∈ [x, y] := h.mem_iff.1 (List.mem_cons_self ..)
    rw [List.mem_cons, List.mem_singleton] at ha
    rcases ha with rfl | rfl
    · have := List.singleton_perm_singleton.1 ((List.perm_cons a).1 h)
      exact .inl (by rw [this])
    · have := List.singleton_perm_singleton.1 ((List.perm_cons a).1 (h.trans (List.Perm.swap ..)))
      exact .inr (by rw [this])
theorem aE6 {W : List Du} (h : W.Perm (([⟨0, 0, 5, 4⟩, ⟨0, 0, 9, 3⟩, ⟨0, 0, 12, 3⟩] : List Du).filter fun x => decide (x.t ≤ 9))) : qGO [[5]] 9 W.length W [] = ([⟨0, 0, 9, 2⟩], 0) := by
  have h : W.Perm [⟨0, 0, 5, 4⟩, ⟨0, 0, 9, 3⟩] := h
  rcases qXs h with rfl | rfl <;> rfl
theorem qVr {h : Heap} {r1 r2 : Nat} {v : Int} {T : TypeId} (A1 : At h r1 [.int .i64 v]) (A2 : At h r2 [slice (some ⟨r1, 0, none⟩) 1 1]) : Nets h (some ⟨r2, 0, none⟩) [⟨some ⟨r1, 0, none⟩, 1, [v]⟩] :=
  ⟨At.toRd (ws := []) A2, fun x hx => by
    rw [List.mem_singleton] at hx
    subst hx
    exact At.toRd (ws := []) A1⟩
theorem qVW : ∀ {L : List NRow} {a b : List Int}, mxN L = [a, b] → ∃ X Y, L = [X, Y] ∧ X.l = a ∧ Y.l = b
  | [], _, _, h => by cases h
  | [_], _, _, h => by cases h
  | [X, Y], _, _, h => by
    unfold mxN at h
    simp only [List.map_cons, List.map_nil, List.cons.injEq, and_true] at h
    exact ⟨X, Y, rfl, h.1, h.2⟩
  | _ :: _ :: _ :: _, _, _, h => by cases h
theorem qOx {h0 : Heap} {K : Value → Heap → Prop} (k : ∀ h', h0.le h' → K (.bool true) h') : CallA Try.prog qJR [] h0 K := by
  refine qP3 _ _ ?_
  unfold qLl
  have s := SepT.start h0
  refine s.new1 (qXt (fun g => (g ⟨by decide, by decide⟩).elim) fun _ p g1 _ P H s => ⟨_, _, rfl, Br.no rfl ?_⟩)
  refine s.call1 (qQC P (d := aD1) (by unfold qUL aD1; decide) fun g1 P H s => ⟨_, _, rfl, ?_⟩)
  rw [aE1] at P
  refine s.call1 (qQC P (d := aD2) (by unfold qUL aD2; decide) fun g1 P H s => ⟨_, _, rfl, ?_⟩)
  rw [show (qHZ (false, (0 : Int), aS1).2.2 aD2).2.2 = aS2 by rw [aE2]] at P
  have l0 := s.x
  have P := P.le s.a
  clear s
  refine qXm P (ms := 2) (cs := 2) fun h1 q1 L1 c1 l1 N1 e1 => ⟨_, _, _, _, rfl, ?_⟩
  rw [aE3] at e1
  dsimp only at e1
  rw [show (qO0 aS2 2 2).2 = 0 by rw [aE3]]
  refine qOP _ _ _ _ _ ?_
  unfold qLT
  refine Br.yes rfl (Ret.mk ⟨_, _, _, _, rfl, ?_⟩)
  refine qAE fun r1 h2 hr1 l2 A1 => qAE fun r2 h3 hr2 l3 A2 => qAE fun r3 h4 hr3 l4 A3 => ?_
  have N4 : Nets h4 (some ⟨r2, 0, none⟩) [⟨some ⟨r1, 0, none⟩, 1, [-10]⟩] := qVr (T := 0) (A1.le (Heap.le_trans l3 l4)) (A2.le l4)
  have I4 : Ints .i64 h4 (some ⟨r3, 0, none⟩) [5, 9, 12] := At.toRd (ws := []) A3
  refine qML (L := [⟨some ⟨r1, 0, none⟩, 1, [-10]⟩]) (ds := [5, 9, 12]) (lc := 1) (qc := 3) N4 (by show 1 ≤ 1000000; omega) (fun x hx => by
    rw [List.mem_singleton] at hx
    subst hx
    exact ⟨by show 1 ≤ 1000000; omega, fun n hn => by rw [List.mem_singleton] at hn; subst hn; unfold I64; omega⟩) I4 (by decide) fun h5 q5 c5 l5 A5 => ?_
  rw [show mxN [⟨some ⟨r1, 0, none⟩, 1, [-10]⟩] = [[-10]] from rfl, aE4] at A5 ⊢
  dsimp only at A5 ⊢
  refine ⟨_, _, _, _, rfl, qAE fun r6 h6 hr6 l6 A6 => ?_⟩
  have I6 : Ints .i64 h6 (some ⟨r6, 0, none⟩) [5, 5] := At.toRd (ws := []) A6
  refine qML (L := []) (ds := [5, 5]) (np := none) (lc := 0) (qc := 2) (h := h6) ⟨.inl rfl, fun x hx => by cases hx⟩ (by decide) (fun x hx => by cases hx) I6 (by decide) fun h7 q7 c7 l7 A7 => ?_
  rw [show mxN [] = [] from rfl, aE5] at A7 ⊢
  dsimp only at A7 ⊢
  refine ⟨_, _, _, _, rfl, qAE fun r8 h8 hr8 l8 A8 => qAE fun r9 h9 hr9 l9 A9 => ?_⟩
  have N9 : Nets h9 (some ⟨r9, 0, none⟩) [⟨some ⟨r8, 0, none⟩, 1, [5]⟩] := qVr (T := 0) (A8.le l9) A9
  have l59 := Heap.le_trans l6 (Heap.le_trans l7 (Heap.le_trans l8 l9))
  refine qOE (PL := [⟨some ⟨r8, 0, none⟩, 1, [5]⟩]) (D := [⟨0, 0, 5, 4⟩, ⟨0, 0, 9, 3⟩, ⟨0, 0, 12, 3⟩]) (pc := 1) (dc := c5) (now := 9) (A5.le l59) (by decide) (fun x hx => by
    simp only [List.mem_cons, List.not_mem_nil, or_false] at hx
    rcases hx with rfl | rfl | rfl <;> (dsimp only; unfold I64; omega)) N9 (fun y hy => by
    rw [List.mem_singleton] at hy
    subst hy
    exact fun n hn => by rw [List.mem_singleton] at hn; subst hn; unfold I64; omega) (fun g => absurd g (by decide)) (fun _ g => absurd g (by decide)) fun _ _ W h10 q10 c10 hp _ _ l10 A10 => ?_
  rw [show mxN [⟨some ⟨r8, 0, none⟩, 1, [5]⟩] = [[5]] from rfl, aE6 hp] at A10 ⊢
  dsimp only at A10 ⊢
  refine ⟨_, _, _, _, rfl, ?_⟩
  have l14 := Heap.le_trans l2 (Heap.le_trans l3 l4)
  have l1a := Heap.le_trans l14 (Heap.le_trans l5 (Heap.le_trans l59 l10))
  have N10 := N1.le l1a
  obtain ⟨X, Y, eL, eX, eY⟩ := qVW e1
  subst eL
  have fX : X.l.length = 2 := by rw [eX]; rfl
  have fY : Y.l.length = 2 := by rw [eY]; rfl
  rcases N10.1 with e | ⟨b, o, e, hc⟩
  · cases e
  subst e
  have I1 : Ints .i64 h10 X.p X.l := N10.2 X (by simp)
  have I2 : Ints .i64 h10 Y.p Y.l := N10.2 Y (by simp)
  refine Br.yes rfl ⟨by decide, (by show (0 : Int) < 2; decide), qD rfl ⟨_, _, _, hc 0 (by show 0 < 2; decide), qAE fun r11 h11 hr11 l11 A11 => ?_⟩⟩
  refine qRw (I1.le l11) (lb := [-10, 8]) (At.toRd (ws := []) A11) rfl rfl (by rw [eX]; decide) ⟨_, rfl, ?_⟩
  refine Br.yes (decide_eq_true eX) ⟨by decide, (by show (1 : Int) < 2; decide), qD rfl ⟨_, _, _, qOz l11 (hc 1 (by show 1 < 2; decide)), qAE fun r12 h12 hr12 l12 A12 => ?_⟩⟩
  refine qRw (I2.le (Heap.le_trans l11 l12)) (lb := [10, -8]) (At.toRd (ws := []) A12) rfl rfl (by rw [eY]; decide) ⟨_, rfl, ?_⟩
  refine Br.yes (decide_eq_true eY) (Br.yes rfl (Br.yes rfl ?_))
  have l5c := Heap.le_trans l59 (Heap.le_trans l10 (Heap.le_trans l11 l12))
  refine qVp (A5.le l5c) rfl (by decide) fun h13 q13 c13 l13 A13 => ⟨_, _, _, rfl, qAE fun r14 h14 hr14 l14' A14 => ?_⟩
  refine qR3 (A13.le l14') (E := [⟨0, 0, 5, 4⟩, ⟨0, 0, 9, 3⟩, ⟨0, 0, 12, 3⟩]) (At.toRd (ws := []) A14) rfl rfl rfl (by decide) ⟨_, rfl, ?_⟩
  refine Br.yes rfl (Br.yes rfl (Br.yes rfl ?_))
  refine qVp (A10.le (Heap.le_trans l11 (Heap.le_trans l12 (Heap.le_trans l13 l14')))) rfl (by decide) fun h15 q15 c15 l15 A15 => ⟨_, _, _, rfl, qAE fun r16 h16 hr16 l16 A16 => ?_⟩
  refine qR3 (A15.le l16) (E := [⟨0, 0, 9, 2⟩]) (At.toRd (ws := []) A16) rfl rfl rfl (by decide) ⟨_, rfl, ?_⟩
  refine Br.yes rfl (Ret.mk (k _ ?_))
  exact Heap.le_trans l0 (Heap.le_trans l1 (Heap.le_trans l1a (Heap.le_trans l11 (Heap.le_trans l12 (Heap.le_trans l13 (Heap.le_trans l14' (Heap.le_trans l15 l16)))))))
end Go.Proofs.Ytjihfieahkbohaa

/- The dues of a member and a currency are together what it must pay in: the law's own lists. -/
namespace Go.Proofs.Ytjihfieahkbohaa
open Go Go.Sy Go.Value
set_option linter.unusedVariables false
set_option linter.unusedSimpArgs false

theorem qUn {m c : Int} {D : List Du} {j : Nat} {x : Du} (hx : D[j]? = some x) : amU m c (D.take (j + 1)) = amU m c (D.take j) ++ if x.m = m ∧ x.c = c then [x.n] else [] := by
  rw [List.take_add_one, hx, qO6]
  congr 1
  unfold amU kfU
  by_cases h : x.m = m ∧ x.c = c
  · rw [if_pos h, Option.toList_some, List.filter_cons_of_pos (by simpa using h)]
    rfl
  · rw [if_neg h, Option.toList_some, List.filter_cons_of_neg (by simpa using h)]
    rfl
theorem qPi {v : Int} : ∀ (l : List Int) (c : Nat), (qg .i64 l).set c (.int .i64 v) = qg .i64 (l.set c v)
  | [], _ => rfl
  | _ :: _, 0 => rfl
  | x :: l, c + 1 => by
    show _ :: (qg .i64 l).set c _ = _
    rw [qPi l c]; rfl
/-! ### what was paid: rows of one's own -/
structure Pd (g h : Heap) (pp : Option Addr) (pc : Nat) (Q : List NRow) : Prop where
  own : OwnL g h [.slice none 0 0] pp pc (Q.map nrV)
  row : ∀ (i : Nat) (x : NRow), Q[i]? = some x → OwnL g h [.int .i64 0] x.p x.c (qg .i64 x.l)
  ne : ∀ (i : Nat) (x : NRow) (b : Nat), Q[i]? = some x → x.p = some ⟨b, 0, none⟩ → pp ≠ some ⟨b, 0, none⟩
  dj : ∀ (i j : Nat) (x y : NRow) (b : Nat), i ≠ j → Q[i]? = some x → Q[j]? = some y → x.p = some ⟨b, 0, none⟩ → y.p ≠ some ⟨b, 0, none⟩
section
variable {g h : Heap} {pp : Option Addr} {pc : Nat} {Q : List NRow}
theorem Pd.le (P : Pd g h pp pc Q) {h' : Heap} (l : h.le h') : Pd g h' pp pc Q := ⟨P.own.le l, fun i x e => (P.row i x e).le l, P.ne, P.dj⟩
theorem Pd.nets (P : Pd g h pp pc Q) : Nets h pp Q := ⟨P.own.rd, fun x hx => by
  obtain ⟨i, hi⟩ := List.mem_iff_getElem?.1 hx
  exact (P.row i x hi).rd⟩
theorem OwnL.not_new {h0 h : Heap} {z : List Value} {p : Option Addr} {c b : Nat} {vs xs : List Value} (O : OwnL h0 h z p c vs) (a : At h0 b xs) : p ≠ some ⟨b, 0, none⟩ := fun e => by
  rcases O with ⟨_, e2, _⟩ | ⟨s, sp, e2, e0, _, _⟩
  · rw [e2] at e; cases e
  · rw [e2] at e; cases e
    obtain ⟨t, a⟩ := a
    rw [e0] at a; cases a
theorem OwnL.at_ {h0 h : Heap} {z : List Value} {c b : Nat} {vs : List Value} (O : OwnL h0 h z (some ⟨b, 0, none⟩) c vs) : ∃ xs, At h b xs := by
  rcases O with ⟨_, e2, _⟩ | ⟨s, sp, e2, _, a, _⟩
  · cases e2
  · cases e2; exact ⟨_, a⟩
theorem Pd.push (P : Pd g h pp pc Q) (lg : g.le h) {h1 : Heap} (l1 : h.le h1) {rp : Option Addr} {rc : Nat} {l : List Int} (O : OwnL h h1 [.int .i64 0] rp rc (qg .i64 l)) (hQ : Q.length ≤ 1000) {T T2 : TypeId} {J : Option Addr → Nat → Heap → Prop}
    (k : ∀ h' pp' pc', g.le h' → Pd g h' pp' pc' (Q ++ [⟨rp, rc, l⟩]) → J pp' pc' h') : qd h1 [.slice rp l.length rc] T fun r h2 => AppA [.slice none 0 0] T2 h2 pp Q.length pc 1 (some ⟨r, 0, none⟩) J := by
  refine qJT (ws := [.slice rp l.length rc]) (P.own.le l1) (by decide) (Heap.le_trans lg l1) (by omega) rfl rfl (by rw [List.length_map, List.length_singleton, Nat.mul_one]) fun r h2 p' c' h' hr l2 l' O' keep how => ?_
  have P2 := P.le (Heap.le_trans l1 l2)
  have O2 := O.le l2
  have hnew : ∀ b, rp = some ⟨b, 0, none⟩ → pp ≠ some ⟨b, 0, none⟩ := fun b e e2 => by
    have O' := P.own
    rw [e2] at O'
    obtain ⟨xs, a⟩ := OwnL.at_ O'
    exact OwnL.not_new O a e
  have mvr : ∀ {p c vs}, OwnL g h2 [.int .i64 0] p c vs → (∀ b, p = some ⟨b, 0, none⟩ → pp ≠ some ⟨b, 0, none⟩) → OwnL g h' [.int .i64 0] p c vs := fun X hne => X.mv fun b xs e a => qKu keep a (hne b e)
  have Og : OwnL g h2 [.int .i64 0] rp rc (qg .i64 l) := by
    rcases O2 with o | ⟨s, sp, e, e0, a, q⟩
    · exact .inl o
    · exact .inr ⟨s, sp, e, qDg lg e0, a, q⟩
  have get : ∀ (i : Nat) (x : NRow), (Q ++ [⟨rp, rc, l⟩])[i]? = some x → Q[i]? = some x ∨ (i = Q.length ∧ x = ⟨rp, rc, l⟩) := fun i x e => by
    rcases Nat.lt_or_ge i Q.length with hi | hi
    · rw [List.getElem?_append_left hi] at e; exact .inl e
    · rw [List.getElem?_append_right hi] at e
      by_cases h0 : i - Q.length = 0
      · rw [h0] at e
        cases e
        exact .inr ⟨by omega, rfl⟩
      · rw [List.getElem?_eq_none (by simp; omega)] at e; cases e
  refine k h' p' c' l' ⟨by rw [List.map_append]; exact O', fun i x e => ?_, fun i x b e e2 => ?_, fun i j x y b hij e1 e2 e3 => ?_⟩
  · rcases get i x e with e | ⟨_, rfl⟩
    · exact mvr (P2.row i x e) fun b e2 => P2.ne i x b e e2
    · exact mvr Og hnew
  · rcases get i x e with e | ⟨_, rfl⟩
    · have X := P2.row i x e
      rw [e2] at X
      obtain ⟨xs, a⟩ := OwnL.at_ X
      exact qLo how a (P2.ne i x b e e2)
    · have X := O2
      rw [show rp = some ⟨b, 0, none⟩ from e2] at X
      obtain ⟨xs, a⟩ := OwnL.at_ X
      exact qLo how a (hnew b e2)
  · rcases get i x e1 with e1 | ⟨h1, rfl⟩ <;> rcases get j y e2 with e2 | ⟨h2, rfl⟩
    · exact P2.dj i j x y b hij e1 e2 e3
    · have X := P.row i x e1
      rw [e3] at X
      obtain ⟨xs, a⟩ := OwnL.at_ X
      exact OwnL.not_new O a
    · intro e4
      have X := P.row j y e2
      rw [e4] at X
      obtain ⟨xs, a⟩ := OwnL.at_ X
      exact OwnL.not_new O a e3
    · omega
theorem Pd.wr (P : Pd g h pp pc Q) {i c : Nat} {x : NRow} (hx : Q[i]? = some x) (hc : c < x.l.length) (v : Int) :
    ∃ b, x.p = some ⟨b, 0, none⟩ ∧ h.canSt b (0 + c) 1 ∧ g b = none ∧ Pd g (h.setN b (0 + c) [.int .i64 v]) pp pc (Q.set i { x with l := x.l.set c v }) := by
  have O := P.row i x hx
  rcases O with ⟨e, _, _⟩ | ⟨b, sp, e, e0, a, q⟩
  · have := congrArg List.length e
    rw [ql, List.length_nil] at this
    omega
  have hil : i < Q.length := (List.getElem?_eq_some_iff.1 hx).1
  have set : qBZ (qg .i64 x.l ++ sp) (0 + c) [.int .i64 v] = qg .i64 (x.l.set c v) ++ sp := by
    rw [Nat.zero_add, qQp (by rw [List.length_append, ql]; omega), List.set_append_left _ _ (by rw [ql]; exact hc)]
    rw [qPi]
  have get : ∀ (j : Nat) (y : NRow), (Q.set i { x with l := x.l.set c v })[j]? = some y → (j = i ∧ y = { x with l := x.l.set c v }) ∨ (j ≠ i ∧ Q[j]? = some y) := fun j y e1 => by
    rw [List.getElem?_set] at e1
    by_cases h0 : i = j
    · subst h0
      rw [if_pos rfl, if_pos hil] at e1
      cases e1
      exact .inl ⟨rfl, rfl⟩
    · rw [if_neg h0] at e1
      exact .inr ⟨Ne.symm h0, e1⟩
  have base : ∀ (j : Nat) (y : NRow), (Q.set i { x with l := x.l.set c v })[j]? = some y → ∃ z, Q[j]? = some z ∧ z.p = y.p := fun j y e1 => by
    rcases get j y e1 with ⟨rfl, rfl⟩ | ⟨_, e1⟩
    · exact ⟨x, hx, rfl⟩
    · exact ⟨y, e1, rfl⟩
  refine ⟨b, e, a.canSt (by rw [List.length_append, ql]; omega), e0, ⟨?_, fun j y e1 => ?_, fun j y b' e1 e2 => ?_, fun j k y z b' hjk e1 e2 e3 => ?_⟩⟩
  · have em : (Q.set i { x with l := x.l.set c v }).map nrV = Q.map nrV := by
      refine List.ext_getElem? fun j => ?_
      rw [List.getElem?_map, List.getElem?_map, List.getElem?_set]
      by_cases h0 : i = j
      · subst h0
        rw [if_pos rfl, if_pos hil, hx]
        simp [nrV]
      · rw [if_neg h0]
    rw [em]
    exact P.own.set_ne (P.ne i x b hx e)
  · rcases get j y e1 with ⟨rfl, rfl⟩ | ⟨h0, e1⟩
    · refine .inr ⟨b, sp, e, e0, ?_, ?_⟩
      · have := a.set (o := 0 + c) (ws := [.int .i64 v])
        rw [set] at this
        exact this
      · rw [q, List.length_append, List.length_append, ql, ql, List.length_set]
    · exact (P.row j y e1).set_ne (P.dj i j x y b (Ne.symm h0) hx e1 e)
  · obtain ⟨z, hz, ez⟩ := base j y e1
    exact P.ne j z b' hz (ez.trans e2)
  · obtain ⟨y', hy, ey⟩ := base j y e1
    obtain ⟨z', hz, ez⟩ := base k z e2
    rw [← ez]
    exact P.dj j k y' z' b' hjk hy hz (ey.trans e3)
end
/-! ### the dues of one member and currency -/
section
variable {K : Value → Heap → Prop} {np q lp pp rp : Option Addr} {nn nc dn dc lc pn pc rn rc : Nat} {now t50 t51 t58 t59 : Int} {tp : Option Addr} {tn tc : Nat} {D : List Du}
theorem qYN {hs : Heap} (A : Arr uV hs lp D) (hD : D.length ≤ 4096) {m c : Nat} {n : Int} (h1 : ∀ x ∈ amU m c D, 1 ≤ x) (h2 : (amU m c D).Pairwise fun x y => y ≤ x) (h3 : qDf m c D = qBU n) (hI : qEh (amU m c D)) (hn : -9223372036854775807 ≤ n ∧ n ≤ 9223372036854775807)
    (k : ∀ h, hs.le h → qd h [.int .i64 (qBU n)] 2 fun r h => AppA [.int .i64 0] 2 h rp rn rc 1 (some ⟨r, 0, none⟩) fun ap cp h => qD8 np nn nc q dn dc now lp D.length lc pp pn pc (m : Int) ap (rn + 1) cp t50 t51 tp tn tc t58 (IntKind.wrap .i64 (t59 + 1)) h K) :
    ∀ (a j : Nat) (h : Heap) (op : Option Addr) (oc : Nat), a + j = D.length → hs.le h → OwnL hs h [.int .i64 0] op oc (qg .i64 (amU m c (D.take j))) →
    qB4 np nn nc q dn dc now lp D.length lc pp pn pc m rp rn rc c n op (amU m c (D.take j)).length oc t50 t51 tp tn tc t58 t59 lp D.length lc D.length j h K := by
  intro a
  induction a with
  | zero =>
    intro j h op oc hj l O
    refine qIt _ _ _ _ _ _ _ _ _ _ _ _ _ _ _ _ _ _ _ _ _ _ _ _ _ _ _ _ _ _ _ _ _ _ _ _ ?_
    unfold qGn
    rw [List.take_of_length_le (by omega)] at O ⊢
    have hl : (amU m c D).length ≤ 4096 := by
      unfold amU kfU
      rw [List.length_map]
      exact Nat.le_trans (List.length_filter_le _ _) hD
    have hp : I64 (qBU n) := by unfold qBU I64; split <;> omega
    have e : fit (qK (amU m c D)) = (qBU n, 0) := by
      rw [show qK (amU m c D) = qBU n from h3, qIr hp]
    refine Br.no (by simp; omega) (qSn (by omega) hI h O.rd _ ⟨_, _, rfl, ?_⟩)
    rw [e]
    have w0 : IntKind.wrap .i64 (0 - n) = -n := by rw [qW (by omega) (by omega)]; omega
    rw [w0]
    refine Br.no rfl (Br.no ?_ (k h l))
    unfold qBU
    simp
  | succ a ih =>
    intro j h op oc hj l O
    refine qIt _ _ _ _ _ _ _ _ _ _ _ _ _ _ _ _ _ _ _ _ _ _ _ _ _ _ _ _ _ _ _ _ _ _ _ _ ?_
    unfold qGn
    have hx : D[j]? = some D[j] := List.getElem?_eq_getElem (by omega)
    have sn := qUn (m := m) (c := c) hx
    have hsub : (amU m c (D.take j)).length ≤ 4096 := by
      unfold amU kfU
      rw [List.length_map]
      refine Nat.le_trans (List.length_filter_le _ _) ?_
      rw [List.length_take]; omega
    have full : amU m c D = amU m c (D.take (j + 1)) ++ amU m c (D.drop (j + 1)) := by rw [← qO6, List.take_append_drop]
    generalize D[j] = x at *
    refine Br.yes (by simp; omega) (ldX (A.le l) rfl rfl hx (qHY (vs := uV x) rfl fun r h4 hr l4 A4 cs4 => ⟨cs4, _, A4.cell rfl, ?_⟩))
    rw [w1 (j := j) (by omega)]
    have lg := Heap.le_trans l l4
    have O4 := O.le l4
    have skip : ¬ (x.m = (m : Int) ∧ x.c = (c : Int)) → qB4 np nn nc q dn dc now lp D.length lc pp pn pc m rp rn rc c n op (amU m c (D.take j)).length oc t50 t51 tp tn tc t58 t59 lp D.length lc D.length ((j + 1 : Nat) : Int) (h4.setN r 0 (uV x)) K := fun g => by
      rw [if_neg g, List.append_nil] at sn
      have := ih (j + 1) _ op oc (by omega) lg (by rw [sn]; exact O4)
      rw [sn] at this
      exact this
    refine Br.intro (fun g1 => ?_) fun g1 => skip (fun e => by simp [e.1] at g1)
    have g1 : x.m = (m : Int) := by simpa using g1
    refine ⟨_, A4.cell rfl, Br.intro (fun g2 => ?_) fun g2 => skip (fun e => by simp [e.2] at g2)⟩
    have g2 : x.c = (c : Int) := by simpa using g2
    rw [if_pos ⟨g1, g2⟩] at sn
    have hx1 : 1 ≤ x.n := h1 _ (by rw [full, sn]; simp)
    have go : qEN np nn nc q dn dc now lp D.length lc pp pn pc m rp rn rc c n op (amU m c (D.take j)).length oc r t50 t51 tp tn tc t58 t59 lp D.length lc D.length j (h4.setN r 0 (uV x)) K := by
      refine qK3 _ _ _ _ _ _ _ _ _ _ _ _ _ _ _ _ _ _ _ _ _ _ _ _ _ _ _ _ _ _ _ _ _ _ _ _ _ ?_
      unfold qHj
      refine ⟨_, A4.cell rfl, qJT (ws := [.int .i64 x.n]) O4 (by decide) lg (by omega) rfl rfl (by rw [ql, List.length_singleton, Nat.mul_one]) fun r5 h5 p' c' h' hr5 l5 l' O' keep how => ?_⟩
      rw [w1 (j := j) (by omega)]
      have := ih (j + 1) h' p' c' (by omega) l' (by rw [sn, qES]; exact O')
      rw [sn, List.length_append] at this
      exact this
    refine Br.dec (fun g3 => ?_) fun g3 => ⟨_, A4.cell rfl, Br.no (decide_eq_false (by omega)) go⟩
    obtain ⟨u, hu⟩ : ∃ u, (amU m c (D.take j)).length = u + 1 := ⟨(amU m c (D.take j)).length - 1, by omega⟩
    have hw : IntKind.wrap .i64 (((amU m c (D.take j)).length : Int) - 1) = (u : Int) := by rw [qW (by omega) (by omega)]; omega
    have hy : (amU m c (D.take j))[u]? = some (amU m c (D.take j))[u] := List.getElem?_eq_getElem (by omega)
    have hym : (amU m c (D.take j))[u] ∈ amU m c (D.take j) := List.getElem_mem _
    generalize (amU m c (D.take j))[u] = y at *
    have hle : x.n ≤ y := by
      rw [full, sn, List.append_assoc, List.pairwise_append] at h2
      exact h2.2.2 y hym x.n (by simp)
    rw [hw]
    refine ⟨_, A4.cell rfl, ix O4.rd rfl rfl hy (Br.no (decide_eq_false (by omega)) ⟨_, A4.cell rfl, Br.no (decide_eq_false (by omega)) go⟩)⟩
end
end Go.Proofs.Ytjihfieahkbohaa
