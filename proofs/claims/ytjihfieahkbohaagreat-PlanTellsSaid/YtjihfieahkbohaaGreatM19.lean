import Derived.Test.YtjihfieahkbohaaGreatM14
import Derived.Test.YtjihfieahkbohaaGreatM17
import Derived.Test.YtjihfieahkbohaaGreatM18
import Derived.Test.YtjihfieahkbohaaGreatM05
/- The law PlanTells. -/
namespace Go.Proofs.YtjihfieahkbohaaGreat
open Go Go.Sy Go.Value
set_option linter.unusedVariables false
set_option linter.unusedSimpArgs false

/-! ### both answers, plainly -/
def qX6 (D : List Du) (P : List (List Int)) (now : Int) (B : List Du) (e : Int) : Prop :=
  (D.any qEO = true ∧ B = [] ∧ e = 1) ∨ (D.any qEO = false ∧ ∃ W : List Du, W.Perm (D.filter fun x => decide (x.t ≤ now)) ∧ qL3 W ∧ (∀ y ∈ W, okU y) ∧ qEj P now W.length W [] = (B, e))
def qZe (D : List Du) (P : List (List Int)) (now : Int) (B : List Du) (e : Int) : Prop :=
  (D.any qEO = true ∧ B = [] ∧ e = 1) ∨ (D.any qEO = false ∧ ((B = [] ∧ e = 3 ∧ ∃ m c : Nat, 9223372036854775807 < qAR m c (D.filter fun x => decide (x.t ≤ now))) ∨
    ∃ mo wi : Nat, (∀ y ∈ D.filter (fun x => decide (x.t ≤ now)), y.m ≤ (mo : Int) ∧ y.c ≤ (wi : Int)) ∧ (∀ m c : Nat, m ≤ mo → c ≤ wi → qAR m c (D.filter fun x => decide (x.t ≤ now)) ≤ 9223372036854775807) ∧ B = qFX P now (D.filter fun x => decide (x.t ≤ now)) (wi + 1) (mo + 1) ∧ e = 0))
theorem qW8 {D : List Du} {P : List (List Int)} {now : Int} {B B' : List Du} {e e' : Int} (a : qX6 D P now B e) (b : qZe D P now B' e') : B = B' ∧ e = e' := by
  rcases a with ⟨a1, rfl, rfl⟩ | ⟨a1, W, hp, hs, ho, ha⟩
  · rcases b with ⟨_, rfl, rfl⟩ | ⟨b1, _⟩
    · exact ⟨rfl, rfl⟩
    · rw [a1] at b1; cases b1
  · rcases b with ⟨b1, _⟩ | ⟨_, ⟨rfl, rfl, m, c, hov⟩ | ⟨mo, wi, h1, h2, rfl, rfl⟩⟩
    · rw [a1] at b1; cases b1
    · rw [qXd hp hs ho hov] at ha
      cases ha
      exact ⟨rfl, rfl⟩
    · rw [qWz hp hs ho h1 h2] at ha
      cases ha
      exact ⟨rfl, rfl⟩
theorem qYB {D : List Du} {P : List (List Int)} {now : Int} {B : List Du} {e : Int} (a : qX6 D P now B e) : B.length ≤ D.length := by
  rcases a with ⟨_, rfl, _⟩ | ⟨_, W, hp, _, _, ha⟩
  · exact Nat.zero_le _
  · have h1 := qSZ (P := P) (now := now) W.length W []
    have h2 := List.length_filter_le (fun x : Du => decide (x.t ≤ now)) D
    rw [ha, hp.length_eq] at h1
    simp only [List.length_nil] at h1
    omega
section
variable {h : Heap} {K : Value → Heap → Prop} {q pp : Option Addr} {D : List Du} {PL : List NRow} {dc pc : Nat} {now : Int}
theorem qV4 (A : Arr uV h q D) (hs : D.length ≤ 60) (hD : ∀ x ∈ D, I64 x.m ∧ I64 x.c ∧ I64 x.t ∧ I64 x.n) (N : Nets h pp PL) (hP : ∀ y ∈ PL, qAq y.l)
    (k : ∀ B e h' q' c', h.le h' → Arr uV h' q' B → qX6 D (mxN PL) now B e → K (tuple #[slice q' B.length c', .int .i64 e]) h') :
    CallA Tryz.prog qGy [slice q D.length dc, slice pp PL.length pc, .int .i64 now] h K :=
  qS9 A (by omega) hD N hP (fun g => absurd g (by omega)) (fun _ hb h' l' => k [] 1 h' none 0 l' (.inl rfl) (.inl ⟨hb, rfl, rfl⟩))
    fun _ hb W h' q' c' hp hso ho l' A' => k _ _ h' q' c' l' A' (.inr ⟨hb, W, hp, hso, ho, rfl⟩)
theorem qVB (A : Arr uV h q D) (hs : D.length ≤ 60) (hD : ∀ x ∈ D, I64 x.m ∧ I64 x.c ∧ I64 x.t ∧ I64 x.n) (h30 : ∀ x ∈ D, x.m < 30 ∧ x.c < 30) (N : Nets h pp PL) (hP : ∀ y ∈ PL, qAq y.l)
    (k : ∀ B e h' q' c', h.le h' → Arr uV h' q' B → qZe D (mxN PL) now B e → K (tuple #[slice q' B.length c', .int .i64 e]) h') :
    CallA Tryz.prog qHy [slice q D.length dc, slice pp PL.length pc, .int .i64 now] h K :=
  qWL A (by omega) hD h30 N hP (fun g => absurd g (by omega)) (fun hb => k [] 1 h none 0 h.le_refl (.inl rfl) (.inl ⟨hb, rfl, rfl⟩))
    (fun hb m c hov h' l' => k [] 3 h' none 0 l' (.inl rfl) (.inr ⟨hb, .inl ⟨rfl, rfl, m, c, hov⟩⟩))
    fun hb mo wi h1 h2 h' op oc l' A' => k _ 0 h' op oc l' A' (.inr ⟨hb, .inr ⟨mo, wi, h1, h2, rfl, rfl⟩⟩)
end
/-! ### the law -/
def qU6 : Sh := .two (.int .i64) (.two (.int .i64) (.two (.int .i64) (.two (.int .i64) .nil)))
theorem qaW {h : Heap} {cs : List Value} (H : qU6.Has h cs) : ∃ x : Du, cs = uV x ∧ (I64 x.m ∧ I64 x.c ∧ I64 x.t ∧ I64 x.n) := by
  obtain ⟨_, _, rfl, _, ⟨c0, rfl, w0⟩, _, _, rfl, _, ⟨c1, rfl, w1⟩, _, _, rfl, _, ⟨c2, rfl, w2⟩, _, _, rfl, _, ⟨c3, rfl, w3⟩, hnil⟩ := H
  cases hnil
  exact ⟨⟨c0, c1, c2, c3⟩, rfl, I64.of_wf w0, I64.of_wf w1, I64.of_wf w2, I64.of_wf w3⟩
section
variable {h0 : Heap} {np q up pp : Option Addr} {L PL : List NRow} {D : List Du} {ds : List Int} {nc dc uc pc : Nat} {now : Int}
theorem qbS (N : Nets h0 np L) (hL : L.length ≤ 40 ∧ ∀ x ∈ L, x.l.length ≤ 20 ∧ qAq x.l) (X : Ints .i64 h0 q ds) (hd : ds.length ≤ 20) (A : Arr uV h0 up D) (hD : ∀ x ∈ D, I64 x.m ∧ I64 x.c ∧ I64 x.t ∧ I64 x.n) (hs : D.length ≤ 60) (P : Nets h0 pp PL) (hP : ∀ y ∈ PL, qAq y.l) :
    ∀ (a j : Nat) (h : Heap), a + j = D.length → h0.le h → (∀ x ∈ D.take j, x.m < 30 ∧ x.c < 30) →
      qGC np L.length nc q ds.length dc up D.length uc pp PL.length pc now up D.length uc D.length j h fun v h' => v = .bool true ∧ h0.le h' := by
  intro a
  induction a with
  | zero =>
    intro j h hj l h30
    refine qJ2 _ _ _ _ _ _ _ _ _ _ _ _ _ _ _ _ _ _ _ _ ?_
    unfold qHC
    rw [List.take_of_length_le (by omega)] at h30
    have sl := qWF (mxN L) ds
    refine Br.no (by simp; omega) (qNx (N.le l) (by omega) (fun x hx => ⟨by have := (hL.2 x hx).1; omega, (hL.2 x hx).2⟩) (X.le l) (by omega) fun h1 q1 c1 l1 A1 => ⟨_, _, _, _, rfl, ?_⟩)
    have l01 := Heap.le_trans l l1
    refine qT1 (N.le l01) (by omega) (fun x hx => ⟨by have := (hL.2 x hx).1; omega, (hL.2 x hx).2⟩) (X.le l01) (by omega) fun h2 q2 c2 l2 A2 => ⟨_, _, _, _, rfl, ?_⟩
    have l02 := Heap.le_trans l01 l2
    refine qV4 (A.le l02) hs hD (P.le l02) hP fun B e h3 q3 c3 l3 A3 o1 => ⟨_, _, _, _, rfl, ?_⟩
    have l03 := Heap.le_trans l02 l3
    refine qQa (A.le l03) rfl (by omega) fun h4 q4 c4 l4 A4 => ⟨_, _, _, rfl, ?_⟩
    have l04 := Heap.le_trans l03 l4
    refine qVB A4 hs hD h30 (P.le l04) hP fun B' e' h5 q5 c5 l5 A5 o2 => ⟨_, _, _, _, rfl, ?_⟩
    obtain ⟨rfl, rfl⟩ := qW8 o1 o2
    have bl := qYB o1
    have l25 := Heap.le_trans l3 (Heap.le_trans l4 l5)
    refine qQa (A1.le (Heap.le_trans l2 l25)) rfl (by omega) fun h6 q6 c6 l6 A6 => ⟨_, _, _, rfl, ?_⟩
    refine qPK A6 (A2.le (Heap.le_trans l25 l6)) rfl rfl rfl (by omega) ⟨_, rfl, Br.yes rfl (Br.yes (by simp) ?_)⟩
    have l36 := Heap.le_trans l4 (Heap.le_trans l5 l6)
    refine qQa (A3.le l36) rfl (by omega) fun h7 q7 c7 l7 A7 => ⟨_, _, _, rfl, ?_⟩
    refine qPK A7 (A5.le (Heap.le_trans l6 l7)) rfl rfl rfl (by omega) ⟨_, rfl, Br.yes rfl (Ret.mk ⟨by simp, ?_⟩)⟩
    exact Heap.le_trans l03 (Heap.le_trans l36 l7)
  | succ a ih =>
    intro j h hj l h30
    refine qJ2 _ _ _ _ _ _ _ _ _ _ _ _ _ _ _ _ _ _ _ _ ?_
    unfold qHC
    have hx : D[j]? = some D[j] := List.getElem?_eq_getElem (by omega)
    have tk : D.take (j + 1) = D.take j ++ [D[j]] := by rw [List.take_add_one, hx]; rfl
    generalize D[j] = x at *
    refine Br.yes (by simp; omega) (ldX (A.le l) rfl rfl hx (qFm (vs := uV x) rfl fun r h4 hr l4 A4 cs4 => ⟨cs4, _, A4.cell rfl, Br.dec (fun _ => Ret.mk ⟨rfl, Heap.le_trans l l4⟩) fun g1 => ⟨_, A4.cell rfl, Br.dec (fun _ => Ret.mk ⟨rfl, Heap.le_trans l l4⟩) fun g2 => ?_⟩⟩))
    rw [w1 (j := j) (by omega)]
    refine ih (j + 1) _ (by omega) (Heap.le_trans l l4) fun y hy => ?_
    rw [tk] at hy
    rcases List.mem_append.1 hy with hy | hy
    · exact h30 y hy
    · rw [List.mem_singleton] at hy
      subst hy
      omega
end
theorem qO7 {h : Heap} {np : Option Addr} {nn nc : Nat} (H1 : (Sh.sl (.sl (.int .i64))).Has h [.slice np nn nc]) {ds : List Int} {q : Option Addr} {dn dc : Nat} (i : Ints .i64 h q ds) (hn : ds.length = dn) (hl : dn * 8 ≤ 140737488351232) (hI : qAq ds)
    {up : Option Addr} {un uc : Nat} (H2 : (Sh.sl qU6).Has h [.slice up un uc]) {pp : Option Addr} {pn pc : Nat} (H3 : (Sh.sl (.sl (.int .i64))).Has h [.slice pp pn pc]) {now : Int} (ht : I64 now) :
    CallA Tryz.prog qLB [.slice np nn nc, .slice q dn dc, .slice up un uc, .slice pp pn pc, .int .i64 now] h fun v h' => v = .bool true ∧ h.le h' := by
  obtain ⟨hmax, L, hL, N, hX, hXl⟩ := qUC H1
  obtain ⟨pmax, PL, hPL, P, hP, hPl⟩ := qUC H3
  obtain ⟨_, _, D, hDl, A, hD⟩ := qZs (enc := uV) (P := fun x => I64 x.m ∧ I64 x.c ∧ I64 x.t ∧ I64 x.n) H2 fun vs hv => qaW hv
  subst hL hn hPL hDl
  refine qPb _ _ _ _ _ _ _ _ _ _ _ _ _ _ _ ?_
  unfold qK8
  refine qRQ fun h1 l1 => ⟨_, rfl, Br.no rfl ?_⟩
  refine qUG (N.le l1) rfl hmax ⟨_, rfl, ?_⟩
  cases hb : qMB L with
  | true => exact Br.yes rfl (Ret.mk ⟨rfl, l1⟩)
  | false =>
  refine Br.no rfl (qUG (P.le l1) rfl pmax ⟨_, rfl, ?_⟩)
  cases hb2 : qMB PL with
  | true => exact Br.yes rfl (Ret.mk ⟨rfl, l1⟩)
  | false =>
  unfold qMB at hb
  rw [Bool.or_eq_false_iff, decide_eq_false_iff_not, List.any_eq_false] at hb
  refine Br.no rfl (Br.dec (fun _ => Ret.mk ⟨rfl, l1⟩) fun g1 => Br.dec (fun _ => Ret.mk ⟨rfl, l1⟩) fun g2 => ?_)
  have := qbS (nc := nc) (dc := dc) (uc := uc) (pc := pc) (now := now) (N.le l1) ⟨by omega, fun x hx => ⟨by
    have := hb.1 x hx
    rw [decide_eq_true_eq] at this
    omega, hX x hx⟩⟩ (i.le l1) (by omega) (A.le l1) hD (by omega) (P.le l1) hP D.length 0 h1 (by omega) h1.le_refl (fun x hx => by simp at hx)
  exact this.mono fun v h' ⟨e, l⟩ => ⟨e, Heap.le_trans l1 l⟩
end Go.Proofs.YtjihfieahkbohaaGreat
