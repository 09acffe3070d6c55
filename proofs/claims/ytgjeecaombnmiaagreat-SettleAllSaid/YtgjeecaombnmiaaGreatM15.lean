import Derived.Test.YtgjeecaombnmiaaGreatM04
import Derived.Test.YtgjeecaombnmiaaGreatM14
import Derived.Test.YtgjeecaombnmiaaGreatM13
import Derived.Test.YtgjeecaombnmiaaGreatM06
import Derived.Test.YtgjeecaombnmiaaGreatM07
import Derived.Test.YtgjeecaombnmiaaGreatM12
import Derived.Test.YtgjeecaombnmiaaGreatM08
import Derived.Test.YtgjeecaombnmiaaGreatM03
import Derived.Test.YtgjeecaombnmiaaGreatM02
/- A list put in order: a permutation, sorted. -/
namespace Go.Proofs.YtgjeecaombnmiaaGreat
open Go Go.Sy Go.Value Go.Sort
set_option linter.unusedVariables false
set_option linter.unusedSimpArgs false

section
variable {g0 : Heap} {B m n c : Nat} {sp : List Value} {left : List En} (e0 : g0 B = none) (hm : left.length = m) (I : True) (hn : n < 256)
include e0 hm I hn
theorem qUq : ∀ (q a b : Nat) (limit : Int) (wb wp : Bool) (d : Array Int) (h : Heap) (K : Value → Heap → Prop), b - a ≤ q → a ≤ b → b ≤ n → 0 ≤ limit + 1000 - q → limit ≤ 1000 → DaE left g0 B m n sp h d → Below (qR left) a b d →
    (∀ h' d', DaE left g0 B m n sp h' d' → PermIn a b d d' → SortedIn (qR left) a b d' → K (tuple #[]) h') →
    qW (some ⟨B, 0, none⟩) n c (a : Int) (b : Int) limit wb wp h K := by
  intro q
  induction q with
  | zero =>
    intro a b limit wb wp d h K hq hab hb hl1 hl2 D hB k
    have hz : d.size = n := D.sz
    refine qBP _ _ _ _ _ _ _ _ _ _ ?_
    unfold qAc
    have w0 : IntKind.wrap .i64 ((b : Int) - (a : Int)) = ((b - a : Nat) : Int) := by rw [qw (by omega) (by omega)]; omega
    rw [w0]
    refine Br.yes (by simp; omega) (qME e0 hm I (by omega) (by omega) hb D fun h1 D1 => ⟨rfl, Ret.mk ?_⟩)
    have := insertionSort_holds (qMr left) d a b hab (by omega)
    exact k h1 _ D1 this.1 this.2
  | succ q ih =>
    intro a b limit wb wp d h K hq hab hb hl1 hl2 D hB k
    have hz : d.size = n := D.sz
    refine qBP _ _ _ _ _ _ _ _ _ _ ?_
    unfold qAc
    have w0 : IntKind.wrap .i64 ((b : Int) - (a : Int)) = ((b - a : Nat) : Int) := by rw [qw (by omega) (by omega)]; omega
    rw [w0]
    refine Br.dec (fun g => ?_) fun g => ?_
    · refine qME e0 hm I (by omega) (by omega) hb D fun h1 D1 => ⟨rfl, Ret.mk ?_⟩
      have := insertionSort_holds (qMr left) d a b hab (by omega)
      exact k h1 _ D1 this.1 this.2
    refine Br.intro (fun _ => ?_) fun _ => ?_
    · refine qWw e0 hm I (by omega) (by omega) hb D fun h1 D1 => ⟨rfl, Ret.mk ?_⟩
      have := heapSort_holds (qMr left) d a b hab (by omega)
      exact k h1 _ D1 this.1 this.2
    have h12 : 12 < b - a := by omega
    -- behind the patterns
    have cont : ∀ (lim : Int) (h : Heap) (d1 : Array Int), 0 ≤ lim + 1000 - q → lim ≤ 1000 → DaE left g0 B m n sp h d1 → PermIn a b d d1 → qAS (some ⟨B, 0, none⟩) n c (a : Int) (b : Int) lim wb wp ((b - a : Nat) : Int) h K := by
      intro lim h d1 hl3 hl4 D1 P1
      have B1 := hB.perm (by omega) P1
      refine qE9 _ _ _ _ _ _ _ _ _ _ _ ?_
      unfold qCW
      -- the parts
      have part : ∀ (h : Heap) (d3 : Array Int) (pivot : Nat), DaE left g0 B m n sp h d3 → PermIn a b d d3 → a ≤ pivot → pivot < b → qp (some ⟨B, 0, none⟩) n c (a : Int) (b : Int) lim wb wp ((b - a : Nat) : Int) (pivot : Int) h K := by
        intro h d3 pivot D3 P3 hp1 hp2
        have B3 := hB.perm (by omega) P3
        have hz3 : d3.size = n := D3.sz
        refine qFA _ _ _ _ _ _ _ _ _ _ _ _ ?_
        unfold qCb
        have ordinary : ∀ h, DaE left g0 B m n sp h d3 → CallA Tryz.prog qAd [slice (some ⟨B, 0, none⟩) n c, .int .i64 (a : Int), .int .i64 (b : Int), .int .i64 (pivot : Int), func (Fn.func qC) #[] #[]] h fun v h =>
            ∃ (x : Int), ∃ (y : Bool), v = tuple #[.int .i64 x, .bool y] ∧ Br (decide (IntKind.wrap .i64 (x - (a : Int)) < IntKind.wrap .i64 ((b : Int) - x)))
              (CallA Tryz.prog qz [slice (some ⟨B, 0, none⟩) n c, .int .i64 (a : Int), .int .i64 x, .int .i64 lim, func (Fn.func qC) #[] #[]] h fun v h => v = tuple #[] ∧
                qW (some ⟨B, 0, none⟩) n c (IntKind.wrap .i64 (x + 1)) (b : Int) lim (decide (IntKind.wrap .i64 (x - (a : Int)) ≥ IntKind.wrap .i64 (Int.tdiv ((b - a : Nat) : Int) 8))) y h K)
              (CallA Tryz.prog qz [slice (some ⟨B, 0, none⟩) n c, .int .i64 (IntKind.wrap .i64 (x + 1)), .int .i64 (b : Int), .int .i64 lim, func (Fn.func qC) #[] #[]] h fun v h => v = tuple #[] ∧
                qW (some ⟨B, 0, none⟩) n c (a : Int) x lim (decide (IntKind.wrap .i64 ((b : Int) - x) ≥ IntKind.wrap .i64 (Int.tdiv ((b - a : Nat) : Int) 8))) y h K) := by
          intro h D3
          refine qRK e0 hm I (by omega) (by omega) hb hp1 hp2 D3 fun h4 D4 => ⟨_, _, rfl, ?_⟩
          generalize hx : partition (qR left) d3 a b pivot = r at *
          obtain ⟨mid, ap, d4⟩ := r
          obtain ⟨g1, g2, hs4, hBa, hBr, hleft, hright⟩ := round_part (qMr left) (partition_holds (qR left)) hp1 hp2 (by omega) B3 hx
          dsimp only at D4 ⊢
          have w1 : IntKind.wrap .i64 ((mid : Int) - (a : Int)) = ((mid - a : Nat) : Int) := by rw [qw (by omega) (by omega)]; omega
          have w2 : IntKind.wrap .i64 ((b : Int) - (mid : Int)) = ((b - mid : Nat) : Int) := by rw [qw (by omega) (by omega)]; omega
          rw [w1, w2, qDZ (by omega)]
          refine Br.intro (fun _ => ?_) fun _ => ?_
          · refine qAs _ _ _ _ _ _ _ _ ?_
            unfold qAE
            refine ih a mid lim true true d4 h4 _ (by omega) g1 (by omega) hl3 hl4 D4 hBa fun h5 d5 D5 l1 l2 => ⟨rfl, ?_⟩
            obtain ⟨hBL, hfin⟩ := hleft _ l1 l2
            refine ih (mid + 1) b lim _ ap d5 h5 _ (by omega) (by omega) hb hl3 hl4 D5 hBL fun h6 d6 D6 r1 r2 => ?_
            obtain ⟨q1, q2⟩ := hfin _ r1 r2
            exact k h6 _ D6 (permIn_trans _ _ _ a b P3 q1) q2
          · refine qAs _ _ _ _ _ _ _ _ ?_
            unfold qAE
            refine ih (mid + 1) b lim true true d4 h4 _ (by omega) (by omega) hb hl3 hl4 D4 hBr fun h5 d5 D5 l1 l2 => ⟨rfl, ?_⟩
            obtain ⟨hBL, hfin⟩ := hright _ l1 l2
            refine ih a mid lim _ ap d5 h5 _ (by omega) g1 (by omega) hl3 hl4 D5 hBL fun h6 d6 D6 r1 r2 => ?_
            obtain ⟨q1, q2⟩ := hfin _ r1 r2
            exact k h6 _ D6 (permIn_trans _ _ _ a b P3 q1) q2
        refine Br.dec (fun ga => ?_) fun ga => ordinary h D3
        have w1 : IntKind.wrap .i64 ((a : Int) - 1) = ((a - 1 : Nat) : Int) := by rw [qw (by omega) (by omega)]; omega
        rw [w1]
        refine qGN D3 hm I rfl rfl (by omega) (by omega) fun h' D' => Br.intro (fun g2 => ?_) fun g2 => ordinary h' D'
        refine qM9 e0 hm I (by omega) (by omega) hb hp1 hp2 D' fun h4 D4 => ⟨_, rfl, ?_⟩
        generalize hx : partitionEqual (qR left) d3 a b pivot = r at *
        obtain ⟨mid, d4⟩ := r
        obtain ⟨m1, m2, hs4, hB4, hfin⟩ := round_eq (qMr left) (partitionEqual_holds (lt := qR left)) (by omega) hp1 hp2 (by omega) B3 (by simpa using g2) hx
        dsimp only at D4 ⊢
        refine ih mid b lim wb wp d4 h4 _ (by omega) m2 hb hl3 hl4 D4 hB4 fun h6 d6 D6 r1 r2 => ?_
        obtain ⟨q1, q2⟩ := hfin _ r1 r2
        exact k h6 _ D6 (permIn_trans _ _ _ a b P3 q1) q2
      -- few steps
      have few : ∀ (h : Heap) (d2 : Array Int) (pivot : Nat) (hint : Int), DaE left g0 B m n sp h d2 → PermIn a b d d2 → a ≤ pivot → pivot < b → qAT (some ⟨B, 0, none⟩) n c (a : Int) (b : Int) lim wb wp ((b - a : Nat) : Int) (pivot : Int) hint h K := by
        intro h d2 pivot hint D2 P2 hp1 hp2
        have B2 := hB.perm (by omega) P2
        have hz2 : d2.size = n := D2.sz
        refine qE1 _ _ _ _ _ _ _ _ _ _ _ _ _ ?_
        unfold qCd
        refine Br.intro (fun _ => Br.intro (fun _ => Br.intro (fun _ => ?_) fun _ => part h d2 pivot D2 P2 hp1 hp2) fun _ => part h d2 pivot D2 P2 hp1 hp2) fun _ => part h d2 pivot D2 P2 hp1 hp2
        have s := partialInsertionSort_holds (qMr left) d2 a b (by omega) (by omega) B2
        refine qX3 e0 hm I (by omega) (by omega) hb D2 fun h3 D3 => ⟨_, rfl, Br.intro (fun g => Ret.mk ?_) fun g => ?_⟩
        · exact k h3 _ D3 (permIn_trans _ _ _ a b P2 s.1) (s.2 g)
        · exact part h3 _ pivot D3 (permIn_trans _ _ _ a b P2 s.1) hp1 hp2
      refine qVx hm I (by omega) h12 hb D1 fun h2 x hint D2 hx1 hx2 => ⟨_, _, rfl, Br.intro (fun _ => ?_) fun _ => few h2 d1 x hint D2 P1 hx1 hx2⟩
      refine qSW e0 (by omega) (by omega) hb D2 fun h3 D3 => ⟨rfl, ?_⟩
      have s := reverseRange_holds d1 a b hab (by have := D1.sz; omega)
      have w1 : IntKind.wrap .i64 ((b : Int) - 1) = ((b - 1 : Nat) : Int) := by rw [qw (by omega) (by omega)]; omega
      have w2 : IntKind.wrap .i64 ((x : Int) - (a : Int)) = ((x - a : Nat) : Int) := by rw [qw (by omega) (by omega)]; omega
      have w3 : IntKind.wrap .i64 (((b - 1 : Nat) : Int) - ((x - a : Nat) : Int)) = ((b - 1 - (x - a) : Nat) : Int) := by rw [qw (by omega) (by omega)]; omega
      rw [w1, w2, w3]
      exact few h3 _ _ 1 D3 (permIn_trans _ _ _ a b P1 s) (by omega) (by omega)
    refine Br.intro (fun _ => ?_) fun _ => cont limit h d (by omega) hl2 D (permIn_refl d a b)
    refine qVn e0 (by omega) (by omega) (by omega) hb D fun h1 d1 D1 P1 => ⟨rfl, ?_⟩
    rw [qw (x := limit - 1) (by omega) (by omega)]
    exact cont _ h1 d1 (by omega) (by omega) D1 P1
theorem qRS {h : Heap} {d : Array Int} {K : Value → Heap → Prop} (D : DaE left g0 B m n sp h d)
    (k : ∀ h' d', DaE left g0 B m n sp h' d' → PermIn 0 n d d' → SortedIn (qR left) 0 n d' → K (tuple #[]) h') :
    CallA Tryz.prog qAP [slice (some ⟨B, 0, none⟩) n c, func (Fn.func qC) #[] #[]] h K := by
  refine qCj _ _ _ _ _ ?_
  unfold qA7
  rw [qCR (by omega) (by omega)]
  have g := (qJo ⟨n, hn⟩).2
  dsimp only at g
  refine qQ4 hn ⟨_, rfl, ?_⟩
  refine qAs _ _ _ _ _ _ _ _ ?_
  unfold qAE
  refine qUq e0 hm I hn n 0 n _ true true d h _ (by omega) (by omega) (Nat.le_refl _) (by omega) (by omega) D (.inl rfl) fun h1 d1 D1 P1 s1 => ⟨rfl, Ret.mk (k h1 d1 D1 P1 s1)⟩
end
end Go.Proofs.YtgjeecaombnmiaaGreat

/- A book of instructions: all of a member let go, all of a state told. -/
namespace Go.Proofs.YtgjeecaombnmiaaGreat
open Go Go.Sy Go.Value Go.Sort
set_option linter.unusedVariables false
set_option linter.unusedSimpArgs false

section
variable {h0 h : Heap} {K : Value → Heap → Prop} {p : Nat} {S : Bk} {lp : Option Addr} {c mr : Nat}
theorem w1d {j : Nat} (h : j ≤ 4000000) : IntKind.wrap .i64 ((j : Int) + 1) = ((j + 1 : Nat) : Int) := by rw [qO (by omega) (by omega)]; omega
/-! all of a member -/
def qI1 (m : Int) (L : List En) (j : Nat) : List En := qV0 m (L.take j) ++ L.drop j
theorem qRm {m : Int} {L : List En} {j : Nat} (hj : j < L.length) : (qI1 m L j)[j]? = some L[j] := by
  unfold qI1 qV0
  rw [List.getElem?_append_right (by rw [List.length_map, List.length_take]; omega), List.length_map, List.length_take, Nat.min_eq_left (by omega), Nat.sub_self, List.getElem?_drop, List.getElem?_eq_getElem (by omega)]
  rfl
theorem qQ0 {m : Int} {L : List En} {j : Nat} (hj : j < L.length) : qI1 m L (j + 1) = (qI1 m L j).set j (qK9 m L[j]) := by
  unfold qI1 qV0
  rw [List.take_succ_eq_append_getElem hj, List.map_append, List.map_cons, List.map_nil, List.drop_eq_getElem_cons hj]
  have hl : ((L.take j).map (qK9 m)).length = j := by rw [List.length_map, List.length_take]; omega
  rw [List.set_append_right _ _ (by omega), hl, Nat.sub_self, List.set_cons_zero, List.append_assoc]; rfl
theorem Bk.Ok.part {m : Int} (ok : S.Ok) : ∀ (j : Nat), j ≤ S.L.length → ({ S with L := qI1 m S.L j } : Bk).Ok
  | 0, _ => ok
  | j + 1, hj => by
    have o := Bk.Ok.part (m := m) ok j (by omega)
    have hx := qRm (m := m) (L := S.L) (j := j) (by omega)
    rw [qQ0 (by omega)]
    refine o.chg (i := j) (x := S.L[j]) (y := qK9 m S.L[j]) hx ?_ ?_ ?_
    · unfold qK9; split <;> rfl
    · unfold qK9; split <;> rfl
    · have hc := ok.could _ (List.getElem_mem (show j < S.L.length by omega))
      unfold qK9
      split
      · unfold couldE at hc ⊢
        dsimp only
        omega
      · exact hc
/-! all of a state -/
def ofS (s : Int) (L : List En) : List En := L.filter fun x => decide (x.st = s)
theorem qVL {s : Int} {L : List En} {j : Nat} (hj : j < L.length) : ofS s (L.take (j + 1)) = if L[j].st = s then ofS s (L.take j) ++ [L[j]] else ofS s (L.take j) := by
  unfold ofS
  rw [List.take_succ_eq_append_getElem hj, List.filter_append]
  split
  · rename_i g
    rw [List.filter_cons_of_pos (by simpa using g)]; rfl
  · rename_i g
    rw [List.filter_cons_of_neg (by simpa using g)]; simp
theorem qR4 (s : Int) (L : List En) : (ofS s L).length ≤ L.length := List.length_filter_le _ _
theorem _root_.Go.Sy.OwnL.base {h0 h1 h : Heap} {z : List Value} {p : Option Addr} {c : Nat} {vs : List Value} (o : OwnL h1 h z p c vs) (l : h0.le h1) : OwnL h0 h z p c vs := by
  rcases o with o | ⟨r, sp, e, e0, a, k⟩
  · exact .inl o
  · exact .inr ⟨r, sp, e, qJ l e0, a, k⟩
theorem qSd {F : List En} {n fc : Nat} {fp : Option Addr} (hF : F.length = n) (hn : n ≤ 200) (A : Arr eV h0 fp F) (k : ∀ h' q c', h0.le h' → OwnL h0 h' [.int .i64 0] q c' (qK .i64 (F.map fun x => x.d.id)) → K (slice q n c') h') :
    ∀ (m j : Nat) (h : Heap) (out : Option Addr) (oc : Nat), m + j = n → h0.le h → OwnL h0 h [.int .i64 0] out oc (qK .i64 ((F.take j).map fun x => x.d.id)) → qDI out j oc fp n fc (n : Int) (j : Int) h K := by
  intro m
  induction m with
  | zero =>
    intro j h out oc hj l0 ol
    refine qHf _ _ _ _ _ _ _ _ _ _ ?_
    unfold qFX
    have hj : j = n := by omega
    subst hj
    rw [List.take_of_length_le (by omega)] at ol
    exact Br.no (by simp) (Ret.mk (k h out oc l0 ol))
  | succ m ih =>
    intro j h out oc hj l0 ol
    refine qHf _ _ _ _ _ _ _ _ _ _ ?_
    unfold qFX
    have hjl : j < F.length := by omega
    refine Br.yes (decide_eq_true (by omega)) (ax qDE (A.le l0) hF rfl (List.getElem?_eq_getElem hjl) (by decide) fun b o hb hc => ?_)
    refine ⟨_, hc 0 (by decide), _, hc 1 (by decide), _, hc 2 (by decide), _, hc 3 (by decide), _, hc 4 (by decide), _, hc 5 (by decide), _, hc 6 (by decide), _, hc 7 (by decide), _, hc 8 (by decide), _, hc 9 (by decide), qEE (vs := eV F[j]) rfl fun r h1 hr l1 A1 cs => ⟨cs, _, A1.cell rfl, ?_⟩⟩
    refine qJw (ol.le l1) (by decide) (Heap.le_trans l0 l1) (by omega) rfl rfl (by rw [qL, List.length_map, List.length_take]; simp; omega) fun r4 h4 p' c' h5 hr4 l4 l5 ol5 keep how => ?_
    rw [w1d (by omega)]
    refine ih (j + 1) h5 p' c' (by omega) l5 ?_
    rw [List.take_succ_eq_append_getElem hjl, List.map_append, qAI]
    exact ol5
theorem qTS (k : K (tuple #[]) h) : CallA Tryz.prog qAP [slice none 0 0, func (Fn.func qC) #[] #[]] h K := by
  refine qCj _ _ _ _ _ ?_
  unfold qA7
  rw [show IntKind.wrap .u64 ((0 : Nat) : Int) = ((0 : Nat) : Int) from rfl]
  refine qQ4 (x := 0) (by decide) ⟨_, rfl, ?_⟩
  refine qAs _ _ _ _ _ _ _ _ ?_
  unfold qAE
  refine qBP _ _ _ _ _ _ _ _ _ _ ?_
  unfold qAc
  refine Br.yes (by decide) ?_
  refine qCZ _ _ _ _ _ _ _ ?_
  unfold qAy
  refine qAr _ _ _ _ _ _ _ _ ?_
  unfold qAA
  exact Br.no (by decide) (Ret.mk ⟨rfl, Ret.mk ⟨rfl, Ret.mk k⟩⟩)
theorem qYh {s : Int} {n lc : Nat} (ok : S.Ok) (hn : S.L.length = n) (A : Arr eV h0 lp S.L) (k : ∀ h' q c', h0.le h' → OwnL h0 h' [.int .i64 0] q c' (qK .i64 (qf S s)) → K (slice q (qf S s).length c') h') :
    ∀ (m j : Nat) (h : Heap) (l : Option Addr) (c : Nat), m + j = n → h0.le h → OwnL h0 h z10 l c ((ofS s (S.L.take j)).flatMap eV) → qDH s l (ofS s (S.L.take j)).length c lp n lc (n : Int) (j : Int) h K := by
  have hn2 := ok.n
  intro m
  induction m with
  | zero =>
    intro j h l c hj l0 ol
    refine qHg _ _ _ _ _ _ _ _ _ _ _ ?_
    unfold qFT
    have hj : j = S.L.length := by omega
    subst hj
    rw [List.take_length] at ol ⊢
    have hF := qR4 s S.L
    refine Br.no (by simp; omega) (Br.intro (fun g => ?_) fun g => ?_)
    · have g : s = 2 := by simpa using g
      subst g
      rcases ol with ⟨e1, rfl, rfl⟩ | ⟨B, sp, rfl, e0, a, ek⟩
      · have e1 : ofS 2 S.L = [] := by
          have := congrArg List.length e1
          rw [qBh qDE, List.length_nil] at this
          exact List.length_eq_zero_iff.1 (by omega)
        rw [e1]
        refine qTS ⟨rfl, ?_⟩
        have e2 : qf S 2 = [] := (qLE ok (d := []) (by rw [show (S.L.filter fun x => decide (x.st = 2)) = [] from e1]) .nil).symm
        rw [e2] at k
        exact qSd (F := []) rfl (Nat.zero_le _) (.inl rfl) (fun h' q c' l' I => k h' q c' (Heap.le_trans l0 l') (I.base l0)) 0 0 h none 0 rfl (Heap.le_refl _) (.nil _ _ _)
      · refine qRS (left := ofS 2 S.L) (g0 := h0) (m := (ofS 2 S.L).length) (d := (qKL (ofS 2 S.L).length).toArray) (sp := sp) e0 rfl trivial (by omega) ⟨l0, ?_, by simp [qNN], rfl⟩ fun h' d' D' hp hs => ⟨rfl, ?_⟩
        · have := qPf (ofS 2 S.L)
          rw [show (qKL (ofS 2 S.L).length).toArray.toList = qKL (ofS 2 S.L).length from rfl, this]
          exact a
        · obtain ⟨q1, q2⟩ := qTu rfl hp hs
          have e2 := qLE ok q1 q2
          rw [← e2, List.length_map] at k
          have hl : (qG6 (ofS 2 S.L) d'.toList).length = (ofS 2 S.L).length := q1.length_eq
          rw [hl] at k
          exact qSd hl (by omega) (D'.at_.toRd) (fun h2 q c' l' I => k h2 q c' (Heap.le_trans D'.le l') (I.base D'.le)) (ofS 2 S.L).length 0 h' none 0 (by omega) (Heap.le_refl _) (.nil _ _ _)
    · have g : s ≠ 2 := by simpa using g
      have e2 : qf S s = (ofS s S.L).map fun x => x.d.id := by unfold qf; rw [if_neg g]; rfl
      rw [e2, List.length_map] at k
      exact qSd (F := ofS s S.L) rfl (by omega) ol.rd (fun h' q c' l' I => k h' q c' (Heap.le_trans l0 l') (I.base l0)) (ofS s S.L).length 0 h none 0 (by omega) (Heap.le_refl _) (.nil _ _ _)
  | succ m ih =>
    intro j h l c hj l0 ol
    refine qHg _ _ _ _ _ _ _ _ _ _ _ ?_
    unfold qFT
    have hjl : j < S.L.length := by omega
    have hl := qVL (s := s) hjl
    have hF := qR4 s (S.L.take j)
    rw [List.length_take] at hF
    refine Br.yes (decide_eq_true (by omega)) (ax qDE (A.le l0) hn rfl (List.getElem?_eq_getElem hjl) (by decide) fun b o hb hc => ?_)
    refine ⟨_, hc 0 (by decide), _, hc 1 (by decide), _, hc 2 (by decide), _, hc 3 (by decide), _, hc 4 (by decide), _, hc 5 (by decide), _, hc 6 (by decide), _, hc 7 (by decide), _, hc 8 (by decide), _, hc 9 (by decide), qEE (vs := eV S.L[j]) rfl fun r h1 hr l1 A1 cs => ⟨cs, _, A1.cell rfl, Br.intro (fun g => ?_) fun g => ?_⟩⟩
    · rw [if_pos (by simpa using g)] at hl
      refine ⟨_, A1.cell rfl, _, A1.cell rfl, _, A1.cell rfl, _, A1.cell rfl, _, A1.cell rfl, _, A1.cell rfl, _, A1.cell rfl, _, A1.cell rfl, _, A1.cell rfl, _, A1.cell rfl, ?_⟩
      refine qJw (ol.le l1) (by decide) (Heap.le_trans l0 l1) (by omega) rfl rfl (by rw [qBh qDE]; rfl) fun r4 h4 p' c' h5 hr4 l4 l5 ol5 keep how => ?_
      rw [w1d (by omega)]
      have := ih (j + 1) h5 p' c' (by omega) l5 (by rw [hl, List.flatMap_append, List.flatMap_cons, List.flatMap_nil, List.append_nil]; exact ol5)
      rw [hl, List.length_append] at this
      exact this
    · rw [if_neg (by simpa using g)] at hl
      rw [w1d (by omega)]
      have := ih (j + 1) _ l c (by omega) (Heap.le_trans l0 l1) (by rw [hl]; exact ol.le l1)
      rw [hl] at this
      exact this
theorem qTn (P : PB h p S) {s : Int} (k : ∀ h' q c', h.le h' → OwnL h h' [.int .i64 0] q c' (qK .i64 (qf S s)) → K (slice q (qf S s).length c') h') : CallA Tryz.prog qCf [pointer (some ⟨p, 0, none⟩), .int .i64 s] h K := by
  obtain ⟨ok, lp, c, mr, B⟩ := P
  refine qNT _ _ _ _ ?_
  unfold qIm
  refine qB rfl ⟨_, _, _, B.ap.cell rfl, ?_⟩
  exact qYh ok rfl B.arr k S.L.length 0 h none 0 (by omega) (Heap.le_refl _) (.nil _ _ _)
end
end Go.Proofs.YtgjeecaombnmiaaGreat

/- What lists of Ids say, as far as nets need it. -/
namespace Go.Proofs.YtgjeecaombnmiaaGreat
open Go Go.Sy Go.Value
set_option linter.unusedVariables false
set_option linter.unusedSimpArgs false

theorem qWr {S : Bk} (ok : S.Ok) {i : Nat} {x : En} (h : S.L[i]? = some x) : qGL S x.d.id = some x := by
  unfold qGL
  rw [ok.nd i x h]
  exact h
theorem qVw {S : Bk} {id : Int} {x : En} (h : qGL S id = some x) : x ∈ S.L ∧ x.d.id = id := by
  unfold qGL at h
  cases hp : qAf id S.L with
  | none => rw [hp] at h; cases h
  | some i =>
    rw [hp] at h
    have h : S.L[i]? = some x := h
    obtain ⟨y, e, g⟩ := qGt hp
    rw [h] at e; cases e
    exact ⟨List.mem_of_getElem? h, g⟩
theorem qNP {S : Bk} (ok : S.Ok) (s : Int) : (qf S s).Perm ((ofS s S.L).map fun x => x.d.id) := by
  by_cases h : s = 2
  · subst h
    have hp : ((ofS 2 S.L).mergeSort fun x y => decide (x.ord ≤ y.ord)).Perm (ofS 2 S.L) := List.mergeSort_perm _ _
    have hs := List.pairwise_mergeSort (le := fun (x y : En) => decide (x.ord ≤ y.ord)) (fun a b c h1 h2 => by simp at *; omega) (fun a b => by simp; omega) (ofS 2 S.L)
    rw [← qLE ok hp (hs.imp fun h => of_decide_eq_true h)]
    exact hp.map _
  · unfold qf
    rw [if_neg h]
    exact .refl _
end Go.Proofs.YtgjeecaombnmiaaGreat

/- Settlement, plainly: one instruction is tried; a pass; a cycle. -/
namespace Go.Proofs.YtgjeecaombnmiaaGreat
open Go Go.Sy Go.Value
set_option linter.unusedVariables false
set_option linter.unusedSimpArgs false

def qBs (d : Dl) : List Pst := [⟨d.a, d.sc, -d.sell⟩, ⟨d.b, d.sc, d.sell⟩, ⟨d.b, d.bc, -d.buy⟩, ⟨d.a, d.bc, d.buy⟩]
structure Ub where
  u : Gu
  S : Bk
def qAv (s : Ub) (id : Int) : Int × Ub :=
  if (qo s.S id).2 = false then (5, s) else if qBX s.S id ≠ 2 then (7, s) else if (qCL s.u (qBs (qo s.S id).1)).1 ≠ 0 then ((qCL s.u (qBs (qo s.S id).1)).1, s)
  else ((qBd s.S id).1, ⟨(qCL s.u (qBs (qo s.S id).1)).2, (qBd s.S id).2⟩)
theorem qUT {u : Gu} {b : List Pst} (h : (qCL u b).1 ≠ 0) : (qCL u b).2 = u := by
  unfold qCL at *
  split
  · rfl
  · rename_i g
    rw [if_neg g] at h
    split
    · rfl
    · rename_i g2
      rw [if_neg g2] at h
      exact (h rfl).elim
def qi : List Int → Ub → List Int × Ub
  | [], s => ([], s)
  | id :: l, s => if (qAv s id).1 = 0 then (id :: (qi l (qAv s id).2).1, (qi l (qAv s id).2).2) else qi l s
def qDS : Nat → Ub → List Int × Nat × Ub
  | 0, s => ([], 0, s)
  | f + 1, s => if (qi (qf s.S 2) s).1 = [] then ([], 1, s) else ((qi (qf s.S 2) s).1 ++ (qDS f (qi (qf s.S 2) s).2).1, (qDS f (qi (qf s.S 2) s).2).2.1 + 1, (qDS f (qi (qf s.S 2) s).2).2.2)
theorem qOy {s : Ub} (id : Int) (ok : s.S.Ok) (h : (qAv s id).1 ≠ 0) : (qAv s id).2 = s := by
  unfold qAv at *
  split
  · rfl
  · rename_i g1
    rw [if_neg g1] at h
    split
    · rfl
    · rename_i g2
      rw [if_neg g2] at h
      split
      · rfl
      · rename_i g3
        rw [if_neg g3] at h
        refine (h ?_).elim
        have g2 : qBX s.S id = 2 := Classical.byContradiction g2
        unfold qBX qGL at g2
        unfold qBd
        cases hp : qAf id s.S.L with
        | none => rw [hp] at g2; cases g2
        | some i =>
          rw [hp] at g2
          dsimp only [Option.bind_some] at g2 ⊢
          cases hx : s.S.L[i]? with
          | none => rw [hx] at g2; cases g2
          | some x =>
            rw [hx] at g2
            dsimp only at g2 ⊢
            rw [if_neg (by omega)]
theorem qQU : ∀ {l : List Int} {s : Ub}, (qi l s).1 = [] → (∀ id ∈ l, (qAv s id).1 ≠ 0) ∧ (qi l s).2 = s
  | [], s, _ => ⟨fun _ h => (by cases h), rfl⟩
  | id :: l, s, h => by
    rw [qi] at h ⊢
    split
    · rename_i g
      rw [if_pos g] at h
      cases h
    · rename_i g
      rw [if_neg g] at h
      obtain ⟨h1, h2⟩ := qQU h
      refine ⟨fun v hv => ?_, h2⟩
      rcases List.mem_cons.1 hv with rfl | hv
      · exact g
      · exact h1 v hv
/-! ### the book behind a settlement -/
theorem qOQ {s : Ub} {id : Int} (h : (qAv s id).1 = 0) : (qo s.S id).2 = true ∧ qBX s.S id = 2 ∧ (qCL s.u (qBs (qo s.S id).1)).1 = 0 ∧ (qAv s id).2 = ⟨(qCL s.u (qBs (qo s.S id).1)).2, (qBd s.S id).2⟩ := by
  unfold qAv at *
  split at h
  · cases h
  rename_i g1
  split at h
  · cases h
  rename_i g2
  split at h
  · rename_i g3; exact (g3 h).elim
  rename_i g3
  rw [if_neg g1, if_neg g2, if_neg g3]
  exact ⟨by simpa using g1, Classical.byContradiction g2, Classical.byContradiction g3, rfl⟩
theorem qLo {S : Bk} {id : Int} (h : qBX S id = 2) : ∃ i x, qAf id S.L = some i ∧ S.L[i]? = some x ∧ x.st = 2 ∧ x.d.id = id ∧ qBd S id = (0, { S with L := S.L.set i { x with st := 3 } }) := by
  unfold qBX qGL at h
  unfold qBd
  cases hp : qAf id S.L with
  | none => rw [hp] at h; cases h
  | some i =>
    rw [hp] at h
    obtain ⟨y, hy, g⟩ := qGt hp
    dsimp only [Option.bind_some] at h ⊢
    rw [hy] at h ⊢
    dsimp only at h ⊢
    exact ⟨i, y, rfl, hy, h, g, by rw [if_neg (by omega)]⟩
theorem qTX {L : List En} {i : Nat} {x y : En} {p : En → Bool} (hx : L[i]? = some x) (hp : p x = true) (hq : p y = false) : ((L.set i y).filter p).length + 1 = (L.filter p).length := by
  have hi := (List.getElem?_eq_some_iff.1 hx).1
  have hxi := (List.getElem?_eq_some_iff.1 hx).2
  have es : L = L.take i ++ x :: L.drop (i + 1) := by rw [← hxi, ← List.drop_eq_getElem_cons hi, List.take_append_drop]
  rw [List.set_eq_take_append_cons_drop, if_pos hi]
  conv => rhs; rw [es]
  rw [List.filter_append, List.filter_append, List.filter_cons_of_neg (by rw [hq]; decide), List.filter_cons_of_pos hp, List.length_append, List.length_append, List.length_cons]
  omega
theorem qLC {S : Bk} (ok : S.Ok) : (qf S 2).length = (S.L.filter fun x => decide (x.st = 2)).length := by
  rw [(qNP ok 2).length_eq, List.length_map]; rfl
theorem qRV {S : Bk} (ok : S.Ok) {id : Int} (h : qBX S id = 2) (ok2 : (qBd S id).2.Ok) : (qf (qBd S id).2 2).length + 1 = (qf S 2).length := by
  obtain ⟨i, x, _, hx, hs, _, e⟩ := qLo h
  rw [qLC ok2, qLC ok, e]
  exact qTX hx (decide_eq_true hs) rfl
theorem qNo {S : Bk} (ok : S.Ok) (id : Int) : (qBd S id).2.Ok := by
  unfold qBd
  cases hp : qAf id S.L with
  | none => exact ok
  | some i =>
    dsimp only
    cases hx : S.L[i]? with
    | none => exact ok
    | some x =>
      dsimp only
      split
      · exact ok
      · rename_i g
        have g : x.st = 2 := Classical.byContradiction g
        refine ok.chg (y := { x with st := 3 }) hx rfl rfl ?_
        have := ok.could x (List.mem_of_getElem? hx)
        unfold couldE at *
        dsimp only
        omega
theorem qT2 {s : Ub} (ok : s.S.Ok) (id : Int) : (qAv s id).2.S.Ok := by
  by_cases h : (qAv s id).1 = 0
  · rw [(qOQ h).2.2.2]
    exact qNo ok id
  · rw [qOy id ok h]; exact ok
theorem qMy : ∀ (l : List Int) {s : Ub}, s.S.Ok → (qi l s).2.S.Ok ∧ (qf (qi l s).2.S 2).length + (qi l s).1.length = (qf s.S 2).length
  | [], s, ok => ⟨ok, rfl⟩
  | id :: l, s, ok => by
    rw [qi]
    split
    · rename_i g
      obtain ⟨_, h2, _, h4⟩ := qOQ g
      have ih := qMy l (qT2 ok id)
      refine ⟨ih.1, ?_⟩
      have e := qRV ok h2 (qNo ok id)
      rw [h4] at ih ⊢
      dsimp only at ih ⊢
      rw [List.length_cons]
      omega
    · exact qMy l ok
theorem qJ7 {S : Bk} (ok : S.Ok) (id : Int) : (0 ≤ (qo S id).1.a ∧ (qo S id).1.a < S.mem ∧ 0 ≤ (qo S id).1.b ∧ (qo S id).1.b < S.mem ∧ 0 ≤ (qo S id).1.sc ∧ (qo S id).1.sc < S.cur ∧ 0 ≤ (qo S id).1.bc ∧ (qo S id).1.bc < S.cur) ∧ (0 ≤ (qo S id).1.sell ∧ (qo S id).1.sell ≤ 9223372036854775807) ∧ 0 ≤ (qo S id).1.buy ∧ (qo S id).1.buy ≤ 9223372036854775807 := by
  have hm := ok.m1
  have hc := ok.c1
  unfold qo
  split
  · rename_i x hx
    have hx := (qVw hx).1
    have h1 := ok.may x hx
    have h2 := ok.i64 x hx
    unfold qJF qKE at h1
    simp only [decide_eq_true_eq] at h1
    dsimp only
    omega
  · unfold dl0; dsimp only; omega
theorem qUp {S : Bk} (ok : S.Ok) (id : Int) : ∀ y ∈ qBs (qo S id).1, I64 y.m ∧ I64 y.c ∧ I64 y.a := by
  have h := qJ7 ok id
  have hm := ok.m1
  have hc := ok.c1
  unfold qBs
  intro y hy
  simp only [List.mem_cons, List.not_mem_nil, or_false] at hy
  rcases hy with rfl | rfl | rfl | rfl <;> (dsimp only; unfold I64; omega)
end Go.Proofs.YtgjeecaombnmiaaGreat

/- One instruction is tried: guard and book are parts of the heap. -/
namespace Go.Proofs.YtgjeecaombnmiaaGreat
open Go Go.Sy Go.Value
set_option linter.unusedVariables false
set_option linter.unusedSimpArgs false

theorem qXZ {h : Heap} {x : Dl} {b : Nat} (A : At h b (dV x)) {J : Int → Int → Int → Int → Int → Int → Int → Prop} (k : J x.id x.a x.b x.sc x.bc x.sell x.buy) : qED h b 0 J :=
  ⟨_, A.cell rfl, _, A.cell rfl, _, A.cell rfl, _, A.cell rfl, _, A.cell rfl, _, A.cell rfl, _, A.cell rfl, k⟩
structure GB (B : Heap) (gs : Nat → Heap) (i j gp lp q : Nat) (s : Ub) : Prop where
  g : ∃ x : GuF, x.g = gp ∧ x.p = lp ∧ GD B (sup B (gs i)) x s.u
  b : PB (gs j) q s.S
structure Out (gs gs' : Nat → Heap) (i j k0 : Nat) : Prop where
  o : ∀ m, m ≠ i → m ≠ j → m ≠ k0 → gs' m = gs m
  l : (gs k0).le (gs' k0)
section
variable {B H : Heap} {gs : Nat → Heap} {K : Value → Heap → Prop} {i j k0 gp lp q : Nat} {s : Ub}
theorem GB.mv (W : GB B gs i j gp lp q s) {gs' : Nat → Heap} (h1 : gs' i = gs i) (h2 : gs' j = gs j) : GB B gs' i j gp lp q s := ⟨by rw [h1]; exact W.g, by rw [h2]; exact W.b⟩
theorem Out.refl (gs : Nat → Heap) (i j k0 : Nat) : Out gs gs i j k0 := ⟨fun _ _ _ _ => rfl, Heap.le_refl _⟩
theorem Out.trans {a b c : Nat → Heap} (x : Out a b i j k0) (y : Out b c i j k0) : Out a c i j k0 := ⟨fun m h1 h2 h3 => (y.o m h1 h2 h3).trans (x.o m h1 h2 h3), Heap.le_trans x.l y.l⟩
theorem Out.i_ (gs : Nat → Heap) (g : Heap) (hk : k0 ≠ i) : Out gs (qX gs i g) i j k0 := ⟨fun m h _ _ => qG _ _ h, by rw [qG _ _ hk]; exact Heap.le_refl _⟩
theorem Out.j_ (gs : Nat → Heap) (g : Heap) (hk : k0 ≠ j) : Out gs (qX gs j g) i j k0 := ⟨fun m _ h _ => qG _ _ h, by rw [qG _ _ hk]; exact Heap.le_refl _⟩
theorem Out.k_ (gs : Nat → Heap) {g : Heap} (l : (gs k0).le g) : Out gs (qX gs k0 g) i j k0 := ⟨fun m _ _ h => qG _ _ h, by rw [qI]; exact l⟩
theorem qUa {h : Heap} {d : Dl} (h1 : 0 ≤ d.sell ∧ d.sell ≤ 9223372036854775807) (h2 : 0 ≤ d.buy ∧ d.buy ≤ 9223372036854775807) (k : ∀ r h', h r = none → h.le h' → Pos h' (some ⟨r, 0, none⟩) (qBs d) → K (slice (some ⟨r, 0, none⟩) 4 4) h') : CallA Tryz.prog qKe [dA d] h K := by
  refine qPj _ _ _ _ _ _ _ _ _ ?_
  unfold qKX
  have n1 : IntKind.wrap .i64 (0 - d.sell) = -d.sell := by rw [qO (by omega) (by omega)]; omega
  have n2 : IntKind.wrap .i64 (0 - d.buy) = -d.buy := by rw [qO (by omega) (by omega)]; omega
  refine ql fun r h3 hr l3 A => ⟨_, A.cell rfl, _, A.cell rfl, _, A.cell rfl, _, A.cell rfl, _, A.cell rfl, _, A.cell rfl, _, A.cell rfl, _, A.cell rfl, _, A.cell rfl, _, A.cell rfl, _, A.cell rfl, _, A.cell rfl, ?_⟩
  rw [n1, n2]
  exact ql fun r2 h4 hr2 l4 A4 => Ret.mk (k r2 h4 (qJ l3 hr2) (Heap.le_trans l3 l4) (At.toRd (ws := []) A4))
theorem qPw (sp : SepF B H gs) (W : GB B gs i j gp lp q s) (hij : i ≠ j) (hi : k0 ≠ i) (hj : k0 ≠ j) {id : Int} (k : ∀ H' gs', SepF B H' gs' → Out gs gs' i j k0 → GB B gs' i j gp lp q (qAv s id).2 → K (.int .i64 (qAv s id).1) H') :
    CallA Tryz.prog qCh [pointer (some ⟨gp, 0, none⟩), pointer (some ⟨q, 0, none⟩), .int .i64 id] H K := by
  obtain ⟨⟨x, rfl, rfl, G⟩, P⟩ := W
  obtain ⟨ok, lp', c, mr, Bk⟩ := P
  have P0 : ∀ {g}, (gs j).le g → PB g q s.S := fun l => ⟨ok, lp', c, mr, Bk.le l⟩
  have num := qJ7 ok id
  have lI := qUp ok id
  refine qQ6 _ _ _ _ _ ?_
  unfold qLN
  unfold qAv at k
  refine sp.call j (qUB Bk fun g1 l1 H1 s1 => ⟨_, _, _, _, _, _, _, _, rfl, ?_⟩)
  refine s1.cp k0 (vs := dV (qo s.S id).1) rfl fun r H2 g2 s2 A2 l2 cs2 hr2 => ⟨cs2, ?_⟩
  rw [qG _ _ hj] at l2
  have gi : (qX (qX gs j g1) k0 g2) i = gs i := by rw [qG _ _ (Ne.symm hi), qG _ _ hij]
  have gj : (qX (qX gs j g1) k0 g2) j = g1 := by rw [qG _ _ (Ne.symm hj), qI]
  have gk : (qX (qX gs j g1) k0 g2) k0 = g2 := qI _ _ _
  have o2 : Out gs (qX (qX gs j g1) k0 g2) i j k0 := (Out.j_ gs g1 hj).trans (Out.k_ _ (by rw [qG _ _ hj]; exact l2))
  generalize qX (qX gs j g1) k0 g2 = gs2 at *
  rw [← gk] at A2
  rw [← gi] at G
  rw [← gj] at l1
  have Bk2 := Bk.le l1
  cases hb : (qo s.S id).2 with
  | false =>
    rw [hb, if_pos rfl] at k
    exact Br.yes rfl (Ret.mk (k _ gs2 s2 o2 ⟨⟨x, rfl, rfl, G⟩, P0 l1⟩))
  | true =>
  rw [hb, if_neg (by decide)] at k
  refine Br.no rfl (s2.call j (qR9 Bk2 fun H3 s3 => ⟨_, rfl, ?_⟩))
  rw [qTg] at s3
  by_cases hst : qBX s.S id = 2
  · rw [if_neg (fun h => h hst)] at k
    refine Br.no (by rw [hst]; rfl) (qXZ (A2.le (s3.l k0)) (s3.callB i (qUa num.2.1 num.2.2 fun r4 h4 hr4 l4 Xp => ⟨Heap.le_trans (qMo _ _) l4, fun H4 g4 e4 s4 => ⟨_, _, _, rfl, ?_⟩⟩)))
    have ei : sup B ((qX gs2 i g4) i) = h4 := by rw [qI, e4]
    refine s4.callB i ?_
    rw [ei]
    refine qVy G l4 hr4 Xp (by show 4 ≤ 1000; omega) lI fun h5 x5 G5 eg ep => ⟨G5.toGR.b, fun H5 g5 e5 s5 => ⟨_, rfl, ?_⟩⟩
    rw [qDY] at s5
    have o5 : Out gs (qX gs2 i g5) i j k0 := o2.trans (Out.i_ gs2 g5 hi)
    have gi5 : (qX gs2 i g5) i = g5 := qI _ _ _
    have gj5 : (qX gs2 i g5) j = gs2 j := qG _ _ (Ne.symm hij)
    generalize qX gs2 i g5 = gs5 at *
    rw [e5, ← gi5] at G5
    rw [← gj5] at l1
    by_cases he : (qCL s.u (qBs (qo s.S id).1)).1 ≠ 0
    · rw [if_pos he] at k
      rw [qUT he] at G5
      exact Br.yes (by simpa using he) (Ret.mk (k H5 gs5 s5 o5 ⟨⟨x5, eg, ep, G5⟩, P0 l1⟩))
    · rw [if_neg he] at k
      refine Br.no (by simpa using he) (s5.call j (qUt (P0 l1) fun g6 P6 H6 s6 => ⟨_, rfl, Ret.mk ?_⟩))
      refine k H6 _ s6 (o5.trans (Out.j_ gs5 g6 hj)) ⟨⟨x5, eg, ep, ?_⟩, ?_⟩
      · rw [qG _ _ hij]; exact G5
      · rw [qI]; exact P6
  · rw [if_pos hst] at k
    exact Br.yes (by simpa using hst) (Ret.mk (k H3 gs2 s3 o2 ⟨⟨x, rfl, rfl, G⟩, P0 l1⟩))
end
end Go.Proofs.YtgjeecaombnmiaaGreat

/- A bank as it is handed over; a guard and a book of it, plainly. -/
namespace Go.Proofs.YtgjeecaombnmiaaGreat
open Go Go.Sy Go.Value
set_option linter.unusedVariables false
set_option linter.unusedSimpArgs false

def qWQ : Sh := .two (.int .i64) (.two (.int .i64) (.two (.int .i64) (.two (.int .i64) (.two (.int .i64) (.two (.int .i64) (.two (.int .i64) .nil))))))
theorem qVc {h : Heap} {cs : List Value} (H : qWQ.Has h cs) : ∃ d : Dl, cs = dV d ∧ qQ3 d := by
  obtain ⟨_, _, rfl, _, ⟨c0, rfl, w0⟩, _, _, rfl, _, ⟨c1, rfl, w1⟩, _, _, rfl, _, ⟨c2, rfl, w2⟩, _, _, rfl, _, ⟨c3, rfl, w3⟩, _, _, rfl, _, ⟨c4, rfl, w4⟩, _, _, rfl, _, ⟨c5, rfl, w5⟩, _, _, rfl, _, ⟨c6, rfl, w6⟩, hnil⟩ := H
  cases hnil
  exact ⟨⟨c0, c1, c2, c3, c4, c5, c6⟩, rfl, (I64.of_wf w5).2, (I64.of_wf w6).2⟩
theorem qXi {h : Heap} {x : Dl} {a b : Nat} {J : Int → Int → Int → Int → Int → Int → Int → Prop} (hc : ∀ o, o < 7 → h.cell b (a + o) = (dV x)[o]?) (k : J x.id x.a x.b x.sc x.bc x.sell x.buy) : qED h b a J :=
  ⟨_, hc 0 (by decide), _, hc 1 (by decide), _, hc 2 (by decide), _, hc 3 (by decide), _, hc 4 (by decide), _, hc 5 (by decide), _, hc 6 (by decide), k⟩
def qMG : Sh := .two qV4 (.two (.sl qXs) (.two (.sl qWQ) (.two (.sl qSZ) .nil)))
structure Bnk where
  tp : Option Addr
  tc : Nat
  lp : Option Addr
  lc : Nat
  dp : Option Addr
  dc : Nat
  ip : Option Addr
  ic : Nat
  T : List Cur
  L : List LmV
  D : List Dl
  I : List Pst
structure BnkAt (h : Heap) (x : Bnk) : Prop where
  t : Curs h x.tp x.T
  l : Arr lmV h x.lp x.L
  lI : ∀ y ∈ x.L, LmI h y
  d : Arr dV h x.dp x.D
  dI : ∀ y ∈ x.D, qQ3 y
  i : Pos h x.ip x.I
  iI : ∀ y ∈ x.I, I64 y.m ∧ I64 y.c ∧ I64 y.a
def qHt (x : Bnk) : List Value := [.slice x.tp x.T.length x.tc, .slice x.lp x.L.length x.lc, .slice x.dp x.D.length x.dc, .slice x.ip x.I.length x.ic]
theorem BnkAt.le {h h' : Heap} {x : Bnk} (X : BnkAt h x) (l : h.le h') : BnkAt h' x := { X with t := X.t.le l, l := X.l.le l, lI := fun y hy => (X.lI y hy).le l, d := X.d.le l, i := qAV l X.i }
theorem qXA {h : Heap} {cs : List Value} (H : qMG.Has h cs) : ∃ x : Bnk, cs = qHt x ∧ BnkAt h x := by
  obtain ⟨_, _, rfl, _, ht, _, _, rfl, _, hl, _, _, rfl, _, hd, _, _, rfl, _, hi, hnil⟩ := H
  cases hnil
  have ht2 := ht
  have hl2 := hl
  have hd2 := hd
  have hi2 := hi
  obtain ⟨tp, tn, tc, rfl, _⟩ := ht
  obtain ⟨lp, ln, lc, rfl, _⟩ := hl
  obtain ⟨dp, dn, dc, rfl, _⟩ := hd
  obtain ⟨ip, n, ic, rfl, _⟩ := hi
  obtain ⟨_, T, rfl, CT, _⟩ := qW4 ht2
  obtain ⟨_, L, rfl, AL, IL⟩ := qYq hl2
  obtain ⟨_, _, D, rfl, AD, ID⟩ := qTm (enc := dV) (P := qQ3) hd2 fun vs hv => qVc hv
  obtain ⟨_, _, I, rfl, AI, II⟩ := qXd hi2
  exact ⟨⟨tp, tc, lp, lc, dp, dc, ip, ic, T, L, D, I⟩, rfl, ⟨CT, AL, IL, AD, ID, AI, II⟩⟩
/-! ### what is made of it -/
def qV3 (S : Bk) (d : Dl) : Bk := (qC6 (qC6 S d).2.2 (qJ8 d)).2.2
def inS (u : Gu) (y : Pst) : Gu := (rIn u y.m y.c y.a).2
def qDl (x : Bnk) (n : Nat) : Bk := (x.D.take n).foldl qV3 ⟨x.L.length, x.T.length, [], 0⟩
def qGj (x : Bnk) (n : Nat) : Gu := (x.I.take n).foldl inS (qRI x.T (qAz x.L.length x.T.length) x.L)
def qJC (x : Bnk) : Ub := ⟨qGj x x.I.length, qDl x x.D.length⟩
def qIw (x : Bnk) : Prop := (x.D.length ≤ 30 ∧ x.I.length ≤ 30) ∧ (1 ≤ x.L.length ∧ x.L.length ≤ 16) ∧ (1 ≤ x.T.length ∧ x.T.length ≤ 8) ∧ qOr x.T (qAz x.L.length x.T.length) x.L = 0
theorem qL2 {x : Bnk} {n : Nat} {d : Dl} (h : x.D[n]? = some d) : qDl x (n + 1) = (qC6 (qC6 (qDl x n) d).2.2 (qJ8 d)).2.2 := by
  unfold qDl
  rw [List.take_add_one, h, List.foldl_append]; rfl
theorem qO9 {x : Bnk} {n : Nat} {y : Pst} (h : x.I[n]? = some y) : qGj x (n + 1) = (rIn (qGj x n) y.m y.c y.a).2 := by
  unfold qGj
  rw [List.take_add_one, h, List.foldl_append]; rfl
end Go.Proofs.YtgjeecaombnmiaaGreat

/- A guard and a book of a bank, made. -/
namespace Go.Proofs.YtgjeecaombnmiaaGreat
open Go Go.Sy Go.Value
set_option linter.unusedVariables false
set_option linter.unusedSimpArgs false

section
variable {B : Heap} {K : Value → Heap → Prop} {i j k0 gp lp q : Nat} {x : Bnk}
theorem qXy (X : BnkAt B x) (hij : i ≠ j) (hi : k0 ≠ i) (hj : k0 ≠ j) (h30 : x.D.length ≤ 30) {u : Gu} {gs0 : Nat → Heap}
    (k : ∀ H gs, SepF B H gs → Out gs0 gs i j k0 → GB B gs i j gp lp q ⟨u, qDl x x.D.length⟩ → K (tuple #[pointer (some ⟨gp, 0, none⟩), pointer (some ⟨q, 0, none⟩)]) H) :
    ∀ (a n : Nat) (H : Heap) (gs : Nat → Heap), a + n = x.D.length → SepF B H gs → Out gs0 gs i j k0 → GB B gs i j gp lp q ⟨u, qDl x n⟩ → qGA (some ⟨q, 0, none⟩) (some ⟨gp, 0, none⟩) x.dp x.D.length x.dc x.D.length n H K := by
  intro a
  induction a with
  | zero =>
    intro n H gs hn s o W
    refine qJ0 _ _ _ _ _ _ _ _ _ ?_
    unfold qHH
    obtain rfl : n = x.D.length := by omega
    exact Br.no (by simp) (Ret.mk (k H gs s o W))
  | succ a ih =>
    intro n H gs hn s o W
    refine qJ0 _ _ _ _ _ _ _ _ _ ?_
    unfold qHH
    have hx : x.D[n]? = some x.D[n] := List.getElem?_eq_getElem (by omega)
    have hd := X.dI _ (List.getElem_mem (show n < x.D.length by omega))
    have hb := qL2 hx
    generalize x.D[n] = d at *
    refine Br.yes (by simp; omega) (ax qTi (X.d.le s.b) rfl rfl hx (by decide) fun b o' _ hc => qXi hc ?_)
    refine s.cp k0 (vs := dV d) rfl fun r1 H1 g1 s1 A1 l1 cs1 hr1 => ⟨cs1, ?_⟩
    have P1 : PB (qX gs k0 g1 j) q (qDl x n) := by rw [qG _ _ (Ne.symm hj)]; exact W.b
    have A1' : At (qX gs k0 g1 k0) r1 (dV d) := by rw [qI]; exact A1
    refine qXZ (A1'.le (s1.l k0)) (s1.call j (qQX P1 (d := d) hd fun g2 P2 H2 s2 => ⟨_, _, rfl, ?_⟩))
    have A2 : At (qX (qX gs k0 g1) j g2 k0) r1 (dV d) := by rw [qG _ _ hj]; exact A1'
    have B2 := A2.le (s2.l k0)
    refine ⟨_, B2.cell rfl, _, B2.cell rfl, _, B2.cell rfl, _, B2.cell rfl, _, B2.cell rfl, _, B2.cell rfl, _, B2.cell rfl, ?_⟩
    have P2' : PB (qX (qX gs k0 g1) j g2 j) q (qC6 (qDl x n) d).2.2 := by rw [qI]; exact P2
    refine s2.call j (qQX P2' (d := qJ8 d) ⟨hd.2, hd.1⟩ fun g3 P3 H3 s3 => ⟨_, _, rfl, ?_⟩)
    rw [qDY] at s3
    rw [w1d (by omega)]
    refine ih (n + 1) H3 _ (by omega) s3 (o.trans ((Out.k_ gs l1).trans (Out.j_ _ g3 hj))) ⟨?_, by rw [qI, hb]; exact P3⟩
    rw [qG _ _ hij, qG _ _ (Ne.symm hi)]
    exact W.g
theorem qYV (X : BnkAt B x) (hij : i ≠ j) (hi : k0 ≠ i) (hj : k0 ≠ j) (h30 : x.I.length ≤ 30) (hd30 : x.D.length ≤ 30) {r : Nat} {gs0 : Nat → Heap}
    (k : ∀ H gs, SepF B H gs → Out gs0 gs i j k0 → GB B gs i j gp lp q (qJC x) → K (tuple #[pointer (some ⟨gp, 0, none⟩), pointer (some ⟨q, 0, none⟩)]) H) :
    ∀ (a n : Nat) (H : Heap) (gs : Nat → Heap), a + n = x.I.length → SepF B H gs → Out gs0 gs i j k0 → At (gs k0) r (qHt x) → GB B gs i j gp lp q ⟨qGj x n, qDl x 0⟩ → qF9 r (some ⟨q, 0, none⟩) (some ⟨gp, 0, none⟩) x.ip x.I.length x.ic x.I.length n H K := by
  intro a
  induction a with
  | zero =>
    intro n H gs hn s o A W
    refine qJ2 _ _ _ _ _ _ _ _ _ _ ?_
    unfold qHI
    obtain rfl : n = x.I.length := by omega
    exact Br.no (by simp) ⟨_, _, _, (A.le (s.l k0)).cell rfl, qXy X hij hi hj hd30 k x.D.length 0 H gs (by omega) s o W⟩
  | succ a ih =>
    intro n H gs hn s o A W
    refine qJ2 _ _ _ _ _ _ _ _ _ _ ?_
    unfold qHI
    have hx : x.I[n]? = some x.I[n] := List.getElem?_eq_getElem (by omega)
    have hI := X.iI _ (List.getElem_mem (show n < x.I.length by omega))
    have hu := qO9 hx
    generalize x.I[n] = y at *
    refine Br.yes (by simp; omega) (px (qAV s.b X.i) rfl rfl hx ?_)
    refine s.cp k0 (vs := [.int .i64 y.m, .int .i64 y.c, .int .i64 y.a]) rfl fun r1 H1 g1 s1 A1 l1 cs1 hr1 => ⟨cs1, ?_⟩
    have A1' : At (qX gs k0 g1 k0) r1 [.int .i64 y.m, .int .i64 y.c, .int .i64 y.a] := by rw [qI]; exact A1
    have B1 := A1'.le (s1.l k0)
    refine ⟨_, B1.cell rfl, _, B1.cell rfl, _, B1.cell rfl, ?_⟩
    obtain ⟨f, rfl, rfl, G⟩ := W.g
    have G1 : GD B (sup B (qX gs k0 g1 i)) f (qGj x n) := by rw [qG _ _ (Ne.symm hi)]; exact G
    refine s1.callB i (qWN G1 hI.2.2 fun h2 f2 G2 eg ep => ⟨G2.toGR.b, fun H2 g2 e2 s2 => ⟨_, rfl, ?_⟩⟩)
    rw [w1d (by omega)]
    refine ih (n + 1) H2 _ (by omega) s2 (o.trans ((Out.k_ gs l1).trans (Out.i_ _ g2 hi))) (by rw [qG _ _ hi, qI]; exact A.le l1) ⟨⟨f2, eg, ep, by rw [qI, ← e2, hu]; exact G2⟩, ?_⟩
    rw [qG _ _ (Ne.symm hij), qG _ _ (Ne.symm hj)]
    exact W.b
end
section
variable {B : Heap} {K : Value → Heap → Prop} {i j k0 : Nat} {x : Bnk}
theorem qQ7 {H : Heap} {gs : Nat → Heap} (s : SepF B H gs) (X : BnkAt B x) (hij : i ≠ j) (hi : k0 ≠ i) (hj : k0 ≠ j)
    (kn : ¬ qIw x → ∀ H' gs', SepF B H' gs' → Out gs gs' i j k0 → K (tuple #[pointer none, pointer none]) H')
    (k : qIw x → ∀ H' gs' gp lp q, SepF B H' gs' → Out gs gs' i j k0 → GB B gs' i j gp lp q (qJC x) → K (tuple #[pointer (some ⟨gp, 0, none⟩), pointer (some ⟨q, 0, none⟩)]) H') :
    CallA Tryz.prog qGZ [agg #[.slice x.tp x.T.length x.tc, .slice x.lp x.L.length x.lc, .slice x.dp x.D.length x.dc, .slice x.ip x.I.length x.ic]] H K := by
  refine qRA _ _ _ _ _ _ _ _ _ _ _ _ _ _ ?_
  unfold qLP
  refine s.box k0 fun r H1 g1 s1 A1 l1 hr1 => ?_
  have o1 : Out gs (qX gs k0 g1) i j k0 := Out.k_ gs l1
  have A : At (qX gs k0 g1 k0) r (qHt x) := by rw [qI]; exact A1
  generalize qX gs k0 g1 = gs1 at *
  have kn1 : ¬ qIw x → Ret H1 K (tuple #[pointer none, pointer none]) := fun g => Ret.mk (kn g H1 gs1 s1 o1)
  have A1 := A.le (s1.l k0)
  refine ⟨_, _, _, A1.cell rfl, Br.dec (fun g => kn1 (by unfold qIw; omega)) fun g1 => ⟨_, _, _, A1.cell rfl, Br.dec (fun g => kn1 (by unfold qIw; omega)) fun g2 => ⟨_, _, _, A1.cell rfl, Br.dec (fun g => kn1 (by unfold qIw; omega)) fun g3 => ⟨_, _, _, A1.cell rfl, Br.dec (fun g => kn1 (by unfold qIw; omega)) fun g4 => ⟨_, _, _, A1.cell rfl, _, _, _, A1.cell rfl, ?_⟩⟩⟩⟩⟩
  refine s1.callB i (qUd (fun hb => ⟨qMo _ _, fun H2 g2 e2 s2 => ⟨_, _, rfl, ?_⟩⟩) fun n' w' en ew n1 n16 w1 w8 h2 p BB C sp l2 LA np nB => ⟨Heap.le_trans (qMo _ _) l2, fun H2 g2 e2 s2 => ⟨_, _, rfl, ?_⟩⟩)
  · have A2 : At (qX gs1 i g2 k0) r (qHt x) := by rw [qG _ _ hi]; exact A
    have o2 := o1.trans (Out.i_ gs1 g2 hi)
    generalize qX gs1 i g2 = gs2 at *
    have B2 := A2.le (s2.l k0)
    refine ⟨_, _, _, B2.cell rfl, _, _, _, B2.cell rfl, s2.call j (qWO (fun hb => fun H3 s3 => ⟨_, _, rfl, Br.yes rfl (Ret.mk (kn ?_ H3 _ s3 (o2.trans (Out.j_ gs2 _ hj))))⟩) fun hb q g3 l3 P3 H3 s3 => ⟨_, _, rfl, Br.yes rfl (Ret.mk (kn ?_ H3 _ s3 (o2.trans (Out.j_ gs2 _ hj))))⟩)⟩
    · unfold qIw; omega
    · unfold qIw; omega
  · have A2 : At (qX gs1 i g2 k0) r (qHt x) := by rw [qG _ _ hi]; exact A
    have o2 := o1.trans (Out.i_ gs1 g2 hi)
    have e2' : h2 = sup B (qX gs1 i g2 i) := by rw [qI]; exact e2
    generalize qX gs1 i g2 = gs2 at *
    have B2 := A2.le (s2.l k0)
    have en : n' = x.L.length := by omega
    have ew : w' = x.T.length := by omega
    subst en ew
    refine ⟨_, _, _, B2.cell rfl, _, _, _, B2.cell rfl, s2.call j (qWO (fun hb => absurd hb (by omega)) fun hb q g3 l3 P3 H3 s3 => ⟨_, _, rfl, Br.no rfl (Br.no rfl ?_)⟩)⟩
    have A3 : At (qX gs2 j g3 k0) r (qHt x) := by rw [qG _ _ hj]; exact A2
    have o3 := o2.trans (Out.j_ gs2 g3 hj)
    have e3 : h2 = sup B (qX gs2 j g3 i) := by rw [qG _ _ hij]; exact e2'
    have P3' : PB (qX gs2 j g3 j) q (qDl x 0) := by rw [qI]; exact P3
    generalize qX gs2 j g3 = gs3 at *
    have B3 := A3.le (s3.l k0)
    refine ⟨_, _, _, B3.cell rfl, _, _, _, B3.cell rfl, s3.callB i ?_⟩
    rw [← e3]
    have lB2 : B.le h2 := by rw [e2']; exact qMo _ _
    refine qWo (h0 := B) lB2 (X.t.le lB2) rfl (by omega) LA (qJ (qMo _ _) np) (qJ (qMo _ _) nB) (qR2 n1 n16 w1 w8) X.l rfl (by omega) X.lI (fun y hy e => by rw [e]; show x.T.length ≤ _; omega) (fun ne h4 l4 _ => ⟨l4, fun H4 g4 e4 s4 => ⟨_, _, rfl, Br.yes rfl (Ret.mk (kn (fun g => ne g.2.2.2) H4 _ s4 (o3.trans (Out.i_ gs3 _ hi))))⟩⟩) fun e h4 f G ep fr => ⟨G.toGR.b, fun H4 g4 e4 s4 => ⟨_, _, rfl, Br.no rfl ?_⟩⟩
    have A4 : At (qX gs3 i g4 k0) r (qHt x) := by rw [qG _ _ hi]; exact A3
    have o4 := o3.trans (Out.i_ gs3 g4 hi)
    have W : GB B (qX gs3 i g4) i j f.g f.p q ⟨qGj x 0, qDl x 0⟩ := ⟨⟨f, rfl, rfl, by rw [qI, ← e4]; exact G⟩, by rw [qG _ _ (Ne.symm hij)]; exact P3'⟩
    generalize qX gs3 i g4 = gs4 at *
    refine ⟨_, _, _, (A4.le (s4.l k0)).cell rfl, qYV X hij hi hj (by omega) (by omega) (fun H5 gs5 s5 o5 W5 => k ⟨⟨by omega, by omega⟩, ⟨n1, n16⟩, ⟨w1, w8⟩, e⟩ H5 gs5 _ _ _ s5 (o4.trans o5) W5) x.I.length 0 H4 gs4 (by omega) s4 (Out.refl ..) A4 W⟩
end
end Go.Proofs.YtgjeecaombnmiaaGreat

/- The code of a cycle, and of the function that it ranges over: what each region does. -/
namespace Go.Proofs.YtgjeecaombnmiaaGreat
open Go Go.Sy Go.Value
set_option linter.unusedVariables false
set_option linter.unusedSimpArgs false
set_option maxRecDepth 100000

def cB (f : Func) : Code := .block 3 (.seq (qDQ f 7) (qDQ f 8))
def cR (f : Func) : Code := .block 1 (.seq (qDQ f 3) (.seq (qDQ f 4) (.seq (.seq (qDQ f 5) (.block 2 (.rangeFunc (.tmp 14) #[15] (qDQ f 6) (cB f)))) (.seq (qDQ f 9) (.cond (.tmp 21) (.exit 0) .skip)))))
def cC (f : Func) : Code := .seq (qDQ f 0) (.scope (.seq (qDQ f 1) (.seq (qDQ f 2) (.seq (.label 0) (.seq (.block 0 (.loop (cR f))) (.seq (qDQ f 10) .ret))))))
theorem qYr : Tryz.f14.body = some (cC Tryz.f14) := by kernel_rfl
def pR (f : Func) : Code := .seq (qDQ f 1) (.seq (.cond (.tmp 10) .skip (.exit 0)) (.seq (.block 1 (.seq (qDQ f 2) (.seq (qDQ f 3) (.cond (.tmp 23) .ret .skip)))) (qDQ f 4)))
def pC (f : Func) : Code := .seq (qDQ f 0) (.block 0 (.loop (pR f)))
theorem qYl : Tryz.f82.body = some (pC Tryz.f82) := by kernel_rfl
def tC (gp q rl : Nat) (p : Int) (x : Nat → Value) : List Value := [pointer (some ⟨gp, 0, none⟩), pointer (some ⟨q, 0, none⟩), x 2, x 3, x 4, x 5, pointer (some ⟨rl, 0, none⟩), .int .i64 p, x 8, x 9, x 10, x 11, x 12, x 13, x 14, x 15, x 16, x 17, x 18, x 19, x 20, x 21, x 22, x 23]
section
variable {gp q rl rs : Nat} {p : Int} {x : Nat → Value} {h : Heap} {J : List Value → Heap → Prop}
theorem cy0 : qBn Tryz.prog (qn Tryz.f14 0) (qn Tryz.f14 0) (sp 24 [(0, pointer (some ⟨gp, 0, none⟩)), (1, pointer (some ⟨q, 0, none⟩))]) h J = J (sp 24 [(0, pointer (some ⟨gp, 0, none⟩)), (1, pointer (some ⟨q, 0, none⟩)), (4, slice none 0 0), (5, .int .i64 0)]) h := by kernel_rfl
theorem cy1 : qBn Tryz.prog (qn Tryz.f14 1) (qn Tryz.f14 1) (sp 24 [(0, pointer (some ⟨gp, 0, none⟩)), (1, pointer (some ⟨q, 0, none⟩)), (4, slice none 0 0), (5, .int .i64 0)]) h J =
    qQ h [slice none 0 0] 39 fun r h => J (sp 24 [(0, pointer (some ⟨gp, 0, none⟩)), (1, pointer (some ⟨q, 0, none⟩)), (4, slice none 0 0), (5, .int .i64 0), (6, pointer (some ⟨r, 0, none⟩))]) h := by kernel_rfl
theorem cy2 : qBn Tryz.prog (qn Tryz.f14 2) (qn Tryz.f14 2) (sp 24 [(0, pointer (some ⟨gp, 0, none⟩)), (1, pointer (some ⟨q, 0, none⟩)), (4, slice none 0 0), (5, .int .i64 0), (6, pointer (some ⟨rl, 0, none⟩))]) h J =
    J (sp 24 [(0, pointer (some ⟨gp, 0, none⟩)), (1, pointer (some ⟨q, 0, none⟩)), (4, slice none 0 0), (5, .int .i64 0), (6, pointer (some ⟨rl, 0, none⟩)), (7, .int .i64 0)]) h := by kernel_rfl
theorem cy3 : qBn Tryz.prog (qn Tryz.f14 3) (qn Tryz.f14 3) (tC gp q rl p x) h J = J (setT (setT (setT (tC gp q rl p x) 10 (.int .i64 p)) 11 (.int .i64 (IntKind.wrap .i64 (p + 1)))) 7 (.int .i64 (IntKind.wrap .i64 (p + 1)))) h := by kernel_rfl
theorem cy4 : qBn Tryz.prog (qn Tryz.f14 4) (qn Tryz.f14 4) (tC gp q rl p x) h J = qQ h [.bool false] 4 fun r h => h.canSt r 0 1 ∧ J (setT (tC gp q rl p x) 8 (pointer (some ⟨r, 0, none⟩))) (h.setN r 0 [.bool false]) := by kernel_rfl
theorem cy5 : qBn Tryz.prog (qn Tryz.f14 5) (qn Tryz.f14 5) (tC gp q rl p x) h J = CallA Tryz.prog qH1 [pointer (some ⟨gp, 0, none⟩), pointer (some ⟨q, 0, none⟩)] h fun v h => ∃ (f : Fn) (a b : Array Value), v = .func f a b ∧
    J (setT (setT (setT (tC gp q rl p x) 12 (pointer (some ⟨gp, 0, none⟩))) 13 (pointer (some ⟨q, 0, none⟩))) 14 (.func f a b)) h := by kernel_rfl
theorem cy6 {id : Int} : qBn Tryz.prog (qn Tryz.f14 6) (qn Tryz.f14 6) (setT (tC gp q rl p x) 15 (.int .i64 id)) h J = J (setT (setT (tC gp q rl p x) 15 (.int .i64 id)) 9 (.int .i64 id)) h := by kernel_rfl
theorem cy7 {id : Int} : qBn Tryz.prog (qn Tryz.f14 7) (qn Tryz.f14 7) (setT (setT (setT (tC gp q rl p x) 8 (pointer (some ⟨rs, 0, none⟩))) 15 (.int .i64 id)) 9 (.int .i64 id)) h J = ∃ (a : Option Addr) (n m : Nat), h.cell rl 0 = some (slice a n m) ∧
    qQ h [.int .i64 id] 3 fun r h => AppA [.int .i64 0] 3 h a n m 1 (some ⟨r, 0, none⟩) fun ap cp h => h.canSt rl 0 1 ∧
      J (setT (setT (setT (setT (setT (setT (setT (tC gp q rl p x) 8 (pointer (some ⟨rs, 0, none⟩))) 15 (.int .i64 id)) 9 (.int .i64 id)) 16 (slice a n m)) 17 (.int .i64 id)) 18 (slice (some ⟨r, 0, none⟩) 1 1)) 19 (slice ap (n + 1) cp)) (h.setN rl 0 [slice ap (n + 1) cp]) := by kernel_rfl
theorem cy8 : qBn Tryz.prog (qn Tryz.f14 8) (qn Tryz.f14 8) (setT (tC gp q rl p x) 8 (pointer (some ⟨rs, 0, none⟩))) h J = (h.canSt rs 0 1 ∧ J (setT (tC gp q rl p x) 8 (pointer (some ⟨rs, 0, none⟩))) (h.setN rs 0 [.bool true])) := by kernel_rfl
theorem cy9 : qBn Tryz.prog (qn Tryz.f14 9) (qn Tryz.f14 9) (setT (tC gp q rl p x) 8 (pointer (some ⟨rs, 0, none⟩))) h J = ∃ b : Bool, h.cell rs 0 = some (.bool b) ∧ J (setT (setT (setT (tC gp q rl p x) 8 (pointer (some ⟨rs, 0, none⟩))) 20 (.bool b)) 21 (.bool (!b))) h := by kernel_rfl
theorem qZG : qBn Tryz.prog (qn Tryz.f14 10) (qn Tryz.f14 10) (tC gp q rl p x) h J = ∃ (a : Option Addr) (n m : Nat), h.cell rl 0 = some (slice a n m) ∧ J (setT (setT (setT (setT (tC gp q rl p x) 22 (slice a n m)) 23 (.int .i64 p)) 4 (slice a n m)) 5 (.int .i64 p)) h := by kernel_rfl
end
def tP (l rb rg q : Nat) (a : Option Addr) (n c : Nat) (i : Int) (x : Nat → Value) : List Value := [.func (.yield l) #[] #[], pointer (some ⟨rb, 0, none⟩), pointer (some ⟨rg, 0, none⟩), x 3, x 4, x 5, pointer (some ⟨q, 0, none⟩), slice a n c, .int .i64 n, .int .i64 i, x 10, x 11, x 12, x 13, x 14, x 15, x 16, x 17, x 18, x 19, x 20, x 21, x 22, x 23, x 24]
section
variable {l rb rg q n c : Nat} {a : Option Addr} {i id : Int} {x : Nat → Value} {h : Heap} {J : List Value → Heap → Prop}
theorem ps0 : qBn Tryz.prog (qn Tryz.f82 0) (qn Tryz.f82 0) (sp 25 [(0, .func (.yield l) #[] #[]), (1, pointer (some ⟨rb, 0, none⟩)), (2, pointer (some ⟨rg, 0, none⟩))]) h J = ∃ b : Option Addr, h.cell rb 0 = some (pointer b) ∧
    CallA Tryz.prog qCf [pointer b, .int .i64 2] h fun v h => ∃ (a : Option Addr) (n c : Nat), v = slice a n c ∧ J (sp 25 [(0, .func (.yield l) #[] #[]), (1, pointer (some ⟨rb, 0, none⟩)), (2, pointer (some ⟨rg, 0, none⟩)), (6, pointer b), (7, slice a n c), (8, .int .i64 n), (9, .int .i64 0)]) h := by kernel_rfl
theorem ps1 : qBn Tryz.prog (qn Tryz.f82 1) (qn Tryz.f82 1) (tP l rb rg q a n c i x) h J = J (setT (tP l rb rg q a n c i x) 10 (.bool (decide (i < (n : Int))))) h := by kernel_rfl
theorem ps2 : qBn Tryz.prog (qn Tryz.f82 2) (qn Tryz.f82 2) (tP l rb rg q a n c i x) h J = (0 ≤ i ∧ i < (n : Int) ∧ qA a fun b o => ∃ v : Int, h.cell b (o + i.toNat) = some (.int .i64 v) ∧
    J (setT (setT (setT (tP l rb rg q a n c i x) 11 (pointer (some ⟨b, o + i.toNat, none⟩))) 12 (.int .i64 v)) 5 (.int .i64 v)) h) := by kernel_rfl
theorem ps3 : qBn Tryz.prog (qn Tryz.f82 3) (qn Tryz.f82 3) (setT (tP l rb rg q a n c i x) 5 (.int .i64 id)) h J = ∃ g : Option Addr, h.cell rg 0 = some (pointer g) ∧ ∃ b : Option Addr, h.cell rb 0 = some (pointer b) ∧
    CallA Tryz.prog qCh [pointer g, pointer b, .int .i64 id] h fun v h => ∃ e : Int, v = .int .i64 e ∧
      Br (e == 0)
        (YieldR Tryz.prog l [.int .i64 id] h fun v h => ∃ r : Bool, v = .bool r ∧
          J (setT (setT (setT (setT (setT (setT (setT (setT (setT (setT (setT (setT (tP l rb rg q a n c i x) 5 (.int .i64 id)) 13 (pointer g)) 14 (pointer b)) 15 (.int .i64 id)) 16 (.int .i64 e)) 17 (.bool (e == 0))) 18 (.bool true)) 19 (.func (.yield l) #[] #[])) 20 (.int .i64 id)) 21 (.bool r)) 22 (.bool (!r))) 23 (.bool (!r))) h)
        (J (setT (setT (setT (setT (setT (setT (setT (setT (setT (setT (setT (setT (tP l rb rg q a n c i x) 5 (.int .i64 id)) 13 (pointer g)) 14 (pointer b)) 15 (.int .i64 id)) 16 (.int .i64 e)) 17 (.bool (e == 0))) 18 (.bool false)) 19 undef) 20 undef) 21 undef) 22 undef) 23 (.bool false)) h) := by kernel_rfl
theorem ps4 : qBn Tryz.prog (qn Tryz.f82 4) (qn Tryz.f82 4) (tP l rb rg q a n c i x) h J = J (setT (setT (tP l rb rg q a n c i x) 24 (.int .i64 (IntKind.wrap .i64 (i + 1)))) 9 (.int .i64 (IntKind.wrap .i64 (i + 1)))) h := by kernel_rfl
end
end Go.Proofs.YtgjeecaombnmiaaGreat
