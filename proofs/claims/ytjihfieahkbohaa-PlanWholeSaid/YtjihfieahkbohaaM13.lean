import Derived.Test.YtjihfieahkbohaaM04
import Derived.Test.YtjihfieahkbohaaM12
import Derived.Test.YtjihfieahkbohaaM11
import Derived.Test.YtjihfieahkbohaaM05
import Derived.Test.YtjihfieahkbohaaM07
import Derived.Test.YtjihfieahkbohaaM06
/- A list put in order: a permutation, sorted. -/
namespace Go.Proofs.Ytjihfieahkbohaa
open Go Go.Sy Go.Value Go.Sort
set_option linter.unusedVariables false
set_option linter.unusedSimpArgs false

section
variable {g0 : Heap} {B m n c : Nat} {sp : List Value} {left : List En} (e0 : g0 B = none) (hm : left.length = m) (I : True) (hn : n < 256)
include e0 hm I hn
theorem qUr : ∀ (q a b : Nat) (limit : Int) (wb wp : Bool) (d : Array Int) (h : Heap) (K : Value → Heap → Prop), b - a ≤ q → a ≤ b → b ≤ n → 0 ≤ limit + 1000 - q → limit ≤ 1000 → DaE left g0 B m n sp h d → Below (qP left) a b d →
    (∀ h' d', DaE left g0 B m n sp h' d' → PermIn a b d d' → SortedIn (qP left) a b d' → K (tuple #[]) h') →
    qT (some ⟨B, 0, none⟩) n c (a : Int) (b : Int) limit wb wp h K := by
  intro q
  induction q with
  | zero =>
    intro a b limit wb wp d h K hq hab hb hl1 hl2 D hB k
    have hz : d.size = n := D.sz
    refine qCC _ _ _ _ _ _ _ _ _ _ ?_
    unfold qAw
    have w0 : IntKind.wrap .i64 ((b : Int) - (a : Int)) = ((b - a : Nat) : Int) := by rw [qx (by omega) (by omega)]; omega
    rw [w0]
    refine Br.yes (by simp; omega) (qM9 e0 hm I (by omega) (by omega) hb D fun h1 D1 => ⟨rfl, Ret.mk ?_⟩)
    have := insertionSort_holds (qNS left) d a b hab (by omega)
    exact k h1 _ D1 this.1 this.2
  | succ q ih =>
    intro a b limit wb wp d h K hq hab hb hl1 hl2 D hB k
    have hz : d.size = n := D.sz
    refine qCC _ _ _ _ _ _ _ _ _ _ ?_
    unfold qAw
    have w0 : IntKind.wrap .i64 ((b : Int) - (a : Int)) = ((b - a : Nat) : Int) := by rw [qx (by omega) (by omega)]; omega
    rw [w0]
    refine Br.dec (fun g => ?_) fun g => ?_
    · refine qM9 e0 hm I (by omega) (by omega) hb D fun h1 D1 => ⟨rfl, Ret.mk ?_⟩
      have := insertionSort_holds (qNS left) d a b hab (by omega)
      exact k h1 _ D1 this.1 this.2
    refine Br.intro (fun _ => ?_) fun _ => ?_
    · refine qWR e0 hm I (by omega) (by omega) hb D fun h1 D1 => ⟨rfl, Ret.mk ?_⟩
      have := heapSort_holds (qNS left) d a b hab (by omega)
      exact k h1 _ D1 this.1 this.2
    have h12 : 12 < b - a := by omega
    -- behind the patterns
    have cont : ∀ (lim : Int) (h : Heap) (d1 : Array Int), 0 ≤ lim + 1000 - q → lim ≤ 1000 → DaE left g0 B m n sp h d1 → PermIn a b d d1 → qAq (some ⟨B, 0, none⟩) n c (a : Int) (b : Int) lim wb wp ((b - a : Nat) : Int) h K := by
      intro lim h d1 hl3 hl4 D1 P1
      have B1 := hB.perm (by omega) P1
      refine qGp _ _ _ _ _ _ _ _ _ _ _ ?_
      unfold qDc
      -- the parts
      have part : ∀ (h : Heap) (d3 : Array Int) (pivot : Nat), DaE left g0 B m n sp h d3 → PermIn a b d d3 → a ≤ pivot → pivot < b → qm (some ⟨B, 0, none⟩) n c (a : Int) (b : Int) lim wb wp ((b - a : Nat) : Int) (pivot : Int) h K := by
        intro h d3 pivot D3 P3 hp1 hp2
        have B3 := hB.perm (by omega) P3
        have hz3 : d3.size = n := D3.sz
        refine qGd _ _ _ _ _ _ _ _ _ _ _ _ ?_
        unfold qDZ
        have ordinary : ∀ h, DaE left g0 B m n sp h d3 → CallA Try.prog qAx [slice (some ⟨B, 0, none⟩) n c, .int .i64 (a : Int), .int .i64 (b : Int), .int .i64 (pivot : Int), func (Fn.func qC) #[] #[]] h fun v h =>
            ∃ (x : Int), ∃ (y : Bool), v = tuple #[.int .i64 x, .bool y] ∧ Br (decide (IntKind.wrap .i64 (x - (a : Int)) < IntKind.wrap .i64 ((b : Int) - x)))
              (CallA Try.prog q9 [slice (some ⟨B, 0, none⟩) n c, .int .i64 (a : Int), .int .i64 x, .int .i64 lim, func (Fn.func qC) #[] #[]] h fun v h => v = tuple #[] ∧
                qT (some ⟨B, 0, none⟩) n c (IntKind.wrap .i64 (x + 1)) (b : Int) lim (decide (IntKind.wrap .i64 (x - (a : Int)) ≥ IntKind.wrap .i64 (Int.tdiv ((b - a : Nat) : Int) 8))) y h K)
              (CallA Try.prog q9 [slice (some ⟨B, 0, none⟩) n c, .int .i64 (IntKind.wrap .i64 (x + 1)), .int .i64 (b : Int), .int .i64 lim, func (Fn.func qC) #[] #[]] h fun v h => v = tuple #[] ∧
                qT (some ⟨B, 0, none⟩) n c (a : Int) x lim (decide (IntKind.wrap .i64 ((b : Int) - x) ≥ IntKind.wrap .i64 (Int.tdiv ((b - a : Nat) : Int) 8))) y h K) := by
          intro h D3
          refine qQ5 e0 hm I (by omega) (by omega) hb hp1 hp2 D3 fun h4 D4 => ⟨_, _, rfl, ?_⟩
          generalize hx : partition (qP left) d3 a b pivot = r at *
          obtain ⟨mid, ap, d4⟩ := r
          obtain ⟨g1, g2, hs4, hBa, hBr, hleft, hright⟩ := round_part (qNS left) (partition_holds (qP left)) hp1 hp2 (by omega) B3 hx
          dsimp only at D4 ⊢
          have w1 : IntKind.wrap .i64 ((mid : Int) - (a : Int)) = ((mid - a : Nat) : Int) := by rw [qx (by omega) (by omega)]; omega
          have w2 : IntKind.wrap .i64 ((b : Int) - (mid : Int)) = ((b - mid : Nat) : Int) := by rw [qx (by omega) (by omega)]; omega
          rw [w1, w2, qEz (by omega)]
          refine Br.intro (fun _ => ?_) fun _ => ?_
          · refine qBR _ _ _ _ _ _ _ _ ?_
            unfold qAX
            refine ih a mid lim true true d4 h4 _ (by omega) g1 (by omega) hl3 hl4 D4 hBa fun h5 d5 D5 l1 l2 => ⟨rfl, ?_⟩
            obtain ⟨hBL, hfin⟩ := hleft _ l1 l2
            refine ih (mid + 1) b lim _ ap d5 h5 _ (by omega) (by omega) hb hl3 hl4 D5 hBL fun h6 d6 D6 r1 r2 => ?_
            obtain ⟨q1, q2⟩ := hfin _ r1 r2
            exact k h6 _ D6 (permIn_trans _ _ _ a b P3 q1) q2
          · refine qBR _ _ _ _ _ _ _ _ ?_
            unfold qAX
            refine ih (mid + 1) b lim true true d4 h4 _ (by omega) (by omega) hb hl3 hl4 D4 hBr fun h5 d5 D5 l1 l2 => ⟨rfl, ?_⟩
            obtain ⟨hBL, hfin⟩ := hright _ l1 l2
            refine ih a mid lim _ ap d5 h5 _ (by omega) g1 (by omega) hl3 hl4 D5 hBL fun h6 d6 D6 r1 r2 => ?_
            obtain ⟨q1, q2⟩ := hfin _ r1 r2
            exact k h6 _ D6 (permIn_trans _ _ _ a b P3 q1) q2
        refine Br.dec (fun ga => ?_) fun ga => ordinary h D3
        have w1 : IntKind.wrap .i64 ((a : Int) - 1) = ((a - 1 : Nat) : Int) := by rw [qx (by omega) (by omega)]; omega
        rw [w1]
        refine qH1 D3 hm I rfl rfl (by omega) (by omega) fun h' D' => Br.intro (fun g2 => ?_) fun g2 => ordinary h' D'
        refine qNh e0 hm I (by omega) (by omega) hb hp1 hp2 D' fun h4 D4 => ⟨_, rfl, ?_⟩
        generalize hx : partitionEqual (qP left) d3 a b pivot = r at *
        obtain ⟨mid, d4⟩ := r
        obtain ⟨m1, m2, hs4, hB4, hfin⟩ := round_eq (qNS left) (partitionEqual_holds (lt := qP left)) (by omega) hp1 hp2 (by omega) B3 (by simpa using g2) hx
        dsimp only at D4 ⊢
        refine ih mid b lim wb wp d4 h4 _ (by omega) m2 hb hl3 hl4 D4 hB4 fun h6 d6 D6 r1 r2 => ?_
        obtain ⟨q1, q2⟩ := hfin _ r1 r2
        exact k h6 _ D6 (permIn_trans _ _ _ a b P3 q1) q2
      -- few steps
      have few : ∀ (h : Heap) (d2 : Array Int) (pivot : Nat) (hint : Int), DaE left g0 B m n sp h d2 → PermIn a b d d2 → a ≤ pivot → pivot < b → qAp (some ⟨B, 0, none⟩) n c (a : Int) (b : Int) lim wb wp ((b - a : Nat) : Int) (pivot : Int) hint h K := by
        intro h d2 pivot hint D2 P2 hp1 hp2
        have B2 := hB.perm (by omega) P2
        have hz2 : d2.size = n := D2.sz
        refine qGg _ _ _ _ _ _ _ _ _ _ _ _ _ ?_
        unfold qDa
        refine Br.intro (fun _ => Br.intro (fun _ => Br.intro (fun _ => ?_) fun _ => part h d2 pivot D2 P2 hp1 hp2) fun _ => part h d2 pivot D2 P2 hp1 hp2) fun _ => part h d2 pivot D2 P2 hp1 hp2
        have s := partialInsertionSort_holds (qNS left) d2 a b (by omega) (by omega) B2
        refine qWa e0 hm I (by omega) (by omega) hb D2 fun h3 D3 => ⟨_, rfl, Br.intro (fun g => Ret.mk ?_) fun g => ?_⟩
        · exact k h3 _ D3 (permIn_trans _ _ _ a b P2 s.1) (s.2 g)
        · exact part h3 _ pivot D3 (permIn_trans _ _ _ a b P2 s.1) hp1 hp2
      refine qU6 hm I (by omega) h12 hb D1 fun h2 x hint D2 hx1 hx2 => ⟨_, _, rfl, Br.intro (fun _ => ?_) fun _ => few h2 d1 x hint D2 P1 hx1 hx2⟩
      refine qSC e0 (by omega) (by omega) hb D2 fun h3 D3 => ⟨rfl, ?_⟩
      have s := reverseRange_holds d1 a b hab (by have := D1.sz; omega)
      have w1 : IntKind.wrap .i64 ((b : Int) - 1) = ((b - 1 : Nat) : Int) := by rw [qx (by omega) (by omega)]; omega
      have w2 : IntKind.wrap .i64 ((x : Int) - (a : Int)) = ((x - a : Nat) : Int) := by rw [qx (by omega) (by omega)]; omega
      have w3 : IntKind.wrap .i64 (((b - 1 : Nat) : Int) - ((x - a : Nat) : Int)) = ((b - 1 - (x - a) : Nat) : Int) := by rw [qx (by omega) (by omega)]; omega
      rw [w1, w2, w3]
      exact few h3 _ _ 1 D3 (permIn_trans _ _ _ a b P1 s) (by omega) (by omega)
    refine Br.intro (fun _ => ?_) fun _ => cont limit h d (by omega) hl2 D (permIn_refl d a b)
    refine qUa e0 (by omega) (by omega) (by omega) hb D fun h1 d1 D1 P1 => ⟨rfl, ?_⟩
    rw [qx (x := limit - 1) (by omega) (by omega)]
    exact cont _ h1 d1 (by omega) (by omega) D1 P1
theorem qRS {h : Heap} {d : Array Int} {K : Value → Heap → Prop} (D : DaE left g0 B m n sp h d)
    (k : ∀ h' d', DaE left g0 B m n sp h' d' → PermIn 0 n d d' → SortedIn (qP left) 0 n d' → K (tuple #[]) h') :
    CallA Try.prog qAi [slice (some ⟨B, 0, none⟩) n c, func (Fn.func qC) #[] #[]] h K := by
  refine qDq _ _ _ _ _ ?_
  unfold qBm
  rw [qAN (by omega) (by omega)]
  have g := (qLL ⟨n, hn⟩).2
  dsimp only at g
  refine qQS hn ⟨_, rfl, ?_⟩
  refine qBR _ _ _ _ _ _ _ _ ?_
  unfold qAX
  refine qUr e0 hm I hn n 0 n _ true true d h _ (by omega) (by omega) (Nat.le_refl _) (by omega) (by omega) D (.inl rfl) fun h1 d1 D1 P1 s1 => ⟨rfl, Ret.mk (k h1 d1 D1 P1 s1)⟩
end
end Go.Proofs.Ytjihfieahkbohaa

/- A book of instructions: all of a member let go, all of a state told. -/
namespace Go.Proofs.Ytjihfieahkbohaa
open Go Go.Sy Go.Value Go.Sort
set_option linter.unusedVariables false
set_option linter.unusedSimpArgs false

section
variable {h0 h : Heap} {K : Value → Heap → Prop} {p : Nat} {S : Bk} {lp : Option Addr} {c mr : Nat}
theorem w1d {j : Nat} (h : j ≤ 4000000) : IntKind.wrap .i64 ((j : Int) + 1) = ((j + 1 : Nat) : Int) := by rw [qW (by omega) (by omega)]; omega
/-! all of a member -/
def qKZ (m : Int) (L : List En) (j : Nat) : List En := qVU m (L.take j) ++ L.drop j
theorem qRO {m : Int} {L : List En} {j : Nat} (hj : j < L.length) : (qKZ m L j)[j]? = some L[j] := by
  unfold qKZ qVU
  rw [List.getElem?_append_right (by rw [List.length_map, List.length_take]; omega), List.length_map, List.length_take, Nat.min_eq_left (by omega), Nat.sub_self, List.getElem?_drop, List.getElem?_eq_getElem (by omega)]
  rfl
theorem qQg {m : Int} {L : List En} {j : Nat} (hj : j < L.length) : qKZ m L (j + 1) = (qKZ m L j).set j (qMG m L[j]) := by
  unfold qKZ qVU
  rw [List.take_succ_eq_append_getElem hj, List.map_append, List.map_cons, List.map_nil, List.drop_eq_getElem_cons hj]
  have hl : ((L.take j).map (qMG m)).length = j := by rw [List.length_map, List.length_take]; omega
  rw [List.set_append_right _ _ (by omega), hl, Nat.sub_self, List.set_cons_zero, List.append_assoc]; rfl
theorem Bk.Ok.part {m : Int} (ok : S.Ok) : ∀ (j : Nat), j ≤ S.L.length → ({ S with L := qKZ m S.L j } : Bk).Ok
  | 0, _ => ok
  | j + 1, hj => by
    have o := Bk.Ok.part (m := m) ok j (by omega)
    have hx := qRO (m := m) (L := S.L) (j := j) (by omega)
    rw [qQg (by omega)]
    refine o.chg (i := j) (x := S.L[j]) (y := qMG m S.L[j]) hx ?_ ?_ ?_
    · unfold qMG; split <;> rfl
    · unfold qMG; split <;> rfl
    · have hc := ok.could _ (List.getElem_mem (show j < S.L.length by omega))
      unfold qMG
      split
      · unfold couldE at hc ⊢
        dsimp only
        omega
      · exact hc
/-! all of a state -/
def ofS (s : Int) (L : List En) : List En := L.filter fun x => decide (x.st = s)
theorem qVV {s : Int} {L : List En} {j : Nat} (hj : j < L.length) : ofS s (L.take (j + 1)) = if L[j].st = s then ofS s (L.take j) ++ [L[j]] else ofS s (L.take j) := by
  unfold ofS
  rw [List.take_succ_eq_append_getElem hj, List.filter_append]
  split
  · rename_i g
    rw [List.filter_cons_of_pos (by simpa using g)]; rfl
  · rename_i g
    rw [List.filter_cons_of_neg (by simpa using g)]; simp
theorem qRm (s : Int) (L : List En) : (ofS s L).length ≤ L.length := List.length_filter_le _ _
theorem qTI {F : List En} {n fc : Nat} {fp : Option Addr} (hF : F.length = n) (hn : n ≤ 200) (A : Arr eV h0 fp F) (k : ∀ h' q c', h0.le h' → Ints .i64 h' q (F.map fun x => x.d.id) → K (slice q n c') h') :
    ∀ (m j : Nat) (h : Heap) (out : Option Addr) (oc : Nat), m + j = n → h0.le h → OwnL h0 h [.int .i64 0] out oc (qg .i64 ((F.take j).map fun x => x.d.id)) → qEb out j oc fp n fc (n : Int) (j : Int) h K := by
  intro m
  induction m with
  | zero =>
    intro j h out oc hj l0 ol
    refine qI7 _ _ _ _ _ _ _ _ _ _ ?_
    unfold qHF
    have hj : j = n := by omega
    subst hj
    rw [List.take_of_length_le (by omega)] at ol
    exact Br.no (by simp) (Ret.mk (k h out oc l0 ol.rd))
  | succ m ih =>
    intro j h out oc hj l0 ol
    refine qI7 _ _ _ _ _ _ _ _ _ _ ?_
    unfold qHF
    have hjl : j < F.length := by omega
    refine Br.yes (decide_eq_true (by omega)) (ax qEW (A.le l0) hF rfl (List.getElem?_eq_getElem hjl) (by decide) fun b o hb hc => ?_)
    refine ⟨_, hc 0 (by decide), _, hc 1 (by decide), _, hc 2 (by decide), _, hc 3 (by decide), _, hc 4 (by decide), _, hc 5 (by decide), _, hc 6 (by decide), _, hc 7 (by decide), _, hc 8 (by decide), _, hc 9 (by decide), qHY (vs := eV F[j]) rfl fun r h1 hr l1 A1 cs => ⟨cs, _, A1.cell rfl, ?_⟩⟩
    refine qJT (ol.le l1) (by decide) (Heap.le_trans l0 l1) (by omega) rfl rfl (by rw [ql, List.length_map, List.length_take]; simp; omega) fun r4 h4 p' c' h5 hr4 l4 l5 ol5 keep how => ?_
    rw [w1d (by omega)]
    refine ih (j + 1) h5 p' c' (by omega) l5 ?_
    rw [List.take_succ_eq_append_getElem hjl, List.map_append, qES]
    exact ol5
theorem qTG (k : K (tuple #[]) h) : CallA Try.prog qAi [slice none 0 0, func (Fn.func qC) #[] #[]] h K := by
  refine qDq _ _ _ _ _ ?_
  unfold qBm
  rw [show IntKind.wrap .u64 ((0 : Nat) : Int) = ((0 : Nat) : Int) from rfl]
  refine qQS (x := 0) (by decide) ⟨_, rfl, ?_⟩
  refine qBR _ _ _ _ _ _ _ _ ?_
  unfold qAX
  refine qCC _ _ _ _ _ _ _ _ _ _ ?_
  unfold qAw
  refine Br.yes (by decide) ?_
  refine qDX _ _ _ _ _ _ _ ?_
  unfold qBc
  refine qBK _ _ _ _ _ _ _ _ ?_
  unfold qAU
  exact Br.no (by decide) (Ret.mk ⟨rfl, Ret.mk ⟨rfl, Ret.mk k⟩⟩)
theorem qXu {s : Int} {n lc : Nat} (ok : S.Ok) (hn : S.L.length = n) (A : Arr eV h0 lp S.L) (k : ∀ h' q c', h0.le h' → Ints .i64 h' q (qEB S s) → K (slice q (qEB S s).length c') h') :
    ∀ (m j : Nat) (h : Heap) (l : Option Addr) (c : Nat), m + j = n → h0.le h → OwnL h0 h z10 l c ((ofS s (S.L.take j)).flatMap eV) → qEj s l (ofS s (S.L.take j)).length c lp n lc (n : Int) (j : Int) h K := by
  have hn2 := ok.n
  intro m
  induction m with
  | zero =>
    intro j h l c hj l0 ol
    refine qJA _ _ _ _ _ _ _ _ _ _ _ ?_
    unfold qHC
    have hj : j = S.L.length := by omega
    subst hj
    rw [List.take_length] at ol ⊢
    have hF := qRm s S.L
    refine Br.no (by simp; omega) (Br.intro (fun g => ?_) fun g => ?_)
    · have g : s = 2 := by simpa using g
      subst g
      rcases ol with ⟨e1, rfl, rfl⟩ | ⟨B, sp, rfl, e0, a, ek⟩
      · have e1 : ofS 2 S.L = [] := by
          have := congrArg List.length e1
          rw [qAY qEW, List.length_nil] at this
          exact List.length_eq_zero_iff.1 (by omega)
        rw [e1]
        refine qTG ⟨rfl, ?_⟩
        have e2 : qEB S 2 = [] := (qOv ok (d := []) (by rw [show (S.L.filter fun x => decide (x.st = 2)) = [] from e1]) .nil).symm
        rw [e2] at k
        exact qTI (F := []) rfl (Nat.zero_le _) (.inl rfl) (fun h' q c' l' I => k h' q c' (Heap.le_trans l0 l') I) 0 0 h none 0 rfl (Heap.le_refl _) (.nil _ _ _)
      · refine qRS (left := ofS 2 S.L) (g0 := h0) (m := (ofS 2 S.L).length) (d := (qHE (ofS 2 S.L).length).toArray) (sp := sp) e0 rfl trivial (by omega) ⟨l0, ?_, by simp [qJQ], rfl⟩ fun h' d' D' hp hs => ⟨rfl, ?_⟩
        · have := qPQ (ofS 2 S.L)
          rw [show (qHE (ofS 2 S.L).length).toArray.toList = qHE (ofS 2 S.L).length from rfl, this]
          exact a
        · obtain ⟨q1, q2⟩ := qTW rfl hp hs
          have e2 := qOv ok q1 q2
          rw [← e2, List.length_map] at k
          have hl : (qIi (ofS 2 S.L) d'.toList).length = (ofS 2 S.L).length := q1.length_eq
          rw [hl] at k
          exact qTI hl (by omega) (D'.at_.toRd) (fun h2 q c' l' I => k h2 q c' (Heap.le_trans D'.le l') I) (ofS 2 S.L).length 0 h' none 0 (by omega) (Heap.le_refl _) (.nil _ _ _)
    · have g : s ≠ 2 := by simpa using g
      have e2 : qEB S s = (ofS s S.L).map fun x => x.d.id := by unfold qEB; rw [if_neg g]; rfl
      rw [e2, List.length_map] at k
      exact qTI (F := ofS s S.L) rfl (by omega) ol.rd (fun h' q c' l' I => k h' q c' (Heap.le_trans l0 l') I) (ofS s S.L).length 0 h none 0 (by omega) (Heap.le_refl _) (.nil _ _ _)
  | succ m ih =>
    intro j h l c hj l0 ol
    refine qJA _ _ _ _ _ _ _ _ _ _ _ ?_
    unfold qHC
    have hjl : j < S.L.length := by omega
    have hl := qVV (s := s) hjl
    have hF := qRm s (S.L.take j)
    rw [List.length_take] at hF
    refine Br.yes (decide_eq_true (by omega)) (ax qEW (A.le l0) hn rfl (List.getElem?_eq_getElem hjl) (by decide) fun b o hb hc => ?_)
    refine ⟨_, hc 0 (by decide), _, hc 1 (by decide), _, hc 2 (by decide), _, hc 3 (by decide), _, hc 4 (by decide), _, hc 5 (by decide), _, hc 6 (by decide), _, hc 7 (by decide), _, hc 8 (by decide), _, hc 9 (by decide), qHY (vs := eV S.L[j]) rfl fun r h1 hr l1 A1 cs => ⟨cs, _, A1.cell rfl, Br.intro (fun g => ?_) fun g => ?_⟩⟩
    · rw [if_pos (by simpa using g)] at hl
      refine ⟨_, A1.cell rfl, _, A1.cell rfl, _, A1.cell rfl, _, A1.cell rfl, _, A1.cell rfl, _, A1.cell rfl, _, A1.cell rfl, _, A1.cell rfl, _, A1.cell rfl, _, A1.cell rfl, ?_⟩
      refine qJT (ol.le l1) (by decide) (Heap.le_trans l0 l1) (by omega) rfl rfl (by rw [qAY qEW]; rfl) fun r4 h4 p' c' h5 hr4 l4 l5 ol5 keep how => ?_
      rw [w1d (by omega)]
      have := ih (j + 1) h5 p' c' (by omega) l5 (by rw [hl, List.flatMap_append, List.flatMap_cons, List.flatMap_nil, List.append_nil]; exact ol5)
      rw [hl, List.length_append] at this
      exact this
    · rw [if_neg (by simpa using g)] at hl
      rw [w1d (by omega)]
      have := ih (j + 1) _ l c (by omega) (Heap.le_trans l0 l1) (by rw [hl]; exact ol.le l1)
      rw [hl] at this
      exact this
theorem qXa (P : PB h p S) {s : Int} (k : ∀ h' q c', h.le h' → Ints .i64 h' q (qEB S s) → K (slice q (qEB S s).length c') h') : CallA Try.prog qHw [pointer (some ⟨p, 0, none⟩), .int .i64 s] h K := by
  obtain ⟨ok, lp, c, mr, B⟩ := P
  refine qN1 _ _ _ _ ?_
  unfold qKI
  refine qD rfl ⟨_, _, _, B.ap.cell rfl, ?_⟩
  exact qXu ok rfl B.arr k S.L.length 0 h none 0 (by omega) (Heap.le_refl _) (.nil _ _ _)
end
end Go.Proofs.Ytjihfieahkbohaa

/- Members' nets: what plan.Net computes. -/
namespace Go.Proofs.Ytjihfieahkbohaa
open Go Go.Sy Go.Value
set_option linter.unusedVariables false
set_option linter.unusedSimpArgs false

/-! ### flows, plainly -/
def flD (d : Dl) : List (Int × Int × Int) := [(d.a, d.sc, -d.sell), (d.b, d.sc, d.sell), (d.b, d.bc, -d.buy), (d.a, d.bc, d.buy)]
def flF (l : List (Int × Int × Int)) (m c : Int) : List Int := (l.filter fun x => decide (x.1 = m ∧ x.2.1 = c)).map fun x => x.2.2
theorem qV7 (l l' : List (Int × Int × Int)) (m c : Int) : flF (l ++ l') m c = flF l m c ++ flF l' m c := by unfold flF; rw [List.filter_append, List.map_append]
theorem qV1 (m c n x y : Int) : flF [(m, c, n)] x y = if x = m ∧ y = c then [n] else [] := by
  unfold flF
  by_cases h : x = m ∧ y = c
  · obtain ⟨rfl, rfl⟩ := h
    rw [if_pos ⟨rfl, rfl⟩]
    simp
  · rw [if_neg h, List.filter_cons_of_neg (by simp only [decide_eq_true_eq]; exact fun e => h ⟨e.1.symm, e.2.symm⟩)]
    rfl
theorem qRi (l : List (Int × Int × Int)) (m c : Int) : (flF l m c).length ≤ l.length := by unfold flF; rw [List.length_map]; exact List.length_filter_le _ _
def dsM (S : Bk) : List Dl := (qEB S 2).map fun id => (qGr S id).1
def flS (S : Bk) : List (Int × Int × Int) := (dsM S).flatMap flD
def inD (ms cs : Int) (d : Dl) : Bool := decide (d.a < ms ∧ d.b < ms ∧ d.sc < cs ∧ d.bc < cs)
def qUW (n : Int) : Bool := decide (-9223372036854775808 ≤ n ∧ n ≤ 9223372036854775807)
def qID (fl : List (Int × Int × Int)) (m c : Nat) : Int := qK (flF fl m c)
def qMJ (fl : List (Int × Int × Int)) (cs m : Nat) : List Int := (List.range cs).map fun c => qID fl m c
def qLQ (fl : List (Int × Int × Int)) (ms cs : Nat) : Bool := (List.range ms).all fun m => (List.range cs).all fun c => qUW (qID fl m c)
def qO0 (S : Bk) (ms cs : Int) : List (List Int) × Int :=
  if ¬ (1 ≤ ms ∧ ms ≤ 16 ∧ 1 ≤ cs ∧ cs ≤ 8) then ([], 1) else if (dsM S).all (inD ms cs) = false then ([], 1)
  else if qLQ (flS S) ms.toNat cs.toNat = false then ([], 3) else ((List.range ms.toNat).map (qMJ (flS S) cs.toNat), 0)
theorem qRu {S : Bk} (ok : S.Ok) : (qEB S 2).length ≤ 40000 := by
  have h1 := ok.ords.length_eq
  rw [qMn] at h1
  have h2 : (qBx S.L).length ≤ S.L.length := by
    unfold qBx
    exact Nat.le_trans (List.length_filter_le _ _) (by rw [List.length_map]; exact Nat.le_refl _)
  have h3 := ok.n
  have h4 : ∀ (f : Nat → List En) (n k : Nat), (∀ i, (f i).length ≤ k) → ((List.range n).flatMap f).length ≤ n * k := fun f n k hk => by
    induction n with
    | zero => simp
    | succ n ih =>
      rw [List.range_succ, List.flatMap_append, List.length_append, Nat.succ_mul]
      have := hk n
      simp only [List.flatMap_cons, List.flatMap_nil, List.append_nil]
      omega
  unfold qEB
  rw [if_pos rfl, List.length_map]
  refine Nat.le_trans (h4 _ S.mat S.L.length fun i => List.length_filter_le _ _) ?_
  exact Nat.mul_le_mul (Nat.le_trans (Nat.le_of_eq h1.symm) (Nat.le_trans h2 h3)) h3
theorem qQX {S : Bk} (ok : S.Ok) (id : Int) : (0 ≤ (qGr S id).1.a ∧ 0 ≤ (qGr S id).1.b ∧ 0 ≤ (qGr S id).1.sc ∧ 0 ≤ (qGr S id).1.bc) ∧ 0 ≤ (qGr S id).1.sell ∧ (qGr S id).1.sell ≤ 9223372036854775807 ∧ 0 ≤ (qGr S id).1.buy ∧ (qGr S id).1.buy ≤ 9223372036854775807 := by
  unfold qGr
  split
  · rename_i x hx
    have hx : x ∈ S.L := by
      unfold qUd at hx
      obtain ⟨i, _, h2⟩ := Option.bind_eq_some_iff.1 hx
      exact List.mem_of_getElem? h2
    have h1 := ok.may x hx
    have h2 := ok.i64 x hx
    unfold qKB qL3 at h1
    simp only [decide_eq_true_eq] at h1
    dsimp only
    omega
  · unfold dl0; dsimp only; omega

/-! ### the map of flows -/
def kV (m c : Int) : Value := agg #[.int .i64 m, .int .i64 c]
theorem qXP {m c x y : Int} (h : kV m c = kV x y) : m = x ∧ c = y := by
  unfold kV at h
  simpa using h
theorem qR7 : WideMaps.KeyLaw Try.prog 127 := deep_law (m := 9) (by decide) (by kernel_rfl) (by kernel_rfl) (by kernel_rfl)
theorem qQQ {m c : Int} (hm : I64 m) (hc : I64 c) : ∃ l, keyOf Try.prog 127 (kV m c) = some l := by
  have e1 : Try.prog.underlying 127 = some (.struct (Try.prog.fieldsOf 127)) := by kernel_rfl
  have e2 : Try.prog.keyType 127 = true := by kernel_rfl
  have e3 : (Try.prog.fieldsOf 127).toList = [(Try.prog.fieldsOf 127)[0]!, (Try.prog.fieldsOf 127)[1]!] := by kernel_rfl
  have e4 : Try.prog.cellsOf 127 = 2 := by kernel_rfl
  have e5 : (Try.prog.fieldsOf 127).all (·.name != "_") = true := by kernel_rfl
  have f1 : Try.prog.underlying (Try.prog.fieldsOf 127)[0]!.type = some (.int .i64) := by kernel_rfl
  have f2 : Try.prog.underlying (Try.prog.fieldsOf 127)[1]!.type = some (.int .i64) := by kernel_rfl
  have f3 : (Try.prog.fieldsOf 127)[0]!.offset = 0 := by kernel_rfl
  have f4 : (Try.prog.fieldsOf 127)[1]!.offset = 1 := by kernel_rfl
  have f5 : Try.prog.cellsOf (Try.prog.fieldsOf 127)[0]!.type = 1 := by kernel_rfl
  have f6 : Try.prog.cellsOf (Try.prog.fieldsOf 127)[1]!.type = 1 := by kernel_rfl
  have g1 : (Lit.int .i64 m).wf = true := Bool.and_eq_true_iff.2 ⟨decide_eq_true (show (-9223372036854775808 : Int) ≤ m from hm.1), decide_eq_true hm.2⟩
  have g2 : (Lit.int .i64 c).wf = true := Bool.and_eq_true_iff.2 ⟨decide_eq_true (show (-9223372036854775808 : Int) ≤ c from hc.1), decide_eq_true hc.2⟩
  have hsz : 1 ≤ Try.prog.types.size := Nat.le_of_ble_eq_true (by kernel_rfl)
  have e6 : ∃ n, Try.prog.types.size + 1 = n + 1 + 1 := ⟨Try.prog.types.size - 1, by omega⟩
  obtain ⟨n, e6⟩ := e6
  have e7 : (kV m c).formed Try.prog 127 = true := by unfold kV Value.formed; rw [e1, e4]; rfl
  unfold keyOf
  rw [e1]
  dsimp only
  rw [e2, e7, e6]
  unfold Program.keyLits
  rw [e1]
  dsimp only
  simp only [Bool.and_self, if_true]
  rw [if_pos ⟨by rw [e4]; rfl, e5⟩, e3]
  simp only [List.mapM_cons, List.mapM_nil, f3, f4, f5, f6]
  unfold Program.keyLits
  rw [f1, f2]
  unfold kV
  simp [Value.cells, g1, g2]
theorem qOQ {h : Heap} {b r : Nat} {xs : List Value} {o : Obj} (a : At h b xs) (e : h r = some o) (f : qG9 o = false) : b ≠ r := fun x => by
  subst x
  obtain ⟨T, ha⟩ := a
  rw [e] at ha; cases ha; cases f
theorem MapK.obj {kt : TypeId} {h : Heap} {r : Nat} {f : Value → Option Value} (M : MapK Try.prog kt h r f) : ∃ o, h r = some o ∧ qG9 o = false := M.elim fun es ⟨c, e, _⟩ => ⟨_, e, rfl⟩
def hdF (p : Int × Int → Option Addr) (c : Int × Int → Nat) (fl : List (Int × Int × Int)) (x y : Int) : Option Value := if flF fl x y = [] then none else some (.slice (p (x, y)) (flF fl x y).length (c (x, y)))
structure NIx (g0 h : Heap) (r : Nat) (fl : List (Int × Int × Int)) (f : Value → Option Value) (p : Int × Int → Option Addr) (c : Int × Int → Nat) : Prop where
  le : g0.le h
  gr : g0 r = none
  mp : MapK Try.prog 127 h r f
  hf : ∀ x y, f (kV x y) = hdF p c fl x y
  fam : Fms g0 h [.int .i64 0] p c fun q => qg .i64 (flF fl q.1 q.2)
  em : ∀ x y, flF fl x y = [] → p (x, y) = none ∧ c (x, y) = 0
def NI (g0 h : Heap) (r : Nat) (fl : List (Int × Int × Int)) : Prop := ∃ f p c, NIx g0 h r fl f p c
section
variable {g0 h : Heap} {r : Nat} {fl : List (Int × Int × Int)}
theorem NI.mv (I : NI g0 h r fl) {h' : Heap} (l : h.le h') : NI g0 h' r fl := by
  obtain ⟨f, p, c, I⟩ := I
  exact ⟨f, p, c, Heap.le_trans I.le l, I.gr, I.mp.elim fun es ⟨ck, e, x⟩ => ⟨es, ck, l _ _ e, x⟩, I.hf, I.fam.le l, I.em⟩
theorem NI.base (I : NI g0 h r fl) : g0.le h := I.elim fun _ ⟨_, _, I⟩ => I.le
theorem qNR (I : NI g0 h r fl) {m c n : Int} (hm : I64 m) (hc : I64 c) (hl : fl.length ≤ 1000000) {T1 T2 T3 : TypeId} {Q : Heap → Prop} (k : ∀ h', NI g0 h' r (fl ++ [(m, c, n)]) → Q h') :
    qd h [.int .i64 0, .int .i64 0, .int .i64 0] T1 fun r1 h1 => h1.canSt r1 0 3 ∧ ∃ n3 : Int, (h1.setN r1 0 [.int .i64 m, .int .i64 c, .int .i64 n]).cell r1 0 = some (.int .i64 n3) ∧ ∃ n4 : Int, (h1.setN r1 0 [.int .i64 m, .int .i64 c, .int .i64 n]).cell r1 1 = some (.int .i64 n4) ∧
      ∃ n5 : Int, (h1.setN r1 0 [.int .i64 m, .int .i64 c, .int .i64 n]).cell r1 2 = some (.int .i64 n5) ∧ qd (h1.setN r1 0 [.int .i64 m, .int .i64 c, .int .i64 n]) [.int .i64 n5] T2 fun r2 h2 => qP6 Try.prog 127 h2 (some r) (agg #[.int .i64 n3, .int .i64 n4]) fun ap an ac s h3 =>
      AppA [.int .i64 0] T3 h3 ap an ac 1 (some ⟨r2, 0, none⟩) fun ap' cp h4 => qTK Try.prog 127 h4 (some r) s ap' (an + 1) cp fun h5 => Q h5 := by
  refine qHY (vs := [.int .i64 m, .int .i64 c, .int .i64 n]) rfl fun r1 h1 hr1 l1 A1 cs1 => ⟨cs1, _, A1.cell rfl, _, A1.cell rfl, _, A1.cell rfl, qAE fun r2 h2 hr2 l2 A2 => ?_⟩
  obtain ⟨f, p, cc, I⟩ := I.mv (Heap.le_trans l1 l2)
  refine ⟨r, f, p (m, c), (flF fl m c).length, cc (m, c), rfl, I.mp, qR7, qQQ hm hc, ?_, fun o s hS hcell => ?_⟩
  · have := I.hf m c
    unfold kV at this
    rw [this]
    unfold hdF
    by_cases e : flF fl m c = []
    · obtain ⟨e1, e2⟩ := I.em m c e
      rw [if_pos e, e1, e2, e]; rfl
    · rw [if_neg e]; rfl
  obtain ⟨o1, ho1, hc1⟩ := MapK.obj I.mp
  have le3 : g0.le (h2.ins r o) := qR9 I.le I.gr
  have hr3 : (h2.ins r o) r = some o := by unfold Heap.ins; rw [if_pos rfl]
  have F3 : Fms g0 (h2.ins r o) [.int .i64 0] p cc fun q => qg .i64 (flF fl q.1 q.2) := I.fam.mv fun i b xs e a => a.insM (qOQ a ho1 hc1)
  have A3 : At (h2.ins r o) r2 [.int .i64 n] := A2.insM (qOQ A2 ho1 hc1)
  have hlen := qRi fl m c
  refine F3.app (i := (m, c)) (by decide) le3 (by omega) (ws := [.int .i64 n]) rfl (At.toRd (ws := []) A3) rfl (by rw [ql, List.length_singleton, Nat.mul_one]) fun p' c' h4 l4 F4 keep how => ?_
  have ne : p (m, c) ≠ some ⟨r, 0, none⟩ := fun e => by
    rcases F3.own (m, c) with ⟨_, e2, _⟩ | ⟨b, sp, e2, _, a, _⟩
    · rw [e2] at e; cases e
    · rw [e2] at e; cases e
      exact qOQ a hr3 hcell rfl
  have hr4 : h4 r = some o := keep r o hr3 ne
  classical
  refine ⟨r, fun x => if x = kV m c then some (.slice (p (m, c)) (flF fl m c).length (cc (m, c))) else f x, kV m c, rfl, hS h4 hr4 _ (if_pos rfl) (fun x hx => if_neg hx), fun o2 hM hcell2 => k _ ?_⟩
  have hr5 : (h4.ins r o2) r = some o2 := by unfold Heap.ins; rw [if_pos rfl]
  have fs : ∀ x y, flF (fl ++ [(m, c, n)]) x y = if x = m ∧ y = c then flF fl m c ++ [n] else flF fl x y := fun x y => by
    rw [qV7, qV1]
    by_cases e : x = m ∧ y = c
    · rw [if_pos e, if_pos e, e.1, e.2]
    · rw [if_neg e, if_neg e, List.append_nil]
  refine ⟨fun x => if x = kV m c then some (.slice p' ((flF fl m c).length + 1) c') else f x, upd p (m, c) p', upd cc (m, c) c', qR9 l4 I.gr, I.gr, hM _ hr5 _ (if_pos rfl) (fun x hx => ?_), fun x y => ?_, ?_, fun x y e => ?_⟩
  · dsimp only
    rw [if_neg hx, if_neg hx]
  · unfold hdF
    by_cases e : x = m ∧ y = c
    · obtain ⟨rfl, rfl⟩ := e
      have e0 : flF (fl ++ [(x, y, n)]) x y = flF fl x y ++ [n] := by rw [fs, if_pos ⟨rfl, rfl⟩]
      rw [e0, if_neg (show ¬ (flF fl x y ++ [n] = []) by simp), upd_same, upd_same, List.length_append]
      exact if_pos rfl
    · have e2 : (x, y) ≠ (m, c) := fun h => e (by cases h; exact ⟨rfl, rfl⟩)
      have e0 : flF (fl ++ [(m, c, n)]) x y = flF fl x y := by rw [fs, if_neg e]
      rw [e0, upd_ne _ _ e2, upd_ne _ _ e2]
      refine (if_neg (fun h => e (qXP h))).trans ?_
      exact I.hf x y
  · have e : (fun q : Int × Int => qg .i64 (flF (fl ++ [(m, c, n)]) q.1 q.2)) = upd (fun q : Int × Int => qg .i64 (flF fl q.1 q.2)) (m, c) (qg .i64 (flF fl m c) ++ [.int .i64 n]) := by
      funext q
      rw [fs]
      by_cases e : q = (m, c)
      · subst e
        rw [upd_same, if_pos ⟨rfl, rfl⟩, qES]; rfl
      · rw [upd_ne _ _ e, if_neg (fun h => e (Prod.ext h.1 h.2))]
    rw [e]
    exact F4.mv fun i b xs e a => a.insM (qOQ a hr4 hcell)
  · rw [fs] at e
    by_cases e2 : x = m ∧ y = c
    · rw [if_pos e2] at e; simp at e
    · rw [if_neg e2] at e
      have e3 : (x, y) ≠ (m, c) := fun h => e2 (by cases h; exact ⟨rfl, rfl⟩)
      rw [upd_ne _ _ e3, upd_ne _ _ e3]
      exact I.em x y e
theorem qFt {k : IntKind} {cs : List Value} {i : Nat} {x : Int} {J : Int → Prop} (e : cs[i]? = some (.int k x)) (j : J x) : qLy k cs i J := by
  unfold qLy
  rw [e]
  dsimp only
  have : qNK k k = true := by cases k <;> rfl
  rw [this]; exact j
theorem qXX {K : Value → Heap → Prop} {b q : Option Addr} {ms cs t1 t2 : Int} {qn qc : Nat} (I : NI g0 h r fl) (d : Dl) (hd : I64 d.a ∧ I64 d.b ∧ I64 d.sc ∧ I64 d.bc) (hl : fl.length ≤ 900000) (k : ∀ h', NI g0 h' r (fl ++ flD d) → qHQ b ms cs (some r) q qn qc t1 (IntKind.wrap .i64 (t2 + 1)) h' K) :
    qIo b ms cs (some r) q qn qc t1 t2 d.a d.sc (-d.sell) d.b d.sc d.sell d.b d.bc (-d.buy) d.a d.bc d.buy 0 h K := by
  refine qG0 _ _ _ _ _ _ _ _ _ _ _ _ _ _ _ _ _ _ _ _ _ _ _ _ ?_
  unfold qFs
  refine Br.yes (by decide) ⟨by decide, by decide, qFt rfl (qFt rfl (qFt rfl (qNR I hd.1 hd.2.2.1 (by first | omega | (simp only [List.length_append, List.length_singleton]; omega)) fun h1 I => ?_)))⟩
  rw [show IntKind.wrap .i64 (0 + 1) = 1 by decide]
  refine qG0 _ _ _ _ _ _ _ _ _ _ _ _ _ _ _ _ _ _ _ _ _ _ _ _ ?_
  unfold qFs
  refine Br.yes (by decide) ⟨by decide, by decide, qFt rfl (qFt rfl (qFt rfl (qNR I hd.2.1 hd.2.2.1 (by first | omega | (simp only [List.length_append, List.length_singleton]; omega)) fun h2 I => ?_)))⟩
  rw [show IntKind.wrap .i64 (1 + 1) = 2 by decide]
  refine qG0 _ _ _ _ _ _ _ _ _ _ _ _ _ _ _ _ _ _ _ _ _ _ _ _ ?_
  unfold qFs
  refine Br.yes (by decide) ⟨by decide, by decide, qFt rfl (qFt rfl (qFt rfl (qNR I hd.2.1 hd.2.2.2 (by first | omega | (simp only [List.length_append, List.length_singleton]; omega)) fun h3 I => ?_)))⟩
  rw [show IntKind.wrap .i64 (2 + 1) = 3 by decide]
  refine qG0 _ _ _ _ _ _ _ _ _ _ _ _ _ _ _ _ _ _ _ _ _ _ _ _ ?_
  unfold qFs
  refine Br.yes (by decide) ⟨by decide, by decide, qFt rfl (qFt rfl (qFt rfl (qNR I hd.1 hd.2.2.2 (by first | omega | (simp only [List.length_append, List.length_singleton]; omega)) fun h4 I => ?_)))⟩
  rw [show IntKind.wrap .i64 (3 + 1) = 4 by decide]
  refine qG0 _ _ _ _ _ _ _ _ _ _ _ _ _ _ _ _ _ _ _ _ _ _ _ _ ?_
  unfold qFs
  refine Br.no (by decide) (k h4 ?_)
  simpa only [flD, List.append_assoc, List.cons_append, List.nil_append] using I
end
section
variable {g0 : Heap} {K : Value → Heap → Prop} {p r : Nat} {S : Bk} {q : Option Addr} {qc : Nat} {ms cs : Nat}
theorem qXw (P : PB g0 p S) (X : Ints .i64 g0 q (qEB S 2)) (k0 : ∀ h', (dsM S).all (inD ms cs) = false → g0.le h' → K (tuple #[slice none 0 0, .int .i64 1]) h') (hms : ms ≤ 16) (hcs : cs ≤ 8)
    (k : ∀ h', (dsM S).all (inD ms cs) = true → NI g0 h' r (flS S) → ∀ B h2, h' B = none → h'.le h2 → At h2 B (qAk ms [slice none 0 0]) → qGT cs (some r) (some ⟨B, 0, none⟩) ms ms ms 0 h2 K) :
    ∀ (n j : Nat) (h : Heap), n + j = (qEB S 2).length → ((dsM S).take j).all (inD ms cs) = true → NI g0 h r (((dsM S).take j).flatMap flD) → qHQ (some ⟨p, 0, none⟩) ms cs (some r) q (qEB S 2).length qc ((qEB S 2).length : Int) (j : Int) h K := by
  obtain ⟨ok, lp, c, mr, B⟩ := P
  have hal := qRu ok
  have hdl : (dsM S).length = (qEB S 2).length := by unfold dsM; rw [List.length_map]
  intro n
  induction n with
  | zero =>
    intro j h hj ha I
    refine qMR _ _ _ _ _ _ _ _ _ _ _ ?_
    unfold qKE
    rw [List.take_of_length_le (by omega)] at ha I
    refine Br.no (by simp; omega) ⟨by omega, by omega, by omega, by omega, qAE fun B h2 hB l2 A2 => ?_⟩
    rw [Int.toNat_natCast] at A2 ⊢
    exact k h ha I B h2 hB l2 A2
  | succ n ih =>
    intro j h hj ha I
    refine qMR _ _ _ _ _ _ _ _ _ _ _ ?_
    unfold qKE
    have hjl : j < (qEB S 2).length := by omega
    have hx : (qEB S 2)[j]? = some (qEB S 2)[j] := List.getElem?_eq_getElem hjl
    have hd : (dsM S)[j]? = some (qGr S (qEB S 2)[j]).1 := by unfold dsM; rw [List.getElem?_map, hx]; rfl
    have hnum := qQX ok (qEB S 2)[j]
    obtain ⟨f, pp, cc, Ix⟩ := I
    have le0 := Ix.le
    have I : NI g0 h r (((dsM S).take j).flatMap flD) := ⟨f, pp, cc, Ix⟩
    refine Br.yes (by simp; omega) (ix (X.le le0) rfl (j := j) rfl hx ?_)
    refine qWe (B.le le0) fun h1 l1 => ⟨_, _, _, _, _, _, _, _, rfl, ?_⟩
    have I := I.mv l1
    generalize (qGr S (qEB S 2)[j]).1 = d at *
    have tk : (dsM S).take (j + 1) = (dsM S).take j ++ [d] := by rw [List.take_add_one, hd]; rfl
    have bad : inD ms cs d = false → (dsM S).all (inD ms cs) = false := fun hb => by
      rw [List.all_eq_false]
      exact ⟨d, List.mem_of_getElem? hd, by rw [hb]; decide⟩
    refine qHY (vs := dV d) rfl fun r2 h2 hr2 l2 A2 cs2 => ⟨cs2, _, A2.cell rfl, _, A2.cell rfl, ?_⟩
    have I := I.mv l2
    refine Br.dec (fun g => Ret.mk (k0 _ (bad ?_) I.base)) fun g1 => ⟨_, A2.cell rfl, _, A2.cell rfl, Br.dec (fun g => Ret.mk (k0 _ (bad ?_) I.base)) fun g2 => ?_⟩
    · unfold inD; rw [decide_eq_false_iff_not]; split at g <;> omega
    · unfold inD; rw [decide_eq_false_iff_not]; split at g <;> omega
    have hin : d.a < ms ∧ d.b < ms ∧ d.sc < cs ∧ d.bc < cs := by split at g1 <;> split at g2 <;> omega
    have hI4 : I64 d.a ∧ I64 d.b ∧ I64 d.sc ∧ I64 d.bc := by unfold I64; omega
    have hin : inD ms cs d = true := by
      unfold inD
      rw [decide_eq_true_eq]
      exact hin
    refine ⟨_, A2.cell rfl, _, A2.cell rfl, _, A2.cell rfl, _, A2.cell rfl, _, A2.cell rfl, _, A2.cell rfl, _, A2.cell rfl, _, A2.cell rfl, _, A2.cell rfl, _, A2.cell rfl, _, A2.cell rfl, _, A2.cell rfl, ?_⟩
    have w1' : IntKind.wrap .i64 (0 - d.sell) = -d.sell := by rw [qW (by omega) (by omega)]; omega
    have w2 : IntKind.wrap .i64 (0 - d.buy) = -d.buy := by rw [qW (by omega) (by omega)]; omega
    rw [w1', w2]
    have fll : (((dsM S).take j).flatMap flD).length ≤ 900000 := by
      have : (((dsM S).take j).flatMap flD).length = ((dsM S).take j).length * 4 := by rw [List.length_flatMap, show (fun x => (flD x).length) = fun _ => 4 from rfl, List.map_const', List.sum_replicate_nat]
      rw [this, List.length_take]
      omega
    refine qXX I d hI4 fll fun h3 I => ?_
    rw [w1 (by omega)]
    refine ih (j + 1) h3 (by omega) ?_ ?_
    · rw [tk, List.all_append, ha]
      simp [hin]
    · rw [tk, List.flatMap_append]
      simpa using I
end
end Go.Proofs.Ytjihfieahkbohaa

/- Members' nets, whole: what plan.Net answers. -/
namespace Go.Proofs.Ytjihfieahkbohaa
open Go Go.Sy Go.Value
set_option linter.unusedVariables false
set_option linter.unusedSimpArgs false

def enI (x : Int) : List Value := [.int .i64 x]
theorem qUj (l : List Int) : l.flatMap enI = qg .i64 l := by
  induction l with
  | nil => rfl
  | cons x l ih => rw [List.flatMap_cons, ih]; rfl
theorem qUR {fl : List (Int × Int × Int)} {ms cs m c : Nat} (hm : m < ms) (hc : c < cs) (h : ¬ I64 (qID fl m c)) : qLQ fl ms cs = false := by
  unfold qLQ
  rw [List.all_eq_false]
  refine ⟨m, List.mem_range.2 hm, ?_⟩
  rw [Bool.not_eq_true, List.all_eq_false]
  refine ⟨c, List.mem_range.2 hc, ?_⟩
  unfold qUW
  rw [decide_eq_true_eq]
  exact h
theorem qT2 {fl : List (Int × Int × Int)} {ms cs : Nat} (h : ∀ m c, m < ms → c < cs → I64 (qID fl m c)) : qLQ fl ms cs = true := by
  unfold qLQ
  rw [List.all_eq_true]
  intro m hm
  rw [List.all_eq_true]
  intro c hc
  unfold qUW
  rw [decide_eq_true_eq]
  exact h m c (List.mem_range.1 hm) (List.mem_range.1 hc)
theorem qQP (fl : List (Int × Int × Int)) (cs m : Nat) : (qMJ fl cs m).length = cs := by unfold qMJ; rw [List.length_map, List.length_range]
theorem qTe {fl : List (Int × Int × Int)} {cs m j : Nat} (h : j < cs) : (qMJ fl cs m).take (j + 1) = (qMJ fl cs m).take j ++ [qID fl m j] := by
  rw [List.take_add_one]
  unfold qMJ
  rw [List.getElem?_map, List.getElem?_range h]; rfl
def qGu (fl : List (Int × Int × Int)) (cs m j i : Nat) : List Int := if i < m then qMJ fl cs i else if i = m then (qMJ fl cs m).take j else []
theorem qSF (fl : List (Int × Int × Int)) (cs m i : Nat) : qGu fl cs m cs i = qGu fl cs (m + 1) 0 i := by
  unfold qGu
  by_cases h : i < m
  · rw [if_pos h, if_pos (by omega)]
  · rw [if_neg h]
    by_cases h2 : i = m
    · rw [if_pos h2, if_pos (by omega), List.take_of_length_le (by rw [qQP]; omega), h2]
    · rw [if_neg h2, if_neg (by omega)]
      split <;> rfl
theorem qV6 {S : Bk} (ok : S.Ok) (m c : Int) : qEh (flF (flS S) m c) := by
  intro x hx
  unfold flF flS dsM at hx
  rw [List.mem_map] at hx
  obtain ⟨t, ht, rfl⟩ := hx
  have ht := (List.mem_filter.1 ht).1
  rw [List.mem_flatMap] at ht
  obtain ⟨d, hd, ht⟩ := ht
  rw [List.mem_map] at hd
  obtain ⟨id, _, rfl⟩ := hd
  have hn := qQX ok id
  unfold flD at ht
  unfold I64
  simp only [List.mem_cons, List.not_mem_nil, or_false] at ht
  rcases ht with rfl | rfl | rfl | rfl <;> dsimp only <;> omega
section
variable {g0 g1 : Heap} {K : Value → Heap → Prop} {r B : Nat} {S : Bk} {ms cs : Nat}
theorem qXz (ok : S.Ok) (NB : NI g0 g1 r (flS S)) (hms : ms ≤ 16) (hcs : cs ≤ 8) (k0 : ∀ h', g0.le h' → qLQ (flS S) ms cs = false → K (tuple #[slice none 0 0, .int .i64 3]) h') {m : Nat} (hm : m < ms)
    (k : ∀ h' p c, (∀ j, j < cs → I64 (qID (flS S) m j)) → Tbl enI [.int .i64 0] g1 h' B ms p c (qGu (flS S) cs m cs) → qGT cs (some r) (some ⟨B, 0, none⟩) ms ms ms ((m + 1 : Nat) : Int) h' K) :
    ∀ (n j : Nat) (h : Heap) (p : Nat → Option Addr) (c : Nat → Nat), n + j = cs → (∀ i, i < j → I64 (qID (flS S) m i)) → Tbl enI [.int .i64 0] g1 h B ms p c (qGu (flS S) cs m j) → qGN cs (some r) (some ⟨B, 0, none⟩) ms ms (m : Int) ms (m : Int) cs (j : Int) h K := by
  intro n
  induction n with
  | zero =>
    intro j h p c hj hf T
    have hj : j = cs := by omega
    subst hj
    refine qMZ _ _ _ _ _ _ _ _ _ _ _ _ ?_
    unfold qKA
    rw [w1 (j := m) (by omega)]
    exact Br.no (by simp) (k h p c hf T)
  | succ n ih =>
    intro j h p c hj hf T
    refine qMZ _ _ _ _ _ _ _ _ _ _ _ _ ?_
    unfold qKA
    obtain ⟨f, pp, cc, I⟩ := NB.mv T.le
    have hall := qRu ok
    have hfl : (flS S).length ≤ 200000 := by
      unfold flS dsM
      rw [List.length_flatMap, show (fun x => (flD x).length) = fun _ => 4 from rfl, List.map_const', List.sum_replicate_nat, List.length_map]
      omega
    have hlen := qRi (flS S) (m : Int) (j : Int)
    refine Br.yes (by simp; omega) ⟨r, f, rfl, I.mp, qR7, qQQ (by unfold I64; omega) (by unfold I64; omega), ?_⟩
    have main : ∀ a cp, Ints .i64 h a (flF (flS S) m j) → CallA Try.prog qGR [slice a (flF (flS S) m j).length cp] h fun v h => ∃ (n : Int) (n_1 : Int), v = tuple #[.int .i64 n, .int .i64 n_1] ∧ Br (n_1 != 0) (Ret h K (tuple #[slice none 0 0, .int .i64 n_1]))
        (0 ≤ (m : Int) ∧ (m : Int) < (ms : Int) ∧ qA (some ⟨B, 0, none⟩) fun b o => ∃ (a : Option Addr) (n_2 : Nat) (m_1 : Nat), h.cell b (o + Int.toNat (m : Int)) = some (slice a n_2 m_1) ∧ qd h [.int .i64 n] 2 fun r3 h => AppA [.int .i64 0] 2 h a n_2 m_1 1 (some ⟨r3, 0, none⟩) fun ap cp h =>
          0 ≤ (m : Int) ∧ (m : Int) < (ms : Int) ∧ qA (some ⟨B, 0, none⟩) fun b o => h.canSt b (o + Int.toNat (m : Int)) 1 ∧ qGN cs (some r) (some ⟨B, 0, none⟩) ms ms (m : Int) ms (m : Int) cs (IntKind.wrap .i64 ((j : Int) + 1)) (h.setN b (o + Int.toNat (m : Int)) [slice ap (n_2 + 1) cp]) K) := fun a cp X => by
      refine qSn (by omega) (qV6 ok m j) h X _ ⟨_, _, rfl, ?_⟩
      by_cases hi : I64 (qID (flS S) m j)
      · have e : fit (qK (flF (flS S) m j)) = (qID (flS S) m j, 0) := qIr hi
        rw [e]
        refine Br.no rfl ⟨by omega, by omega, qD rfl ⟨_, _, _, T.get hm, ?_⟩⟩
        have hX : qGu (flS S) cs m j m = (qMJ (flS S) cs m).take j := by unfold qGu; rw [if_neg (by omega), if_pos rfl]
        have hXl : (qGu (flS S) cs m j m).length = j := by rw [hX, List.length_take, qQP]; omega
        refine T.push (J := fun h => qGN cs (some r) (some ⟨B, 0, none⟩) ms ms (m : Int) ms (m : Int) cs (IntKind.wrap .i64 ((j : Int) + 1)) h K) (x := qID (flS S) m j) (by decide) (fun _ => rfl) hm (by rw [hXl]; omega) rfl rfl fun h' p' c' l' T' => ?_
        rw [w1 (by omega)]
        refine ih (j + 1) h' p' c' (by omega) (fun i hi2 => ?_) (T'.congr fun i => ?_)
        · by_cases h2 : i < j
          · exact hf i h2
          · rw [show i = j by omega]; exact hi
        · by_cases h2 : i = m
          · subst h2
            rw [upd_same, hX, ← qTe (by omega)]
            unfold qGu
            rw [if_neg (by omega), if_pos rfl]
          · rw [upd_ne _ _ h2]
            unfold qGu
            rw [if_neg h2, if_neg h2]
      · have e : (fit (qK (flF (flS S) m j))).2 = 3 := by rw [show qK (flF (flS S) m j) = qID (flS S) m j from rfl, qIO hi]
        rw [e]
        exact Br.yes rfl (Ret.mk (k0 h (Heap.le_trans (show g0.le g1 from by obtain ⟨_, _, _, I0⟩ := NB; exact I0.le) T.le) (qUR hm (show j < cs by omega) hi)))
    have hk := I.hf m j
    unfold hdF at hk
    by_cases e : flF (flS S) m j = []
    · rw [if_pos e] at hk
      have := main none 0 (by rw [e]; exact .inl rfl)
      rw [e] at this
      exact .inl ⟨hk, this⟩
    · rw [if_neg e] at hk
      exact .inr ⟨_, _, _, hk, main _ _ (I.fam.own (m, j)).rd⟩
theorem qXq (ok : S.Ok) (NB : NI g0 g1 r (flS S)) (hms : ms ≤ 16) (hcs : cs ≤ 8) (k0 : ∀ h', g0.le h' → qLQ (flS S) ms cs = false → K (tuple #[slice none 0 0, .int .i64 3]) h')
    (k : ∀ h' p c, qLQ (flS S) ms cs = true → Tbl enI [.int .i64 0] g1 h' B ms p c (qGu (flS S) cs ms 0) → K (tuple #[slice (some ⟨B, 0, none⟩) ms ms, .int .i64 0]) h') :
    ∀ (n m : Nat) (h : Heap) (p : Nat → Option Addr) (c : Nat → Nat), n + m = ms → (∀ i j, i < m → j < cs → I64 (qID (flS S) i j)) → Tbl enI [.int .i64 0] g1 h B ms p c (qGu (flS S) cs m 0) → qGT cs (some r) (some ⟨B, 0, none⟩) ms ms ms (m : Int) h K := by
  intro n
  induction n with
  | zero =>
    intro m h p c hm hf T
    have hm : m = ms := by omega
    subst hm
    refine qMP _ _ _ _ _ _ _ _ _ ?_
    unfold qJ3
    exact Br.no (by simp) (Ret.mk (k h p c (qT2 hf) T))
  | succ n ih =>
    intro m h p c hm hf T
    refine qMP _ _ _ _ _ _ _ _ _ ?_
    unfold qJ3
    refine Br.yes (by simp; omega) (qXz ok NB hms hcs k0 (show m < ms by omega) (fun h' p' c' hf' T' => ?_) cs 0 h p c (by omega) (fun i hi => absurd hi (by omega)) T)
    refine ih (m + 1) h' p' c' (by omega) (fun i j hi hj => ?_) (T'.congr fun i => qSF _ _ _ _)
    by_cases h2 : i < m
    · exact hf i j h2 hj
    · rw [show i = m by omega]; exact hf' j hj
end
theorem qR6 : ∀ n, qAk n [Value.slice none 0 0] = hdV (α := Int) (fun _ => none) (fun _ => 0) (fun _ => []) n
  | 0 => rfl
  | n + 1 => by
    unfold hdV
    rw [List.range_succ_eq_map, List.map_cons, List.map_map]
    show [Value.slice none 0 0] ++ qAk n [Value.slice none 0 0] = _
    rw [qR6 n]; rfl
theorem Tbl.nets {g h : Heap} {B n : Nat} {p : Nat → Option Addr} {c : Nat → Nat} {X : Nat → List Int} (T : Tbl enI [.int .i64 0] g h B n p c X) :
    ∃ L, L.length = n ∧ Nets h (some ⟨B, 0, none⟩) L ∧ mxN L = (List.range n).map X := by
  refine ⟨(List.range n).map fun i => ⟨p i, c i, X i⟩, by rw [List.length_map, List.length_range], ⟨?_, fun x hx => ?_⟩, ?_⟩
  · have e : ((List.range n).map fun i => (⟨p i, c i, X i⟩ : NRow)).map nrV = hdV p c X n := by unfold hdV; rw [List.map_map]; rfl
    rw [e]
    exact At.toRd (ws := []) (by rw [List.append_nil]; exact T.at_)
  · obtain ⟨i, _, rfl⟩ := List.mem_map.1 hx
    have := (T.fam.own i).rd
    rw [qUj] at this
    exact this
  · unfold mxN; rw [List.map_map]; rfl
theorem qXm {h : Heap} {K : Value → Heap → Prop} {p : Nat} {S : Bk} (P : PB h p S) {ms cs : Int} (k : ∀ h' q L c, h.le h' → Nets h' q L → mxN L = (qO0 S ms cs).1 → K (tuple #[slice q L.length c, .int .i64 (qO0 S ms cs).2]) h') :
    CallA Try.prog qJU [pointer (some ⟨p, 0, none⟩), .int .i64 ms, .int .i64 cs] h K := by
  refine qOP _ _ _ _ _ ?_
  unfold qLT
  have bad : ¬ (1 ≤ ms ∧ ms ≤ 16 ∧ 1 ≤ cs ∧ cs ≤ 8) → ∀ h', h.le h' → K (tuple #[slice none 0 0, .int .i64 1]) h' := fun hb h' l' => by
    unfold qO0 at k
    rw [if_pos hb] at k
    exact k h' none [] 0 l' ⟨.inl rfl, fun x hx => by cases hx⟩ rfl
  refine Br.no rfl (Br.dec (fun g => Ret.mk (bad (by omega) _ h.le_refl)) fun g1 => Br.dec (fun g => Ret.mk (bad (by omega) _ h.le_refl)) fun g2 => Br.dec (fun g => Ret.mk (bad (by omega) _ h.le_refl)) fun g3 => Br.dec (fun g => Ret.mk (bad (by omega) _ h.le_refl)) fun g4 => ?_)
  unfold qO0 at k
  rw [if_neg (by omega)] at k
  intro r hr
  have lr : h.le (h.ins r (.map #[] 0)) := qB7 hr
  refine qXa (P.le lr) fun h2 q c l2 X => ⟨_, _, _, rfl, ?_⟩
  obtain ⟨m, rfl⟩ : ∃ m : Nat, ms = (m : Int) := ⟨ms.toNat, by omega⟩
  obtain ⟨w, rfl⟩ : ∃ w : Nat, cs = (w : Int) := ⟨cs.toNat, by omega⟩
  rw [Int.toNat_natCast, Int.toNat_natCast] at k
  have M2 : MapK Try.prog 127 h2 r (fun _ => none) := by
    obtain ⟨es, ck, e, x⟩ := MapK.new Try.prog 127 h r
    exact ⟨es, ck, l2 _ _ e, x⟩
  have l0 : h.le (h2.del r) := qTP (Heap.le_trans lr l2) hr
  have X0 : Ints .i64 (h2.del r) q (qEB S 2) := by
    rcases X with e | ⟨b, o, e, x⟩
    · exact .inl e
    · by_cases e2 : qg .i64 (qEB S 2) = []
      · exact .inl e2
      · refine qUE (.inr ⟨b, o, e, x⟩) fun o2 e3 => ?_
        rw [e] at e3
        cases e3
        obtain ⟨ob, ho, hc⟩ := MapK.obj M2
        cases hl : qg .i64 (qEB S 2) with
        | nil => exact e2 hl
        | cons v vs =>
          have := x 0 (by rw [hl]; simp)
          unfold Heap.cell at this
          rw [ho] at this
          cases ob <;> first | (cases hc; done) | (rw [hl] at this; cases this)
  have I0 : NI (h2.del r) h2 r [] := ⟨fun _ => none, fun _ => none, fun _ => 0, qOl _ _, qL4 _ _, M2, fun x y => rfl, .nil _ _ _, fun x y _ => ⟨rfl, rfl⟩⟩
  refine qXw (P.le l0) X0 (fun h' hb lb => ?_) (by omega) (by omega) (fun h' hb I B h3 hB l3 A3 => ?_) (qEB S 2).length 0 h2 (by omega) rfl I0
  · rw [hb, if_pos rfl] at k
    exact k h' none [] 0 (Heap.le_trans l0 lb) ⟨.inl rfl, fun x hx => by cases hx⟩ rfl
  rw [hb, if_neg (by decide)] at k
  have l4 := I.base
  have e : qGu (flS S) w 0 0 = fun _ => [] := by
    funext i
    unfold qGu
    rw [if_neg (by omega)]
    split <;> rfl
  refine qXq P.1 (g0 := h2.del r) I (by omega) (by omega) (fun h4 l hb => ?_) (fun h4 p c hb T => ?_) m 0 h3 (fun _ => none) (fun _ => 0) (by omega) (fun i j hi => absurd hi (by omega)) ⟨l3, hB, ?_, ?_, fun i e => by cases e⟩
  · rw [hb, if_pos rfl] at k
    exact k h4 none [] 0 (Heap.le_trans l0 l) ⟨.inl rfl, fun x hx => by cases hx⟩ rfl
  · rw [hb, if_neg (by decide)] at k
    obtain ⟨L, hL, N, hM⟩ := T.nets
    have := k h4 _ L m (Heap.le_trans l0 (Heap.le_trans l4 T.le)) N (by
      rw [hM]
      refine List.map_congr_left fun i hi => ?_
      unfold qGu
      rw [if_pos (List.mem_range.1 hi)])
    rw [hL] at this
    exact this
  · rw [e, ← qR6]
    exact A3
  · rw [e]; exact .nil _ _ _
end Go.Proofs.Ytjihfieahkbohaa
