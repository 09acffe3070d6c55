/- A list put in order: a permutation, sorted. -/
import Derived.Test.YtghdadniddoboaaEqSpPdq
import Derived.Test.YtghdadniddoboaaSpSortC
namespace Go.Proofs.Ytghdadniddoboaa
open Go Go.Sy Go.Value Go.Sort
set_option linter.unusedVariables false
set_option linter.unusedSimpArgs false

section
variable {g0 : Heap} {B m n c lc : Nat} {sp : List Value} {left : List Int} {lp : Option Addr} (e0 : g0 B = none) (hm : left.length = m) (I : Ints .i64 g0 lp left) (hn : n < 256)
include e0 hm I hn
theorem pdq_all : ∀ (q a b : Nat) (limit : Int) (wb wp : Bool) (d : Array Int) (h : Heap) (K : Value → Heap → Prop), b - a ≤ q → a ≤ b → b ≤ n → 0 ≤ limit + 1000 - q → limit ≤ 1000 → Da g0 B m n sp h d → Below (ltO left) a b d →
    (∀ h' d', Da g0 B m n sp h' d' → PermIn a b d d' → SortedIn (ltO left) a b d' → K (tuple #[]) h') →
    L_slices_pdqsortCmpFunc_int_0 (some ⟨B, 0, none⟩) n c (a : Int) (b : Int) limit lp m lc wb wp h K := by
  intro q
  induction q with
  | zero =>
    intro a b limit wb wp d h K hq hab hb hl1 hl2 D hB k
    have hz : d.size = n := D.sz
    refine L_slices_pdqsortCmpFunc_int_0r _ _ _ _ _ _ _ _ _ _ _ _ _ ?_
    unfold L_slices_pdqsortCmpFunc_int_0T
    have w0 : IntKind.wrap .i64 ((b : Int) - (a : Int)) = ((b - a : Nat) : Int) := by rw [wid (by omega) (by omega)]; omega
    rw [w0]
    refine Br.yes (by simp; omega) (S_insertion e0 hm I (by omega) (by omega) hb D fun h1 D1 => ⟨rfl, Ret.mk ?_⟩)
    have := insertionSort_holds (swoO left) d a b hab (by omega)
    exact k h1 _ D1 this.1 this.2
  | succ q ih =>
    intro a b limit wb wp d h K hq hab hb hl1 hl2 D hB k
    have hz : d.size = n := D.sz
    refine L_slices_pdqsortCmpFunc_int_0r _ _ _ _ _ _ _ _ _ _ _ _ _ ?_
    unfold L_slices_pdqsortCmpFunc_int_0T
    have w0 : IntKind.wrap .i64 ((b : Int) - (a : Int)) = ((b - a : Nat) : Int) := by rw [wid (by omega) (by omega)]; omega
    rw [w0]
    refine Br.dec (fun g => ?_) fun g => ?_
    · refine S_insertion e0 hm I (by omega) (by omega) hb D fun h1 D1 => ⟨rfl, Ret.mk ?_⟩
      have := insertionSort_holds (swoO left) d a b hab (by omega)
      exact k h1 _ D1 this.1 this.2
    refine Br.intro (fun _ => ?_) fun _ => ?_
    · refine S_heap e0 hm I (by omega) (by omega) hb D fun h1 D1 => ⟨rfl, Ret.mk ?_⟩
      have := heapSort_holds (swoO left) d a b hab (by omega)
      exact k h1 _ D1 this.1 this.2
    have h12 : 12 < b - a := by omega
    -- behind the patterns
    have cont : ∀ (lim : Int) (h : Heap) (d1 : Array Int), 0 ≤ lim + 1000 - q → lim ≤ 1000 → Da g0 B m n sp h d1 → PermIn a b d d1 → L_slices_pdqsortCmpFunc_int_1010 (some ⟨B, 0, none⟩) n c (a : Int) (b : Int) lim lp m lc wb wp ((b - a : Nat) : Int) h K := by
      intro lim h d1 hl3 hl4 D1 P1
      have B1 := hB.perm (by omega) P1
      refine L_slices_pdqsortCmpFunc_int_1010r _ _ _ _ _ _ _ _ _ _ _ _ _ _ ?_
      unfold L_slices_pdqsortCmpFunc_int_1010T
      -- the parts
      have part : ∀ (h : Heap) (d3 : Array Int) (pivot : Nat), Da g0 B m n sp h d3 → PermIn a b d d3 → a ≤ pivot → pivot < b → L_slices_pdqsortCmpFunc_int_1017 (some ⟨B, 0, none⟩) n c (a : Int) (b : Int) lim lp m lc wb wp ((b - a : Nat) : Int) (pivot : Int) h K := by
        intro h d3 pivot D3 P3 hp1 hp2
        have B3 := hB.perm (by omega) P3
        have hz3 : d3.size = n := D3.sz
        refine L_slices_pdqsortCmpFunc_int_1017r _ _ _ _ _ _ _ _ _ _ _ _ _ _ _ ?_
        unfold L_slices_pdqsortCmpFunc_int_1017T
        have ordinary : ∀ h, Da g0 B m n sp h d3 → CallA Try.prog fn_slices_partitionCmpFunc_int [slice (some ⟨B, 0, none⟩) n c, .int .i64 (a : Int), .int .i64 (b : Int), .int .i64 (pivot : Int), func (Fn.func fn_split_by_order) #[agg #[slice lp m lc]] #[]] h fun v h =>
            ∃ (x : Int), ∃ (y : Bool), v = tuple #[.int .i64 x, .bool y] ∧ Br (decide (IntKind.wrap .i64 (x - (a : Int)) < IntKind.wrap .i64 ((b : Int) - x)))
              (CallA Try.prog fn_slices_pdqsortCmpFunc_int [slice (some ⟨B, 0, none⟩) n c, .int .i64 (a : Int), .int .i64 x, .int .i64 lim, func (Fn.func fn_split_by_order) #[agg #[slice lp m lc]] #[]] h fun v h => v = tuple #[] ∧
                L_slices_pdqsortCmpFunc_int_0 (some ⟨B, 0, none⟩) n c (IntKind.wrap .i64 (x + 1)) (b : Int) lim lp m lc (decide (IntKind.wrap .i64 (x - (a : Int)) ≥ IntKind.wrap .i64 (Int.tdiv ((b - a : Nat) : Int) 8))) y h K)
              (CallA Try.prog fn_slices_pdqsortCmpFunc_int [slice (some ⟨B, 0, none⟩) n c, .int .i64 (IntKind.wrap .i64 (x + 1)), .int .i64 (b : Int), .int .i64 lim, func (Fn.func fn_split_by_order) #[agg #[slice lp m lc]] #[]] h fun v h => v = tuple #[] ∧
                L_slices_pdqsortCmpFunc_int_0 (some ⟨B, 0, none⟩) n c (a : Int) x lim lp m lc (decide (IntKind.wrap .i64 ((b : Int) - x) ≥ IntKind.wrap .i64 (Int.tdiv ((b - a : Nat) : Int) 8))) y h K) := by
          intro h D3
          refine S_partition e0 hm I (by omega) (by omega) hb hp1 hp2 D3 fun h4 D4 => ⟨_, _, rfl, ?_⟩
          generalize hx : partition (ltO left) d3 a b pivot = r at *
          obtain ⟨mid, ap, d4⟩ := r
          obtain ⟨g1, g2, hs4, hBa, hBr, hleft, hright⟩ := round_part (swoO left) (partition_holds (ltO left)) hp1 hp2 (by omega) B3 hx
          dsimp only at D4 ⊢
          have w1 : IntKind.wrap .i64 ((mid : Int) - (a : Int)) = ((mid - a : Nat) : Int) := by rw [wid (by omega) (by omega)]; omega
          have w2 : IntKind.wrap .i64 ((b : Int) - (mid : Int)) = ((b - mid : Nat) : Int) := by rw [wid (by omega) (by omega)]; omega
          rw [w1, w2, wp1 (by omega)]
          refine Br.intro (fun _ => ?_) fun _ => ?_
          · refine F_slices_pdqsortCmpFunc_int _ _ _ _ _ _ _ _ _ _ _ ?_
            unfold F_slices_pdqsortCmpFunc_intT
            refine ih a mid lim true true d4 h4 _ (by omega) g1 (by omega) hl3 hl4 D4 hBa fun h5 d5 D5 l1 l2 => ⟨rfl, ?_⟩
            obtain ⟨hBL, hfin⟩ := hleft _ l1 l2
            refine ih (mid + 1) b lim _ ap d5 h5 _ (by omega) (by omega) hb hl3 hl4 D5 hBL fun h6 d6 D6 r1 r2 => ?_
            obtain ⟨q1, q2⟩ := hfin _ r1 r2
            exact k h6 _ D6 (permIn_trans _ _ _ a b P3 q1) q2
          · refine F_slices_pdqsortCmpFunc_int _ _ _ _ _ _ _ _ _ _ _ ?_
            unfold F_slices_pdqsortCmpFunc_intT
            refine ih (mid + 1) b lim true true d4 h4 _ (by omega) (by omega) hb hl3 hl4 D4 hBr fun h5 d5 D5 l1 l2 => ⟨rfl, ?_⟩
            obtain ⟨hBL, hfin⟩ := hright _ l1 l2
            refine ih a mid lim _ ap d5 h5 _ (by omega) g1 (by omega) hl3 hl4 D5 hBL fun h6 d6 D6 r1 r2 => ?_
            obtain ⟨q1, q2⟩ := hfin _ r1 r2
            exact k h6 _ D6 (permIn_trans _ _ _ a b P3 q1) q2
        refine Br.dec (fun ga => ?_) fun ga => ordinary h D3
        have w1 : IntKind.wrap .i64 ((a : Int) - 1) = ((a - 1 : Nat) : Int) := by rw [wid (by omega) (by omega)]; omega
        rw [w1]
        refine lessN D3 hm I rfl rfl (by omega) (by omega) fun h' D' => Br.intro (fun g2 => ?_) fun g2 => ordinary h' D'
        refine S_partitionEqual e0 hm I (by omega) (by omega) hb hp1 hp2 D' fun h4 D4 => ⟨_, rfl, ?_⟩
        generalize hx : partitionEqual (ltO left) d3 a b pivot = r at *
        obtain ⟨mid, d4⟩ := r
        obtain ⟨m1, m2, hs4, hB4, hfin⟩ := round_eq (swoO left) (partitionEqual_holds (lt := ltO left)) (by omega) hp1 hp2 (by omega) B3 (by simpa using g2) hx
        dsimp only at D4 ⊢
        refine ih mid b lim wb wp d4 h4 _ (by omega) m2 hb hl3 hl4 D4 hB4 fun h6 d6 D6 r1 r2 => ?_
        obtain ⟨q1, q2⟩ := hfin _ r1 r2
        exact k h6 _ D6 (permIn_trans _ _ _ a b P3 q1) q2
      -- few steps
      have few : ∀ (h : Heap) (d2 : Array Int) (pivot : Nat) (hint : Int), Da g0 B m n sp h d2 → PermIn a b d d2 → a ≤ pivot → pivot < b → L_slices_pdqsortCmpFunc_int_1015 (some ⟨B, 0, none⟩) n c (a : Int) (b : Int) lim lp m lc wb wp ((b - a : Nat) : Int) (pivot : Int) hint h K := by
        intro h d2 pivot hint D2 P2 hp1 hp2
        have B2 := hB.perm (by omega) P2
        have hz2 : d2.size = n := D2.sz
        refine L_slices_pdqsortCmpFunc_int_1015r _ _ _ _ _ _ _ _ _ _ _ _ _ _ _ _ ?_
        unfold L_slices_pdqsortCmpFunc_int_1015T
        refine Br.intro (fun _ => Br.intro (fun _ => Br.intro (fun _ => ?_) fun _ => part h d2 pivot D2 P2 hp1 hp2) fun _ => part h d2 pivot D2 P2 hp1 hp2) fun _ => part h d2 pivot D2 P2 hp1 hp2
        have s := partialInsertionSort_holds (swoO left) d2 a b (by omega) (by omega) B2
        refine S_few e0 hm I (by omega) (by omega) hb D2 fun h3 D3 => ⟨_, rfl, Br.intro (fun g => Ret.mk ?_) fun g => ?_⟩
        · exact k h3 _ D3 (permIn_trans _ _ _ a b P2 s.1) (s.2 g)
        · exact part h3 _ pivot D3 (permIn_trans _ _ _ a b P2 s.1) hp1 hp2
      refine S_pivot hm I (by omega) h12 hb D1 fun h2 x hint D2 hx1 hx2 => ⟨_, _, rfl, Br.intro (fun _ => ?_) fun _ => few h2 d1 x hint D2 P1 hx1 hx2⟩
      refine S_reverse e0 (by omega) (by omega) hb D2 fun h3 D3 => ⟨rfl, ?_⟩
      have s := reverseRange_holds d1 a b hab (by have := D1.sz; omega)
      have w1 : IntKind.wrap .i64 ((b : Int) - 1) = ((b - 1 : Nat) : Int) := by rw [wid (by omega) (by omega)]; omega
      have w2 : IntKind.wrap .i64 ((x : Int) - (a : Int)) = ((x - a : Nat) : Int) := by rw [wid (by omega) (by omega)]; omega
      have w3 : IntKind.wrap .i64 (((b - 1 : Nat) : Int) - ((x - a : Nat) : Int)) = ((b - 1 - (x - a) : Nat) : Int) := by rw [wid (by omega) (by omega)]; omega
      rw [w1, w2, w3]
      exact few h3 _ _ 1 D3 (permIn_trans _ _ _ a b P1 s) (by omega) (by omega)
    refine Br.intro (fun _ => ?_) fun _ => cont limit h d (by omega) hl2 D (permIn_refl d a b)
    refine S_break e0 (by omega) (by omega) (by omega) hb D fun h1 d1 D1 P1 => ⟨rfl, ?_⟩
    rw [wid (x := limit - 1) (by omega) (by omega)]
    exact cont _ h1 d1 (by omega) (by omega) D1 P1
theorem S_sortFunc {h : Heap} {d : Array Int} {K : Value → Heap → Prop} (D : Da g0 B m n sp h d)
    (k : ∀ h' d', Da g0 B m n sp h' d' → PermIn 0 n d d' → SortedIn (ltO left) 0 n d' → K (tuple #[]) h') :
    CallA Try.prog fn_slices_SortFunc_int_int [slice (some ⟨B, 0, none⟩) n c, func (Fn.func fn_split_by_order) #[agg #[slice lp m lc]] #[]] h K := by
  refine F_slices_SortFunc_int_int _ _ _ _ _ _ _ _ ?_
  unfold F_slices_SortFunc_int_intT
  rw [wrap_u64_id (by omega) (by omega)]
  have g := (tab8_get ⟨n, hn⟩).2
  dsimp only at g
  refine S_len hn ⟨_, rfl, ?_⟩
  refine F_slices_pdqsortCmpFunc_int _ _ _ _ _ _ _ _ _ _ _ ?_
  unfold F_slices_pdqsortCmpFunc_intT
  refine pdq_all e0 hm I hn n 0 n _ true true d h _ (by omega) (by omega) (Nat.le_refl _) (by omega) (by omega) D (.inl rfl) fun h1 d1 D1 P1 s1 => ⟨rfl, Ret.mk (k h1 d1 D1 P1 s1)⟩
end
end Go.Proofs.Ytghdadniddoboaa
