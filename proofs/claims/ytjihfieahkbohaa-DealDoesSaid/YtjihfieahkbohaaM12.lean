import Derived.Test.YtjihfieahkbohaaM04
import Derived.Test.YtjihfieahkbohaaM11
import Derived.Test.YtjihfieahkbohaaM09
import Derived.Test.YtjihfieahkbohaaM05
import Derived.Test.YtjihfieahkbohaaM10
/- A list put in order: a permutation, sorted. -/
namespace Go.Proofs.Ytjihfieahkbohaa
open Go Go.Sy Go.Value Go.Sort
set_option linter.unusedVariables false
set_option linter.unusedSimpArgs false

section
variable {g0 : Heap} {B m n c : Nat} {sp : List Value} {left : List En} (e0 : g0 B = none) (hm : left.length = m) (I : True) (hn : n < 256)
include e0 hm I hn
theorem pdq_allE : ∀ (q a b : Nat) (limit : Int) (wb wp : Bool) (d : Array Int) (h : Heap) (K : Value → Heap → Prop), b - a ≤ q → a ≤ b → b ≤ n → 0 ≤ limit + 1000 - q → limit ≤ 1000 → DaE left g0 B m n sp h d → Below (ltOE left) a b d →
    (∀ h' d', DaE left g0 B m n sp h' d' → PermIn a b d d' → SortedIn (ltOE left) a b d' → K (tuple #[]) h') →
    L_slices_pdqsortCmpFunc_deal_entry_0 (some ⟨B, 0, none⟩) n c (a : Int) (b : Int) limit wb wp h K := by
  intro q
  induction q with
  | zero =>
    intro a b limit wb wp d h K hq hab hb hl1 hl2 D hB k
    have hz : d.size = n := D.sz
    refine L_slices_pdqsortCmpFunc_deal_entry_0r _ _ _ _ _ _ _ _ _ _ ?_
    unfold L_slices_pdqsortCmpFunc_deal_entry_0T
    have w0 : IntKind.wrap .i64 ((b : Int) - (a : Int)) = ((b - a : Nat) : Int) := by rw [widE (by omega) (by omega)]; omega
    rw [w0]
    refine Br.yes (by simp; omega) (S_insertionE e0 hm I (by omega) (by omega) hb D fun h1 D1 => ⟨rfl, Ret.mk ?_⟩)
    have := insertionSort_holds (swoOE left) d a b hab (by omega)
    exact k h1 _ D1 this.1 this.2
  | succ q ih =>
    intro a b limit wb wp d h K hq hab hb hl1 hl2 D hB k
    have hz : d.size = n := D.sz
    refine L_slices_pdqsortCmpFunc_deal_entry_0r _ _ _ _ _ _ _ _ _ _ ?_
    unfold L_slices_pdqsortCmpFunc_deal_entry_0T
    have w0 : IntKind.wrap .i64 ((b : Int) - (a : Int)) = ((b - a : Nat) : Int) := by rw [widE (by omega) (by omega)]; omega
    rw [w0]
    refine Br.dec (fun g => ?_) fun g => ?_
    · refine S_insertionE e0 hm I (by omega) (by omega) hb D fun h1 D1 => ⟨rfl, Ret.mk ?_⟩
      have := insertionSort_holds (swoOE left) d a b hab (by omega)
      exact k h1 _ D1 this.1 this.2
    refine Br.intro (fun _ => ?_) fun _ => ?_
    · refine S_heapE e0 hm I (by omega) (by omega) hb D fun h1 D1 => ⟨rfl, Ret.mk ?_⟩
      have := heapSort_holds (swoOE left) d a b hab (by omega)
      exact k h1 _ D1 this.1 this.2
    have h12 : 12 < b - a := by omega
    -- behind the patterns
    have cont : ∀ (lim : Int) (h : Heap) (d1 : Array Int), 0 ≤ lim + 1000 - q → lim ≤ 1000 → DaE left g0 B m n sp h d1 → PermIn a b d d1 → L_slices_pdqsortCmpFunc_deal_entry_1010 (some ⟨B, 0, none⟩) n c (a : Int) (b : Int) lim wb wp ((b - a : Nat) : Int) h K := by
      intro lim h d1 hl3 hl4 D1 P1
      have B1 := hB.perm (by omega) P1
      refine L_slices_pdqsortCmpFunc_deal_entry_1010r _ _ _ _ _ _ _ _ _ _ _ ?_
      unfold L_slices_pdqsortCmpFunc_deal_entry_1010T
      -- the parts
      have part : ∀ (h : Heap) (d3 : Array Int) (pivot : Nat), DaE left g0 B m n sp h d3 → PermIn a b d d3 → a ≤ pivot → pivot < b → L_slices_pdqsortCmpFunc_deal_entry_1017 (some ⟨B, 0, none⟩) n c (a : Int) (b : Int) lim wb wp ((b - a : Nat) : Int) (pivot : Int) h K := by
        intro h d3 pivot D3 P3 hp1 hp2
        have B3 := hB.perm (by omega) P3
        have hz3 : d3.size = n := D3.sz
        refine L_slices_pdqsortCmpFunc_deal_entry_1017r _ _ _ _ _ _ _ _ _ _ _ _ ?_
        unfold L_slices_pdqsortCmpFunc_deal_entry_1017T
        have ordinary : ∀ h, DaE left g0 B m n sp h d3 → CallA Try.prog fn_slices_partitionCmpFunc_deal_entry [slice (some ⟨B, 0, none⟩) n c, .int .i64 (a : Int), .int .i64 (b : Int), .int .i64 (pivot : Int), func (Fn.func fn_pdeal_Book_All_1) #[] #[]] h fun v h =>
            ∃ (x : Int), ∃ (y : Bool), v = tuple #[.int .i64 x, .bool y] ∧ Br (decide (IntKind.wrap .i64 (x - (a : Int)) < IntKind.wrap .i64 ((b : Int) - x)))
              (CallA Try.prog fn_slices_pdqsortCmpFunc_deal_entry [slice (some ⟨B, 0, none⟩) n c, .int .i64 (a : Int), .int .i64 x, .int .i64 lim, func (Fn.func fn_pdeal_Book_All_1) #[] #[]] h fun v h => v = tuple #[] ∧
                L_slices_pdqsortCmpFunc_deal_entry_0 (some ⟨B, 0, none⟩) n c (IntKind.wrap .i64 (x + 1)) (b : Int) lim (decide (IntKind.wrap .i64 (x - (a : Int)) ≥ IntKind.wrap .i64 (Int.tdiv ((b - a : Nat) : Int) 8))) y h K)
              (CallA Try.prog fn_slices_pdqsortCmpFunc_deal_entry [slice (some ⟨B, 0, none⟩) n c, .int .i64 (IntKind.wrap .i64 (x + 1)), .int .i64 (b : Int), .int .i64 lim, func (Fn.func fn_pdeal_Book_All_1) #[] #[]] h fun v h => v = tuple #[] ∧
                L_slices_pdqsortCmpFunc_deal_entry_0 (some ⟨B, 0, none⟩) n c (a : Int) x lim (decide (IntKind.wrap .i64 ((b : Int) - x) ≥ IntKind.wrap .i64 (Int.tdiv ((b - a : Nat) : Int) 8))) y h K) := by
          intro h D3
          refine S_partitionE e0 hm I (by omega) (by omega) hb hp1 hp2 D3 fun h4 D4 => ⟨_, _, rfl, ?_⟩
          generalize hx : partition (ltOE left) d3 a b pivot = r at *
          obtain ⟨mid, ap, d4⟩ := r
          obtain ⟨g1, g2, hs4, hBa, hBr, hleft, hright⟩ := round_part (swoOE left) (partition_holds (ltOE left)) hp1 hp2 (by omega) B3 hx
          dsimp only at D4 ⊢
          have w1 : IntKind.wrap .i64 ((mid : Int) - (a : Int)) = ((mid - a : Nat) : Int) := by rw [widE (by omega) (by omega)]; omega
          have w2 : IntKind.wrap .i64 ((b : Int) - (mid : Int)) = ((b - mid : Nat) : Int) := by rw [widE (by omega) (by omega)]; omega
          rw [w1, w2, wp1E (by omega)]
          refine Br.intro (fun _ => ?_) fun _ => ?_
          · refine F_slices_pdqsortCmpFunc_deal_entry _ _ _ _ _ _ _ _ ?_
            unfold F_slices_pdqsortCmpFunc_deal_entryT
            refine ih a mid lim true true d4 h4 _ (by omega) g1 (by omega) hl3 hl4 D4 hBa fun h5 d5 D5 l1 l2 => ⟨rfl, ?_⟩
            obtain ⟨hBL, hfin⟩ := hleft _ l1 l2
            refine ih (mid + 1) b lim _ ap d5 h5 _ (by omega) (by omega) hb hl3 hl4 D5 hBL fun h6 d6 D6 r1 r2 => ?_
            obtain ⟨q1, q2⟩ := hfin _ r1 r2
            exact k h6 _ D6 (permIn_trans _ _ _ a b P3 q1) q2
          · refine F_slices_pdqsortCmpFunc_deal_entry _ _ _ _ _ _ _ _ ?_
            unfold F_slices_pdqsortCmpFunc_deal_entryT
            refine ih (mid + 1) b lim true true d4 h4 _ (by omega) (by omega) hb hl3 hl4 D4 hBr fun h5 d5 D5 l1 l2 => ⟨rfl, ?_⟩
            obtain ⟨hBL, hfin⟩ := hright _ l1 l2
            refine ih a mid lim _ ap d5 h5 _ (by omega) g1 (by omega) hl3 hl4 D5 hBL fun h6 d6 D6 r1 r2 => ?_
            obtain ⟨q1, q2⟩ := hfin _ r1 r2
            exact k h6 _ D6 (permIn_trans _ _ _ a b P3 q1) q2
        refine Br.dec (fun ga => ?_) fun ga => ordinary h D3
        have w1 : IntKind.wrap .i64 ((a : Int) - 1) = ((a - 1 : Nat) : Int) := by rw [widE (by omega) (by omega)]; omega
        rw [w1]
        refine lessNE D3 hm I rfl rfl (by omega) (by omega) fun h' D' => Br.intro (fun g2 => ?_) fun g2 => ordinary h' D'
        refine S_partitionEqualE e0 hm I (by omega) (by omega) hb hp1 hp2 D' fun h4 D4 => ⟨_, rfl, ?_⟩
        generalize hx : partitionEqual (ltOE left) d3 a b pivot = r at *
        obtain ⟨mid, d4⟩ := r
        obtain ⟨m1, m2, hs4, hB4, hfin⟩ := round_eq (swoOE left) (partitionEqual_holds (lt := ltOE left)) (by omega) hp1 hp2 (by omega) B3 (by simpa using g2) hx
        dsimp only at D4 ⊢
        refine ih mid b lim wb wp d4 h4 _ (by omega) m2 hb hl3 hl4 D4 hB4 fun h6 d6 D6 r1 r2 => ?_
        obtain ⟨q1, q2⟩ := hfin _ r1 r2
        exact k h6 _ D6 (permIn_trans _ _ _ a b P3 q1) q2
      -- few steps
      have few : ∀ (h : Heap) (d2 : Array Int) (pivot : Nat) (hint : Int), DaE left g0 B m n sp h d2 → PermIn a b d d2 → a ≤ pivot → pivot < b → L_slices_pdqsortCmpFunc_deal_entry_1015 (some ⟨B, 0, none⟩) n c (a : Int) (b : Int) lim wb wp ((b - a : Nat) : Int) (pivot : Int) hint h K := by
        intro h d2 pivot hint D2 P2 hp1 hp2
        have B2 := hB.perm (by omega) P2
        have hz2 : d2.size = n := D2.sz
        refine L_slices_pdqsortCmpFunc_deal_entry_1015r _ _ _ _ _ _ _ _ _ _ _ _ _ ?_
        unfold L_slices_pdqsortCmpFunc_deal_entry_1015T
        refine Br.intro (fun _ => Br.intro (fun _ => Br.intro (fun _ => ?_) fun _ => part h d2 pivot D2 P2 hp1 hp2) fun _ => part h d2 pivot D2 P2 hp1 hp2) fun _ => part h d2 pivot D2 P2 hp1 hp2
        have s := partialInsertionSort_holds (swoOE left) d2 a b (by omega) (by omega) B2
        refine S_fewE e0 hm I (by omega) (by omega) hb D2 fun h3 D3 => ⟨_, rfl, Br.intro (fun g => Ret.mk ?_) fun g => ?_⟩
        · exact k h3 _ D3 (permIn_trans _ _ _ a b P2 s.1) (s.2 g)
        · exact part h3 _ pivot D3 (permIn_trans _ _ _ a b P2 s.1) hp1 hp2
      refine S_pivotE hm I (by omega) h12 hb D1 fun h2 x hint D2 hx1 hx2 => ⟨_, _, rfl, Br.intro (fun _ => ?_) fun _ => few h2 d1 x hint D2 P1 hx1 hx2⟩
      refine S_reverseE e0 (by omega) (by omega) hb D2 fun h3 D3 => ⟨rfl, ?_⟩
      have s := reverseRange_holds d1 a b hab (by have := D1.sz; omega)
      have w1 : IntKind.wrap .i64 ((b : Int) - 1) = ((b - 1 : Nat) : Int) := by rw [widE (by omega) (by omega)]; omega
      have w2 : IntKind.wrap .i64 ((x : Int) - (a : Int)) = ((x - a : Nat) : Int) := by rw [widE (by omega) (by omega)]; omega
      have w3 : IntKind.wrap .i64 (((b - 1 : Nat) : Int) - ((x - a : Nat) : Int)) = ((b - 1 - (x - a) : Nat) : Int) := by rw [widE (by omega) (by omega)]; omega
      rw [w1, w2, w3]
      exact few h3 _ _ 1 D3 (permIn_trans _ _ _ a b P1 s) (by omega) (by omega)
    refine Br.intro (fun _ => ?_) fun _ => cont limit h d (by omega) hl2 D (permIn_refl d a b)
    refine S_breakE e0 (by omega) (by omega) (by omega) hb D fun h1 d1 D1 P1 => ⟨rfl, ?_⟩
    rw [widE (x := limit - 1) (by omega) (by omega)]
    exact cont _ h1 d1 (by omega) (by omega) D1 P1
theorem S_sortFuncE {h : Heap} {d : Array Int} {K : Value → Heap → Prop} (D : DaE left g0 B m n sp h d)
    (k : ∀ h' d', DaE left g0 B m n sp h' d' → PermIn 0 n d d' → SortedIn (ltOE left) 0 n d' → K (tuple #[]) h') :
    CallA Try.prog fn_slices_SortFunc_deal_entry_deal_entry [slice (some ⟨B, 0, none⟩) n c, func (Fn.func fn_pdeal_Book_All_1) #[] #[]] h K := by
  refine F_slices_SortFunc_deal_entry_deal_entry _ _ _ _ _ ?_
  unfold F_slices_SortFunc_deal_entry_deal_entryT
  rw [wrap_u64_id (by omega) (by omega)]
  have g := (tab8_getE ⟨n, hn⟩).2
  dsimp only at g
  refine S_lenE hn ⟨_, rfl, ?_⟩
  refine F_slices_pdqsortCmpFunc_deal_entry _ _ _ _ _ _ _ _ ?_
  unfold F_slices_pdqsortCmpFunc_deal_entryT
  refine pdq_allE e0 hm I hn n 0 n _ true true d h _ (by omega) (by omega) (Nat.le_refl _) (by omega) (by omega) D (.inl rfl) fun h1 d1 D1 P1 s1 => ⟨rfl, Ret.mk (k h1 d1 D1 P1 s1)⟩
end
end Go.Proofs.Ytjihfieahkbohaa

/- A book of instructions: all of a member let go, all of a state told. -/
namespace Go.Proofs.Ytjihfieahkbohaa
open Go Go.Sy Go.Value Go.Sort
set_option linter.unusedVariables false
set_option linter.unusedSimpArgs false

section
variable {h0 h : Heap} {K : Value → Heap → Prop} {p : Nat} {S : Bk} {lp : Option Addr} {c mr : Nat}
theorem w1d {j : Nat} (h : j ≤ 4000000) : IntKind.wrap .i64 ((j : Int) + 1) = ((j + 1 : Nat) : Int) := by rw [wrap_i64_id (by omega) (by omega)]; omega
/-! all of a member -/
def remPart (m : Int) (L : List En) (j : Nat) : List En := remL m (L.take j) ++ L.drop j
theorem remPart_0 (m : Int) (L : List En) : remPart m L 0 = L := rfl
theorem remPart_end (m : Int) (L : List En) : remPart m L L.length = remL m L := by unfold remPart; rw [List.take_length, List.drop_length, List.append_nil]
theorem remPart_get {m : Int} {L : List En} {j : Nat} (hj : j < L.length) : (remPart m L j)[j]? = some L[j] := by
  unfold remPart remL
  rw [List.getElem?_append_right (by rw [List.length_map, List.length_take]; omega), List.length_map, List.length_take, Nat.min_eq_left (by omega), Nat.sub_self, List.getElem?_drop, List.getElem?_eq_getElem (by omega)]
  rfl
theorem remPart_len (m : Int) (L : List En) (j : Nat) : (remPart m L j).length = L.length := by
  unfold remPart remL
  rw [List.length_append, List.length_map, List.length_take, List.length_drop]; omega
theorem remPart_succ {m : Int} {L : List En} {j : Nat} (hj : j < L.length) : remPart m L (j + 1) = (remPart m L j).set j (goneE m L[j]) := by
  unfold remPart remL
  rw [List.take_succ_eq_append_getElem hj, List.map_append, List.map_cons, List.map_nil, List.drop_eq_getElem_cons hj]
  have hl : ((L.take j).map (goneE m)).length = j := by rw [List.length_map, List.length_take]; omega
  rw [List.set_append_right _ _ (by omega), hl, Nat.sub_self, List.set_cons_zero, List.append_assoc]; rfl
theorem remO_succ {m : Int} {L : List En} {j : Nat} (hj : j < L.length) : remO m (L.take (j + 1)) = if hitE m L[j] = true then remO m (L.take j) ++ [L[j].d.id] else remO m (L.take j) := by
  unfold remO
  rw [List.take_succ_eq_append_getElem hj, List.filter_append, List.map_append]
  split
  · rename_i g
    rw [List.filter_cons_of_pos g]; rfl
  · rename_i g
    rw [List.filter_cons_of_neg g]; simp
theorem Bk.Ok.part {m : Int} (ok : S.Ok) : ∀ (j : Nat), j ≤ S.L.length → ({ S with L := remPart m S.L j } : Bk).Ok
  | 0, _ => ok
  | j + 1, hj => by
    have o := Bk.Ok.part (m := m) ok j (by omega)
    have hx := remPart_get (m := m) (L := S.L) (j := j) (by omega)
    rw [remPart_succ (by omega)]
    refine o.chg (i := j) (x := S.L[j]) (y := goneE m S.L[j]) hx ?_ ?_ ?_
    · unfold goneE; split <;> rfl
    · unfold goneE; split <;> rfl
    · have hc := ok.could _ (List.getElem_mem (show j < S.L.length by omega))
      unfold goneE
      split
      · unfold couldE at hc ⊢
        dsimp only
        omega
      · exact hc
theorem rem_0 {m : Int} {n : Nat} (ok : S.Ok) (hn : S.L.length = n) (k : ∀ h' q c', PB h' p (removeM S m).2 → Ints .i64 h' q (remO m S.L) → K (slice q (remO m S.L).length c') h') :
    ∀ (q j : Nat) (h : Heap) (l : Option Addr) (lc : Nat), q + j = n → PBk h p { S with L := remPart m S.L j } lp c mr → OwnL nulH h [.int .i64 0] l lc (intsV .i64 (remO m (S.L.take j))) →
      l ≠ some ⟨p, 0, none⟩ → (∀ r, lp = some ⟨r, 0, none⟩ → l ≠ some ⟨r, 0, none⟩) →
    L_pdeal_Book_Remove_0 (some ⟨p, 0, none⟩) m l (remO m (S.L.take j)).length lc (n : Int) (j : Int) h K := by
  have hn2 := ok.n
  intro q
  induction q with
  | zero =>
    intro j h l lc hj B ol n1 n2
    refine L_pdeal_Book_Remove_0r _ _ _ _ _ _ _ _ _ ?_
    unfold L_pdeal_Book_Remove_0T
    have hj : j = S.L.length := by omega
    subst hj
    rw [remPart_end] at B
    rw [List.take_length] at ol ⊢
    refine Br.no (by simp; omega) (Ret.mk (k h l lc ⟨?_, lp, c, mr, B⟩ ol.rd))
    have := ok.part (m := m) S.L.length (Nat.le_refl _)
    rw [remPart_end] at this
    exact this
  | succ q ih =>
    intro j h l lc hj B ol n1 n2
    refine L_pdeal_Book_Remove_0r _ _ _ _ _ _ _ _ _ ?_
    unfold L_pdeal_Book_Remove_0T
    have hjl : j < S.L.length := by omega
    have hx := remPart_get (m := m) hjl
    obtain ⟨r, sp, hr, a, hne, hc⟩ := B.row hx
    have e : 0 + ((j : Nat) : Int).toNat * 10 = j * 10 := by rw [Int.toNat_natCast, Nat.zero_add]
    have hln : ((remPart m S.L j).length : Int) = (n : Int) := by rw [remPart_len, hn]
    have hl := remO_succ (m := m) hjl
    have hs := remPart_succ (m := m) hjl
    have hro : (remO m (S.L.take j)).length ≤ 200 := by
      unfold remO
      rw [List.length_map]
      have := List.length_filter_le (hitE m) (S.L.take j)
      rw [List.length_take] at this
      omega
    -- not let go
    have skip : hitE m S.L[j] = false → L_pdeal_Book_Remove_0 (some ⟨p, 0, none⟩) m l (remO m (S.L.take j)).length lc (n : Int) (IntKind.wrap .i64 ((j : Int) + 1)) h K := fun g => by
      rw [w1d (by omega)]
      have eg : goneE m S.L[j] = S.L[j] := by unfold goneE; rw [if_neg (by rw [g]; decide)]
      rw [eg] at hs
      have e2 : (remPart m S.L j).set j S.L[j] = remPart m S.L j := by
        refine List.ext_getElem? fun i => ?_
        rw [List.getElem?_set]
        split
        · rename_i gi
          subst gi
          rw [if_pos (by rw [remPart_len]; exact hjl), hx]
        · rfl
      rw [e2] at hs
      rw [if_neg (by rw [g]; decide)] at hl
      have := ih (j + 1) h l lc (by omega) (by rw [hs]; exact B) (by rw [hl]; exact ol) n1 n2
      rw [hl] at this
      exact this
    -- let go
    have take : hitE m S.L[j] = true → h.canSt r (j * 10 + 7) 1 ∧ ∃ (n_1 : Int), (h.setN r (j * 10 + 7) [.int .i64 4]).cell r (j * 10) = some (.int .i64 n_1) ∧ newB (h.setN r (j * 10 + 7) [.int .i64 4]) [.int .i64 n_1] 3 fun (r : Nat) (h : Heap) =>
        AppA [.int .i64 0] 3 h l (remO m (S.L.take j)).length lc 1 (some { block := r, off := 0 }) fun (ap : Option Addr) (cp : Nat) (h : Heap) => L_pdeal_Book_Remove_0 (some ⟨p, 0, none⟩) m ap ((remO m (S.L.take j)).length + 1) cp (n : Int) (IntKind.wrap .i64 ((j : Int) + 1)) h K := fun g => by
      rw [w1d (by omega)]
      have eg : goneE m S.L[j] = { S.L[j] with st := 4 } := by unfold goneE; rw [if_pos g]
      rw [eg] at hs
      rw [if_pos g] at hl
      have B1 := B.wr (o := 7) (y := { S.L[j] with st := 4 }) (ws := [.int .i64 4]) hx hr (by simp) rfl rfl
      dsimp only at B1
      rw [← hs] at B1
      have hx1 : (remPart m S.L (j + 1))[j]? = some { S.L[j] with st := 4 } := by rw [hs, List.getElem?_set_self (by rw [remPart_len]; exact hjl)]
      obtain ⟨r1, sp1, e1, a1, hne1, hc1⟩ := B1.row hx1
      rw [hr] at e1
      have e1 : r = r1 := by simpa using e1
      subst e1
      refine ⟨B.can hx hr (by decide), _, hc1 0 (by decide), ?_⟩
      have ol1 := ol.set_ne (o := j * 10 + 7) (ws := [.int .i64 4]) (n2 r hr)
      refine push1 ol1 (by decide) (nulH_le _) (by omega) rfl rfl (by rw [intsV_length]; simp) fun r4 h4 p' c' h5 hr4 l4 _ ol5 keep how => ?_
      have B5 := (B1.le l4).keep keep n1 n2 (OwnL.neM (ol1.le l4) (B1.mp.le l4))
      have := ih (j + 1) h5 p' c' (by omega) B5 (by rw [hl, intsV_append]; exact ol5) (push_ne how (B1.ap.le l4) n1) fun r' hr' => by
        rw [hr] at hr'
        have hr' : r = r' := by simpa using hr'
        subst hr'
        exact push_ne how (a1.le l4) (n2 r hr)
      rw [hl, List.length_append] at this
      exact this
    refine Br.yes (decide_eq_true (by omega)) (withAddr_intro rfl ⟨_, _, _, B.ap.cell rfl, by omega, by rw [hln]; omega, withAddr_intro hr ?_⟩)
    rw [e]
    refine ⟨_, hc 7 (by decide), Br.dec (fun g1 => ⟨_, hc 1 (by decide), Br.intro (fun g2 => ?_) fun g2 => ⟨_, hc 2 (by decide), Br.intro (fun g3 => ?_) fun g3 => ?_⟩⟩) fun g1 => ?_⟩
    · exact take (decide_eq_true ⟨g1, .inl (by simpa using g2)⟩)
    · exact take (decide_eq_true ⟨g1, .inr (by simpa using g3)⟩)
    · refine skip (decide_eq_false fun x => ?_)
      rcases x.2 with x | x
      · simp [x] at g2
      · simp [x] at g3
    · exact skip (decide_eq_false fun x => g1 x.1)
theorem S_Remove (P : PB h p S) {m : Int} (k : ∀ h' q c', PB h' p (removeM S m).2 → Ints .i64 h' q (remO m S.L) → K (slice q (remO m S.L).length c') h') :
    CallA Try.prog fn_pdeal_Book_Remove [pointer (some ⟨p, 0, none⟩), .int .i64 m] h K := by
  obtain ⟨ok, lp, c, mr, B⟩ := P
  refine F_pdeal_Book_Remove _ _ _ _ ?_
  unfold F_pdeal_Book_RemoveT
  refine withAddr_intro rfl ⟨_, _, _, B.ap.cell rfl, ?_⟩
  have := rem_0 (lp := lp) (c := c) (mr := mr) (m := m) ok rfl k S.L.length 0 h none 0 (by omega) (by rw [remPart_0]; exact B) (.nil _ _ _) (fun e => by cases e) (fun _ _ e => by cases e)
  exact this
/-! all of a state -/
def ofS (s : Int) (L : List En) : List En := L.filter fun x => decide (x.st = s)
theorem ofS_succ {s : Int} {L : List En} {j : Nat} (hj : j < L.length) : ofS s (L.take (j + 1)) = if L[j].st = s then ofS s (L.take j) ++ [L[j]] else ofS s (L.take j) := by
  unfold ofS
  rw [List.take_succ_eq_append_getElem hj, List.filter_append]
  split
  · rename_i g
    rw [List.filter_cons_of_pos (by simpa using g)]; rfl
  · rename_i g
    rw [List.filter_cons_of_neg (by simpa using g)]; simp
theorem ofS_len (s : Int) (L : List En) : (ofS s L).length ≤ L.length := List.length_filter_le _ _
theorem all_1 {F : List En} {n fc : Nat} {fp : Option Addr} (hF : F.length = n) (hn : n ≤ 200) (A : Arr eV h0 fp F) (k : ∀ h' q c', h0.le h' → Ints .i64 h' q (F.map fun x => x.d.id) → K (slice q n c') h') :
    ∀ (m j : Nat) (h : Heap) (out : Option Addr) (oc : Nat), m + j = n → h0.le h → OwnL h0 h [.int .i64 0] out oc (intsV .i64 ((F.take j).map fun x => x.d.id)) → L_pdeal_Book_All_1 out j oc fp n fc (n : Int) (j : Int) h K := by
  intro m
  induction m with
  | zero =>
    intro j h out oc hj l0 ol
    refine L_pdeal_Book_All_1r _ _ _ _ _ _ _ _ _ _ ?_
    unfold L_pdeal_Book_All_1T
    have hj : j = n := by omega
    subst hj
    rw [List.take_of_length_le (by omega)] at ol
    exact Br.no (by simp) (Ret.mk (k h out oc l0 ol.rd))
  | succ m ih =>
    intro j h out oc hj l0 ol
    refine L_pdeal_Book_All_1r _ _ _ _ _ _ _ _ _ _ ?_
    unfold L_pdeal_Book_All_1T
    have hjl : j < F.length := by omega
    refine Br.yes (decide_eq_true (by omega)) (ax eV_len (A.le l0) hF rfl (List.getElem?_eq_getElem hjl) (by decide) fun b o hb hc => ?_)
    refine ⟨_, hc 0 (by decide), _, hc 1 (by decide), _, hc 2 (by decide), _, hc 3 (by decide), _, hc 4 (by decide), _, hc 5 (by decide), _, hc 6 (by decide), _, hc 7 (by decide), _, hc 8 (by decide), _, hc 9 (by decide), newB_cp (vs := eV F[j]) rfl fun r h1 hr l1 A1 cs => ⟨cs, _, A1.cell rfl, ?_⟩⟩
    refine push1 (ol.le l1) (by decide) (Heap.le_trans l0 l1) (by omega) rfl rfl (by rw [intsV_length, List.length_map, List.length_take]; simp; omega) fun r4 h4 p' c' h5 hr4 l4 l5 ol5 keep how => ?_
    rw [w1d (by omega)]
    refine ih (j + 1) h5 p' c' (by omega) l5 ?_
    rw [List.take_succ_eq_append_getElem hjl, List.map_append, intsV_append]
    exact ol5
theorem S_sortNilE (k : K (tuple #[]) h) : CallA Try.prog fn_slices_SortFunc_deal_entry_deal_entry [slice none 0 0, func (Fn.func fn_pdeal_Book_All_1) #[] #[]] h K := by
  refine F_slices_SortFunc_deal_entry_deal_entry _ _ _ _ _ ?_
  unfold F_slices_SortFunc_deal_entry_deal_entryT
  rw [show IntKind.wrap .u64 ((0 : Nat) : Int) = ((0 : Nat) : Int) from rfl]
  refine S_lenE (x := 0) (by decide) ⟨_, rfl, ?_⟩
  refine F_slices_pdqsortCmpFunc_deal_entry _ _ _ _ _ _ _ _ ?_
  unfold F_slices_pdqsortCmpFunc_deal_entryT
  refine L_slices_pdqsortCmpFunc_deal_entry_0r _ _ _ _ _ _ _ _ _ _ ?_
  unfold L_slices_pdqsortCmpFunc_deal_entry_0T
  refine Br.yes (by decide) ?_
  refine F_slices_insertionSortCmpFunc_deal_entry _ _ _ _ _ _ _ ?_
  unfold F_slices_insertionSortCmpFunc_deal_entryT
  refine L_slices_insertionSortCmpFunc_deal_entry_0r _ _ _ _ _ _ _ _ ?_
  unfold L_slices_insertionSortCmpFunc_deal_entry_0T
  exact Br.no (by decide) (Ret.mk ⟨rfl, Ret.mk ⟨rfl, Ret.mk k⟩⟩)
theorem all_0 {s : Int} {n lc : Nat} (ok : S.Ok) (hn : S.L.length = n) (A : Arr eV h0 lp S.L) (k : ∀ h' q c', h0.le h' → Ints .i64 h' q (allM S s) → K (slice q (allM S s).length c') h') :
    ∀ (m j : Nat) (h : Heap) (l : Option Addr) (c : Nat), m + j = n → h0.le h → OwnL h0 h z10 l c ((ofS s (S.L.take j)).flatMap eV) → L_pdeal_Book_All_0 s l (ofS s (S.L.take j)).length c lp n lc (n : Int) (j : Int) h K := by
  have hn2 := ok.n
  intro m
  induction m with
  | zero =>
    intro j h l c hj l0 ol
    refine L_pdeal_Book_All_0r _ _ _ _ _ _ _ _ _ _ _ ?_
    unfold L_pdeal_Book_All_0T
    have hj : j = S.L.length := by omega
    subst hj
    rw [List.take_length] at ol ⊢
    have hF := ofS_len s S.L
    refine Br.no (by simp; omega) (Br.intro (fun g => ?_) fun g => ?_)
    · have g : s = 2 := by simpa using g
      subst g
      rcases ol with ⟨e1, rfl, rfl⟩ | ⟨B, sp, rfl, e0, a, ek⟩
      · have e1 : ofS 2 S.L = [] := by
          have := congrArg List.length e1
          rw [arr_len eV_len, List.length_nil] at this
          exact List.length_eq_zero_iff.1 (by omega)
        rw [e1]
        refine S_sortNilE ⟨rfl, ?_⟩
        have e2 : allM S 2 = [] := (all_sorted ok (d := []) (by rw [show (S.L.filter fun x => decide (x.st = 2)) = [] from e1]) .nil).symm
        rw [e2] at k
        exact all_1 (F := []) rfl (Nat.zero_le _) (.inl rfl) (fun h' q c' l' I => k h' q c' (Heap.le_trans l0 l') I) 0 0 h none 0 rfl (Heap.le_refl _) (.nil _ _ _)
      · refine S_sortFuncE (left := ofS 2 S.L) (g0 := h0) (m := (ofS 2 S.L).length) (d := (iota (ofS 2 S.L).length).toArray) (sp := sp) e0 rfl trivial (by omega) ⟨l0, ?_, by simp [iota_len], rfl⟩ fun h' d' D' hp hs => ⟨rfl, ?_⟩
        · have := lstI_iota (ofS 2 S.L)
          rw [show (iota (ofS 2 S.L).length).toArray.toList = iota (ofS 2 S.L).length from rfl, this]
          exact a
        · obtain ⟨q1, q2⟩ := sort_list rfl hp hs
          have e2 := all_sorted ok q1 q2
          rw [← e2, List.length_map] at k
          have hl : (lstI (ofS 2 S.L) d'.toList).length = (ofS 2 S.L).length := q1.length_eq
          rw [hl] at k
          exact all_1 hl (by omega) (D'.at_.toRd) (fun h2 q c' l' I => k h2 q c' (Heap.le_trans D'.le l') I) (ofS 2 S.L).length 0 h' none 0 (by omega) (Heap.le_refl _) (.nil _ _ _)
    · have g : s ≠ 2 := by simpa using g
      have e2 : allM S s = (ofS s S.L).map fun x => x.d.id := by unfold allM; rw [if_neg g]; rfl
      rw [e2, List.length_map] at k
      exact all_1 (F := ofS s S.L) rfl (by omega) ol.rd (fun h' q c' l' I => k h' q c' (Heap.le_trans l0 l') I) (ofS s S.L).length 0 h none 0 (by omega) (Heap.le_refl _) (.nil _ _ _)
  | succ m ih =>
    intro j h l c hj l0 ol
    refine L_pdeal_Book_All_0r _ _ _ _ _ _ _ _ _ _ _ ?_
    unfold L_pdeal_Book_All_0T
    have hjl : j < S.L.length := by omega
    have hl := ofS_succ (s := s) hjl
    have hF := ofS_len s (S.L.take j)
    rw [List.length_take] at hF
    refine Br.yes (decide_eq_true (by omega)) (ax eV_len (A.le l0) hn rfl (List.getElem?_eq_getElem hjl) (by decide) fun b o hb hc => ?_)
    refine ⟨_, hc 0 (by decide), _, hc 1 (by decide), _, hc 2 (by decide), _, hc 3 (by decide), _, hc 4 (by decide), _, hc 5 (by decide), _, hc 6 (by decide), _, hc 7 (by decide), _, hc 8 (by decide), _, hc 9 (by decide), newB_cp (vs := eV S.L[j]) rfl fun r h1 hr l1 A1 cs => ⟨cs, _, A1.cell rfl, Br.intro (fun g => ?_) fun g => ?_⟩⟩
    · rw [if_pos (by simpa using g)] at hl
      refine ⟨_, A1.cell rfl, _, A1.cell rfl, _, A1.cell rfl, _, A1.cell rfl, _, A1.cell rfl, _, A1.cell rfl, _, A1.cell rfl, _, A1.cell rfl, _, A1.cell rfl, _, A1.cell rfl, ?_⟩
      refine push1 (ol.le l1) (by decide) (Heap.le_trans l0 l1) (by omega) rfl rfl (by rw [arr_len eV_len]; rfl) fun r4 h4 p' c' h5 hr4 l4 l5 ol5 keep how => ?_
      rw [w1d (by omega)]
      have := ih (j + 1) h5 p' c' (by omega) l5 (by rw [hl, List.flatMap_append, List.flatMap_cons, List.flatMap_nil, List.append_nil]; exact ol5)
      rw [hl, List.length_append] at this
      exact this
    · rw [if_neg (by simpa using g)] at hl
      rw [w1d (by omega)]
      have := ih (j + 1) _ l c (by omega) (Heap.le_trans l0 l1) (by rw [hl]; exact ol.le l1)
      rw [hl] at this
      exact this
theorem S_All (P : PB h p S) {s : Int} (k : ∀ h' q c', h.le h' → Ints .i64 h' q (allM S s) → K (slice q (allM S s).length c') h') : CallA Try.prog fn_pdeal_Book_All [pointer (some ⟨p, 0, none⟩), .int .i64 s] h K := by
  obtain ⟨ok, lp, c, mr, B⟩ := P
  refine F_pdeal_Book_All _ _ _ _ ?_
  unfold F_pdeal_Book_AllT
  refine withAddr_intro rfl ⟨_, _, _, B.ap.cell rfl, ?_⟩
  exact all_0 ok rfl B.arr k S.L.length 0 h none 0 (by omega) (Heap.le_refl _) (.nil _ _ _)
end
end Go.Proofs.Ytjihfieahkbohaa

/- The reference's book of instructions: rescinded, removed from, told. -/
namespace Go.Proofs.Ytjihfieahkbohaa
open Go Go.Sy Go.Value
set_option linter.unusedVariables false
set_option linter.unusedSimpArgs false

section
variable {H : Heap} {K : Value → Heap → Prop} {q r i : Nat} {S : Bk} {lp : Option Addr} {c : Nat} {x : En}
/-- whether both asked -/
theorem res_tail {w : Int} (ok : S.Ok) (B : RBk H q S lp c) (hx : S.L[i]? = some x) (h2 : x.st = 2) (hask : 0 ≤ x.ask + w ∧ x.ask + w ≤ 3) (hb : (byA { x with ask := x.ask + w } && byB { x with ask := x.ask + w }) = decide (x.ask + w = 3))
    (A : At H r (rV { x with ask := x.ask + w })) (n2 : q ≠ r) (m2 : lp ≠ some ⟨r, 0, none⟩)
    (k1 : x.ask + w = 3 → ∀ h', RB h' q { S with L := S.L.set i { x with st := 4, ask := 3 } } → K (tuple #[.int .i64 4, .int .i64 0]) h')
    (k2 : x.ask + w ≠ 3 → ∀ h', RB h' q { S with L := S.L.set i { x with ask := x.ask + w } } → K (tuple #[.int .i64 x.st, .int .i64 0]) h') :
    ∃ (b6 : Bool), H.cell r 8 = some (.bool b6) ∧ Br b6 (∃ (b7 : Bool), H.cell r 9 = some (.bool b7) ∧ Br b7
      (H.canSt r 7 1 ∧ LdR11 (H.setN r 7 [.int .i64 4]) r 0 fun x0 x1 x2 x3 x4 x5 x6 x7 x8 x9 x10 => CallA Try.prog fn_pref11_Book_set [pointer (some ⟨q, 0, none⟩), .int .i64 (i : Int), agg #[.int .i64 x0, .int .i64 x1, .int .i64 x2, .int .i64 x3, .int .i64 x4, .int .i64 x5, .int .i64 x6, .int .i64 x7, .bool x8, .bool x9, .int .i64 x10]] (H.setN r 7 [.int .i64 4]) fun v h => v = tuple #[] ∧ ∃ (n : Int), h.cell r 7 = some (.int .i64 n) ∧ Ret h K (tuple #[.int .i64 n, .int .i64 0]))
      (LdR11 H r 0 fun x0 x1 x2 x3 x4 x5 x6 x7 x8 x9 x10 => CallA Try.prog fn_pref11_Book_set [pointer (some ⟨q, 0, none⟩), .int .i64 (i : Int), agg #[.int .i64 x0, .int .i64 x1, .int .i64 x2, .int .i64 x3, .int .i64 x4, .int .i64 x5, .int .i64 x6, .int .i64 x7, .bool x8, .bool x9, .int .i64 x10]] H fun v h => v = tuple #[] ∧ ∃ (n : Int), h.cell r 7 = some (.int .i64 n) ∧ Ret h K (tuple #[.int .i64 n, .int .i64 0]))) (LdR11 H r 0 fun x0 x1 x2 x3 x4 x5 x6 x7 x8 x9 x10 => CallA Try.prog fn_pref11_Book_set [pointer (some ⟨q, 0, none⟩), .int .i64 (i : Int), agg #[.int .i64 x0, .int .i64 x1, .int .i64 x2, .int .i64 x3, .int .i64 x4, .int .i64 x5, .int .i64 x6, .int .i64 x7, .bool x8, .bool x9, .int .i64 x10]] H fun v h => v = tuple #[] ∧ ∃ (n : Int), h.cell r 7 = some (.int .i64 n) ∧ Ret h K (tuple #[.int .i64 n, .int .i64 0])) := by
  have hn := ok.n
  have hcx := ok.could x (List.mem_of_getElem? hx)
  have two : x.ask + w ≠ 3 → LdR11 H r 0 fun x0 x1 x2 x3 x4 x5 x6 x7 x8 x9 x10 => CallA Try.prog fn_pref11_Book_set [pointer (some ⟨q, 0, none⟩), .int .i64 (i : Int), agg #[.int .i64 x0, .int .i64 x1, .int .i64 x2, .int .i64 x3, .int .i64 x4, .int .i64 x5, .int .i64 x6, .int .i64 x7, .bool x8, .bool x9, .int .i64 x10]] H fun v h => v = tuple #[] ∧ ∃ (n : Int), h.cell r 7 = some (.int .i64 n) ∧ Ret h K (tuple #[.int .i64 n, .int .i64 0]) := fun g => by
    refine ⟨_, A.cell rfl, _, A.cell rfl, _, A.cell rfl, _, A.cell rfl, _, A.cell rfl, _, A.cell rfl, _, A.cell rfl, _, A.cell rfl, _, A.cell rfl, _, A.cell rfl, _, A.cell rfl, ?_⟩
    refine S_Rset (y := { x with ask := x.ask + w }) B hx (by omega) fun h' lp' c' B6 fr => ⟨rfl, _, (fr _ _ A (Ne.symm n2)).1.cell rfl, Ret.mk (k2 g _ ⟨?_, lp', c', B6⟩)⟩
    refine ok.chg hx rfl rfl (.inr (.inl ⟨.inl h2, ?_⟩))
    unfold couldE at hcx
    dsimp only
    omega
  refine ⟨_, A.cell rfl, Br.intro (fun g6 => ⟨_, A.cell rfl, Br.intro (fun g7 => ?_) fun g7 => ?_⟩) fun g6 => ?_⟩
  · rw [g6, g7] at hb
    have g : x.ask + w = 3 := of_decide_eq_true hb.symm
    have A4 := A.set (o := 7) (ws := [.int .i64 4])
    have B4 := B.oth (o := 7) (ws := [.int .i64 4]) n2 m2
    refine ⟨A.canSt (by rw [rV_len]; omega), _, A4.cell rfl, _, A4.cell rfl, _, A4.cell rfl, _, A4.cell rfl, _, A4.cell rfl, _, A4.cell rfl, _, A4.cell rfl, _, A4.cell rfl, _, A4.cell rfl, _, A4.cell rfl, _, A4.cell rfl, ?_⟩
    refine S_Rset (y := { x with ask := x.ask + w, st := 4 }) B4 hx (by omega) fun h' lp' c' B6 fr => ⟨rfl, _, (fr _ _ A4 (Ne.symm n2)).1.cell rfl, Ret.mk (k1 g _ ⟨?_, lp', c', ?_⟩)⟩
    · refine ok.chg hx rfl rfl (.inr (.inr ⟨rfl, ?_⟩))
      unfold couldE at hcx
      dsimp only
      omega
    · rw [g] at B6; exact B6
  · rw [g6, g7] at hb
    exact two (of_decide_eq_false hb.symm)
  · rw [g6, Bool.false_and] at hb
    exact two (of_decide_eq_false hb.symm)
theorem by_a {x : En} (h : 0 ≤ x.ask ∧ x.ask ≤ 3) (g : byA x = false) : x.ask % 2 = 0 ∧ rV { x with ask := x.ask + 1 } = setL (rV x) 8 [.bool true] ∧ (byA { x with ask := x.ask + 1 } && byB { x with ask := x.ask + 1 }) = decide (x.ask + 1 = 3) := by
  obtain ⟨d, st, ask, ord⟩ := x
  dsimp only at h
  have : ask = 0 ∨ ask = 1 ∨ ask = 2 ∨ ask = 3 := by omega
  rcases this with rfl | rfl | rfl | rfl
  · exact ⟨rfl, rfl, rfl⟩
  · cases g
  · exact ⟨rfl, rfl, rfl⟩
  · cases g
theorem by_b {x : En} (h : 0 ≤ x.ask ∧ x.ask ≤ 3) (g : byB x = false) : x.ask / 2 = 0 ∧ rV { x with ask := x.ask + 2 } = setL (rV x) 9 [.bool true] ∧ (byA { x with ask := x.ask + 2 } && byB { x with ask := x.ask + 2 }) = decide (x.ask + 2 = 3) := by
  obtain ⟨d, st, ask, ord⟩ := x
  dsimp only at h
  have : ask = 0 ∨ ask = 1 ∨ ask = 2 ∨ ask = 3 := by omega
  rcases this with rfl | rfl | rfl | rfl
  · exact ⟨rfl, rfl, rfl⟩
  · exact ⟨rfl, rfl, rfl⟩
  · cases g
  · cases g
/-- behind who it is -/
theorem res_main {m id : Int} (ok : S.Ok) (B : RBk H q S lp c) (hx : S.L[i]? = some x) (hp : posE id S.L = some i) (A : At H r (rV x)) (n2 : q ≠ r) (m2 : lp ≠ some ⟨r, 0, none⟩) (hw : whoE x m ≠ 0)
    (k : ∀ h', RB h' q (rescindM S m id).2.2 → K (tuple #[.int .i64 (rescindM S m id).1, .int .i64 (rescindM S m id).2.1]) h') :
    ∃ (n : Int), H.cell r 7 = some (.int .i64 n) ∧ Br (n == 3) (Ret H K (tuple #[.int .i64 0, .int .i64 7])) (∃ (n : Int), H.cell r 7 = some (.int .i64 n) ∧ Br (n == 4) (Ret H K (tuple #[.int .i64 0, .int .i64 7])) (∃ (n : Int), H.cell r 7 = some (.int .i64 n) ∧ Br (n == 1)
      (H.canSt r 7 1 ∧ LdR11 (H.setN r 7 [.int .i64 4]) r 0 fun x0 x1 x2 x3 x4 x5 x6 x7 x8 x9 x10 => CallA Try.prog fn_pref11_Book_set [pointer (some ⟨q, 0, none⟩), .int .i64 (i : Int), agg #[.int .i64 x0, .int .i64 x1, .int .i64 x2, .int .i64 x3, .int .i64 x4, .int .i64 x5, .int .i64 x6, .int .i64 x7, .bool x8, .bool x9, .int .i64 x10]] (H.setN r 7 [.int .i64 4]) fun v h => v = tuple #[] ∧ Ret h K (tuple #[.int .i64 4, .int .i64 0]))
      (∃ (n : Int), H.cell r 1 = some (.int .i64 n) ∧ Br (m == n)
        (∃ (b5 : Bool), H.cell r 8 = some (.bool b5) ∧ Br b5 (Ret H K (tuple #[.int .i64 0, .int .i64 6])) (H.canSt r 8 1 ∧ ∃ (b6 : Bool), (H.setN r 8 [.bool true]).cell r 8 = some (.bool b6) ∧ Br b6 (∃ (b7 : Bool), (H.setN r 8 [.bool true]).cell r 9 = some (.bool b7) ∧ Br b7 ((H.setN r 8 [.bool true]).canSt r 7 1 ∧ LdR11 ((H.setN r 8 [.bool true]).setN r 7 [.int .i64 4]) r 0 fun x0 x1 x2 x3 x4 x5 x6 x7 x8 x9 x10 => CallA Try.prog fn_pref11_Book_set [pointer (some ⟨q, 0, none⟩), .int .i64 (i : Int), agg #[.int .i64 x0, .int .i64 x1, .int .i64 x2, .int .i64 x3, .int .i64 x4, .int .i64 x5, .int .i64 x6, .int .i64 x7, .bool x8, .bool x9, .int .i64 x10]] ((H.setN r 8 [.bool true]).setN r 7 [.int .i64 4]) fun v h => v = tuple #[] ∧ ∃ (n : Int), h.cell r 7 = some (.int .i64 n) ∧ Ret h K (tuple #[.int .i64 n, .int .i64 0])) (LdR11 (H.setN r 8 [.bool true]) r 0 fun x0 x1 x2 x3 x4 x5 x6 x7 x8 x9 x10 => CallA Try.prog fn_pref11_Book_set [pointer (some ⟨q, 0, none⟩), .int .i64 (i : Int), agg #[.int .i64 x0, .int .i64 x1, .int .i64 x2, .int .i64 x3, .int .i64 x4, .int .i64 x5, .int .i64 x6, .int .i64 x7, .bool x8, .bool x9, .int .i64 x10]] (H.setN r 8 [.bool true]) fun v h => v = tuple #[] ∧ ∃ (n : Int), h.cell r 7 = some (.int .i64 n) ∧ Ret h K (tuple #[.int .i64 n, .int .i64 0]))) (LdR11 (H.setN r 8 [.bool true]) r 0 fun x0 x1 x2 x3 x4 x5 x6 x7 x8 x9 x10 => CallA Try.prog fn_pref11_Book_set [pointer (some ⟨q, 0, none⟩), .int .i64 (i : Int), agg #[.int .i64 x0, .int .i64 x1, .int .i64 x2, .int .i64 x3, .int .i64 x4, .int .i64 x5, .int .i64 x6, .int .i64 x7, .bool x8, .bool x9, .int .i64 x10]] (H.setN r 8 [.bool true]) fun v h => v = tuple #[] ∧ ∃ (n : Int), h.cell r 7 = some (.int .i64 n) ∧ Ret h K (tuple #[.int .i64 n, .int .i64 0]))))
        (∃ (b5 : Bool), H.cell r 9 = some (.bool b5) ∧ Br b5 (Ret H K (tuple #[.int .i64 0, .int .i64 6])) (H.canSt r 9 1 ∧ ∃ (b6 : Bool), (H.setN r 9 [.bool true]).cell r 8 = some (.bool b6) ∧ Br b6 (∃ (b7 : Bool), (H.setN r 9 [.bool true]).cell r 9 = some (.bool b7) ∧ Br b7 ((H.setN r 9 [.bool true]).canSt r 7 1 ∧ LdR11 ((H.setN r 9 [.bool true]).setN r 7 [.int .i64 4]) r 0 fun x0 x1 x2 x3 x4 x5 x6 x7 x8 x9 x10 => CallA Try.prog fn_pref11_Book_set [pointer (some ⟨q, 0, none⟩), .int .i64 (i : Int), agg #[.int .i64 x0, .int .i64 x1, .int .i64 x2, .int .i64 x3, .int .i64 x4, .int .i64 x5, .int .i64 x6, .int .i64 x7, .bool x8, .bool x9, .int .i64 x10]] ((H.setN r 9 [.bool true]).setN r 7 [.int .i64 4]) fun v h => v = tuple #[] ∧ ∃ (n : Int), h.cell r 7 = some (.int .i64 n) ∧ Ret h K (tuple #[.int .i64 n, .int .i64 0])) (LdR11 (H.setN r 9 [.bool true]) r 0 fun x0 x1 x2 x3 x4 x5 x6 x7 x8 x9 x10 => CallA Try.prog fn_pref11_Book_set [pointer (some ⟨q, 0, none⟩), .int .i64 (i : Int), agg #[.int .i64 x0, .int .i64 x1, .int .i64 x2, .int .i64 x3, .int .i64 x4, .int .i64 x5, .int .i64 x6, .int .i64 x7, .bool x8, .bool x9, .int .i64 x10]] (H.setN r 9 [.bool true]) fun v h => v = tuple #[] ∧ ∃ (n : Int), h.cell r 7 = some (.int .i64 n) ∧ Ret h K (tuple #[.int .i64 n, .int .i64 0]))) (LdR11 (H.setN r 9 [.bool true]) r 0 fun x0 x1 x2 x3 x4 x5 x6 x7 x8 x9 x10 => CallA Try.prog fn_pref11_Book_set [pointer (some ⟨q, 0, none⟩), .int .i64 (i : Int), agg #[.int .i64 x0, .int .i64 x1, .int .i64 x2, .int .i64 x3, .int .i64 x4, .int .i64 x5, .int .i64 x6, .int .i64 x7, .bool x8, .bool x9, .int .i64 x10]] (H.setN r 9 [.bool true]) fun v h => v = tuple #[] ∧ ∃ (n : Int), h.cell r 7 = some (.int .i64 n) ∧ Ret h K (tuple #[.int .i64 n, .int .i64 0]))))))) := by
  have hn := ok.n
  have hcx := ok.could x (List.mem_of_getElem? hx)
  have hask := hcx.ask
  have hst := hcx.st
  unfold rescindM at k
  rw [hp] at k
  dsimp only at k
  rw [hx] at k
  dsimp only at k
  rw [if_neg hw] at k
  refine ⟨_, A.cell rfl, Br.intro (fun g => ?_) fun g => ⟨_, A.cell rfl, Br.intro (fun g2 => ?_) fun g2 => ⟨_, A.cell rfl, Br.intro (fun g3 => ?_) fun g3 => ?_⟩⟩⟩
  · have g : x.st = 3 := by simpa using g
    rw [if_pos (by omega)] at k
    exact Ret.mk (k _ ⟨ok, lp, c, B⟩)
  · have g2 : x.st = 4 := by simpa using g2
    rw [if_pos (by omega)] at k
    exact Ret.mk (k _ ⟨ok, lp, c, B⟩)
  · have g3 : x.st = 1 := by simpa using g3
    rw [if_neg (by omega), if_pos g3] at k
    have A4 := A.set (o := 7) (ws := [.int .i64 4])
    have B4 := B.oth (o := 7) (ws := [.int .i64 4]) n2 m2
    refine ⟨A.canSt (by rw [rV_len]; omega), _, A4.cell rfl, _, A4.cell rfl, _, A4.cell rfl, _, A4.cell rfl, _, A4.cell rfl, _, A4.cell rfl, _, A4.cell rfl, _, A4.cell rfl, _, A4.cell rfl, _, A4.cell rfl, _, A4.cell rfl, ?_⟩
    refine S_Rset (y := { x with st := 4 }) B4 hx (by omega) fun h' lp' c' B6 fr => ⟨rfl, Ret.mk (k _ ⟨?_, lp', c', B6⟩)⟩
    refine ok.chg hx rfl rfl (.inr (.inr ⟨rfl, ?_⟩))
    unfold couldE at hcx
    dsimp only
    omega
  have e3 : x.st ≠ 3 := by simpa using g
  have e4 : x.st ≠ 4 := by simpa using g2
  have e1 : x.st ≠ 1 := by simpa using g3
  have e2 : x.st = 2 := by omega
  rw [if_neg (by omega), if_neg e1] at k
  refine ⟨_, A.cell rfl, Br.intro (fun ga => ⟨_, A.cell rfl, Br.intro (fun gb => ?_) fun gb => ?_⟩) fun ga => ⟨_, A.cell rfl, Br.intro (fun gb => ?_) fun gb => ?_⟩⟩
  · have ew : whoE x m = 1 := by unfold whoE; rw [if_pos (by simpa using ga)]
    have gb : x.ask % 2 = 1 := by unfold byA at gb; simpa using gb
    rw [ew, if_pos (by omega)] at k
    exact Ret.mk (k _ ⟨ok, lp, c, B⟩)
  · have ew : whoE x m = 1 := by unfold whoE; rw [if_pos (by simpa using ga)]
    obtain ⟨f1, f2, f3⟩ := by_a hask gb
    rw [ew, if_neg (by omega)] at k
    have A4 := A.set (o := 8) (ws := [.bool true])
    rw [← f2] at A4
    refine ⟨A.canSt (by rw [rV_len]; omega), res_tail (w := 1) ok (B.oth n2 m2) hx e2 (by omega) f3 A4 n2 m2 (fun g h' P => ?_) fun g h' P => ?_⟩
    · rw [if_pos g] at k; exact k _ P
    · rw [if_neg g] at k; exact k _ P
  · have ew : whoE x m = 2 := by
      unfold whoE at hw ⊢
      rw [if_neg (by simpa using ga)] at hw ⊢
      split at hw
      · rename_i g; rw [if_pos g]
      · exact (hw rfl).elim
    have gb : x.ask / 2 = 1 := by unfold byB at gb; simpa using gb
    rw [ew, if_pos (by omega)] at k
    exact Ret.mk (k _ ⟨ok, lp, c, B⟩)
  · have ew : whoE x m = 2 := by
      unfold whoE at hw ⊢
      rw [if_neg (by simpa using ga)] at hw ⊢
      split at hw
      · rename_i g; rw [if_pos g]
      · exact (hw rfl).elim
    obtain ⟨f1, f2, f3⟩ := by_b hask gb
    rw [ew, if_neg (by omega)] at k
    have A4 := A.set (o := 9) (ws := [.bool true])
    rw [← f2] at A4
    refine ⟨A.canSt (by rw [rV_len]; omega), res_tail (w := 2) ok (B.oth n2 m2) hx e2 (by omega) f3 A4 n2 m2 (fun g h' P => ?_) fun g h' P => ?_⟩
    · rw [if_pos g] at k; exact k _ P
    · rw [if_neg g] at k; exact k _ P
theorem S_RRescind {h : Heap} (P : RB h q S) {m id : Int} (k : ∀ h', RB h' q (rescindM S m id).2.2 → K (tuple #[.int .i64 (rescindM S m id).1, .int .i64 (rescindM S m id).2.1]) h') :
    CallA Try.prog fn_pref11_Book_Rescind [pointer (some ⟨q, 0, none⟩), .int .i64 m, .int .i64 id] h K := by
  obtain ⟨ok, lp, c, B⟩ := P
  have hn := ok.n
  refine F_pref11_Book_Rescind _ _ _ _ _ ?_
  unfold F_pref11_Book_RescindT
  refine S_RAt B (by omega) ⟨_, rfl, ?_⟩
  cases hp : posE id S.L with
  | none =>
    unfold rescindM at k
    rw [hp] at k
    rw [atI_none hp]
    exact Br.yes (by decide) (Ret.mk (k _ ⟨ok, lp, c, B⟩))
  | some i =>
    obtain ⟨x, hx, hid⟩ := posE_some hp
    rw [atI_some hp]
    refine Br.no (by simp) (withAddr_intro rfl ⟨_, _, _, B.ap.cell rfl, ax rV_len B.arr rfl rfl hx (by decide) fun b o hb hc => ?_⟩)
    refine ⟨_, hc 0 (by decide), _, hc 1 (by decide), _, hc 2 (by decide), _, hc 3 (by decide), _, hc 4 (by decide), _, hc 5 (by decide), _, hc 6 (by decide), _, hc 7 (by decide), _, hc 8 (by decide), _, hc 9 (by decide), _, hc 10 (by decide), newB_cp (vs := rV x) rfl fun r2 h3 hr2 l3 A2 cs => ⟨cs, ?_⟩⟩
    have n2 : q ≠ r2 := B.ap.ne hr2
    have m2 : lp ≠ some ⟨r2, 0, none⟩ := B.ol.fresh hr2
    have B1 := B.le l3
    have none' : whoE x m = 0 → Ret (h3.setN r2 0 (rV x)) K (tuple #[.int .i64 0, .int .i64 5]) := fun e => by
      unfold rescindM at k
      rw [hp] at k
      dsimp only at k
      rw [hx] at k
      dsimp only at k
      rw [if_pos e] at k
      exact Ret.mk (k _ ⟨ok, lp, c, B1⟩)
    refine ⟨_, A2.cell rfl, Br.intro (fun g => ?_) fun g => ?_⟩
    · have g : m ≠ x.d.a := by simpa using g
      refine ⟨_, A2.cell rfl, Br.intro (fun g2 => ?_) fun g2 => ⟨_, A2.cell rfl, Br.intro (fun g3 => ?_) fun g3 => ?_⟩⟩
      · have g2 : m ≠ x.d.b := by simpa using g2
        exact none' (by unfold whoE; rw [if_neg g, if_neg fun e => g2 e.1])
      · have g3 : x.st = 1 := by simpa using g3
        exact none' (by unfold whoE; rw [if_neg g, if_neg fun e => e.2 g3])
      · have g2 : m = x.d.b := by simpa using g2
        have g3 : x.st ≠ 1 := by simpa using g3
        exact res_main ok B1 hx hp A2 n2 m2 (by unfold whoE; rw [if_neg g, if_pos ⟨g2, g3⟩]; decide) k
    · have g : m = x.d.a := by simpa using g
      exact res_main ok B1 hx hp A2 n2 m2 (by unfold whoE; rw [if_pos g]; decide) k
end
end Go.Proofs.Ytjihfieahkbohaa
