import Derived.Test.YtjihfieahkbohaaM03
import Derived.Test.YtjihfieahkbohaaM10
import Derived.Test.YtjihfieahkbohaaM08
import Derived.Test.YtjihfieahkbohaaM04
import Derived.Test.YtjihfieahkbohaaM05
import Derived.Test.YtjihfieahkbohaaM09
/- A list put in order: a permutation, sorted. -/
namespace Go.Proofs.Ytjihfieahkbohaa
open Go Go.Sy Go.Value Go.Sort
set_option linter.unusedVariables false
set_option linter.unusedSimpArgs false

section
variable {g0 : Heap} {B m n c : Nat} {sp : List Value} {left : List En} (e0 : g0 B = none) (hm : left.length = m) (I : True) (hn : n < 256)
include e0 hm I hn
theorem pdq_allE : ∀ (q a b : Nat) (limit : Int) (wb wp : Bool) (d : Array Int) (h : Heap) (K : Value → Heap → Prop), b - a ≤ q → a ≤ b → b ≤ n → 0 ≤ limit + 1000 - q → limit ≤ 1000 → DaE left g0 B m n sp h d → Below (ltOE left) a b d →
    (∀ h' d', DaE left g0 B m n sp h' d' → PermIn a b d d' → SortedIn (ltOE left) a b d' → K (tuple #[]) h') →
    L_slices_pdqsortCmpFunc_deal_entry_0 (some ⟨B, 0, none⟩) n c (a : Int) (b : Int) limit wb wp h K := by
  intro q
  induction q with
  | zero =>
    intro a b limit wb wp d h K hq hab hb hl1 hl2 D hB k
    have hz : d.size = n := D.sz
    refine L_slices_pdqsortCmpFunc_deal_entry_0r _ _ _ _ _ _ _ _ _ _ ?_
    unfold L_slices_pdqsortCmpFunc_deal_entry_0T
    have w0 : IntKind.wrap .i64 ((b : Int) - (a : Int)) = ((b - a : Nat) : Int) := by rw [widE (by omega) (by omega)]; omega
    rw [w0]
    refine Br.yes (by simp; omega) (S_insertionE e0 hm I (by omega) (by omega) hb D fun h1 D1 => ⟨rfl, Ret.mk ?_⟩)
    have := insertionSort_holds (swoOE left) d a b hab (by omega)
    exact k h1 _ D1 this.1 this.2
  | succ q ih =>
    intro a b limit wb wp d h K hq hab hb hl1 hl2 D hB k
    have hz : d.size = n := D.sz
    refine L_slices_pdqsortCmpFunc_deal_entry_0r _ _ _ _ _ _ _ _ _ _ ?_
    unfold L_slices_pdqsortCmpFunc_deal_entry_0T
    have w0 : IntKind.wrap .i64 ((b : Int) - (a : Int)) = ((b - a : Nat) : Int) := by rw [widE (by omega) (by omega)]; omega
    rw [w0]
    refine Br.dec (fun g => ?_) fun g => ?_
    · refine S_insertionE e0 hm I (by omega) (by omega) hb D fun h1 D1 => ⟨rfl, Ret.mk ?_⟩
      have := insertionSort_holds (swoOE left) d a b hab (by omega)
      exact k h1 _ D1 this.1 this.2
    refine Br.intro (fun _ => ?_) fun _ => ?_
    · refine S_heapE e0 hm I (by omega) (by omega) hb D fun h1 D1 => ⟨rfl, Ret.mk ?_⟩
      have := heapSort_holds (swoOE left) d a b hab (by omega)
      exact k h1 _ D1 this.1 this.2
    have h12 : 12 < b - a := by omega
    -- behind the patterns
    have cont : ∀ (lim : Int) (h : Heap) (d1 : Array Int), 0 ≤ lim + 1000 - q → lim ≤ 1000 → DaE left g0 B m n sp h d1 → PermIn a b d d1 → L_slices_pdqsortCmpFunc_deal_entry_1010 (some ⟨B, 0, none⟩) n c (a : Int) (b : Int) lim wb wp ((b - a : Nat) : Int) h K := by
      intro lim h d1 hl3 hl4 D1 P1
      have B1 := hB.perm (by omega) P1
      refine L_slices_pdqsortCmpFunc_deal_entry_1010r _ _ _ _ _ _ _ _ _ _ _ ?_
      unfold L_slices_pdqsortCmpFunc_deal_entry_1010T
      -- the parts
      have part : ∀ (h : Heap) (d3 : Array Int) (pivot : Nat), DaE left g0 B m n sp h d3 → PermIn a b d d3 → a ≤ pivot → pivot < b → L_slices_pdqsortCmpFunc_deal_entry_1017 (some ⟨B, 0, none⟩) n c (a : Int) (b : Int) lim wb wp ((b - a : Nat) : Int) (pivot : Int) h K := by
        intro h d3 pivot D3 P3 hp1 hp2
        have B3 := hB.perm (by omega) P3
        have hz3 : d3.size = n := D3.sz
        refine L_slices_pdqsortCmpFunc_deal_entry_1017r _ _ _ _ _ _ _ _ _ _ _ _ ?_
        unfold L_slices_pdqsortCmpFunc_deal_entry_1017T
        have ordinary : ∀ h, DaE left g0 B m n sp h d3 → CallA Try.prog fn_slices_partitionCmpFunc_deal_entry [slice (some ⟨B, 0, none⟩) n c, .int .i64 (a : Int), .int .i64 (b : Int), .int .i64 (pivot : Int), func (Fn.func fn_pdeal_Book_All_1) #[] #[]] h fun v h =>
            ∃ (x : Int), ∃ (y : Bool), v = tuple #[.int .i64 x, .bool y] ∧ Br (decide (IntKind.wrap .i64 (x - (a : Int)) < IntKind.wrap .i64 ((b : Int) - x)))
              (CallA Try.prog fn_slices_pdqsortCmpFunc_deal_entry [slice (some ⟨B, 0, none⟩) n c, .int .i64 (a : Int), .int .i64 x, .int .i64 lim, func (Fn.func fn_pdeal_Book_All_1) #[] #[]] h fun v h => v = tuple #[] ∧
                L_slices_pdqsortCmpFunc_deal_entry_0 (some ⟨B, 0, none⟩) n c (IntKind.wrap .i64 (x + 1)) (b : Int) lim (decide (IntKind.wrap .i64 (x - (a : Int)) ≥ IntKind.wrap .i64 (Int.tdiv ((b - a : Nat) : Int) 8))) y h K)
              (CallA Try.prog fn_slices_pdqsortCmpFunc_deal_entry [slice (some ⟨B, 0, none⟩) n c, .int .i64 (IntKind.wrap .i64 (x + 1)), .int .i64 (b : Int), .int .i64 lim, func (Fn.func fn_pdeal_Book_All_1) #[] #[]] h fun v h => v = tuple #[] ∧
                L_slices_pdqsortCmpFunc_deal_entry_0 (some ⟨B, 0, none⟩) n c (a : Int) x lim (decide (IntKind.wrap .i64 ((b : Int) - x) ≥ IntKind.wrap .i64 (Int.tdiv ((b - a : Nat) : Int) 8))) y h K) := by
          intro h D3
          refine S_partitionE e0 hm I (by omega) (by omega) hb hp1 hp2 D3 fun h4 D4 => ⟨_, _, rfl, ?_⟩
          generalize hx : partition (ltOE left) d3 a b pivot = r at *
          obtain ⟨mid, ap, d4⟩ := r
          obtain ⟨g1, g2, hs4, hBa, hBr, hleft, hright⟩ := round_part (swoOE left) (partition_holds (ltOE left)) hp1 hp2 (by omega) B3 hx
          dsimp only at D4 ⊢
          have w1 : IntKind.wrap .i64 ((mid : Int) - (a : Int)) = ((mid - a : Nat) : Int) := by rw [widE (by omega) (by omega)]; omega
          have w2 : IntKind.wrap .i64 ((b : Int) - (mid : Int)) = ((b - mid : Nat) : Int) := by rw [widE (by omega) (by omega)]; omega
          rw [w1, w2, wp1E (by omega)]
          refine Br.intro (fun _ => ?_) fun _ => ?_
          · refine F_slices_pdqsortCmpFunc_deal_entry _ _ _ _ _ _ _ _ ?_
            unfold F_slices_pdqsortCmpFunc_deal_entryT
            refine ih a mid lim true true d4 h4 _ (by omega) g1 (by omega) hl3 hl4 D4 hBa fun h5 d5 D5 l1 l2 => ⟨rfl, ?_⟩
            obtain ⟨hBL, hfin⟩ := hleft _ l1 l2
            refine ih (mid + 1) b lim _ ap d5 h5 _ (by omega) (by omega) hb hl3 hl4 D5 hBL fun h6 d6 D6 r1 r2 => ?_
            obtain ⟨q1, q2⟩ := hfin _ r1 r2
            exact k h6 _ D6 (permIn_trans _ _ _ a b P3 q1) q2
          · refine F_slices_pdqsortCmpFunc_deal_entry _ _ _ _ _ _ _ _ ?_
            unfold F_slices_pdqsortCmpFunc_deal_entryT
            refine ih (mid + 1) b lim true true d4 h4 _ (by omega) (by omega) hb hl3 hl4 D4 hBr fun h5 d5 D5 l1 l2 => ⟨rfl, ?_⟩
            obtain ⟨hBL, hfin⟩ := hright _ l1 l2
            refine ih a mid lim _ ap d5 h5 _ (by omega) g1 (by omega) hl3 hl4 D5 hBL fun h6 d6 D6 r1 r2 => ?_
            obtain ⟨q1, q2⟩ := hfin _ r1 r2
            exact k h6 _ D6 (permIn_trans _ _ _ a b P3 q1) q2
        refine Br.dec (fun ga => ?_) fun ga => ordinary h D3
        have w1 : IntKind.wrap .i64 ((a : Int) - 1) = ((a - 1 : Nat) : Int) := by rw [widE (by omega) (by omega)]; omega
        rw [w1]
        refine lessNE D3 hm I rfl rfl (by omega) (by omega) fun h' D' => Br.intro (fun g2 => ?_) fun g2 => ordinary h' D'
        refine S_partitionEqualE e0 hm I (by omega) (by omega) hb hp1 hp2 D' fun h4 D4 => ⟨_, rfl, ?_⟩
        generalize hx : partitionEqual (ltOE left) d3 a b pivot = r at *
        obtain ⟨mid, d4⟩ := r
        obtain ⟨m1, m2, hs4, hB4, hfin⟩ := round_eq (swoOE left) (partitionEqual_holds (lt := ltOE left)) (by omega) hp1 hp2 (by omega) B3 (by simpa using g2) hx
        dsimp only at D4 ⊢
        refine ih mid b lim wb wp d4 h4 _ (by omega) m2 hb hl3 hl4 D4 hB4 fun h6 d6 D6 r1 r2 => ?_
        obtain ⟨q1, q2⟩ := hfin _ r1 r2
        exact k h6 _ D6 (permIn_trans _ _ _ a b P3 q1) q2
      -- few steps
      have few : ∀ (h : Heap) (d2 : Array Int) (pivot : Nat) (hint : Int), DaE left g0 B m n sp h d2 → PermIn a b d d2 → a ≤ pivot → pivot < b → L_slices_pdqsortCmpFunc_deal_entry_1015 (some ⟨B, 0, none⟩) n c (a : Int) (b : Int) lim wb wp ((b - a : Nat) : Int) (pivot : Int) hint h K := by
        intro h d2 pivot hint D2 P2 hp1 hp2
        have B2 := hB.perm (by omega) P2
        have hz2 : d2.size = n := D2.sz
        refine L_slices_pdqsortCmpFunc_deal_entry_1015r _ _ _ _ _ _ _ _ _ _ _ _ _ ?_
        unfold L_slices_pdqsortCmpFunc_deal_entry_1015T
        refine Br.intro (fun _ => Br.intro (fun _ => Br.intro (fun _ => ?_) fun _ => part h d2 pivot D2 P2 hp1 hp2) fun _ => part h d2 pivot D2 P2 hp1 hp2) fun _ => part h d2 pivot D2 P2 hp1 hp2
        have s := partialInsertionSort_holds (swoOE left) d2 a b (by omega) (by omega) B2
        refine S_fewE e0 hm I (by omega) (by omega) hb D2 fun h3 D3 => ⟨_, rfl, Br.intro (fun g => Ret.mk ?_) fun g => ?_⟩
        · exact k h3 _ D3 (permIn_trans _ _ _ a b P2 s.1) (s.2 g)
        · exact part h3 _ pivot D3 (permIn_trans _ _ _ a b P2 s.1) hp1 hp2
      refine S_pivotE hm I (by omega) h12 hb D1 fun h2 x hint D2 hx1 hx2 => ⟨_, _, rfl, Br.intro (fun _ => ?_) fun _ => few h2 d1 x hint D2 P1 hx1 hx2⟩
      refine S_reverseE e0 (by omega) (by omega) hb D2 fun h3 D3 => ⟨rfl, ?_⟩
      have s := reverseRange_holds d1 a b hab (by have := D1.sz; omega)
      have w1 : IntKind.wrap .i64 ((b : Int) - 1) = ((b - 1 : Nat) : Int) := by rw [widE (by omega) (by omega)]; omega
      have w2 : IntKind.wrap .i64 ((x : Int) - (a : Int)) = ((x - a : Nat) : Int) := by rw [widE (by omega) (by omega)]; omega
      have w3 : IntKind.wrap .i64 (((b - 1 : Nat) : Int) - ((x - a : Nat) : Int)) = ((b - 1 - (x - a) : Nat) : Int) := by rw [widE (by omega) (by omega)]; omega
      rw [w1, w2, w3]
      exact few h3 _ _ 1 D3 (permIn_trans _ _ _ a b P1 s) (by omega) (by omega)
    refine Br.intro (fun _ => ?_) fun _ => cont limit h d (by omega) hl2 D (permIn_refl d a b)
    refine S_breakE e0 (by omega) (by omega) (by omega) hb D fun h1 d1 D1 P1 => ⟨rfl, ?_⟩
    rw [widE (x := limit - 1) (by omega) (by omega)]
    exact cont _ h1 d1 (by omega) (by omega) D1 P1
theorem S_sortFuncE {h : Heap} {d : Array Int} {K : Value → Heap → Prop} (D : DaE left g0 B m n sp h d)
    (k : ∀ h' d', DaE left g0 B m n sp h' d' → PermIn 0 n d d' → SortedIn (ltOE left) 0 n d' → K (tuple #[]) h') :
    CallA Try.prog fn_slices_SortFunc_deal_entry_deal_entry [slice (some ⟨B, 0, none⟩) n c, func (Fn.func fn_pdeal_Book_All_1) #[] #[]] h K := by
  refine F_slices_SortFunc_deal_entry_deal_entry _ _ _ _ _ ?_
  unfold F_slices_SortFunc_deal_entry_deal_entryT
  rw [wrap_u64_id (by omega) (by omega)]
  have g := (tab8_getE ⟨n, hn⟩).2
  dsimp only at g
  refine S_lenE hn ⟨_, rfl, ?_⟩
  refine F_slices_pdqsortCmpFunc_deal_entry _ _ _ _ _ _ _ _ ?_
  unfold F_slices_pdqsortCmpFunc_deal_entryT
  refine pdq_allE e0 hm I hn n 0 n _ true true d h _ (by omega) (by omega) (Nat.le_refl _) (by omega) (by omega) D (.inl rfl) fun h1 d1 D1 P1 s1 => ⟨rfl, Ret.mk (k h1 d1 D1 P1 s1)⟩
end
end Go.Proofs.Ytjihfieahkbohaa

/- A book of instructions: all of a member let go, all of a state told. -/
namespace Go.Proofs.Ytjihfieahkbohaa
open Go Go.Sy Go.Value Go.Sort
set_option linter.unusedVariables false
set_option linter.unusedSimpArgs false

section
variable {h0 h : Heap} {K : Value → Heap → Prop} {p : Nat} {S : Bk} {lp : Option Addr} {c mr : Nat}
theorem w1d {j : Nat} (h : j ≤ 4000000) : IntKind.wrap .i64 ((j : Int) + 1) = ((j + 1 : Nat) : Int) := by rw [wrap_i64_id (by omega) (by omega)]; omega
/-! all of a member -/
def remPart (m : Int) (L : List En) (j : Nat) : List En := remL m (L.take j) ++ L.drop j
theorem remPart_0 (m : Int) (L : List En) : remPart m L 0 = L := rfl
theorem remPart_end (m : Int) (L : List En) : remPart m L L.length = remL m L := by unfold remPart; rw [List.take_length, List.drop_length, List.append_nil]
theorem remPart_get {m : Int} {L : List En} {j : Nat} (hj : j < L.length) : (remPart m L j)[j]? = some L[j] := by
  unfold remPart remL
  rw [List.getElem?_append_right (by rw [List.length_map, List.length_take]; omega), List.length_map, List.length_take, Nat.min_eq_left (by omega), Nat.sub_self, List.getElem?_drop, List.getElem?_eq_getElem (by omega)]
  rfl
theorem remPart_len (m : Int) (L : List En) (j : Nat) : (remPart m L j).length = L.length := by
  unfold remPart remL
  rw [List.length_append, List.length_map, List.length_take, List.length_drop]; omega
theorem remPart_succ {m : Int} {L : List En} {j : Nat} (hj : j < L.length) : remPart m L (j + 1) = (remPart m L j).set j (goneE m L[j]) := by
  unfold remPart remL
  rw [List.take_succ_eq_append_getElem hj, List.map_append, List.map_cons, List.map_nil, List.drop_eq_getElem_cons hj]
  have hl : ((L.take j).map (goneE m)).length = j := by rw [List.length_map, List.length_take]; omega
  rw [List.set_append_right _ _ (by omega), hl, Nat.sub_self, List.set_cons_zero, List.append_assoc]; rfl
theorem remO_succ {m : Int} {L : List En} {j : Nat} (hj : j < L.length) : remO m (L.take (j + 1)) = if hitE m L[j] = true then remO m (L.take j) ++ [L[j].d.id] else remO m (L.take j) := by
  unfold remO
  rw [List.take_succ_eq_append_getElem hj, List.filter_append, List.map_append]
  split
  · rename_i g
    rw [List.filter_cons_of_pos g]; rfl
  · rename_i g
    rw [List.filter_cons_of_neg g]; simp
theorem Bk.Ok.part {m : Int} (ok : S.Ok) : ∀ (j : Nat), j ≤ S.L.length → ({ S with L := remPart m S.L j } : Bk).Ok
  | 0, _ => ok
  | j + 1, hj => by
    have o := Bk.Ok.part (m := m) ok j (by omega)
    have hx := remPart_get (m := m) (L := S.L) (j := j) (by omega)
    rw [remPart_succ (by omega)]
    refine o.chg (i := j) (x := S.L[j]) (y := goneE m S.L[j]) hx ?_ ?_ ?_
    · unfold goneE; split <;> rfl
    · unfold goneE; split <;> rfl
    · have hc := ok.could _ (List.getElem_mem (show j < S.L.length by omega))
      unfold goneE
      split
      · unfold couldE at hc ⊢
        dsimp only
        omega
      · exact hc
theorem rem_0 {m : Int} {n : Nat} (ok : S.Ok) (hn : S.L.length = n) (k : ∀ h' q c', PB h' p (removeM S m).2 → Ints .i64 h' q (remO m S.L) → K (slice q (remO m S.L).length c') h') :
    ∀ (q j : Nat) (h : Heap) (l : Option Addr) (lc : Nat), q + j = n → PBk h p { S with L := remPart m S.L j } lp c mr → OwnL nulH h [.int .i64 0] l lc (intsV .i64 (remO m (S.L.take j))) →
      l ≠ some ⟨p, 0, none⟩ → (∀ r, lp = some ⟨r, 0, none⟩ → l ≠ some ⟨r, 0, none⟩) →
    L_pdeal_Book_Remove_0 (some ⟨p, 0, none⟩) m l (remO m (S.L.take j)).length lc (n : Int) (j : Int) h K := by
  have hn2 := ok.n
  intro q
  induction q with
  | zero =>
    intro j h l lc hj B ol n1 n2
    refine L_pdeal_Book_Remove_0r _ _ _ _ _ _ _ _ _ ?_
    unfold L_pdeal_Book_Remove_0T
    have hj : j = S.L.length := by omega
    subst hj
    rw [remPart_end] at B
    rw [List.take_length] at ol ⊢
    refine Br.no (by simp; omega) (Ret.mk (k h l lc ⟨?_, lp, c, mr, B⟩ ol.rd))
    have := ok.part (m := m) S.L.length (Nat.le_refl _)
    rw [remPart_end] at this
    exact this
  | succ q ih =>
    intro j h l lc hj B ol n1 n2
    refine L_pdeal_Book_Remove_0r _ _ _ _ _ _ _ _ _ ?_
    unfold L_pdeal_Book_Remove_0T
    have hjl : j < S.L.length := by omega
    have hx := remPart_get (m := m) hjl
    obtain ⟨r, sp, hr, a, hne, hc⟩ := B.row hx
    have e : 0 + ((j : Nat) : Int).toNat * 10 = j * 10 := by rw [Int.toNat_natCast, Nat.zero_add]
    have hln : ((remPart m S.L j).length : Int) = (n : Int) := by rw [remPart_len, hn]
    have hl := remO_succ (m := m) hjl
    have hs := remPart_succ (m := m) hjl
    have hro : (remO m (S.L.take j)).length ≤ 200 := by
      unfold remO
      rw [List.length_map]
      have := List.length_filter_le (hitE m) (S.L.take j)
      rw [List.length_take] at this
      omega
    -- not let go
    have skip : hitE m S.L[j] = false → L_pdeal_Book_Remove_0 (some ⟨p, 0, none⟩) m l (remO m (S.L.take j)).length lc (n : Int) (IntKind.wrap .i64 ((j : Int) + 1)) h K := fun g => by
      rw [w1d (by omega)]
      have eg : goneE m S.L[j] = S.L[j] := by unfold goneE; rw [if_neg (by rw [g]; decide)]
      rw [eg] at hs
      have e2 : (remPart m S.L j).set j S.L[j] = remPart m S.L j := by
        refine List.ext_getElem? fun i => ?_
        rw [List.getElem?_set]
        split
        · rename_i gi
          subst gi
          rw [if_pos (by rw [remPart_len]; exact hjl), hx]
        · rfl
      rw [e2] at hs
      rw [if_neg (by rw [g]; decide)] at hl
      have := ih (j + 1) h l lc (by omega) (by rw [hs]; exact B) (by rw [hl]; exact ol) n1 n2
      rw [hl] at this
      exact this
    -- let go
    have take : hitE m S.L[j] = true → h.canSt r (j * 10 + 7) 1 ∧ ∃ (n_1 : Int), (h.setN r (j * 10 + 7) [.int .i64 4]).cell r (j * 10) = some (.int .i64 n_1) ∧ newB (h.setN r (j * 10 + 7) [.int .i64 4]) [.int .i64 n_1] 3 fun (r : Nat) (h : Heap) =>
        AppA [.int .i64 0] 3 h l (remO m (S.L.take j)).length lc 1 (some { block := r, off := 0 }) fun (ap : Option Addr) (cp : Nat) (h : Heap) => L_pdeal_Book_Remove_0 (some ⟨p, 0, none⟩) m ap ((remO m (S.L.take j)).length + 1) cp (n : Int) (IntKind.wrap .i64 ((j : Int) + 1)) h K := fun g => by
      rw [w1d (by omega)]
      have eg : goneE m S.L[j] = { S.L[j] with st := 4 } := by unfold goneE; rw [if_pos g]
      rw [eg] at hs
      rw [if_pos g] at hl
      have B1 := B.wr (o := 7) (y := { S.L[j] with st := 4 }) (ws := [.int .i64 4]) hx hr (by simp) rfl rfl
      dsimp only at B1
      rw [← hs] at B1
      have hx1 : (remPart m S.L (j + 1))[j]? = some { S.L[j] with st := 4 } := by rw [hs, List.getElem?_set_self (by rw [remPart_len]; exact hjl)]
      obtain ⟨r1, sp1, e1, a1, hne1, hc1⟩ := B1.row hx1
      rw [hr] at e1
      have e1 : r = r1 := by simpa using e1
      subst e1
      refine ⟨B.can hx hr (by decide), _, hc1 0 (by decide), ?_⟩
      have ol1 := ol.set_ne (o := j * 10 + 7) (ws := [.int .i64 4]) (n2 r hr)
      refine push1 ol1 (by decide) (nulH_le _) (by omega) rfl rfl (by rw [intsV_length]; simp) fun r4 h4 p' c' h5 hr4 l4 _ ol5 keep how => ?_
      have B5 := (B1.le l4).keep keep n1 n2 (OwnL.neM (ol1.le l4) (B1.mp.le l4))
      have := ih (j + 1) h5 p' c' (by omega) B5 (by rw [hl, intsV_append]; exact ol5) (push_ne how (B1.ap.le l4) n1) fun r' hr' => by
        rw [hr] at hr'
        have hr' : r = r' := by simpa using hr'
        subst hr'
        exact push_ne how (a1.le l4) (n2 r hr)
      rw [hl, List.length_append] at this
      exact this
    refine Br.yes (decide_eq_true (by omega)) (withAddr_intro rfl ⟨_, _, _, B.ap.cell rfl, by omega, by rw [hln]; omega, withAddr_intro hr ?_⟩)
    rw [e]
    refine ⟨_, hc 7 (by decide), Br.dec (fun g1 => ⟨_, hc 1 (by decide), Br.intro (fun g2 => ?_) fun g2 => ⟨_, hc 2 (by decide), Br.intro (fun g3 => ?_) fun g3 => ?_⟩⟩) fun g1 => ?_⟩
    · exact take (decide_eq_true ⟨g1, .inl (by simpa using g2)⟩)
    · exact take (decide_eq_true ⟨g1, .inr (by simpa using g3)⟩)
    · refine skip (decide_eq_false fun x => ?_)
      rcases x.2 with x | x
      · simp [x] at g2
      · simp [x] at g3
    · exact skip (decide_eq_false fun x => g1 x.1)
theorem S_Remove (P : PB h p S) {m : Int} (k : ∀ h' q c', PB h' p (removeM S m).2 → Ints .i64 h' q (remO m S.L) → K (slice q (remO m S.L).length c') h') :
    CallA Try.prog fn_pdeal_Book_Remove [pointer (some ⟨p, 0, none⟩), .int .i64 m] h K := by
  obtain ⟨ok, lp, c, mr, B⟩ := P
  refine F_pdeal_Book_Remove _ _ _ _ ?_
  unfold F_pdeal_Book_RemoveT
  refine withAddr_intro rfl ⟨_, _, _, B.ap.cell rfl, ?_⟩
  have := rem_0 (lp := lp) (c := c) (mr := mr) (m := m) ok rfl k S.L.length 0 h none 0 (by omega) (by rw [remPart_0]; exact B) (.nil _ _ _) (fun e => by cases e) (fun _ _ e => by cases e)
  exact this
/-! all of a state -/
def ofS (s : Int) (L : List En) : List En := L.filter fun x => decide (x.st = s)
theorem ofS_succ {s : Int} {L : List En} {j : Nat} (hj : j < L.length) : ofS s (L.take (j + 1)) = if L[j].st = s then ofS s (L.take j) ++ [L[j]] else ofS s (L.take j) := by
  unfold ofS
  rw [List.take_succ_eq_append_getElem hj, List.filter_append]
  split
  · rename_i g
    rw [List.filter_cons_of_pos (by simpa using g)]; rfl
  · rename_i g
    rw [List.filter_cons_of_neg (by simpa using g)]; simp
theorem ofS_len (s : Int) (L : List En) : (ofS s L).length ≤ L.length := List.length_filter_le _ _
theorem all_1 {F : List En} {n fc : Nat} {fp : Option Addr} (hF : F.length = n) (hn : n ≤ 200) (A : Arr eV h0 fp F) (k : ∀ h' q c', h0.le h' → Ints .i64 h' q (F.map fun x => x.d.id) → K (slice q n c') h') :
    ∀ (m j : Nat) (h : Heap) (out : Option Addr) (oc : Nat), m + j = n → h0.le h → OwnL h0 h [.int .i64 0] out oc (intsV .i64 ((F.take j).map fun x => x.d.id)) → L_pdeal_Book_All_1 out j oc fp n fc (n : Int) (j : Int) h K := by
  intro m
  induction m with
  | zero =>
    intro j h out oc hj l0 ol
    refine L_pdeal_Book_All_1r _ _ _ _ _ _ _ _ _ _ ?_
    unfold L_pdeal_Book_All_1T
    have hj : j = n := by omega
    subst hj
    rw [List.take_of_length_le (by omega)] at ol
    exact Br.no (by simp) (Ret.mk (k h out oc l0 ol.rd))
  | succ m ih =>
    intro j h out oc hj l0 ol
    refine L_pdeal_Book_All_1r _ _ _ _ _ _ _ _ _ _ ?_
    unfold L_pdeal_Book_All_1T
    have hjl : j < F.length := by omega
    refine Br.yes (decide_eq_true (by omega)) (ax eV_len (A.le l0) hF rfl (List.getElem?_eq_getElem hjl) (by decide) fun b o hb hc => ?_)
    refine ⟨_, hc 0 (by decide), _, hc 1 (by decide), _, hc 2 (by decide), _, hc 3 (by decide), _, hc 4 (by decide), _, hc 5 (by decide), _, hc 6 (by decide), _, hc 7 (by decide), _, hc 8 (by decide), _, hc 9 (by decide), newB_cp (vs := eV F[j]) rfl fun r h1 hr l1 A1 cs => ⟨cs, _, A1.cell rfl, ?_⟩⟩
    refine push1 (ol.le l1) (by decide) (Heap.le_trans l0 l1) (by omega) rfl rfl (by rw [intsV_length, List.length_map, List.length_take]; simp; omega) fun r4 h4 p' c' h5 hr4 l4 l5 ol5 keep how => ?_
    rw [w1d (by omega)]
    refine ih (j + 1) h5 p' c' (by omega) l5 ?_
    rw [List.take_succ_eq_append_getElem hjl, List.map_append, intsV_append]
    exact ol5
theorem S_sortNilE (k : K (tuple #[]) h) : CallA Try.prog fn_slices_SortFunc_deal_entry_deal_entry [slice none 0 0, func (Fn.func fn_pdeal_Book_All_1) #[] #[]] h K := by
  refine F_slices_SortFunc_deal_entry_deal_entry _ _ _ _ _ ?_
  unfold F_slices_SortFunc_deal_entry_deal_entryT
  rw [show IntKind.wrap .u64 ((0 : Nat) : Int) = ((0 : Nat) : Int) from rfl]
  refine S_lenE (x := 0) (by decide) ⟨_, rfl, ?_⟩
  refine F_slices_pdqsortCmpFunc_deal_entry _ _ _ _ _ _ _ _ ?_
  unfold F_slices_pdqsortCmpFunc_deal_entryT
  refine L_slices_pdqsortCmpFunc_deal_entry_0r _ _ _ _ _ _ _ _ _ _ ?_
  unfold L_slices_pdqsortCmpFunc_deal_entry_0T
  refine Br.yes (by decide) ?_
  refine F_slices_insertionSortCmpFunc_deal_entry _ _ _ _ _ _ _ ?_
  unfold F_slices_insertionSortCmpFunc_deal_entryT
  refine L_slices_insertionSortCmpFunc_deal_entry_0r _ _ _ _ _ _ _ _ ?_
  unfold L_slices_insertionSortCmpFunc_deal_entry_0T
  exact Br.no (by decide) (Ret.mk ⟨rfl, Ret.mk ⟨rfl, Ret.mk k⟩⟩)
theorem all_0 {s : Int} {n lc : Nat} (ok : S.Ok) (hn : S.L.length = n) (A : Arr eV h0 lp S.L) (k : ∀ h' q c', h0.le h' → Ints .i64 h' q (allM S s) → K (slice q (allM S s).length c') h') :
    ∀ (m j : Nat) (h : Heap) (l : Option Addr) (c : Nat), m + j = n → h0.le h → OwnL h0 h z10 l c ((ofS s (S.L.take j)).flatMap eV) → L_pdeal_Book_All_0 s l (ofS s (S.L.take j)).length c lp n lc (n : Int) (j : Int) h K := by
  have hn2 := ok.n
  intro m
  induction m with
  | zero =>
    intro j h l c hj l0 ol
    refine L_pdeal_Book_All_0r _ _ _ _ _ _ _ _ _ _ _ ?_
    unfold L_pdeal_Book_All_0T
    have hj : j = S.L.length := by omega
    subst hj
    rw [List.take_length] at ol ⊢
    have hF := ofS_len s S.L
    refine Br.no (by simp; omega) (Br.intro (fun g => ?_) fun g => ?_)
    · have g : s = 2 := by simpa using g
      subst g
      rcases ol with ⟨e1, rfl, rfl⟩ | ⟨B, sp, rfl, e0, a, ek⟩
      · have e1 : ofS 2 S.L = [] := by
          have := congrArg List.length e1
          rw [arr_len eV_len, List.length_nil] at this
          exact List.length_eq_zero_iff.1 (by omega)
        rw [e1]
        refine S_sortNilE ⟨rfl, ?_⟩
        have e2 : allM S 2 = [] := (all_sorted ok (d := []) (by rw [show (S.L.filter fun x => decide (x.st = 2)) = [] from e1]) .nil).symm
        rw [e2] at k
        exact all_1 (F := []) rfl (Nat.zero_le _) (.inl rfl) (fun h' q c' l' I => k h' q c' (Heap.le_trans l0 l') I) 0 0 h none 0 rfl (Heap.le_refl _) (.nil _ _ _)
      · refine S_sortFuncE (left := ofS 2 S.L) (g0 := h0) (m := (ofS 2 S.L).length) (d := (iota (ofS 2 S.L).length).toArray) (sp := sp) e0 rfl trivial (by omega) ⟨l0, ?_, by simp [iota_len], rfl⟩ fun h' d' D' hp hs => ⟨rfl, ?_⟩
        · have := lstI_iota (ofS 2 S.L)
          rw [show (iota (ofS 2 S.L).length).toArray.toList = iota (ofS 2 S.L).length from rfl, this]
          exact a
        · obtain ⟨q1, q2⟩ := sort_list rfl hp hs
          have e2 := all_sorted ok q1 q2
          rw [← e2, List.length_map] at k
          have hl : (lstI (ofS 2 S.L) d'.toList).length = (ofS 2 S.L).length := q1.length_eq
          rw [hl] at k
          exact all_1 hl (by omega) (D'.at_.toRd) (fun h2 q c' l' I => k h2 q c' (Heap.le_trans D'.le l') I) (ofS 2 S.L).length 0 h' none 0 (by omega) (Heap.le_refl _) (.nil _ _ _)
    · have g : s ≠ 2 := by simpa using g
      have e2 : allM S s = (ofS s S.L).map fun x => x.d.id := by unfold allM; rw [if_neg g]; rfl
      rw [e2, List.length_map] at k
      exact all_1 (F := ofS s S.L) rfl (by omega) ol.rd (fun h' q c' l' I => k h' q c' (Heap.le_trans l0 l') I) (ofS s S.L).length 0 h none 0 (by omega) (Heap.le_refl _) (.nil _ _ _)
  | succ m ih =>
    intro j h l c hj l0 ol
    refine L_pdeal_Book_All_0r _ _ _ _ _ _ _ _ _ _ _ ?_
    unfold L_pdeal_Book_All_0T
    have hjl : j < S.L.length := by omega
    have hl := ofS_succ (s := s) hjl
    have hF := ofS_len s (S.L.take j)
    rw [List.length_take] at hF
    refine Br.yes (decide_eq_true (by omega)) (ax eV_len (A.le l0) hn rfl (List.getElem?_eq_getElem hjl) (by decide) fun b o hb hc => ?_)
    refine ⟨_, hc 0 (by decide), _, hc 1 (by decide), _, hc 2 (by decide), _, hc 3 (by decide), _, hc 4 (by decide), _, hc 5 (by decide), _, hc 6 (by decide), _, hc 7 (by decide), _, hc 8 (by decide), _, hc 9 (by decide), newB_cp (vs := eV S.L[j]) rfl fun r h1 hr l1 A1 cs => ⟨cs, _, A1.cell rfl, Br.intro (fun g => ?_) fun g => ?_⟩⟩
    · rw [if_pos (by simpa using g)] at hl
      refine ⟨_, A1.cell rfl, _, A1.cell rfl, _, A1.cell rfl, _, A1.cell rfl, _, A1.cell rfl, _, A1.cell rfl, _, A1.cell rfl, _, A1.cell rfl, _, A1.cell rfl, _, A1.cell rfl, ?_⟩
      refine push1 (ol.le l1) (by decide) (Heap.le_trans l0 l1) (by omega) rfl rfl (by rw [arr_len eV_len]; rfl) fun r4 h4 p' c' h5 hr4 l4 l5 ol5 keep how => ?_
      rw [w1d (by omega)]
      have := ih (j + 1) h5 p' c' (by omega) l5 (by rw [hl, List.flatMap_append, List.flatMap_cons, List.flatMap_nil, List.append_nil]; exact ol5)
      rw [hl, List.length_append] at this
      exact this
    · rw [if_neg (by simpa using g)] at hl
      rw [w1d (by omega)]
      have := ih (j + 1) _ l c (by omega) (Heap.le_trans l0 l1) (by rw [hl]; exact ol.le l1)
      rw [hl] at this
      exact this
theorem S_All (P : PB h p S) {s : Int} (k : ∀ h' q c', h.le h' → Ints .i64 h' q (allM S s) → K (slice q (allM S s).length c') h') : CallA Try.prog fn_pdeal_Book_All [pointer (some ⟨p, 0, none⟩), .int .i64 s] h K := by
  obtain ⟨ok, lp, c, mr, B⟩ := P
  refine F_pdeal_Book_All _ _ _ _ ?_
  unfold F_pdeal_Book_AllT
  refine withAddr_intro rfl ⟨_, _, _, B.ap.cell rfl, ?_⟩
  exact all_0 ok rfl B.arr k S.L.length 0 h none 0 (by omega) (Heap.le_refl _) (.nil _ _ _)
end
end Go.Proofs.Ytjihfieahkbohaa

/- A book of instructions as bytes. -/
namespace Go.Proofs.Ytjihfieahkbohaa
open Go Go.Sy Go.Value
set_option linter.unusedVariables false
set_option linter.unusedSimpArgs false

def numsE (x : En) : List Int := [x.d.id, x.d.a, x.d.b, x.d.sc, x.d.bc, x.d.sell, x.d.buy, x.st, x.ask, x.ord]
def wdE : List Nat := [4, 1, 1, 1, 1, 8, 8, 1, 1, 2]
def wdA : Value := agg #[.int .i64 4, .int .i64 1, .int .i64 1, .int .i64 1, .int .i64 1, .int .i64 8, .int .i64 8, .int .i64 1, .int .i64 1, .int .i64 2]
theorem eV_nums (x : En) : eV x = intsV .i64 (numsE x) := rfl
def layN (x : En) (j : Nat) : List Int := (List.range j).flatMap fun i => beF ((numsE x).getD i 0) (wdE.getD i 0)
theorem layN_succ (x : En) (j : Nat) : layN x (j + 1) = layN x j ++ beF ((numsE x).getD j 0) (wdE.getD j 0) := by
  unfold layN
  rw [List.range_succ, List.flatMap_append]; simp
theorem layN_10 (x : En) : layN x 10 = entB x := by
  simp only [layN_succ]
  simp only [layN, List.range_zero, List.flatMap_nil, List.nil_append, numsE, wdE, List.getD_cons_zero, List.getD_cons_succ, List.append_assoc]
  rfl
theorem layN_len (x : En) (j : Nat) : (layN x j).length ≤ j * 8 := by
  induction j with
  | zero => exact Nat.le_refl _
  | succ j ih =>
    rw [layN_succ, List.length_append, beF_length]
    have : wdE.getD j 0 ≤ 8 := by
      have : ∀ l : List Nat, (∀ w ∈ l, w ≤ 8) → ∀ j, l.getD j 0 ≤ 8 := fun l h j => by
        rw [List.getD_eq_getElem?_getD]
        cases e : l[j]? with
        | none => simp
        | some w => exact h w (List.mem_of_getElem? e)
      exact this wdE (by decide) j
    omega
theorem arr_wd {j : Nat} (h : j < 10) {Q : Int → Prop} (k : Q ((wdE.getD j 0 : Nat) : Int)) : arrI .i64 [.int .i64 4, .int .i64 1, .int .i64 1, .int .i64 1, .int .i64 1, .int .i64 8, .int .i64 8, .int .i64 1, .int .i64 1, .int .i64 2] (Int.toNat (j : Int)) Q := by
  rw [Int.toNat_natCast]
  have : j = 0 ∨ j = 1 ∨ j = 2 ∨ j = 3 ∨ j = 4 ∨ j = 5 ∨ j = 6 ∨ j = 7 ∨ j = 8 ∨ j = 9 := by omega
  rcases this with rfl | rfl | rfl | rfl | rfl | rfl | rfl | rfl | rfl | rfl <;> exact k
theorem nums_get {x : En} {j : Nat} (h : j < 10) : (eV x)[0 + (j : Int).toNat]? = some (.int .i64 ((numsE x).getD j 0)) := by
  rw [Int.toNat_natCast, Nat.zero_add]
  have : j = 0 ∨ j = 1 ∨ j = 2 ∨ j = 3 ∨ j = 4 ∨ j = 5 ∨ j = 6 ∨ j = 7 ∨ j = 8 ∨ j = 9 := by omega
  rcases this with rfl | rfl | rfl | rfl | rfl | rfl | rfl | rfl | rfl | rfl <;> rfl
theorem wd_le {j : Nat} (h : j < 10) : wdE.getD j 0 ≤ 8 := by
  have : j = 0 ∨ j = 1 ∨ j = 2 ∨ j = 3 ∨ j = 4 ∨ j = 5 ∨ j = 6 ∨ j = 7 ∨ j = 8 ∨ j = 9 := by omega
  rcases this with rfl | rfl | rfl | rfl | rfl | rfl | rfl | rfl | rfl | rfl <;> decide
theorem u8V_ints' (l : List Int) : u8V l = intsV .u8 l := by rw [u8V_map, intsV_map]
section
variable {h0 : Heap} {K : Value → Heap → Prop}
theorem lay_0 {x : Int} : ∀ (j : Nat) (h : Heap) (b : Option Addr) (bc : Nat) (bs : List Int), j ≤ 8 → bs.length + j < 1000000 → h0.le h → OwnL h0 h [.int .u8 0] b bc (intsV .u8 bs) →
    (∀ b' bc' h', h0.le h' → OwnL h0 h' [.int .u8 0] b' bc' (intsV .u8 (bs ++ beF x j)) → (∀ q xs, At h q xs → b ≠ some ⟨q, 0, none⟩ → At h' q xs ∧ b' ≠ some ⟨q, 0, none⟩) → K (slice b' (bs.length + j) bc') h') →
    L_deal_lay_0 b bs.length bc x ((j : Int) - 1) h K
  | 0, h, b, bc, bs, _, _, l0, own, k => by
    refine L_deal_lay_0r _ _ _ _ _ _ _ ?_
    unfold L_deal_lay_0T
    refine Br.no (by decide) (Ret.mk ?_)
    exact k b bc h l0 (by rw [show beF x 0 = [] from rfl, List.append_nil]; exact own) fun q xs a n => ⟨a, n⟩
  | j + 1, h, b, bc, bs, hj, hb, l0, own, k => by
    refine L_deal_lay_0r _ _ _ _ _ _ _ ?_
    unfold L_deal_lay_0T
    rw [show ((j + 1 : Nat) : Int) - 1 = (j : Int) by omega]
    refine Br.yes (decide_eq_true (by omega)) (Br.yes (by rw [wrap_i64_id (by omega) (by omega)]; exact decide_eq_true (by omega)) ?_)
    rw [shift_byte x j (by omega)]
    refine push1 own (by decide) l0 (by omega) rfl rfl (by rw [intsV_length]; simp) fun r h1 p' c' h' hr l1 l' w' keep how => ?_
    rw [show [Value.int .u8 (byteAt x j)] = intsV .u8 [byteAt x j] from rfl, ← intsV_append] at w'
    rw [wrap_i64_id (n := (j : Int) - 1) (by omega) (by omega)]
    have := lay_0 (x := x) j h' p' c' (bs ++ [byteAt x j]) (by omega) (by rw [List.length_append]; simp; omega) l' w' fun b' bc' h2 l2 w2 fr => by
      have kk := k b' bc' h2 l2 (by rw [List.append_assoc] at w2; exact w2) fun q xs a n => fr q xs (keepAt keep (a.le l1) n) (push_ne how (a.le l1) n)
      rw [List.length_append, show bs.length + [byteAt x j].length + j = bs.length + (j + 1) by simp; omega]
      exact kk
    rw [List.length_append] at this
    exact this
theorem S_lay {x : Int} {w n : Nat} {h : Heap} {b : Option Addr} {bc : Nat} {bs : List Int} (hw : w ≤ 8) (hn : bs.length = n) (hb : n + w < 1000000) (l0 : h0.le h) (own : OwnL h0 h [.int .u8 0] b bc (intsV .u8 bs))
    (k : ∀ b' bc' h', h0.le h' → OwnL h0 h' [.int .u8 0] b' bc' (intsV .u8 (bs ++ beF x w)) → (∀ q xs, At h q xs → b ≠ some ⟨q, 0, none⟩ → At h' q xs ∧ b' ≠ some ⟨q, 0, none⟩) → K (slice b' (n + w) bc') h') :
    CallA Try.prog fn_deal_lay [slice b n bc, .int .i64 x, .int .i64 (w : Int)] h K := by
  refine F_deal_lay _ _ _ _ _ _ _ ?_
  unfold F_deal_layT
  subst hn
  rw [wrap_i64_id (by omega) (by omega)]
  exact lay_0 w h b bc bs hw hb l0 own k
variable {h : Heap}
theorem S_numbers {x : En} (k : ∀ h', h.le h' → K (eA x) h') : CallA Try.prog fn_deal_entry_numbers [eA x] h K := by
  refine F_deal_entry_numbers _ _ _ _ _ _ _ _ _ _ _ _ ?_
  unfold F_deal_entry_numbersT
  refine newB_at fun r h1 hr l1 A1 => newB_at fun r2 h2 hr2 l2 A2 => ?_
  have A1 := A1.le l2
  have A3 := A2.set (o := 0) (ws := eV x)
  refine ⟨_, A1.cell rfl, _, A1.cell rfl, _, A1.cell rfl, _, A1.cell rfl, _, A1.cell rfl, _, A1.cell rfl, _, A1.cell rfl, _, A1.cell rfl, _, A1.cell rfl, _, A1.cell rfl, A2.canSt (Nat.le_refl _), ?_⟩
  refine ⟨_, A3.cell rfl, _, A3.cell rfl, _, A3.cell rfl, _, A3.cell rfl, _, A3.cell rfl, _, A3.cell rfl, _, A3.cell rfl, _, A3.cell rfl, _, A3.cell rfl, _, A3.cell rfl, Ret.mk ?_⟩
  exact k _ (le_setN (Heap.le_trans l1 l2) (none_of_le l1 hr2))
theorem S_widths (k : ∀ h', h.le h' → K wdA h') : CallA Try.prog fn_deal_widths [] h K := by
  refine F_deal_widths _ _ ?_
  unfold F_deal_widthsT
  refine newB_at fun r2 h2 hr2 l2 A2 => ?_
  have A3 := A2.set (o := 0) (ws := [.int .i64 4, .int .i64 1, .int .i64 1, .int .i64 1, .int .i64 1, .int .i64 8, .int .i64 8, .int .i64 1, .int .i64 1, .int .i64 2])
  refine ⟨A2.canSt (Nat.le_refl _), _, A3.cell rfl, _, A3.cell rfl, _, A3.cell rfl, _, A3.cell rfl, _, A3.cell rfl, _, A3.cell rfl, _, A3.cell rfl, _, A3.cell rfl, _, A3.cell rfl, _, A3.cell rfl, Ret.mk ?_⟩
  exact k _ (le_setN l2 hr2)
/-- an entry's numbers, laid one by one -/
theorem text_1 {x : En} {r n pc : Nat} {pp : Option Addr} {T : Int} {j0 : Int} {bs : List Int} {N : Nat} (hN : bs.length = N) (hb : N + 100 < 1000000)
    (k : ∀ h b bc, h0.le h → OwnL h0 h [.int .u8 0] b bc (intsV .u8 (bs ++ entB x)) → L_pdeal_Book_Text_0 b (N + 28) bc pp n pc T (IntKind.wrap .i64 (j0 + 1)) h K) :
    ∀ (m j : Nat) (h : Heap) (b : Option Addr) (bc : Nat), m + j = 10 → h0.le h → At h r (eV x) → b ≠ some ⟨r, 0, none⟩ → OwnL h0 h [.int .u8 0] b bc (intsV .u8 (bs ++ layN x j)) →
    L_pdeal_Book_Text_1 b (N + (layN x j).length) bc r pp n pc T j0 4 1 1 1 1 8 8 1 1 2 (j : Int) h K := by
  intro m
  induction m with
  | zero =>
    intro j h b bc hj l0 A nb own
    refine L_pdeal_Book_Text_1r _ _ _ _ _ _ _ _ _ _ _ _ _ _ _ _ _ _ _ _ _ _ ?_
    unfold L_pdeal_Book_Text_1T
    have hj : j = 10 := by omega
    subst hj
    rw [layN_10] at own ⊢
    rw [entB_length]
    exact Br.no (by decide) (k h b bc l0 own)
  | succ m ih =>
    intro j h b bc hj l0 A nb own
    refine L_pdeal_Book_Text_1r _ _ _ _ _ _ _ _ _ _ _ _ _ _ _ _ _ _ _ _ _ _ ?_
    unfold L_pdeal_Book_Text_1T
    have hl := layN_len x j
    refine Br.yes (decide_eq_true (by omega)) ⟨by omega, by omega, arr_wd (by omega) (Br.yes (decide_eq_true (by omega)) (Br.yes (decide_eq_true (by omega)) ⟨_, A.cell (nums_get (by omega)), ?_⟩))⟩
    refine S_lay (bs := bs ++ layN x j) (wd_le (by omega)) (by rw [List.length_append, hN]) (by have := wd_le (j := j) (by omega); omega) l0 own fun b' bc' h' l' own' fr => ⟨_, _, _, rfl, ?_⟩
    obtain ⟨A', nb'⟩ := fr r _ A nb
    rw [w1d (by omega)]
    rw [List.append_assoc, ← layN_succ] at own'
    have := ih (j + 1) h' b' bc' (by omega) l' A' nb' own'
    rw [layN_succ, List.length_append, beF_length, ← Nat.add_assoc] at this
    exact this
theorem text_0 {L : List En} {n pc : Nat} {pp : Option Addr} (A : Arr eV h0 pp L) (hn : L.length = n) (hn2 : n ≤ 200) {hd : List Int} (hh : hd.length = 2) (k : ∀ h', h0.le h' → K (string (strOf (hd ++ L.flatMap entB))) h') :
    ∀ (m j : Nat) (h : Heap) (b : Option Addr) (bc : Nat), m + j = n → h0.le h → OwnL h0 h [.int .u8 0] b bc (intsV .u8 (hd ++ (L.take j).flatMap entB)) →
    L_pdeal_Book_Text_0 b (2 + j * 28) bc pp n pc (n : Int) (j : Int) h K := by
  intro m
  induction m with
  | zero =>
    intro j h b bc hj l0 own
    refine L_pdeal_Book_Text_0r _ _ _ _ _ _ _ _ _ _ ?_
    unfold L_pdeal_Book_Text_0T
    have hj : j = n := by omega
    subst hj
    rw [List.take_of_length_le (by omega)] at own
    exact Br.no (by simp) ⟨_, by rw [List.length_append, flat28, hh, hn], by rw [u8V_ints']; exact own.rd, Ret.mk (k h l0)⟩
  | succ m ih =>
    intro j h b bc hj l0 own
    refine L_pdeal_Book_Text_0r _ _ _ _ _ _ _ _ _ _ ?_
    unfold L_pdeal_Book_Text_0T
    have hjl : j < L.length := by omega
    have ex : L[j]? = some L[j] := List.getElem?_eq_getElem hjl
    have et : (L.take (j + 1)).flatMap entB = (L.take j).flatMap entB ++ entB L[j] := by
      rw [List.take_succ_eq_append_getElem hjl, List.flatMap_append, List.flatMap_cons, List.flatMap_nil, List.append_nil]
    generalize L[j] = x at ex et
    refine Br.yes (decide_eq_true (by omega)) (ax eV_len (A.le l0) hn rfl ex (by decide) fun b1 o hb hc => ?_)
    refine ⟨_, hc 0 (by decide), _, hc 1 (by decide), _, hc 2 (by decide), _, hc 3 (by decide), _, hc 4 (by decide), _, hc 5 (by decide), _, hc 6 (by decide), _, hc 7 (by decide), _, hc 8 (by decide), _, hc 9 (by decide), newB_cp (vs := eV x) rfl fun r h1 hr l1 A1 cs => ⟨cs, ?_⟩⟩
    refine ⟨_, A1.cell rfl, _, A1.cell rfl, _, A1.cell rfl, _, A1.cell rfl, _, A1.cell rfl, _, A1.cell rfl, _, A1.cell rfl, _, A1.cell rfl, _, A1.cell rfl, _, A1.cell rfl, ?_⟩
    refine S_numbers (x := x) fun h3 l3 => ⟨_, _, _, _, _, _, _, _, _, _, rfl, newB_cp (vs := eV x) rfl fun r2 h4 hr2 l4 A4 cs4 => ⟨cs4, ?_⟩⟩
    refine S_widths fun h5 l5 => ⟨_, _, _, _, _, _, _, _, _, _, rfl, ?_⟩
    have l15 := Heap.le_trans l1 (Heap.le_trans l3 (Heap.le_trans l4 l5))
    have own5 := own.le l15
    have nb := OwnL.fresh (own.le (Heap.le_trans l1 l3)) hr2
    have hlen : (hd ++ (L.take j).flatMap entB).length = 2 + j * 28 := by rw [List.length_append, flat28, hh, List.length_take]; omega
    have := text_1 (K := K) (x := x) (r := r2) (n := n) (pc := pc) (pp := pp) (T := (n : Int)) (j0 := (j : Int)) (bs := hd ++ (L.take j).flatMap entB) hlen (by omega) (fun h b bc l own => by
      rw [w1d (by omega), show 2 + j * 28 + 28 = 2 + (j + 1) * 28 by omega]
      rw [List.append_assoc, ← et] at own
      exact ih (j + 1) h b bc (by omega) l own) 10 0 h5 b bc rfl (Heap.le_trans l0 l15) (A4.le l5) nb (by rw [show layN x 0 = [] from rfl, List.append_nil]; exact own5)
    exact this
theorem S_Text {p : Nat} {S : Bk} (P : PB h p S) (k : ∀ h', h.le h' → K (string (strOf (textD S))) h') : CallA Try.prog fn_pdeal_Book_Text [pointer (some ⟨p, 0, none⟩)] h K := by
  obtain ⟨ok, lp, c, mr, B⟩ := P
  have hn := ok.n
  refine F_pdeal_Book_Text _ _ _ ?_
  unfold F_pdeal_Book_TextT
  refine withAddr_intro rfl ⟨_, _, _, B.ap.cell rfl, S_lay (h0 := h) (bs := []) (w := 2) (by decide) rfl (by decide) (Heap.le_refl _) (.nil _ _ _) fun b1 c1 h1 l1 own1 _ => ⟨_, _, _, rfl, withAddr_intro rfl ⟨_, _, _, (B.ap.le l1).cell rfl, ?_⟩⟩⟩
  exact text_0 (h0 := h) B.arr rfl hn (hd := beF (S.L.length : Int) 2) (beF_length _ _) k S.L.length 0 h1 b1 c1 (by omega) l1 (by rw [List.take_zero, List.flatMap_nil, List.append_nil]; exact own1)
end
end Go.Proofs.Ytjihfieahkbohaa

/- Whole numbers put in order: a list of them in memory. -/
namespace Go.Proofs.Ytjihfieahkbohaa
open Go Go.Sy Go.Value
set_option linter.unusedVariables false
set_option linter.unusedSimpArgs false

def ltOI (left : List Int) (x y : Int) : Bool := decide (x < y)
theorem swoOI (left : List Int) : Go.Sort.SWO (ltOI left) where
  irrefl x := by unfold ltOI; rw [decide_eq_false_iff_not]; omega
  trans x y z := by unfold ltOI; rw [decide_eq_true_eq, decide_eq_true_eq, decide_eq_true_eq]; omega
  ntrans x y z := by unfold ltOI; rw [decide_eq_false_iff_not, decide_eq_false_iff_not, decide_eq_false_iff_not]; omega
/-- a list of ones own at B, that is put in order: g0 is all else -/
structure DaI (left : List Int) (g0 : Heap) (B m n : Nat) (sp : List Value) (h : Heap) (d : Array Int) : Prop where
  le : g0.le h
  at_ : At h B (intsV .i64 d.toList ++ sp)
  sz : d.size = n
  rg : ∀ x ∈ d.toList, 0 ≤ x ∧ x < (m : Int)
section
variable {left : List Int} {g0 h : Heap} {B m n : Nat} {sp : List Value} {d : Array Int}
theorem bangI {i : Nat} (h : i < d.size) : d[i]! = d.toList[i]'(by simpa using h) := by
  rw [getElem!_pos d i h]; simp
theorem DaI.val (D : DaI left g0 B m n sp h d) {i : Nat} (hi : i < n) : 0 ≤ d[i]! ∧ d[i]! < (m : Int) := by
  have hi : i < d.size := by rw [D.sz]; exact hi
  rw [bangI hi]; exact D.rg _ (List.getElem_mem _)
theorem DaI.get (D : DaI left g0 B m n sp h d) {i : Nat} (hi : i < n) : h.cell B i = some (.int .i64 d[i]!) := by
  have hi : i < d.size := by rw [D.sz]; exact hi
  refine D.at_.cell ?_
  have hl : i < d.toList.length := by simpa using hi
  rw [List.getElem?_append_left (by rw [intsV_length]; exact hl), intsV_map, List.getElem?_map, List.getElem?_eq_getElem hl, bangI hi]; rfl
theorem DaI.mv (D : DaI left g0 B m n sp h d) {h' : Heap} (l : h.le h') : DaI left g0 B m n sp h' d := ⟨Heap.le_trans D.le l, D.at_.le l, D.sz, D.rg⟩
theorem setL_i1I {l : List Int} {sp : List Value} {c : Nat} {v : Int} (h : c < l.length) : setL (intsV .i64 l ++ sp) c [.int .i64 v] = intsV .i64 (l.set c v) ++ sp := by
  rw [setL, setL, setT_eq, List.set_append_left _ _ (by rw [intsV_length]; omega), intsV_map, intsV_map, List.map_set]
theorem DaI.st (D : DaI left g0 B m n sp h d) (e0 : g0 B = none) {i : Nat} {x : Int} (hi : i < n) (hx : 0 ≤ x ∧ x < (m : Int)) : DaI left g0 B m n sp (h.setN B i [.int .i64 x]) (d.setIfInBounds i x) := by
  refine ⟨le_setN D.le e0, ?_, by simpa using D.sz, fun y hy => ?_⟩
  · have := D.at_.set (o := i) (ws := [.int .i64 x])
    rw [setL_i1I (by simpa [D.sz] using hi)] at this
    simpa using this
  · simp only [Array.toList_setIfInBounds] at hy
    rcases List.mem_or_eq_of_mem_set hy with hy | hy
    · exact D.rg _ hy
    · subst hy; exact hx
theorem DaI.can (D : DaI left g0 B m n sp h d) {i : Nat} (hi : i < n) : h.canSt B i 1 := D.at_.canSt (by rw [List.length_append, intsV_length]; have := D.sz; simp; omega)
/-- two of it are compared -/
theorem lessAI (D : DaI left g0 B m n sp h d) (hm : left.length = m) (I : True) {X Y : Int} {i j : Nat} (hX : X = (i : Int)) (hY : Y = (j : Int)) (hi : i < n) (hj : j < n) {P Q : Heap → Prop}
    (k : ∀ h', DaI left g0 B m n sp h' d → Br (ltOI left d[i]! d[j]!) (P h') (Q h')) :
    (0 : Int) ≤ X ∧ X < (n : Int) ∧ withAddr (some ⟨B, 0, none⟩) fun b o => ∃ x, h.cell b (o + X.toNat) = some (.int .i64 x) ∧ (0 : Int) ≤ Y ∧ Y < (n : Int) ∧ withAddr (some ⟨B, 0, none⟩) fun b o => ∃ y, h.cell b (o + Y.toNat) = some (.int .i64 y) ∧
      CallA Try.prog fn_cmp_Less_int [.int .i64 x, .int .i64 y] h fun v h => ∃ (r : Bool), v = .bool r ∧ Br r (P h) (Q h) := by
  subst hX hY hm
  refine ⟨by omega, by omega, withAddr_intro rfl ⟨d[i]!, by rw [Int.toNat_natCast, Nat.zero_add]; exact D.get hi, by omega, by omega, withAddr_intro rfl ⟨d[j]!, by rw [Int.toNat_natCast, Nat.zero_add]; exact D.get hj, ?_⟩⟩⟩
  exact S_lessI ⟨_, rfl, k h D⟩
theorem lessNI (D : DaI left g0 B m n sp h d) (hm : left.length = m) (I : True) {X Y : Int} {i j : Nat} (hX : X = (i : Int)) (hY : Y = (j : Int)) (hi : i < n) (hj : j < n) {P Q : Heap → Prop}
    (k : ∀ h', DaI left g0 B m n sp h' d → Br (!ltOI left d[i]! d[j]!) (P h') (Q h')) :
    (0 : Int) ≤ X ∧ X < (n : Int) ∧ withAddr (some ⟨B, 0, none⟩) fun b o => ∃ x, h.cell b (o + X.toNat) = some (.int .i64 x) ∧ (0 : Int) ≤ Y ∧ Y < (n : Int) ∧ withAddr (some ⟨B, 0, none⟩) fun b o => ∃ y, h.cell b (o + Y.toNat) = some (.int .i64 y) ∧
      CallA Try.prog fn_cmp_Less_int [.int .i64 x, .int .i64 y] h fun v h => ∃ (r : Bool), v = .bool r ∧ Br (!r) (P h) (Q h) := by
  subst hX hY hm
  refine ⟨by omega, by omega, withAddr_intro rfl ⟨d[i]!, by rw [Int.toNat_natCast, Nat.zero_add]; exact D.get hi, by omega, by omega, withAddr_intro rfl ⟨d[j]!, by rw [Int.toNat_natCast, Nat.zero_add]; exact D.get hj, ?_⟩⟩⟩
  exact S_lessI ⟨_, rfl, k h D⟩
/-- two of it are swapped -/
theorem swapAI (D : DaI left g0 B m n sp h d) (e0 : g0 B = none) {X Y : Int} {i j : Nat} (hX : X = (i : Int)) (hY : Y = (j : Int)) (hi : i < n) (hj : j < n) {J : Heap → Prop}
    (k : ∀ h', DaI left g0 B m n sp h' (Go.Sort.swp d j i) → J h') :
    (0 : Int) ≤ X ∧ X < (n : Int) ∧ withAddr (some ⟨B, 0, none⟩) fun b o => ∃ x, h.cell b (o + X.toNat) = some (.int .i64 x) ∧ (0 : Int) ≤ Y ∧ Y < (n : Int) ∧ withAddr (some ⟨B, 0, none⟩) fun b o => ∃ y, h.cell b (o + Y.toNat) = some (.int .i64 y) ∧
      (0 : Int) ≤ Y ∧ Y < (n : Int) ∧ withAddr (some ⟨B, 0, none⟩) fun b o => h.canSt b (o + Y.toNat) 1 ∧ (0 : Int) ≤ X ∧ X < (n : Int) ∧ withAddr (some ⟨B, 0, none⟩) fun b1 o1 => (h.setN b (o + Y.toNat) [.int .i64 x]).canSt b1 (o1 + X.toNat) 1 ∧
        J ((h.setN b (o + Y.toNat) [.int .i64 x]).setN b1 (o1 + X.toNat) [.int .i64 y]) := by
  subst hX hY
  have D1 := D.st e0 hj (D.val hi)
  have D2 := D1.st e0 hi (D.val hj)
  have e : ∀ z : Nat, 0 + ((z : Nat) : Int).toNat = z := fun z => by rw [Int.toNat_natCast, Nat.zero_add]
  refine ⟨by omega, by omega, withAddr_intro rfl ⟨d[i]!, by rw [e]; exact D.get hi, by omega, by omega, withAddr_intro rfl ⟨d[j]!, by rw [e]; exact D.get hj, by omega, by omega, withAddr_intro rfl ⟨by rw [e]; exact D.can hj, by omega, by omega, withAddr_intro rfl ⟨by rw [e, e]; exact D1.can hi, ?_⟩⟩⟩⟩⟩
  rw [e, e]
  exact k _ D2
/-- .. and a box beside it stays -/
theorem lessRI (D : DaI left g0 B m n sp h d) (hm : left.length = m) (I : True) {r : Nat} {vs : List Value} (A : At h r vs) {X Y : Int} {i j : Nat} (hX : X = (i : Int)) (hY : Y = (j : Int)) (hi : i < n) (hj : j < n) {P Q : Heap → Prop}
    (k : ∀ h', DaI left g0 B m n sp h' d → At h' r vs → Br (ltOI left d[i]! d[j]!) (P h') (Q h')) :
    (0 : Int) ≤ X ∧ X < (n : Int) ∧ withAddr (some ⟨B, 0, none⟩) fun b o => ∃ x, h.cell b (o + X.toNat) = some (.int .i64 x) ∧ (0 : Int) ≤ Y ∧ Y < (n : Int) ∧ withAddr (some ⟨B, 0, none⟩) fun b o => ∃ y, h.cell b (o + Y.toNat) = some (.int .i64 y) ∧
      CallA Try.prog fn_cmp_Less_int [.int .i64 x, .int .i64 y] h fun v h => ∃ (r : Bool), v = .bool r ∧ Br r (P h) (Q h) := by
  subst hX hY hm
  refine ⟨by omega, by omega, withAddr_intro rfl ⟨d[i]!, by rw [Int.toNat_natCast, Nat.zero_add]; exact D.get hi, by omega, by omega, withAddr_intro rfl ⟨d[j]!, by rw [Int.toNat_natCast, Nat.zero_add]; exact D.get hj, ?_⟩⟩⟩
  exact S_lessI ⟨_, rfl, k h D A⟩
theorem swapRI (D : DaI left g0 B m n sp h d) (e0 : g0 B = none) {r : Nat} {vs : List Value} (A : At h r vs) (hbr : B ≠ r) {X Y : Int} {i j : Nat} (hX : X = (i : Int)) (hY : Y = (j : Int)) (hi : i < n) (hj : j < n) {J : Heap → Prop}
    (k : ∀ h', DaI left g0 B m n sp h' (Go.Sort.swp d j i) → At h' r vs → J h') :
    (0 : Int) ≤ X ∧ X < (n : Int) ∧ withAddr (some ⟨B, 0, none⟩) fun b o => ∃ x, h.cell b (o + X.toNat) = some (.int .i64 x) ∧ (0 : Int) ≤ Y ∧ Y < (n : Int) ∧ withAddr (some ⟨B, 0, none⟩) fun b o => ∃ y, h.cell b (o + Y.toNat) = some (.int .i64 y) ∧
      (0 : Int) ≤ Y ∧ Y < (n : Int) ∧ withAddr (some ⟨B, 0, none⟩) fun b o => h.canSt b (o + Y.toNat) 1 ∧ (0 : Int) ≤ X ∧ X < (n : Int) ∧ withAddr (some ⟨B, 0, none⟩) fun b1 o1 => (h.setN b (o + Y.toNat) [.int .i64 x]).canSt b1 (o1 + X.toNat) 1 ∧
        J ((h.setN b (o + Y.toNat) [.int .i64 x]).setN b1 (o1 + X.toNat) [.int .i64 y]) := by
  subst hX hY
  have D1 := D.st e0 hj (D.val hi)
  have D2 := D1.st e0 hi (D.val hj)
  have e : ∀ z : Nat, 0 + ((z : Nat) : Int).toNat = z := fun z => by rw [Int.toNat_natCast, Nat.zero_add]
  refine ⟨by omega, by omega, withAddr_intro rfl ⟨d[i]!, by rw [e]; exact D.get hi, by omega, by omega, withAddr_intro rfl ⟨d[j]!, by rw [e]; exact D.get hj, by omega, by omega, withAddr_intro rfl ⟨by rw [e]; exact D.can hj, by omega, by omega, withAddr_intro rfl ⟨by rw [e, e]; exact D1.can hi, ?_⟩⟩⟩⟩⟩
  rw [e, e]
  exact k _ D2 ((A.set_ne (Ne.symm hbr)).set_ne (Ne.symm hbr))
end
end Go.Proofs.Ytjihfieahkbohaa
