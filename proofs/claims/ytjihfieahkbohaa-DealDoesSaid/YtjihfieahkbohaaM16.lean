import Derived.Test.YtjihfieahkbohaaM15
import Derived.Test.YtjihfieahkbohaaM07
/- A book of instructions, read from bytes: whole. -/
namespace Go.Proofs.Ytjihfieahkbohaa
open Go Go.Sy Go.Value
set_option linter.unusedVariables false
set_option linter.unusedSimpArgs false

theorem PBk.del {h : Heap} {p : Nat} {S : Bk} {lp : Option Addr} {c mr B : Nat} {vs : List Value} (X : PBk h p S lp c mr) (a : At h B vs) (n1 : p ≠ B) (n2 : lp ≠ some ⟨B, 0, none⟩) : PBk (h.del B) p S lp c mr := by
  refine ⟨X.ap.del n1, X.ol.mv fun b xs e a' => a'.del fun e2 => n2 (by rw [e, e2]), ?_, X.np⟩
  have := X.mp.ne a
  obtain ⟨es, e, c, h1, h2⟩ := X.mp
  exact ⟨es, e, c, by unfold Heap.del; rw [if_neg (Ne.symm this)]; exact h1, h2⟩
theorem recs_pre {N j : Nat} {l : List Int} (h : j ≤ N) : recs N l = recs j l ++ (recs N l).drop j := by
  conv => lhs; rw [← List.take_append_drop j (recs N l)]
  rw [recs_take N j l h]
section
variable {K : Value → Heap → Prop} {p : Nat} {text : ByteArray} {mem cur : Int} (kF : ¬ ReadOK mem cur (bytesI text) → ∀ h', K (tuple #[pointer none, .int .i64 2]) h')
  (kS : ReadOK mem cur (bytesI text) → ∀ h', PB h' p (readBk mem cur (bytesI text)) → K (tuple #[pointer (some ⟨p, 0, none⟩), .int .i64 0]) h')
include kF kS
/-- are the numbers 1, 2, ..? -/
theorem rd_2 {q : Option Addr} {l : List Int} {n qc mr c : Nat} {lp : Option Addr} {h : Heap} (I : Ints .i64 h q l) (hn : l.length = n) (hn2 : n ≤ 200) (hl : l.Perm (ordsL (recsD (bytesI text)))) (hs : l.Pairwise fun x y => x ≤ y)
    (ok : (ordsL (recsD (bytesI text))).Perm (oneTo n) → ReadOK mem cur (bytesI text)) (B : PBk h p ⟨mem, cur, recsD (bytesI text), 0⟩ lp c mr) :
    ∀ (m j : Nat), m + j = n → (∀ i, i < j → l[i]? = some ((i : Int) + 1)) → L_deal_Read_2 (some ⟨p, 0, none⟩) q n qc q n qc (n : Int) (j : Int) h K := by
  have hnl : n = (ordsL (recsD (bytesI text))).length := by rw [← hn]; exact hl.length_eq
  intro m
  induction m with
  | zero =>
    intro j hj e
    refine L_deal_Read_2r _ _ _ _ _ _ _ _ _ _ _ ?_
    unfold L_deal_Read_2T
    have el : l = oneTo n := by
      refine List.ext_getElem? fun i => ?_
      unfold oneTo
      rw [List.getElem?_map]
      by_cases hi : i < n
      · rw [e i (by omega), List.getElem?_range hi]; rfl
      · rw [List.getElem?_eq_none (by omega), List.getElem?_eq_none (by rw [List.length_range]; omega)]; rfl
    have hr := ok (by rw [← el]; exact hl.symm)
    refine Br.no (by simp; omega) (withAddr_intro rfl ⟨B.ap.canSt (by simp), Ret.mk (kS hr _ ⟨(read_ok (bytesI_r text) hr).1, lp, c, mr, ?_⟩)⟩)
    have := B.wrM n
    unfold readBk
    rw [← hnl]
    exact this
  | succ m ih =>
    intro j hj e
    refine L_deal_Read_2r _ _ _ _ _ _ _ _ _ _ _ ?_
    unfold L_deal_Read_2T
    have hjl : j < l.length := by omega
    refine Br.yes (decide_eq_true (by omega)) (ix I hn rfl (List.getElem?_eq_getElem hjl) ?_)
    rw [w1d (by omega)]
    refine Br.intro (fun g => Ret.mk (kF (fun hr => ?_) h)) fun g => ih (j + 1) (by omega) fun i hi => ?_
    · have e2 : l = oneTo n := by
        have hp : l.Perm (oneTo n) := by rw [hnl]; exact hl.trans hr.ords
        exact List.Perm.eq_of_pairwise (le := fun x y => x ≤ y) (fun a b _ _ h1 h2 => by omega) hs (oneTo_pw n) hp
      have : l[j] = (j : Int) + 1 := by
        have e3 : l[j]? = (oneTo n)[j]? := by rw [e2]
        unfold oneTo at e3
        rw [List.getElem?_eq_getElem hjl, List.getElem?_map, List.getElem?_range (by omega)] at e3
        simpa using e3
      rw [this] at g
      have : ((j : Int) + 1) = ((j + 1 : Nat) : Int) := by omega
      rw [this] at g
      simp at g
    · by_cases h2 : i < j
      · exact e i h2
      · have : i = j := by omega
        subst this
        have g : l[i] = ((i + 1 : Nat) : Int) := by simpa using g
        rw [List.getElem?_eq_getElem hjl, g]; simp
theorem rd_0 {N : Nat} (hm : 1 ≤ mem ∧ mem ≤ 16) (hc1 : 1 ≤ cur ∧ cur ≤ 8) (hN : cntD (bytesI text) = N) (hN2 : N ≤ 200) (hs : text.size = 2 + 28 * N) {mr : Nat} :
    ∀ (m j : Nat) (h : Heap) (lp : Option Addr) (c : Nat) (op : Option Addr) (oc : Nat), m + j = N → PBk h p ⟨mem, cur, recs j ((bytesI text).drop 2), 0⟩ lp c mr →
      OwnL nulH h [.int .i64 0] op oc (intsV .i64 (ordsL (recs j ((bytesI text).drop 2)))) → op ≠ some ⟨p, 0, none⟩ → (∀ r, lp = some ⟨r, 0, none⟩ → op ≠ some ⟨r, 0, none⟩) →
      (∀ x ∈ recs j ((bytesI text).drop 2), mayD mem cur x.d ∧ couldE x) → ndL (recs j ((bytesI text).drop 2)) →
    L_deal_Read_0 text (some ⟨p, 0, none⟩) op (ordsL (recs j ((bytesI text).drop 2))).length oc ((2 + 28 * j : Nat) : Int) h K := by
  have hlb : (bytesI text).length = 2 + 28 * N := by rw [bytesI_length, hs]
  intro m
  induction m with
  | zero =>
    intro j h lp c op oc hj B ow n1 n2 hmay hnd
    refine L_deal_Read_0r _ _ _ _ _ _ _ _ ?_
    unfold L_deal_Read_0T
    have hj : j = N := by omega
    subst hj
    have hrd : recs j ((bytesI text).drop 2) = recsD (bytesI text) := by unfold recsD; rw [hN]
    have ok : (ordsL (recsD (bytesI text))).Perm (oneTo (ordsL (recsD (bytesI text))).length) → ReadOK mem cur (bytesI text) := fun hp =>
      { m1 := hm, c1 := hc1, l2 := by omega, n := by omega, len := by rw [hN, hlb], may := by rw [← hrd]; exact hmay, nd := by rw [← hrd]; exact hnd, ords := hp }
    rw [hrd] at B ow ⊢
    have hlen : (ordsL (recsD (bytesI text))).length ≤ 200 := by
      have := ordsL_len (recsD (bytesI text))
      rw [← hrd, recs_length] at this
      rw [hrd] at this
      omega
    refine Br.no (by rw [hs]; simp) ?_
    rcases ow with ⟨e1, rfl, rfl⟩ | ⟨Bo, sp, rfl, _, a, ek⟩
    · have e1 : ordsL (recsD (bytesI text)) = [] := by
        have := congrArg List.length e1
        rw [intsV_length] at this
        exact List.length_eq_zero_iff.1 this
      rw [e1]
      refine F_slices_Sort_int_int _ _ _ _ _ ?_
      unfold F_slices_Sort_int_intT
      rw [show (([] : List Int).length : Int) = ((0 : Nat) : Int) from rfl, show IntKind.wrap .u64 ((0 : Nat) : Int) = ((0 : Nat) : Int) from rfl]
      refine S_lenI (x := 0) (by decide) ⟨_, rfl, ?_⟩
      refine F_slices_pdqsortOrdered_int _ _ _ _ _ _ _ _ ?_
      unfold F_slices_pdqsortOrdered_intT
      refine L_slices_pdqsortOrdered_int_0r _ _ _ _ _ _ _ _ _ _ ?_
      unfold L_slices_pdqsortOrdered_int_0T
      refine Br.yes (by decide) ?_
      refine F_slices_insertionSortOrdered_int _ _ _ _ _ _ _ ?_
      unfold F_slices_insertionSortOrdered_intT
      refine L_slices_insertionSortOrdered_int_0r _ _ _ _ _ _ _ _ ?_
      unfold L_slices_insertionSortOrdered_int_0T
      refine Br.no (by decide) (Ret.mk ⟨rfl, Ret.mk ⟨rfl, Ret.mk ⟨rfl, ?_⟩⟩⟩)
      exact rd_2 kF kS (l := []) (n := 0) (.inl rfl) rfl (by decide) (by rw [e1]) .nil (fun hp => ok (by rw [e1] at hp ⊢; exact hp)) B 0 0 rfl (fun i hi => by omega)
    · have rg : ∀ x ∈ ordsL (recsD (bytesI text)), 0 ≤ x ∧ x < 65536 := fun v hv => by
        obtain ⟨x, hx, e, h0⟩ := mem_ordsL.1 hv
        obtain ⟨i, hi⟩ := List.mem_iff_getElem?.1 hx
        have hlt := (List.getElem?_eq_some_iff.1 hi).1
        rw [← hrd] at hi hlt
        rw [recs_length] at hlt
        rw [recs_get _ _ _ hlt] at hi
        cases hi
        have b2 := dec2 (l := (((((bytesI text).drop 2).drop (28 * i)).take 28).drop 26).take 2) (by simp only [List.length_take, List.length_drop]; omega) (bytes_take (bytes_drop (bytes_take (bytes_drop (bytes_drop (bytesI_r text) _) _) _) _) _)
        have e : decL 0 ((((((bytesI text).drop 2).drop (28 * i)).take 28).drop 26).take 2) = v := e
        rw [e] at b2
        exact b2.2
      have hd0 : (h.del Bo) Bo = none := del_same h Bo
      have B' := B.del a (fun e => n1 (by rw [e])) (fun e => n2 Bo e rfl)
      refine S_sortFuncI (left := List.replicate 65536 0) (g0 := h.del Bo) (m := 65536) (d := (ordsL (recsD (bytesI text))).toArray) (sp := sp) hd0 List.length_replicate trivial (by omega) ⟨del_le h Bo, a, by simp, rg⟩ fun h' d' D' hp hs' => ⟨rfl, ?_⟩
      obtain ⟨q1, q2⟩ := sort_ints rfl hp hs'
      have hl' : d'.toList.length = (ordsL (recsD (bytesI text))).length := q1.length_eq
      exact rd_2 kF kS (D'.at_.toRd) hl' hlen q1 q2 ok (B'.le D'.le) _ 0 rfl (fun i hi => by omega)
  | succ m ih =>
    intro j h lp c op oc hj B ow n1 n2 hmay hnd
    refine L_deal_Read_0r _ _ _ _ _ _ _ _ ?_
    unfold L_deal_Read_0T
    have hjN : j < N := by omega
    refine Br.yes (by rw [hs]; exact decide_eq_true (by omega)) (newB_at fun r1 h1 hr1 l1 A1 => S_widths fun h2 l2 => ⟨_, _, _, _, _, _, _, _, _, _, rfl, ?_⟩)
    have l12 := Heap.le_trans l1 l2
    have ex : recE (((bytesI text).drop (2 + 28 * j)).take 28) = recE ((((bytesI text).drop 2).drop (28 * j)).take 28) := by rw [List.drop_drop]
    have sn := recs_snoc j ((bytesI text).drop 2)
    rw [← ex] at sn
    -- the base: all but the row of numbers
    refine num_1 (hb := h) (p := p) (a := 2 + 28 * j) (r := r1) (on := (ordsL (recs j ((bytesI text).drop 2))).length) (oc := oc) (op := op) (x := recE (((bytesI text).drop (2 + 28 * j)).take 28)) (by omega) (by omega) rfl hr1 (fun h3 l3 A3 => ?_) 10 0 h2 rfl l12 (A1.le l2)
    have hask : 0 ≤ (recE (((bytesI text).drop (2 + 28 * j)).take 28)).ask := (dec1 (l := ((((bytesI text).drop (2 + 28 * j)).take 28).drop 25).take 1) (by simp only [List.length_take, List.length_drop]; omega) (bytes_take (bytes_drop (bytes_take (bytes_drop (bytesI_r text) _) _) _) _)).2.1
    have hord : 0 ≤ (recE (((bytesI text).drop (2 + 28 * j)).take 28)).ord ∧ (recE (((bytesI text).drop (2 + 28 * j)).take 28)).ord < 65536 := (dec2 (l := ((((bytesI text).drop (2 + 28 * j)).take 28).drop 26).take 2) (by simp only [List.length_take, List.length_drop]; omega) (bytes_take (bytes_drop (bytes_take (bytes_drop (bytesI_r text) _) _) _) _)).2
    have hget : (recsD (bytesI text))[j]? = some (recE (((bytesI text).drop (2 + 28 * j)).take 28)) := by
      unfold recsD
      rw [hN, recs_get _ _ _ hjN, ← ex]
    have hmem := List.mem_of_getElem? hget
    generalize recE (((bytesI text).drop (2 + 28 * j)).take 28) = x at *
    refine L_deal_Read_1r _ _ _ _ _ _ _ _ _ _ _ _ _ _ _ _ _ _ _ _ _ ?_
    unfold L_deal_Read_1T
    have B3 := B.le l3
    have ow3 := ow.le l3
    refine Br.no (by decide) ⟨_, A3.cell rfl, _, A3.cell rfl, _, A3.cell rfl, _, A3.cell rfl, _, A3.cell rfl, _, A3.cell rfl, _, A3.cell rfl, _, A3.cell rfl, _, A3.cell rfl, _, A3.cell rfl, newB_cp (vs := eV x) rfl fun r4 h4 hr4 l4 A4 cs => ⟨cs, ?_⟩⟩
    have B4 := B3.le l4
    have ow4 := ow3.le l4
    refine ⟨_, A4.cell rfl, _, A4.cell rfl, _, A4.cell rfl, _, A4.cell rfl, _, A4.cell rfl, _, A4.cell rfl, _, A4.cell rfl, S_may (d := x.d) B4 fun h5 l5 => ⟨_, rfl, ?_⟩⟩
    have B5 := B4.le l5
    have ow5 := ow4.le l5
    have A5 := A4.le l5
    by_cases gm : mayD mem cur x.d
    rotate_left
    · rw [decide_eq_false gm]
      exact Br.yes rfl (Ret.mk (kF (fun hr => gm (hr.may x hmem).1) _))
    rw [decide_eq_true gm]
    refine Br.no rfl ⟨_, A5.cell rfl, _, A5.cell rfl, _, A5.cell rfl, _, A5.cell rfl, _, A5.cell rfl, _, A5.cell rfl, _, A5.cell rfl, _, A5.cell rfl, _, A5.cell rfl, _, A5.cell rfl, S_could (x := x) hask hord.1 fun h6 l6 => ⟨_, rfl, ?_⟩⟩
    have B6 := B5.le l6
    have ow6 := ow5.le l6
    have A6 := A5.le l6
    by_cases gc : couldE x
    rotate_left
    · rw [decide_eq_false gc]
      exact Br.yes rfl (Ret.mk (kF (fun hr => gc (hr.may x hmem).2) _))
    rw [decide_eq_true gc]
    refine Br.no rfl ⟨_, A6.cell rfl, S_find B6 (fun hp => ⟨_, rfl, Br.no rfl ?_⟩) fun i y r hp hy hr => ⟨_, rfl, Br.yes rfl (Ret.mk (kF (fun hro => ?_) _))⟩⟩
    rotate_left
    · have h1 := hro.nd j x hget
      have h2 : recsD (bytesI text) = recs j ((bytesI text).drop 2) ++ (recsD (bytesI text)).drop j := by
        unfold recsD
        rw [hN]; exact recs_pre (by omega)
      rw [h2, posE_app, hp] at h1
      have h3 := (List.getElem?_eq_some_iff.1 hy).1
      rw [recs_length] at h3
      have h1 : i = j := by simpa using h1
      omega
    have hp : posE x.d.id (recs j ((bytesI text).drop 2)) = none := hp
    have hmay' : ∀ y ∈ recs (j + 1) ((bytesI text).drop 2), mayD mem cur y.d ∧ couldE y := fun y hy => by
      rw [sn] at hy
      rcases List.mem_append.1 hy with hy | hy
      · exact hmay y hy
      · rw [List.mem_singleton] at hy; subst hy; exact ⟨gm, gc⟩
    have hnd' : ndL (recs (j + 1) ((bytesI text).drop 2)) := fun i y hy => by
      rw [sn] at hy ⊢
      rw [posE_snoc _ x hp]
      by_cases g : i < (recs j ((bytesI text).drop 2)).length
      · rw [List.getElem?_append_left g] at hy
        have hm := List.mem_of_getElem? hy
        rw [if_neg (fun e => posE_none hp y hm e), hnd i y hy]
      · have hl := (List.getElem?_eq_some_iff.1 hy).1
        rw [List.length_append, List.length_singleton] at hl
        have : i = (recs j ((bytesI text).drop 2)).length := by omega
        subst this
        rw [List.getElem?_append_right (Nat.le_refl _), Nat.sub_self] at hy
        have hy : x = y := by simpa using hy
        subst hy
        rw [if_pos rfl]
    have wn : IntKind.wrap .i64 (((2 + 28 * j : Nat) : Int) + 28) = ((2 + 28 * (j + 1) : Nat) : Int) := by rw [wrap_i64_id (by omega) (by omega)]; omega
    have hl3 : (recs j ((bytesI text).drop 2)).length ≤ 1000 := by rw [recs_length]; omega
    refine ⟨_, A6.cell rfl, Br.dec (fun g => ?_) fun g => ?_⟩
    · have eo : ordsL (recs (j + 1) ((bytesI text).drop 2)) = ordsL (recs j ((bytesI text).drop 2)) ++ [x.ord] := by
        rw [sn, ordsL_app]
        congr 1
        unfold ordsL
        rw [List.map_cons]
        exact List.filter_cons_of_pos (decide_eq_true (show (0 : Int) < x.ord from g))
      have ho := ordsL_len (recs j ((bytesI text).drop 2))
      refine ⟨_, A6.cell rfl, push1 ow6 (by decide) (nulH_le _) (by omega) rfl rfl (by rw [intsV_length]; simp) fun r7 h7 p' c' h8 hr7 l7 _ ow8 keep how => ?_⟩
      have B8 := (B6.le l7).keep keep n1 n2 (OwnL.neM (ow6.le l7) (B6.mp.le l7))
      have n1' := push_ne how (B6.ap.le l7) n1
      have n2' : ∀ r, lp = some ⟨r, 0, none⟩ → p' ≠ some ⟨r, 0, none⟩ := fun r e => by
        rcases (B6.le l7).ol with ⟨_, e2, _⟩ | ⟨s, sp, e2, _, a, _⟩
        · rw [e2] at e; cases e
        · rw [e2] at e
          have e : s = r := by simpa using e
          subst e
          exact push_ne how a (n2 s e2)
      have nr : op ≠ some ⟨r4, 0, none⟩ := by
        have := OwnL.fresh ow3 hr4
        exact this
      have A8 := keepAt keep (A6.le l7) nr
      rw [wn]
      refine addE (J := fun h => L_deal_Read_0 text (some ⟨p, 0, none⟩) p' ((ordsL (recs j ((bytesI text).drop 2))).length + 1) c' ((2 + 28 * (j + 1) : Nat) : Int) h K) B8 A8 hp hl3 fun h9 lp9 c9 B9 fr => ?_
      obtain ⟨w9, n9⟩ := fr _ _ _ _ ow8 n1' n2'
      have := ih (j + 1) h9 lp9 c9 p' c' (by omega) (by rw [sn]; exact B9) (by rw [eo, intsV_append]; exact w9) n1' n9 hmay' hnd'
      rw [eo, List.length_append] at this
      exact this
    · have eo : ordsL (recs (j + 1) ((bytesI text).drop 2)) = ordsL (recs j ((bytesI text).drop 2)) := by
        rw [sn, ordsL_app]
        have : ordsL [x] = [] := by
          unfold ordsL
          rw [List.map_cons]
          exact List.filter_cons_of_neg (by simp; omega)
        rw [this, List.append_nil]
      rw [wn]
      refine addE (J := fun h => L_deal_Read_0 text (some ⟨p, 0, none⟩) op (ordsL (recs j ((bytesI text).drop 2))).length oc ((2 + 28 * (j + 1) : Nat) : Int) h K) B6 A6 hp hl3 fun h9 lp9 c9 B9 fr => ?_
      obtain ⟨w9, n9⟩ := fr _ _ _ _ ow6 n1 n2
      have := ih (j + 1) h9 lp9 c9 op oc (by omega) (by rw [sn]; exact B9) (by rw [eo]; exact w9) n1 n9 hmay' hnd'
      rw [eo] at this
      exact this
end
theorem S_Read {h : Heap} {K : Value → Heap → Prop} {text : ByteArray} {mem cur : Int} (hz : text.size ≤ 1000000000) (kF : ¬ ReadOK mem cur (bytesI text) → ∀ h', K (tuple #[pointer none, .int .i64 2]) h')
    (kS : ReadOK mem cur (bytesI text) → ∀ p h', PB h' p (readBk mem cur (bytesI text)) → K (tuple #[pointer (some ⟨p, 0, none⟩), .int .i64 0]) h') :
    CallA Try.prog fn_deal_Read [string text, .int .i64 mem, .int .i64 cur] h K := by
  refine F_deal_Read _ _ _ _ _ ?_
  unfold F_deal_ReadT
  have hlb := bytesI_length text
  refine S_New (fun g => ⟨_, _, rfl, Br.yes rfl (Ret.mk (kF (fun r => g ⟨r.m1, r.c1⟩) _))⟩) fun g p h1 l1 P1 => ⟨_, _, rfl, Br.no rfl (Br.dec (fun g2 => Ret.mk (kF (fun r => by have := r.l2; omega) _)) fun g2 => ⟨by omega, by omega, ?_⟩)⟩
  have e2 : bytesI (text.extract 0 2) = (bytesI text).take 2 := by rw [bytesI_extract, List.drop_zero]
  refine S_take (by rw [ByteArray.size_extract]; omega) fun h2 l2 => ⟨_, rfl, ?_⟩
  rw [e2]
  have d2 := (dec2 (l := (bytesI text).take 2) (by rw [List.length_take]; omega) (bytes_take (bytesI_r text) _)).2
  have ec : ((cntD (bytesI text) : Nat) : Int) = decL 0 ((bytesI text).take 2) := by unfold cntD; omega
  rw [← ec]
  refine Br.dec (fun g3 => Ret.mk (kF (fun r => by have := r.n; omega) _)) fun g3 => ?_
  have w : IntKind.wrap .i64 (2 + IntKind.wrap .i64 (28 * ((cntD (bytesI text) : Nat) : Int))) = ((2 + 28 * cntD (bytesI text) : Nat) : Int) := by
    rw [wrap_i64_id (n := 28 * ((cntD (bytesI text) : Nat) : Int)) (by omega) (by omega), wrap_i64_id (by omega) (by omega)]; omega
  rw [w]
  refine Br.intro (fun g4 => Ret.mk (kF (fun r => ?_) _)) fun g4 => ?_
  · have := r.len
    rw [hlb] at this
    rw [this] at g4
    simp at g4
  have g4 : text.size = 2 + 28 * cntD (bytesI text) := by
    have : ((text.size : Nat) : Int) = ((2 + 28 * cntD (bytesI text) : Nat) : Int) := by simpa using g4
    omega
  obtain ⟨_, lp, c, mr, B⟩ := P1
  have := rd_0 (p := p) kF (fun r h' P => kS r p h' P) g.1 g.2 rfl (by omega) g4 (mr := mr) (cntD (bytesI text)) 0 h2 lp c none 0 (by omega) (B.le l2) (.nil _ _ _) (fun e => by cases e) (fun _ _ e => by cases e) (fun _ x => by cases x) (fun i x e => by cases e)
  exact this
end Go.Proofs.Ytjihfieahkbohaa

/- Books apart from each other and from all else; lists held against each other. -/
namespace Go.Proofs.Ytjihfieahkbohaa
open Go Go.Sy Go.Value
set_option linter.unusedVariables false
set_option linter.unusedSimpArgs false

/-- X, g1 and g2 are parts of H, apart from each other -/
structure SepT (H X g1 g2 : Heap) : Prop where
  x : X.le H
  a : g1.le H
  b : g2.le H
  xa : ∀ r o, X r = some o → g1 r = none
  xb : ∀ r o, X r = some o → g2 r = none
  ab : ∀ r o, g1 r = some o → g2 r = none
section
variable {P : Program} {f : FuncId} {args : List Value} {H H' X g1 g2 : Heap} {K : Value → Heap → Prop}
theorem SepT.le (s : SepT H X g1 g2) (l : H.le H') : SepT H' X g1 g2 := ⟨Heap.le_trans s.x l, Heap.le_trans s.a l, Heap.le_trans s.b l, s.xa, s.xb, s.ab⟩
theorem SepT.ba (s : SepT H X g1 g2) : ∀ r o, g2 r = some o → g1 r = none := fun r o e => by
  cases h : g1 r with
  | none => rfl
  | some y => have := s.ab r y h; rw [e] at this; cases this
theorem SepT.call1 (s : SepT H X g1 g2) (c : CallA P f args g1 fun v g' => ∀ H', SepT H' X g' g2 → K v H') : CallA P f args H K :=
  (c.frame2 s.a).mono fun v h' ⟨g', k, l', keep, off⟩ => k h' ⟨fun r o e => keep r o (s.x r o e) (s.xa r o e), l', fun r o e => keep r o (s.b r o e) (s.ba r o e), fun r o e => off r o (s.x r o e) (s.xa r o e), s.xb, fun r o e => by
    cases h : g2 r with
    | none => rfl
    | some y =>
      have := off r y (s.b r y h) (s.ba r y h)
      rw [e] at this; cases this⟩
theorem SepT.call2 (s : SepT H X g1 g2) (c : CallA P f args g2 fun v g' => ∀ H', SepT H' X g1 g' → K v H') : CallA P f args H K :=
  (c.frame2 s.b).mono fun v h' ⟨g', k, l', keep, off⟩ => k h' ⟨fun r o e => keep r o (s.x r o e) (s.xb r o e), fun r o e => keep r o (s.a r o e) (s.ab r o e), l', s.xa, fun r o e => off r o (s.x r o e) (s.xb r o e), fun r o e => off r o (s.a r o e) (s.ab r o e)⟩
/-- a call that is shown nothing: what is new is apart -/
theorem SepT.new2 (s : SepT H X g1 nulH) (c : CallA P f args nulH fun v g' => ∀ H', SepT H' X g1 g' → K v H') : CallA P f args H K := s.call2 c
theorem SepT.new1 (s : SepT H X nulH g2) (c : CallA P f args nulH fun v g' => ∀ H', SepT H' X g' g2 → K v H') : CallA P f args H K := s.call1 c
theorem SepT.start (h : Heap) : SepT h h nulH nulH := ⟨h.le_refl, nulH_le h, nulH_le h, fun _ _ _ => rfl, fun _ _ _ => rfl, fun _ _ _ => rfl⟩
theorem ins_mono {X H : Heap} (l : X.le H) (r : Nat) (o : Obj) : (X.ins r o).le (H.ins r o) := fun x y e => by
  unfold Heap.ins at e ⊢
  split
  · rename_i g; rw [if_pos g] at e; exact e
  · rename_i g; rw [if_neg g] at e; exact l x y e
theorem SepT.ins (s : SepT H X g1 g2) {r : Nat} (hr : H r = none) (o : Obj) : SepT (H.ins r o) (X.ins r o) g1 g2 := by
  have dj : ∀ g : Heap, g.le H → (∀ r o, X r = some o → g r = none) → ∀ x y, (X.ins r o) x = some y → g x = none := fun g l d x y e => by
    unfold Heap.ins at e
    split at e
    · rename_i h; rw [h]; exact none_of_le l hr
    · exact d x y e
  exact ⟨ins_mono s.x r o, Heap.le_trans s.a (le_ins hr), Heap.le_trans s.b (le_ins hr), dj g1 s.a s.xa, dj g2 s.b s.xb, s.ab⟩
theorem setN_dom {h : Heap} {b o x : Nat} {ws : List Value} {y : Obj} (e : (h.setN b o ws) x = some y) : ∃ z, h x = some z := by
  by_cases g : x = b
  · subst g
    unfold Heap.setN at e
    cases hx : h x with
    | none => simp [hx] at e
    | some z => exact ⟨z, rfl⟩
  · rw [setN_other g] at e; exact ⟨y, e⟩
theorem setN_mono {X H : Heap} (l : X.le H) {b o : Nat} {vs ws : List Value} (a : At X b vs) : (X.setN b o ws).le (H.setN b o ws) := fun x y e => by
  by_cases g : x = b
  · subst g
    obtain ⟨T, ea⟩ := a
    have eh := l _ _ ea
    unfold Heap.setN at e ⊢
    rw [ea] at e
    rw [eh]
    exact e
  · rw [setN_other g] at e ⊢; exact l x y e
theorem SepT.set (s : SepT H X g1 g2) {b o : Nat} {vs ws : List Value} (a : At X b vs) : SepT (H.setN b o ws) (X.setN b o ws) g1 g2 := by
  obtain ⟨T, ea⟩ := a
  exact ⟨setN_mono s.x ⟨T, ea⟩, le_setN s.a (s.xa b _ ea), le_setN s.b (s.xb b _ ea), fun r y e => (setN_dom e).elim fun z hz => s.xa r z hz, fun r y e => (setN_dom e).elim fun z hz => s.xb r z hz, s.ab⟩
/-- a new box, written at once -/
theorem SepT.cp (s : SepT H X g1 g2) {z vs : List Value} {T : TypeId} {J : Nat → Heap → Prop} (hv : vs.length = z.length)
    (k : ∀ r H1 X', SepT (H1.setN r 0 vs) X' g1 g2 → At X' r vs → (∀ b xs, At X b xs → At X' b xs) → H1.canSt r 0 z.length → X r = none → X.le X' → J r H1) : newB H z T J := fun r hr => by
  have s1 := s.ins hr (.cells z.toArray T (0, 0))
  have a1 := At.new X r z T
  have hx := none_of_le s.x hr
  have a2 := a1.set (o := 0) (ws := vs)
  have e := setL_end vs [] z (by omega)
  rw [List.nil_append, List.nil_append, hv, List.drop_length, List.append_nil] at e
  rw [show ([] : List Value).length = 0 from rfl] at e
  rw [e] at a2
  exact k r _ _ (s1.set a1) a2 (fun b xs a => (a.ins hx).set_ne (a.ne hx)) (canSt_ins _ _ _ _ _ _ (by omega)) hx (le_setN (le_ins hx) hx)
/-- a new box -/
theorem SepT.box (s : SepT H X g1 g2) {z : List Value} {T : TypeId} {J : Nat → Heap → Prop}
    (k : ∀ r H1 X', SepT H1 X' g1 g2 → At X' r z → (∀ b xs, At X b xs → At X' b xs) → X r = none → X.le X' → J r H1) : newB H z T J := fun r hr => by
  have hx := none_of_le s.x hr
  exact k r _ _ (s.ins hr _) (At.new X r z T) (fun b xs a => a.ins hx) hx (le_ins hx)
end
section
variable {K : Value → Heap → Prop} {h : Heap}
theorem sameI_loop {a b : Option Addr} {la lb : List Int} {n ac bc : Nat} (Ia : Ints .i64 h a la) (Ib : Ints .i64 h b lb) (ha : la.length = n) (hb : lb.length = n) (hs : n ≤ 1099511627776) :
    ∀ (m j : Nat), m + j = n → Ret h K (.bool (decide (la.drop j = lb.drop j))) → L_ref11_Same_0 a n ac b n bc j h K := by
  intro m
  induction m with
  | zero =>
    intro j hj k
    refine L_ref11_Same_0r _ _ _ _ _ _ _ _ _ ?_
    unfold L_ref11_Same_0T
    refine Br.no (by simp; omega) ?_
    rw [List.drop_eq_nil_of_le (by omega), List.drop_eq_nil_of_le (by omega)] at k
    exact k
  | succ m ih =>
    intro j hj k
    refine L_ref11_Same_0r _ _ _ _ _ _ _ _ _ ?_
    unfold L_ref11_Same_0T
    have ea : la[j]? = some la[j] := List.getElem?_eq_getElem (by omega)
    have eb : lb[j]? = some lb[j] := List.getElem?_eq_getElem (by omega)
    rw [List.drop_eq_getElem_cons (by omega : j < la.length), List.drop_eq_getElem_cons (by omega : j < lb.length)] at k
    refine Br.yes (by simp; omega) (ix Ia ha rfl ea (ix Ib hb rfl eb ?_))
    refine Br.intro (fun e => ?_) (fun e => ?_)
    · have : la[j] ≠ lb[j] := by simpa using e
      rw [decide_eq_false (fun x => this (List.cons.inj x).1)] at k
      exact k
    · have e : la[j] = lb[j] := by simpa using e
      rw [wrap_i64_id (by omega) (by omega)]
      refine ih (j + 1) (by omega) ?_
      have e0 : ∀ (a b : Int) (x y : List Int), a = b → ((a :: x = b :: y) ↔ x = y) := by rintro a _ x y rfl; simp
      have := e0 _ _ (la.drop (j + 1)) (lb.drop (j + 1)) e
      rw [decide_eq_decide.2 this] at k
      exact k
theorem S_SameI {a b : Option Addr} {la lb : List Int} {n m ac bc : Nat} (Ia : Ints .i64 h a la) (Ib : Ints .i64 h b lb) (ha : la.length = n) (hb : lb.length = m) (hs : n ≤ 1099511627776) (k : K (.bool (decide (la = lb))) h) :
    CallA Try.prog fn_ref11_Same [slice a n ac, slice b m bc] h K := by
  refine F_ref11_Same _ _ _ _ _ _ _ _ ?_
  unfold F_ref11_SameT
  refine Br.intro (fun e => ?_) (fun e => ?_)
  · have : n ≠ m := fun x => by rw [x] at e; simp at e
    rw [decide_eq_false (fun x => this (by rw [← ha, ← hb, x]))] at k
    exact Ret.mk k
  · have e : n = m := by
      have : ((n : Nat) : Int) = (m : Int) := by simpa using e
      omega
    subst e
    refine sameI_loop Ia Ib ha hb hs n 0 (by omega) (Ret.mk ?_)
    rw [List.drop_zero, List.drop_zero]
    exact k
end
end Go.Proofs.Ytjihfieahkbohaa

/- The calls whose answers the document fixes. -/
namespace Go.Proofs.Ytjihfieahkbohaa
open Go Go.Sy Go.Value
set_option linter.unusedVariables false
set_option linter.unusedSimpArgs false

def dA1 : Dl := ⟨7, 0, 1, 0, 1, 100, 80⟩
def dA2 : Dl := ⟨7, 1, 0, 1, 0, 80, 100⟩
def sA1 : Bk := ⟨3, 2, [⟨dA1, 1, 0, 0⟩], 0⟩
def sA2 : Bk := ⟨3, 2, [⟨dA1, 2, 0, 1⟩], 1⟩
def sA3 : Bk := ⟨3, 2, [⟨dA1, 2, 2, 1⟩], 1⟩
def sA4 : Bk := ⟨3, 2, [⟨dA1, 3, 2, 1⟩], 1⟩
theorem mA1 : mayD 3 2 dA1 := by unfold mayD dA1; decide
theorem mA2 : mayD 3 2 dA2 := by unfold mayD dA2; decide
theorem eA1 : submitM ⟨3, 2, [], 0⟩ dA1 = (false, 0, sA1) := by unfold submitM; rw [if_pos mA1]; rfl
theorem eA2 : submitM sA1 dA1 = (false, 6, sA1) := by unfold submitM; rw [if_pos (show mayD sA1.mem sA1.cur dA1 from mA1)]; rfl
theorem eA3 : submitM sA1 dA2 = (true, 0, sA2) := by unfold submitM; rw [if_pos (show mayD sA1.mem sA1.cur dA2 from mA2)]; rfl
theorem eA4 : rescindM sA2 1 7 = (2, 0, sA3) := rfl
theorem eA5 : settleM sA3 7 = (0, sA4) := rfl
theorem eA6 : rescindM sA4 0 7 = (0, 7, sA4) := rfl
theorem eA7 : allM sA4 3 = [7] := rfl
theorem eA8 : removeM sA4 0 = ([], sA4) := rfl
theorem law11_awake_ok {h0 : Heap} {K : Value → Heap → Prop} (k : ∀ h', h0.le h' → K (.bool true) h') : CallA Try.prog fn_law11_awake [] h0 K := by
  refine F_law11_awake _ _ ?_
  unfold F_law11_awakeT
  have s := SepT.start h0
  refine s.new1 (S_New (fun g => (g ⟨by decide, by decide⟩).elim) fun _ p g1 _ P H s => ⟨_, _, rfl, ?_⟩)
  refine S_New (fun _ => ⟨_, _, rfl, Br.no rfl ?_⟩) fun g => by omega
  refine s.cp (vs := dV dA1) rfl fun r1 H1 X1 s A1 fr1 cs1 _ lx1 => ⟨cs1, ?_⟩
  refine s.cp (vs := dV dA2) rfl fun r2 H2 X2 s A2 fr2 cs2 _ lx2 => ⟨cs2, ?_⟩
  have A1 := fr2 _ _ A1
  have B1 := A1.le s.x
  refine ⟨_, B1.cell rfl, _, B1.cell rfl, _, B1.cell rfl, _, B1.cell rfl, _, B1.cell rfl, _, B1.cell rfl, _, B1.cell rfl, ?_⟩
  refine s.call1 (S_Submit P (d := dA1) (by unfold I64d dA1; decide) fun g1 P H s => ⟨_, _, rfl, ?_⟩)
  rw [eA1] at P ⊢
  dsimp only at P ⊢
  have B1 := A1.le s.x
  refine ⟨_, B1.cell rfl, _, B1.cell rfl, _, B1.cell rfl, _, B1.cell rfl, _, B1.cell rfl, _, B1.cell rfl, _, B1.cell rfl, ?_⟩
  refine s.call1 (S_Submit P (d := dA1) (by unfold I64d dA1; decide) fun g1 P H s => ⟨_, _, rfl, ?_⟩)
  rw [eA2] at P ⊢
  dsimp only at P ⊢
  have B2 := A2.le s.x
  refine ⟨_, B2.cell rfl, _, B2.cell rfl, _, B2.cell rfl, _, B2.cell rfl, _, B2.cell rfl, _, B2.cell rfl, _, B2.cell rfl, ?_⟩
  refine s.call1 (S_Submit P (d := dA2) (by unfold I64d dA2; decide) fun g1 P H s => ⟨_, _, rfl, ?_⟩)
  rw [eA3] at P ⊢
  dsimp only at P ⊢
  refine s.call1 (S_Rescind P fun g1 P H s => ⟨_, _, rfl, ?_⟩)
  rw [eA4] at P ⊢
  dsimp only at P ⊢
  refine s.call1 (S_Settle P fun g1 P H s => ⟨_, rfl, ?_⟩)
  rw [eA5] at P ⊢
  dsimp only at P ⊢
  obtain ⟨ok, lp, c, mr, B⟩ := P
  refine S_Deal (B.le s.a) fun H' l' => ⟨_, _, _, _, _, _, _, _, rfl, ?_⟩
  have s := s.le l'
  refine s.cp (vs := dV dA1) rfl fun r3 H3 X3 s A3 fr3 cs3 _ lx3 => ⟨cs3, ?_⟩
  refine s.call1 (S_Rescind ⟨ok, lp, c, mr, B⟩ fun g1 P H s => ⟨_, _, rfl, ?_⟩)
  rw [eA6] at P ⊢
  dsimp only at P ⊢
  refine S_Text (P.le s.a) fun H' l' => ⟨_, rfl, ?_⟩
  have s := s.le l'
  have hb : bytesI (strOf (textD sA4)) = textD sA4 := bytesI_strOf (textD_r _)
  have hro : ReadOK 3 2 (bytesI (strOf (textD sA4))) := by rw [hb]; exact (text_read P.1).1
  have hre : readBk 3 2 (bytesI (strOf (textD sA4))) = sA4 := by rw [hb]; exact (text_read P.1).2
  refine s.new2 (S_Read (by rw [strOf_size (textD_r _), textD_length]; decide) (fun g => (g hro).elim) fun _ p2 g2 P2 H s => ⟨_, _, rfl, ?_⟩)
  rw [hre] at P2
  refine Br.yes rfl (Br.yes rfl (Br.yes rfl (Br.yes rfl (Br.yes rfl (Br.yes rfl (Br.yes rfl (Br.yes rfl (Br.yes rfl (Br.yes rfl ?_)))))))))
  have B3 := A3.le s.x
  have B1 := (fr3 _ _ A1).le s.x
  refine ⟨_, B3.cell rfl, _, B3.cell rfl, _, B3.cell rfl, _, B3.cell rfl, _, B3.cell rfl, _, B3.cell rfl, _, B3.cell rfl, ?_⟩
  refine ⟨_, B1.cell rfl, _, B1.cell rfl, _, B1.cell rfl, _, B1.cell rfl, _, B1.cell rfl, _, B1.cell rfl, _, B1.cell rfl, Br.yes (by decide) (Br.yes rfl (Br.yes rfl ?_))⟩
  have PH := P.le s.a
  obtain ⟨ok1, lp1, c1, mr1, BH⟩ := PH
  refine S_State BH ⟨_, rfl, Br.yes rfl (S_State BH ⟨_, rfl, Br.yes rfl ?_⟩)⟩
  refine S_All ⟨ok1, lp1, c1, mr1, BH⟩ fun H' q c' l' I => ⟨_, _, _, rfl, ?_⟩
  rw [eA7] at I ⊢
  have s := s.le l'
  intro r4 hr4
  have s4 := s.le (le_ins hr4 (o := .cells [Value.int .i64 7].toArray 3 (0, 0)))
  refine S_SameI (la := [7]) (lb := [7]) (I.le (le_ins hr4)) (rdL_new _ _ _ _ _) rfl rfl (by decide) ⟨_, rfl, Br.yes (by decide) ?_⟩
  refine s4.call1 (S_Remove P fun g1 q2 c2 P I2 H s => ⟨_, _, _, rfl, ?_⟩)
  refine Br.yes rfl (Br.yes rfl (Br.yes rfl ?_))
  obtain ⟨ok2, lp2, c2, mr2, B2⟩ := P2.le s.b
  refine S_State B2 ⟨_, rfl, Br.yes rfl (Ret.mk (k _ (Heap.le_trans (Heap.le_trans lx1 (Heap.le_trans lx2 lx3)) s.x)))⟩
end Go.Proofs.Ytjihfieahkbohaa

/- Whichever of both submits first, they match. -/
namespace Go.Proofs.Ytjihfieahkbohaa
open Go Go.Sy Go.Value
set_option linter.unusedVariables false
set_option linter.unusedSimpArgs false

abbrev i6Sh : Sh := .int .i64
def dlSh : Sh := .two i6Sh (.two i6Sh (.two i6Sh (.two i6Sh (.two i6Sh (.two i6Sh (.two i6Sh .nil))))))
theorem dl_of {h : Heap} {cs : List Value} (H : dlSh.Has h cs) : ∃ d : Dl, cs = dV d ∧ I64 d.id ∧ I64 d.a ∧ I64 d.b ∧ I64 d.sc ∧ I64 d.bc ∧ I64 d.sell ∧ I64 d.buy := by
  obtain ⟨_, _, rfl, _, ⟨c0, rfl, w0⟩, _, _, rfl, _, ⟨c1, rfl, w1⟩, _, _, rfl, _, ⟨c2, rfl, w2⟩, _, _, rfl, _, ⟨c3, rfl, w3⟩, _, _, rfl, _, ⟨c4, rfl, w4⟩, _, _, rfl, _, ⟨c5, rfl, w5⟩, _, _, rfl, _, ⟨c6, rfl, w6⟩, rfl⟩ := H
  exact ⟨⟨c0, c1, c2, c3, c4, c5, c6⟩, rfl, I64.of_wf w0, I64.of_wf w1, I64.of_wf w2, I64.of_wf w3, I64.of_wf w4, I64.of_wf w5, I64.of_wf w6⟩
section
variable {u : Dl}
theorem mayD_ab (h : mayD 16 8 u) : u.a ≠ u.b := by
  have := of_decide_eq_true h.2.2.1
  exact this.2.2.2.2
theorem pos1 {x : En} {id : Int} (h : x.d.id = id) : posE id [x] = some 0 := by rw [posE, if_pos h]
theorem two_sub1 (h : mayD 16 8 u) : submitM ⟨16, 8, [], 0⟩ u = (false, 0, ⟨16, 8, [⟨u, 1, 0, 0⟩], 0⟩) := by unfold submitM; rw [if_pos h]; rfl
theorem two_sub2 (h : mayD 16 8 u) : submitM ⟨16, 8, [⟨u, 1, 0, 0⟩], 0⟩ (mirD u) = (true, 0, ⟨16, 8, [⟨u, 2, 0, 1⟩], 1⟩) := by
  unfold submitM
  rw [if_pos (show mayD 16 8 (mirD u) from mayD_mir.2 h)]
  dsimp only
  rw [pos1 (show u.id = (mirD u).id from rfl)]
  dsimp only
  rw [show ([(⟨u, 1, 0, 0⟩ : En)] : List En)[0]? = some ⟨u, 1, 0, 0⟩ from rfl]
  dsimp only
  rw [if_neg (show ¬ ((1 : Int) ≠ 1 ∨ u.a = (mirD u).a) from fun x => x.elim (fun y => y rfl) (mayD_ab h)), if_neg (show ¬ eqD u (mirD (mirD u)) = false by rw [mirD_mirD, eqD_iff.2 rfl]; decide)]
  rfl
theorem two_sub3 (h : mayD 16 8 u) : submitM ⟨16, 8, [⟨u, 2, 0, 1⟩], 1⟩ (mirD u) = (false, 6, ⟨16, 8, [⟨u, 2, 0, 1⟩], 1⟩) := by
  unfold submitM
  rw [if_pos (show mayD 16 8 (mirD u) from mayD_mir.2 h)]
  dsimp only
  rw [pos1 (show u.id = (mirD u).id from rfl)]
  rfl
theorem two_who {m : Int} {st ask ord : Int} (h : m ≠ u.a) (h2 : m = u.b) (h3 : st ≠ 1) : whoE ⟨u, st, ask, ord⟩ m = 2 := by unfold whoE; rw [if_neg h, if_pos ⟨h2, h3⟩]
theorem two_res1 (h : mayD 16 8 u) : rescindM ⟨16, 8, [⟨u, 2, 0, 1⟩], 1⟩ u.b u.id = (2, 0, ⟨16, 8, [⟨u, 2, 2, 1⟩], 1⟩) := by
  unfold rescindM
  dsimp only
  rw [pos1 (show u.id = u.id from rfl)]
  dsimp only
  rw [show ([(⟨u, 2, 0, 1⟩ : En)] : List En)[0]? = some ⟨u, 2, 0, 1⟩ from rfl]
  dsimp only
  rw [two_who (fun e => mayD_ab h e.symm) rfl (by decide)]
  rfl
theorem two_res2 (h : mayD 16 8 u) : rescindM ⟨16, 8, [⟨u, 2, 2, 1⟩], 1⟩ u.b u.id = (0, 6, ⟨16, 8, [⟨u, 2, 2, 1⟩], 1⟩) := by
  unfold rescindM
  dsimp only
  rw [pos1 (show u.id = u.id from rfl)]
  dsimp only
  rw [show ([(⟨u, 2, 2, 1⟩ : En)] : List En)[0]? = some ⟨u, 2, 2, 1⟩ from rfl]
  dsimp only
  rw [two_who (fun e => mayD_ab h e.symm) rfl (by decide)]
  rfl
theorem two_res3 : rescindM ⟨16, 8, [⟨u, 2, 2, 1⟩], 1⟩ u.a u.id = (4, 0, ⟨16, 8, [⟨u, 4, 3, 1⟩], 1⟩) := by
  unfold rescindM
  dsimp only
  rw [pos1 (show u.id = u.id from rfl)]
  dsimp only
  rw [show ([(⟨u, 2, 2, 1⟩ : En)] : List En)[0]? = some ⟨u, 2, 2, 1⟩ from rfl]
  dsimp only
  rw [show whoE ⟨u, 2, 2, 1⟩ u.a = 1 by unfold whoE; rw [if_pos rfl]]
  rfl
theorem two_set : settleM ⟨16, 8, [⟨u, 4, 3, 1⟩], 1⟩ u.id = (7, ⟨16, 8, [⟨u, 4, 3, 1⟩], 1⟩) := by
  unfold settleM
  dsimp only
  rw [pos1 (show u.id = u.id from rfl)]
  rfl
theorem two_deal : dealM ⟨16, 8, [⟨u, 4, 3, 1⟩], 1⟩ u.id = (u, true) := by
  unfold dealM getE
  dsimp only
  rw [pos1 (show u.id = u.id from rfl)]
  rfl
end
theorem law11_DealTwo_ok {h : Heap} {cs : List Value} (H : dlSh.Has h cs) (second : Bool) : CallA Try.prog fn_law11_DealTwo [agg cs.toArray, .bool second] h fun v h' => v = .bool true ∧ h.le h' := by
  obtain ⟨d, rfl, _, _, _, _, _, i6, i7⟩ := dl_of H
  refine F_law11_DealTwo _ _ _ _ _ _ _ _ _ _ ?_
  unfold F_law11_DealTwoT
  refine (SepT.start h).box fun r H1 X1 s A0 _ hr0 lx => law11_awake_ok fun H2 l2 => ⟨_, rfl, Br.no rfl ?_⟩
  have s := s.le l2
  refine s.new1 (S_New (fun g => (g ⟨by decide, by decide⟩).elim) fun _ p g1 _ P H s => ⟨_, _, rfl, Br.no rfl ?_⟩)
  have B := A0.le s.x
  refine ⟨_, B.cell rfl, _, B.cell rfl, _, B.cell rfl, _, B.cell rfl, _, B.cell rfl, _, B.cell rfl, _, B.cell rfl, ?_⟩
  refine s.cp (vs := dV (mirD d)) rfl fun r2 H2 X2 s A2 fr cs hr2 lx2 => ⟨cs, ?_⟩
  have A : At X2 r (dV d) := fr _ _ A0
  have hne : r ≠ r2 := A0.ne hr2
  have hr2 : h r2 = none := none_of_le lx hr2
  have lx := Heap.le_trans lx lx2
  clear B lx2 fr A0
  refine Br.intro (fun _ => ?_) fun _ => ?_
  · have B := A.le s.x
    have B2 := A2.le s.x
    refine ⟨_, B2.cell rfl, _, B2.cell rfl, _, B2.cell rfl, _, B2.cell rfl, _, B2.cell rfl, _, B2.cell rfl, _, B2.cell rfl, ?_⟩
    refine ⟨_, B.cell rfl, _, B.cell rfl, _, B.cell rfl, _, B.cell rfl, _, B.cell rfl, _, B.cell rfl, _, B.cell rfl, B.canSt (Nat.le_refl _), ?_⟩
    have s1 := s.set (o := 0) (ws := dV (mirD d)) A
    have A2' := A2.set_ne (o := 0) (ws := dV (mirD d)) (Ne.symm hne)
    refine ⟨(A2'.le s1.x).canSt (Nat.le_refl _), ?_⟩
    have s2 := s1.set (o := 0) (ws := dV d) A2'
    have A' : At ((X2.setN r 0 (dV (mirD d))).setN r2 0 (dV d)) r (dV (mirD d)) := (A.set (o := 0) (ws := dV (mirD d))).set_ne (o := 0) (ws := dV d) hne
    have A2'' : At ((X2.setN r 0 (dV (mirD d))).setN r2 0 (dV d)) r2 (dV (mirD (mirD d))) := A2'.set (o := 0) (ws := dV d)
    have lx' : h.le ((X2.setN r 0 (dV (mirD d))).setN r2 0 (dV d)) := le_setN (le_setN lx hr0) hr2
    have hi : I64d (mirD d) := ⟨i7.2, i6.2⟩
    have hi2 : I64d (mirD (mirD d)) := ⟨i6.2, i7.2⟩
    have s := s2
    have A := A'
    have A2 := A2''
    have lx := lx'
    clear s2 A' A2'' lx' s1 A2' B B2 cs
    generalize (X2.setN r 0 (dV (mirD d))).setN r2 0 (dV d) = X3 at *
    have B := A.le s.x
    refine ⟨_, B.cell rfl, _, B.cell rfl, _, B.cell rfl, _, B.cell rfl, _, B.cell rfl, _, B.cell rfl, _, B.cell rfl, ?_⟩
    refine s.call1 (S_Submit P (d := (mirD d)) hi fun g1 P H s => ⟨_, _, rfl, ?_⟩)
    have BB := A2.le s.x
    by_cases gm : mayD 16 8 (mirD d)
    rotate_left
    · have e1 : submitM ⟨16, 8, [], 0⟩ (mirD d) = (false, 1, ⟨16, 8, [], 0⟩) := by unfold submitM; rw [if_neg gm]
      have e2 : submitM ⟨16, 8, [], 0⟩ (mirD (mirD d)) = (false, 1, ⟨16, 8, [], 0⟩) := by unfold submitM; rw [if_neg (show ¬ mayD 16 8 (mirD (mirD d)) from fun x => gm (mayD_mir.1 x))]
      rw [e1] at P ⊢
      dsimp only at P ⊢
      refine Br.yes (by decide) ⟨_, BB.cell rfl, _, BB.cell rfl, _, BB.cell rfl, _, BB.cell rfl, _, BB.cell rfl, _, BB.cell rfl, _, BB.cell rfl, ?_⟩
      refine s.call1 (S_Submit P (d := mirD (mirD d)) hi2 fun g1 P H s => ⟨_, _, rfl, ?_⟩)
      rw [e2] at P ⊢
      dsimp only at P ⊢
      obtain ⟨_, lp, c, mr, B1⟩ := P.le s.a
      exact Br.yes (by decide) (Br.yes (by decide) ⟨_, (A.le s.x).cell rfl, S_State B1 ⟨_, rfl, Ret.mk ⟨rfl, Heap.le_trans lx s.x⟩⟩⟩)
    rw [two_sub1 gm] at P ⊢
    dsimp only at P ⊢
    refine Br.no (by decide) ⟨_, BB.cell rfl, _, BB.cell rfl, _, BB.cell rfl, _, BB.cell rfl, _, BB.cell rfl, _, BB.cell rfl, _, BB.cell rfl, ?_⟩
    refine s.call1 (S_Submit P (d := mirD (mirD d)) hi2 fun g1 P H s => ⟨_, _, rfl, ?_⟩)
    rw [two_sub2 gm] at P ⊢
    dsimp only at P ⊢
    have BB := A2.le s.x
    refine ⟨_, BB.cell rfl, _, BB.cell rfl, _, BB.cell rfl, _, BB.cell rfl, _, BB.cell rfl, _, BB.cell rfl, _, BB.cell rfl, ?_⟩
    refine s.call1 (S_Submit P (d := mirD (mirD d)) hi2 fun g1 P H s => ⟨_, _, rfl, ?_⟩)
    rw [two_sub3 gm] at P ⊢
    dsimp only at P ⊢
    refine ⟨_, (A.le s.x).cell rfl, _, (A.le s.x).cell rfl, s.call1 (S_Rescind P fun g1 P H s => ⟨_, _, rfl, ?_⟩)⟩
    rw [two_res1 gm] at P ⊢
    dsimp only at P ⊢
    refine ⟨_, (A.le s.x).cell rfl, _, (A.le s.x).cell rfl, s.call1 (S_Rescind P fun g1 P H s => ⟨_, _, rfl, ?_⟩)⟩
    rw [two_res2 gm] at P ⊢
    dsimp only at P ⊢
    refine ⟨_, (A.le s.x).cell rfl, _, (A.le s.x).cell rfl, s.call1 (S_Rescind P fun g1 P H s => ⟨_, _, rfl, ?_⟩)⟩
    rw [two_res3] at P ⊢
    dsimp only at P ⊢
    refine ⟨_, (A.le s.x).cell rfl, s.call1 (S_Settle P fun g1 P H s => ⟨_, rfl, ?_⟩)⟩
    rw [two_set] at P ⊢
    dsimp only at P ⊢
    obtain ⟨_, lp, c, mr, B1⟩ := P.le s.a
    refine ⟨_, (A.le s.x).cell rfl, S_Deal B1 fun H' l' => ?_⟩
    rw [two_deal]
    refine ⟨_, _, _, _, _, _, _, _, rfl, ?_⟩
    refine (s.le l').cp (vs := dV (mirD d)) rfl fun r3 H3 X4 s A3 fr3 cs3 _ lx3 => ⟨cs3, ?_⟩
    refine Br.yes rfl (Br.yes rfl (Br.yes rfl (Br.yes rfl (Br.yes rfl (Br.yes rfl (Br.yes rfl (Br.yes rfl (Br.yes rfl (Br.yes rfl (Br.yes rfl ?_))))))))))
    have B3 := A3.le s.x
    have B := (fr3 _ _ A).le s.x
    refine ⟨_, B3.cell rfl, _, B3.cell rfl, _, B3.cell rfl, _, B3.cell rfl, _, B3.cell rfl, _, B3.cell rfl, _, B3.cell rfl, ?_⟩
    refine ⟨_, B.cell rfl, _, B.cell rfl, _, B.cell rfl, _, B.cell rfl, _, B.cell rfl, _, B.cell rfl, _, B.cell rfl, Ret.mk ⟨?_, Heap.le_trans lx (Heap.le_trans lx3 s.x)⟩⟩
    exact congrArg Value.bool (show eqD (mirD d) (mirD d) = true from eqD_iff.2 rfl)
  · have hi : I64d d := ⟨i6.2, i7.2⟩
    have hi2 : I64d (mirD d) := ⟨i7.2, i6.2⟩
    have B := A.le s.x
    refine ⟨_, B.cell rfl, _, B.cell rfl, _, B.cell rfl, _, B.cell rfl, _, B.cell rfl, _, B.cell rfl, _, B.cell rfl, ?_⟩
    refine s.call1 (S_Submit P (d := d) hi fun g1 P H s => ⟨_, _, rfl, ?_⟩)
    have BB := A2.le s.x
    by_cases gm : mayD 16 8 d
    rotate_left
    · have e1 : submitM ⟨16, 8, [], 0⟩ d = (false, 1, ⟨16, 8, [], 0⟩) := by unfold submitM; rw [if_neg gm]
      have e2 : submitM ⟨16, 8, [], 0⟩ (mirD d) = (false, 1, ⟨16, 8, [], 0⟩) := by unfold submitM; rw [if_neg (show ¬ mayD 16 8 (mirD d) from fun x => gm (mayD_mir.1 x))]
      rw [e1] at P ⊢
      dsimp only at P ⊢
      refine Br.yes (by decide) ⟨_, BB.cell rfl, _, BB.cell rfl, _, BB.cell rfl, _, BB.cell rfl, _, BB.cell rfl, _, BB.cell rfl, _, BB.cell rfl, ?_⟩
      refine s.call1 (S_Submit P (d := mirD d) hi2 fun g1 P H s => ⟨_, _, rfl, ?_⟩)
      rw [e2] at P ⊢
      dsimp only at P ⊢
      obtain ⟨_, lp, c, mr, B1⟩ := P.le s.a
      exact Br.yes (by decide) (Br.yes (by decide) ⟨_, (A.le s.x).cell rfl, S_State B1 ⟨_, rfl, Ret.mk ⟨rfl, Heap.le_trans lx s.x⟩⟩⟩)
    rw [two_sub1 gm] at P ⊢
    dsimp only at P ⊢
    refine Br.no (by decide) ⟨_, BB.cell rfl, _, BB.cell rfl, _, BB.cell rfl, _, BB.cell rfl, _, BB.cell rfl, _, BB.cell rfl, _, BB.cell rfl, ?_⟩
    refine s.call1 (S_Submit P (d := mirD d) hi2 fun g1 P H s => ⟨_, _, rfl, ?_⟩)
    rw [two_sub2 gm] at P ⊢
    dsimp only at P ⊢
    have BB := A2.le s.x
    refine ⟨_, BB.cell rfl, _, BB.cell rfl, _, BB.cell rfl, _, BB.cell rfl, _, BB.cell rfl, _, BB.cell rfl, _, BB.cell rfl, ?_⟩
    refine s.call1 (S_Submit P (d := mirD d) hi2 fun g1 P H s => ⟨_, _, rfl, ?_⟩)
    rw [two_sub3 gm] at P ⊢
    dsimp only at P ⊢
    refine ⟨_, (A.le s.x).cell rfl, _, (A.le s.x).cell rfl, s.call1 (S_Rescind P fun g1 P H s => ⟨_, _, rfl, ?_⟩)⟩
    rw [two_res1 gm] at P ⊢
    dsimp only at P ⊢
    refine ⟨_, (A.le s.x).cell rfl, _, (A.le s.x).cell rfl, s.call1 (S_Rescind P fun g1 P H s => ⟨_, _, rfl, ?_⟩)⟩
    rw [two_res2 gm] at P ⊢
    dsimp only at P ⊢
    refine ⟨_, (A.le s.x).cell rfl, _, (A.le s.x).cell rfl, s.call1 (S_Rescind P fun g1 P H s => ⟨_, _, rfl, ?_⟩)⟩
    rw [two_res3] at P ⊢
    dsimp only at P ⊢
    refine ⟨_, (A.le s.x).cell rfl, s.call1 (S_Settle P fun g1 P H s => ⟨_, rfl, ?_⟩)⟩
    rw [two_set] at P ⊢
    dsimp only at P ⊢
    obtain ⟨_, lp, c, mr, B1⟩ := P.le s.a
    refine ⟨_, (A.le s.x).cell rfl, S_Deal B1 fun H' l' => ?_⟩
    rw [two_deal]
    refine ⟨_, _, _, _, _, _, _, _, rfl, ?_⟩
    refine (s.le l').cp (vs := dV d) rfl fun r3 H3 X4 s A3 fr3 cs3 _ lx3 => ⟨cs3, ?_⟩
    refine Br.yes rfl (Br.yes rfl (Br.yes rfl (Br.yes rfl (Br.yes rfl (Br.yes rfl (Br.yes rfl (Br.yes rfl (Br.yes rfl (Br.yes rfl (Br.yes rfl ?_))))))))))
    have B3 := A3.le s.x
    have B := (fr3 _ _ A).le s.x
    refine ⟨_, B3.cell rfl, _, B3.cell rfl, _, B3.cell rfl, _, B3.cell rfl, _, B3.cell rfl, _, B3.cell rfl, _, B3.cell rfl, ?_⟩
    refine ⟨_, B.cell rfl, _, B.cell rfl, _, B.cell rfl, _, B.cell rfl, _, B.cell rfl, _, B.cell rfl, _, B.cell rfl, Ret.mk ⟨?_, Heap.le_trans lx (Heap.le_trans lx3 s.x)⟩⟩
    exact congrArg Value.bool (show eqD d d = true from eqD_iff.2 rfl)
end Go.Proofs.Ytjihfieahkbohaa

/- Operations on a book, and what they leave as it is. -/
namespace Go.Proofs.Ytjihfieahkbohaa
open Go Go.Sy Go.Value
set_option linter.unusedVariables false
set_option linter.unusedSimpArgs false

structure Opx where
  k : Int
  m : Int
  id : Int
  d : Dl
def oV (x : Opx) : List Value := [.int .i64 x.k, .int .i64 x.m, .int .i64 x.id, .int .i64 x.d.id, .int .i64 x.d.a, .int .i64 x.d.b, .int .i64 x.d.sc, .int .i64 x.d.bc, .int .i64 x.d.sell, .int .i64 x.d.buy]
theorem oV_len (x : Opx) : (oV x).length = 10 := rfl
def opSh : Sh := .two i6Sh (.two i6Sh (.two i6Sh (.two dlSh .nil)))
theorem op_of {h : Heap} {cs : List Value} (H : opSh.Has h cs) : ∃ x : Opx, cs = oV x ∧ I64d x.d := by
  obtain ⟨_, _, rfl, _, ⟨c0, rfl, w0⟩, _, _, rfl, _, ⟨c1, rfl, w1⟩, _, _, rfl, _, ⟨c2, rfl, w2⟩, _, _, rfl, _, hd, rfl⟩ := H
  obtain ⟨d, rfl, _, _, _, _, _, h6, h7⟩ := dl_of hd
  exact ⟨⟨c0, c1, c2, d⟩, rfl, h6.2, h7.2⟩
def opM (S : Bk) (x : Opx) : Bk :=
  if x.k = 0 then (submitM S x.d).2.2 else if x.k = 1 then (rescindM S x.m x.id).2.2 else if x.k = 2 then (settleM S x.id).2 else if x.k = 3 then (removeM S x.m).2 else S
/-- what is known stays, and is settled or gone for ever -/
structure Step (S T : Bk) : Prop where
  mem : T.mem = S.mem
  cur : T.cur = S.cur
  ids : ∃ ns, (T.L.map fun x => x.d.id) = (S.L.map fun x => x.d.id) ++ ns ∧ ∀ v ∈ ns, posE v S.L = none
  at_ : ∀ (i : Nat) (x : En), S.L[i]? = some x → ∃ y : En, T.L[i]? = some y ∧ y.d.id = x.d.id ∧ (3 ≤ x.st → y.st = x.st) ∧ (x.st = 2 → y.st ≠ 1)
theorem Step.refl (S : Bk) : Step S S := ⟨rfl, rfl, ⟨[], by rw [List.append_nil], fun _ h => by cases h⟩, fun i x h => ⟨x, h, rfl, fun _ => rfl, fun e => by omega⟩⟩
theorem Step.set {S : Bk} {i : Nat} {x y : En} {m : Nat} (hx : S.L[i]? = some x) (hd : y.d = x.d) (h3 : x.st < 3) (h1 : x.st = 2 → y.st ≠ 1) : Step S { S with L := S.L.set i y, mat := m } := by
  refine ⟨rfl, rfl, ⟨[], ?_, fun _ h => by cases h⟩, fun j z hz => ?_⟩
  · rw [List.append_nil]
    exact map_set (fun z => z.d.id) hx (by rw [hd])
  · dsimp only
    rw [List.getElem?_set]
    by_cases g : i = j
    · subst g
      rw [hx] at hz
      cases hz
      rw [if_pos rfl, if_pos (List.getElem?_eq_some_iff.1 hx).1]
      exact ⟨y, rfl, by rw [hd], fun e => by omega, h1⟩
    · rw [if_neg g]
      exact ⟨z, hz, rfl, fun _ => rfl, fun e => by omega⟩
theorem submit_step {S : Bk} (d : Dl) : Step S (submitM S d).2.2 := by
  unfold submitM
  split
  · cases hp : posE d.id S.L with
    | none =>
      dsimp only
      split
      · exact .refl S
      · refine ⟨rfl, rfl, ⟨[d.id], ?_, fun v hv => ?_⟩, fun i x hx => ⟨x, ?_, rfl, fun _ => rfl, fun e => by omega⟩⟩
        · dsimp only
          rw [List.map_append]; rfl
        · rw [List.mem_singleton] at hv; subst hv; exact hp
        · dsimp only
          rw [List.getElem?_append_left (List.getElem?_eq_some_iff.1 hx).1]; exact hx
    | some i =>
      dsimp only
      cases hx : S.L[i]? with
      | none => exact .refl S
      | some x =>
        dsimp only
        split
        · exact .refl S
        · rename_i g
          split
          · exact .refl S
          · have g1 : x.st = 1 := Classical.byContradiction fun e => g (.inl e)
            exact Step.set (y := { x with st := 2, ord := (S.mat : Int) + 1 }) hx rfl (by omega) (fun e => by omega)
  · exact .refl S
theorem rescind_step {S : Bk} (m id : Int) (ok : S.Ok) : Step S (rescindM S m id).2.2 := by
  unfold rescindM
  cases hp : posE id S.L with
  | none => exact .refl S
  | some i =>
    dsimp only
    cases hx : S.L[i]? with
    | none => exact .refl S
    | some x =>
      dsimp only
      split
      · exact .refl S
      split
      · exact .refl S
      rename_i g
      split
      · exact Step.set (y := { x with st := 4 }) hx rfl (by omega) (fun e => by dsimp only; omega)
      rename_i g2
      have := (ok.could x (List.mem_of_getElem? hx)).st
      split
      · exact .refl S
      split
      · exact Step.set (y := { x with st := 4, ask := 3 }) hx rfl (by omega) (fun e => by dsimp only; omega)
      · exact Step.set (y := { x with ask := x.ask + whoE x m }) hx rfl (by omega) (fun e => by dsimp only; omega)
theorem settle_step {S : Bk} (id : Int) : Step S (settleM S id).2 := by
  unfold settleM
  cases hp : posE id S.L with
  | none => exact .refl S
  | some i =>
    dsimp only
    cases hx : S.L[i]? with
    | none => exact .refl S
    | some x =>
      dsimp only
      split
      · exact .refl S
      · rename_i g
        have g : x.st = 2 := Classical.byContradiction g
        exact Step.set (y := { x with st := 3 }) hx rfl (by omega) (fun e => by dsimp only; omega)
theorem remove_step {S : Bk} (m : Int) : Step S (removeM S m).2 := by
  unfold removeM
  refine ⟨rfl, rfl, ⟨[], ?_, fun _ h => by cases h⟩, fun i x hx => ⟨goneE m x, ?_, ?_, ?_, ?_⟩⟩
  · rw [List.append_nil]
    show ((S.L.map (goneE m)).map fun x => x.d.id) = _
    rw [List.map_map]
    refine List.map_congr_left fun x _ => ?_
    show (goneE m x).d.id = x.d.id
    unfold goneE; split <;> rfl
  · show (S.L.map (goneE m))[i]? = _
    rw [List.getElem?_map, hx]; rfl
  · unfold goneE; split <;> rfl
  · intro e
    unfold goneE
    rw [if_neg]
    intro h
    have := (of_decide_eq_true h).1
    omega
  · intro e
    unfold goneE
    split
    · dsimp only; omega
    · omega
theorem op_step {S : Bk} (ok : S.Ok) (x : Opx) : Step S (opM S x) := by
  unfold opM
  split
  · exact submit_step x.d
  split
  · exact rescind_step x.m x.id ok
  split
  · exact settle_step x.id
  split
  · exact remove_step x.m
  · exact .refl S

/-! what a list of Ids says -/
def stOf (S : Bk) (id : Int) : Option Int := (getE S id).map fun x => x.st
theorem getE_at {S : Bk} (ok : S.Ok) {i : Nat} {x : En} (h : S.L[i]? = some x) : getE S x.d.id = some x := by
  unfold getE
  rw [ok.nd i x h]
  exact h
theorem getE_mem {S : Bk} {id : Int} {x : En} (h : getE S id = some x) : x ∈ S.L ∧ x.d.id = id := by
  unfold getE at h
  cases hp : posE id S.L with
  | none => rw [hp] at h; cases h
  | some i =>
    rw [hp] at h
    have h : S.L[i]? = some x := h
    obtain ⟨y, e, g⟩ := posE_some hp
    rw [h] at e; cases e
    exact ⟨List.mem_of_getElem? h, g⟩
theorem getE_none {S : Bk} {id : Int} : getE S id = none ↔ posE id S.L = none := by
  unfold getE
  cases hp : posE id S.L with
  | none => exact ⟨fun _ => rfl, fun _ => rfl⟩
  | some i =>
    obtain ⟨y, e, g⟩ := posE_some hp
    constructor
    · intro h
      have h : S.L[i]? = none := h
      rw [e] at h; cases h
    · intro h; cases h
theorem posE_mem {id : Int} {L : List En} : posE id L = none ↔ id ∉ L.map fun x => x.d.id := by
  constructor
  · intro h hm
    obtain ⟨x, hx, e⟩ := List.mem_map.1 hm
    exact posE_none h x hx e
  · intro h
    cases hp : posE id L with
    | none => rfl
    | some i =>
      obtain ⟨y, e, g⟩ := posE_some hp
      exact (h (List.mem_map.2 ⟨y, List.mem_of_getElem? e, g⟩)).elim
theorem four : ∀ L : List En, (∀ x ∈ L, 1 ≤ x.st ∧ x.st ≤ 4) → (ofS 1 L ++ (ofS 2 L ++ (ofS 3 L ++ ofS 4 L))).Perm L
  | [], _ => .refl _
  | x :: L, h => by
    have ih := four L fun y hy => h y (List.mem_cons_of_mem _ hy)
    have hx := h x (List.mem_cons_self ..)
    have pos : ∀ s, x.st = s → ofS s (x :: L) = x :: ofS s L := fun s e => by unfold ofS; exact List.filter_cons_of_pos (decide_eq_true e)
    have neg : ∀ s, x.st ≠ s → ofS s (x :: L) = ofS s L := fun s e => by unfold ofS; rw [List.filter_cons_of_neg (by simpa using e)]
    have : x.st = 1 ∨ x.st = 2 ∨ x.st = 3 ∨ x.st = 4 := by omega
    rcases this with e | e | e | e
    · rw [pos 1 e, neg 2 (by omega), neg 3 (by omega), neg 4 (by omega)]
      exact List.Perm.cons x ih
    · rw [neg 1 (by omega), pos 2 e, neg 3 (by omega), neg 4 (by omega)]
      exact List.perm_middle.trans (List.Perm.cons x ih)
    · rw [neg 1 (by omega), neg 2 (by omega), pos 3 e, neg 4 (by omega)]
      refine (List.Perm.append_left _ List.perm_middle).trans ?_
      exact List.perm_middle.trans (List.Perm.cons x ih)
    · rw [neg 1 (by omega), neg 2 (by omega), neg 3 (by omega), pos 4 e]
      refine (List.Perm.append_left _ ((List.Perm.append_left _ List.perm_middle).trans List.perm_middle)).trans ?_
      exact List.perm_middle.trans (List.Perm.cons x ih)
theorem all_perm {S : Bk} (ok : S.Ok) (s : Int) : (allM S s).Perm ((ofS s S.L).map fun x => x.d.id) := by
  by_cases h : s = 2
  · subst h
    have hp : ((ofS 2 S.L).mergeSort fun x y => decide (x.ord ≤ y.ord)).Perm (ofS 2 S.L) := List.mergeSort_perm _ _
    have hs := List.pairwise_mergeSort (le := fun (x y : En) => decide (x.ord ≤ y.ord)) (fun a b c h1 h2 => by simp at *; omega) (fun a b => by simp; omega) (ofS 2 S.L)
    rw [← all_sorted ok hp (hs.imp fun h => of_decide_eq_true h)]
    exact hp.map _
  · unfold allM
    rw [if_neg h]
    exact .refl _
theorem all_state {S : Bk} (ok : S.Ok) {s id : Int} (h : id ∈ allM S s) : stateM S id = s := by
  have h := (all_perm ok s).mem_iff.1 h
  obtain ⟨x, hx, e⟩ := List.mem_map.1 h
  unfold ofS at hx
  obtain ⟨hx, hs⟩ := List.mem_filter.1 hx
  have hs := of_decide_eq_true hs
  obtain ⟨i, hi⟩ := List.mem_iff_getElem?.1 hx
  have g := getE_at ok hi
  rw [e] at g
  unfold stateM; rw [g]; exact hs
def four4 (S : Bk) : List Int := allM S 1 ++ (allM S 2 ++ (allM S 3 ++ allM S 4))
theorem four4_perm {S : Bk} (ok : S.Ok) : (four4 S).Perm (S.L.map fun x => x.d.id) := by
  have h := (four S.L fun x hx => (ok.could x hx).st).map fun x => x.d.id
  rw [List.map_append, List.map_append, List.map_append] at h
  exact (((all_perm ok 1).append ((all_perm ok 2).append ((all_perm ok 3).append (all_perm ok 4))))).trans h
theorem ids_nodup {S : Bk} (ok : S.Ok) : (S.L.map fun x => x.d.id).Nodup := by
  rw [List.Nodup, List.pairwise_map, List.pairwise_iff_getElem]
  intro i j hi hj hij e
  have h1 := ok.nd i _ (List.getElem?_eq_getElem hi)
  have h2 := ok.nd j _ (List.getElem?_eq_getElem hj)
  rw [e, h2] at h1
  cases h1; omega
theorem four4_nodup {S : Bk} (ok : S.Ok) : (four4 S).Nodup := (four4_perm ok).nodup_iff.2 (ids_nodup ok)
/-- which are new -/
def newIn (S : Bk) (P : List Int) : Nat := (P.filter fun id => (posE id S.L).isNone).length
theorem new_all {S T : Bk} (st : Step S T) (okT : T.Ok) : S.L.length + newIn S (four4 T) = T.L.length ∧ (four4 T).length = T.L.length := by
  obtain ⟨ns, e, hn⟩ := st.ids
  have hp := four4_perm okT
  have l1 : (four4 T).length = T.L.length := by rw [hp.length_eq, List.length_map]
  refine ⟨?_, l1⟩
  unfold newIn
  rw [(hp.filter _).length_eq, e, List.filter_append]
  have f1 : (S.L.map fun x => x.d.id).filter (fun id => (posE id S.L).isNone) = [] := List.filter_eq_nil_iff.2 fun v hv => by
    intro h
    have : posE v S.L = none := by
      cases g : posE v S.L with
      | none => rfl
      | some i => rw [g] at h; cases h
    exact posE_mem.1 this hv
  have f2 : ns.filter (fun id => (posE id S.L).isNone) = ns := List.filter_eq_self.2 fun v hv => by rw [hn v hv]; rfl
  rw [f1, f2]
  have := congrArg List.length e
  rw [List.length_append, List.length_map, List.length_map] at this
  rw [List.nil_append]; omega
/-- what the map of the law tells, where the Ids of P have been told anew -/
def kfP (S T : Bk) (P : List Int) (id : Int) : Option Int := if id ∈ P then some (stateM T id) else stOf S id
theorem kfP_snoc {S T : Bk} {P : List Int} {v s : Int} (h : stateM T v = s) : (fun x => if x = v then some s else kfP S T P x) = kfP S T (P ++ [v]) := by
  funext x
  unfold kfP
  by_cases g : x = v
  · subst g
    rw [if_pos rfl, if_pos (by simp), h]
  · rw [if_neg g]
    have : x ∈ P ++ [v] ↔ x ∈ P := by simp [g]
    simp only [this]
theorem kfP_nil (S T : Bk) : kfP S T [] = stOf S := by
  funext x
  unfold kfP
  rw [if_neg (by simp)]
theorem kfP_all {S T : Bk} (st : Step S T) (okT : T.Ok) : kfP S T (four4 T) = stOf T := by
  funext v
  unfold kfP
  have hm := (four4_perm okT).mem_iff (a := v)
  split
  · rename_i h
    obtain ⟨x, hx, e⟩ := List.mem_map.1 (hm.1 h)
    obtain ⟨i, hi⟩ := List.mem_iff_getElem?.1 hx
    have g := getE_at okT hi
    rw [e] at g
    unfold stOf stateM
    rw [g]; rfl
  · rename_i h
    have h1 : posE v T.L = none := posE_mem.2 fun x => h (hm.2 x)
    obtain ⟨ns, e, _⟩ := st.ids
    have h2 : posE v S.L = none := posE_mem.2 fun x => posE_mem.1 h1 (by rw [e]; exact List.mem_append_left _ x)
    unfold stOf
    rw [getE_none.2 h1, getE_none.2 h2]
/-- the checks of the law -/
theorem kf_checks {S T : Bk} (ok : S.Ok) (okT : T.Ok) (st : Step S T) {v s : Int} (h : v ∈ allM T s) : (3 ≤ (stOf S v).getD 0 → (stOf S v).getD 0 = s) ∧ ((stOf S v).getD 0 = 2 → s ≠ 1) := by
  unfold stOf
  cases hg : getE S v with
  | none => exact ⟨fun e => absurd e (by decide), fun e => absurd e (by decide)⟩
  | some x =>
    show (3 ≤ x.st → x.st = s) ∧ (x.st = 2 → s ≠ 1)
    obtain ⟨hx, e⟩ := getE_mem hg
    obtain ⟨i, hi⟩ := List.mem_iff_getElem?.1 hx
    obtain ⟨y, hy, ey, h3, h2⟩ := st.at_ i x hi
    have gy := getE_at okT hy
    rw [ey, e] at gy
    have hs := all_state okT h
    unfold stateM at hs
    rw [gy] at hs
    have hs : y.st = s := hs
    exact ⟨fun q => by rw [← hs, h3 q], fun q => by rw [← hs]; exact h2 q⟩
end Go.Proofs.Ytjihfieahkbohaa
