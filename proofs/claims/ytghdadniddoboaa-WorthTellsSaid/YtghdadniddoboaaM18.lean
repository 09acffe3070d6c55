import Derived.Test.YtghdadniddoboaaM17
import Derived.Test.YtghdadniddoboaaM15
import Derived.Test.YtghdadniddoboaaM14
import Derived.Test.YtghdadniddoboaaM16
import Derived.Test.YtghdadniddoboaaM06
/- The reference's ledger as bytes; and batches. -/
namespace Go.Proofs.Ytghdadniddoboaa
open Go Go.Sy Go.Value
set_option linter.unusedVariables false
set_option linter.unusedSimpArgs false

section
variable {h0 h : Heap} {K : Value → Heap → Prop} {g : XFr} {S : Lg}
theorem rowT_snoc {w c : Nat} {row : List Int} (hc : c < w) (hr : c < row.length) : (row.take (c + 1)).flatMap be8 = (row.take c).flatMap be8 ++ be8 (row.getD c 0) := by
  rw [List.take_add_one, List.getElem?_eq_getElem hr, List.flatMap_append, List.getD_eq_getElem?_getD, List.getElem?_eq_getElem hr]
  simp
theorem rowsT_drop {w j : Nat} {M : Mx} (hj : j < M.length) : rowsT w (M.drop j) = rowT w (M.getD j []) ++ rowsT w (M.drop (j + 1)) := by
  rw [List.drop_eq_getElem_cons hj, rowsT, List.getD_eq_getElem?_getD, List.getElem?_eq_getElem hj]; rfl
end
/-! a batch -/
structure BgR where
  b : Bool
  p : Option Addr
  n : Nat
  c : Nat
def bgV (x : BgR) : List Value := [.bool x.b, .slice x.p x.n x.c]
theorem bgV_len (x : BgR) : (bgV x).length = 2 := rfl
theorem bg_set (y : BgR) : ∀ (l : List BgR) (c : Nat), c < l.length → setL (l.flatMap bgV) (c * 2) (bgV y) = (l.set c y).flatMap bgV
  | [], c, h => by simp at h
  | x :: l, 0, h => rfl
  | x :: l, c + 1, h => by
    have := bg_set y l c (by simpa using h)
    rw [show (c + 1) * 2 = c * 2 + 1 + 1 by omega, List.set_cons_succ, List.flatMap_cons, List.flatMap_cons, ← this]
    rfl
theorem px1 {h : Heap} {p : Option Addr} {l : List Pst} {N : Nat} (C : Pos h p l) (hn : l.length = N) {j : Nat} {i : Int} (hi : i = (j : Int)) {x : Pst} (hx : l[j]? = some x) :
    (∀ {Q : Int → Prop}, Q x.m → 0 ≤ i ∧ i < (N : Int) ∧ withAddr p fun b o => ∃ n, h.cell b (o + i.toNat * 3) = some (.int .i64 n) ∧ Q n) ∧
    (∀ {Q : Int → Nat → Prop}, (∀ b o, p = some ⟨b, o, none⟩ → Q x.c b) → 0 ≤ i ∧ i < (N : Int) ∧ withAddr p fun b o => ∃ n, h.cell b (o + i.toNat * 3 + 1) = some (.int .i64 n) ∧ Q n b) ∧
    (∀ {Q : Int → Prop}, Q x.a → 0 ≤ i ∧ i < (N : Int) ∧ withAddr p fun b o => ∃ n, h.cell b (o + i.toNat * 3 + 2) = some (.int .i64 n) ∧ Q n) := by
  obtain ⟨h1, h2, h3⟩ := px C hn hi hx (Q := fun a b c => a = x.m ∧ b = x.c ∧ c = x.a) ⟨rfl, rfl, rfl⟩
  obtain ⟨b, o, e, n, g0, n1, g1, n2, g2, rfl, rfl, rfl⟩ := withAddr_elim h3
  exact ⟨fun k => ⟨h1, h2, withAddr_intro e ⟨_, g0, k⟩⟩, fun k => ⟨h1, h2, withAddr_intro e ⟨_, g1, k b o e⟩⟩, fun k => ⟨h1, h2, withAddr_intro e ⟨_, g2, k⟩⟩⟩
section
variable {h0 : Heap} {K : Value → Heap → Prop} {g : XFr} {S : Lg} {q : Option Addr} {b : List Pst} {n qc : Nat}
/-- the sums, currency by currency: none is there yet, or so much -/
structure Sums (h1 h : Heap) (r w : Nat) (x : Nat → Int) (B : Nat) (bl : List BgR) : Prop where
  len : bl.length = w
  at' : At h r (bl.flatMap bgV)
  big : ∀ c y, bl[c]? = some y → BigN (h.del r) (agg #[.bool y.b, slice y.p y.n y.c]) (x c) B
theorem post_x1 {h1 : Heap} {r w : Nat} (X : Pos h1 q b) (hn : b.length = n) (hs : n ≤ 1000) (hI : ∀ x ∈ b, I64 x.a) (hc : ∀ x ∈ b, 0 ≤ x.c ∧ x.c < (w : Int)) (nr : h1 r = none)
    (k : ∀ h' bl, h1.le h' → Sums h1 h' r w (fun c => sumL (ofCur b (c : Int))) (n + 10) bl → L_pref08_Ledger_Post_2 (some ⟨g.p, 0, none⟩) q n qc (some ⟨r, 0, none⟩) w w 0 h' K) :
    ∀ (m j : Nat) (h : Heap) (bl : List BgR), m + j = n → h1.le h → Sums h1 h r w (fun c => sumL (ofCur (b.take j) (c : Int))) (j + 10) bl → L_pref08_Ledger_Post_1 (some ⟨g.p, 0, none⟩) q n qc (some ⟨r, 0, none⟩) w w (j : Int) h K
  | 0, j, h, bl, hj, l1, s => by
    refine L_pref08_Ledger_Post_1r _ _ _ _ _ _ _ _ _ _ ?_
    unfold L_pref08_Ledger_Post_1T
    have hjn : j = n := by omega
    subst hjn
    rw [show b.take j = b from List.take_of_length_le (by omega)] at s
    exact Br.no (by simp) (k h bl l1 s)
  | m + 1, j, h, bl, hj, l1, s => by
    refine L_pref08_Ledger_Post_1r _ _ _ _ _ _ _ _ _ _ ?_
    unfold L_pref08_Ledger_Post_1T
    have hx : b[j]? = some b[j] := List.getElem?_eq_getElem (by omega)
    have htk : b.take (j + 1) = b.take j ++ [b[j]] := by rw [List.take_add_one, hx]; rfl
    have hmem : b[j] ∈ b := List.getElem_mem _
    generalize b[j] = y at *
    obtain ⟨y1, y2⟩ := hc y hmem
    have hIy := hI y hmem
    obtain ⟨_, P2, P3⟩ := px1 (rdL_le l1 X) hn (rfl : (j : Int) = (j : Int)) hx
    obtain ⟨ym, yc, ya⟩ := y
    dsimp only at y1 y2 hIy P2 P3
    obtain ⟨c, rfl⟩ : ∃ c : Nat, yc = c := ⟨yc.toNat, by omega⟩
    have hcl : c < bl.length := by rw [s.len]; omega
    have hz : bl[c]? = some bl[c] := List.getElem?_eq_getElem hcl
    have big := s.big c _ hz
    generalize hzz : bl[c] = z at *
    have cellz : ∀ (i : Nat) (v : Value), (bgV z)[i]? = some v → i < 2 → h.cell r (0 + (c : Int).toNat * 2 + i) = some v := fun i v hv hi => s.at'.cell (by rw [Nat.zero_add, Int.toNat_natCast, arr_get bgV_len bl c i z hz hi]; exact hv)
    have hcw : (c : Int) < (w : Int) := by omega
    refine Br.yes (by simp; omega) (P2 fun bb oo eb => P2 fun b2 o2 eb2 => ⟨by omega, hcw, withAddr_intro rfl ⟨z.b, cellz 0 _ rfl (by omega), z.p, z.n, z.c, cellz 1 _ rfl (by omega), P3 (CallA.off s.at' (S_Of hIy fun v2 h2' l2 bn2 h2 q1 q2 q3 => ?_))⟩⟩)
    have br2 := bn2.raw
    obtain ⟨n2, p2, c2, d2, rfl, _⟩ := bn2
    have lh2 := le_of_del (Heap.le_trans l2 q1) q3
    have As2 := s.at'.le lh2
    have B2 := big.raw.le (del_mono lh2)
    refine ⟨_, _, _, _, rfl, .inl lh2, CallA.off As2 (S_Add_Big B2 (br2.le (le_del q1 q2)) (Nat.le_refl _) (by omega) (by omega) fun v3 h3' l3 bn3 h3 q4 q5 q6 => ?_)⟩
    have lh3 := le_of_del (Heap.le_trans l3 q4) q6
    have As3 := As2.le lh3
    have bn3' := bn3
    obtain ⟨n3, p3, c3, d3, rfl, _⟩ := bn3
    refine ⟨_, _, _, _, rfl, .inl lh3, by omega, hcw, withAddr_intro rfl ⟨As3.canSt (by rw [arr_len bgV_len, Int.toNat_natCast]; omega), ?_⟩⟩
    rw [w1 (by omega), Nat.zero_add, Int.toNat_natCast]
    have A4 := As3.set (o := c * 2) (ws := bgV ⟨n3, p3, d3.length, c3⟩)
    rw [bg_set _ _ _ hcl] at A4
    refine post_x1 X hn hs hI hc nr k m (j + 1) _ (bl.set c ⟨n3, p3, d3.length, c3⟩) (by omega) (le_setN (Heap.le_trans l1 (Heap.le_trans lh2 lh3)) nr) ⟨by rw [List.length_set]; exact s.len, A4, fun c' y' hy' => ?_⟩
    have moreN : ∀ {h : Heap} {v : Value} {x : Int} {b b' : Nat}, BigN h v x b → b ≤ b' → BigN h v x b' := fun {h v x b b'} ⟨neg, p, c, ds, a1, a2, a3, a4, a5, a6, a7⟩ l => ⟨neg, p, c, ds, a1, a2, a3, a4, a5, by omega, a7⟩
    have lw : (h.del r).le ((h3.setN r (c * 2) (bgV ⟨n3, p3, d3.length, c3⟩)).del r) := by rw [del_set]; exact del_mono (Heap.le_trans lh2 lh3)
    show BigN ((h3.setN r (c * 2) (bgV ⟨n3, p3, d3.length, c3⟩)).del r) _ (sumL (ofCur (b.take (j + 1)) (c' : Int))) _
    rw [htk, ofCur_snoc]
    rw [List.getElem?_set] at hy'
    by_cases e : c = c'
    · subst e
      rw [if_pos rfl, if_pos hcl] at hy'
      cases hy'
      rw [if_pos rfl]
      have hsn : ∀ (l : List Int) (v : Int), sumL (l ++ [v]) = sumL l + v := fun l v => by
        induction l with
        | nil => simp [sumL]
        | cons a l ih => rw [List.cons_append, sumL, sumL, ih]; omega
      rw [hsn]
      refine moreN (bn3'.le ?_) (by omega)
      rw [del_set]; exact le_del q4 q5
    · rw [if_neg e] at hy'
      rw [if_neg (fun x => e (by have x : (c : Int) = (c' : Int) := x; omega))]
      exact moreN ((s.big c' y' hy').le lw) (by omega)
theorem addsM_3' : ∀ (l : List Pst) (M : Mx), (addsM l M).1 ≠ 0 → (addsM l M).1 = 3
  | [], M, h => (h rfl).elim
  | a :: l, M, h => by
    rw [addsM] at h ⊢
    split
    · rfl
    · rename_i g; rw [if_neg g] at h; exact addsM_3' l _ h
/-- postings, one by one, on a copy -/
theorem post_x3 {h1 : Heap} {gm : XFr} (X : Pos h1 q b) (hn : b.length = n) (hs : n ≤ 1000) (hI : ∀ x ∈ b, I64 x.a) (hh : ∀ x ∈ b, 0 ≤ x.m ∧ x.m < (S.M.length : Int) ∧ 0 ≤ x.c ∧ x.c < (S.cur : Int)) (fm : ∀ y, gm.D S.M.length y = true → h1 y = none) {res : Int × Mx}
    (A : XAt h1 g S) (k0 : ∀ h', h1.le h' → res.1 ≠ 0 → K (.int .i64 3) h') (k1 : ∀ h', h1.le h' → res.1 = 0 → XAt h' gm ⟨res.2, S.N, S.cur⟩ → Ret (h'.setN g.p 0 [.slice gm.f.a S.M.length gm.f.C]) K (.int .i64 0)) :
    ∀ (m j : Nat) (h : Heap) (M : Mx), m + j = n → h1.le h → shM M S.M.length 8 → XAt h gm ⟨M, S.N, S.cur⟩ → addsM (b.drop j) M = res → L_pref08_Ledger_Post_3 (some ⟨g.p, 0, none⟩) q n qc (some ⟨gm.p, 0, none⟩) (j : Int) h K
  | 0, j, h, M, hj, l1, sM, Am, e => by
    refine L_pref08_Ledger_Post_3r _ _ _ _ _ _ _ _ ?_
    unfold L_pref08_Ledger_Post_3T
    rw [List.drop_eq_nil_of_le (by omega)] at e
    have e : ((0 : Int), M) = res := e
    subst e
    have := k1 h l1 rfl Am
    refine Br.no (by simp; omega) (withAddr_intro rfl ⟨_, _, _, Am.rows, withAddr_intro rfl ⟨(A.le l1).ap.canSt (by simp), ?_⟩⟩)
    rw [show (⟨M, S.N, S.cur⟩ : Lg).M.length = S.M.length from sM.1]
    exact this
  | m + 1, j, h, M, hj, l1, sM, Am, e => by
    refine L_pref08_Ledger_Post_3r _ _ _ _ _ _ _ _ ?_
    unfold L_pref08_Ledger_Post_3T
    have hx : b[j]? = some b[j] := List.getElem?_eq_getElem (by omega)
    have hmem : b[j] ∈ b := List.getElem_mem _
    rw [List.drop_eq_getElem_cons (by omega : j < b.length)] at e
    generalize b[j] = y at *
    obtain ⟨y1, y2, y3, y4⟩ := hh y hmem
    have hIy := hI y hmem
    obtain ⟨ym, yc, ya⟩ := y
    dsimp only at y1 y2 y3 y4 hIy
    obtain ⟨i, rfl⟩ : ∃ i : Nat, ym = i := ⟨ym.toNat, by omega⟩
    obtain ⟨c, rfl⟩ : ∃ c : Nat, yc = c := ⟨yc.toNat, by omega⟩
    rw [addsM] at e
    simp only [Int.toNat_natCast] at e
    have hi : i < M.length := by rw [sM.1]; omega
    have hc : c < S.cur := by omega
    have hIM := Am.sz.i64 i c
    have hIM : I64 (rdM M i c) := hIM
    refine Br.yes (by simp; omega) (px (rdL_le l1 X) hn rfl hx (newB_cp (vs := [.int .i64 (i : Int), .int .i64 (c : Int), .int .i64 ya]) rfl fun r h2 hr l2 Ar st => ⟨st, ?_⟩))
    generalize h2.setN r 0 _ = h3 at *
    have A3 := Am.le l2
    obtain ⟨B, eB, hcl⟩ := A3.rw.cl (i := i) (by rw [cutM_len]; exact hi)
    have hil : (i : Int) < (M.length : Int) := by omega
    have hcc : (c : Int) < (S.cur : Int) := by omega
    have hamt := A3.rw.amt (i := i) (c := c) (by rw [cutM_len]; exact hi) hc
    rw [cutM_rd (S := ⟨M, S.N, S.cur⟩) hc] at hamt
    refine withAddr_intro rfl ⟨_, _, _, A3.rows, _, Ar.cell rfl, by omega, hil, withAddr_intro eB ⟨_, _, _, hcl, _, Ar.cell rfl, by omega, hcc, withAddr_intro rfl ⟨_, hamt, _, Ar.cell rfl, S_Of hIM fun v1 h4 l4 bn1 => ?_⟩⟩⟩
    have br1 := bn1.raw
    obtain ⟨n1, p1, c1, d1, rfl, _⟩ := bn1
    refine ⟨_, _, _, _, rfl, .inl l4, S_Of hIy fun v2 h5 l5 bn2 => ?_⟩
    have br2 := bn2.raw
    obtain ⟨n2, p2, c2, d2, rfl, _⟩ := bn2
    refine ⟨_, _, _, _, rfl, S_Add_Big (br1.le l5) br2 (Nat.le_refl _) (Nat.le_refl _) (by omega) fun v3 h6 l6 bn3 => ?_⟩
    have br3 := bn3.raw
    obtain ⟨n3, p3, c3, d3, rfl, _⟩ := bn3
    refine ⟨_, _, _, _, rfl, S_Fit br3 (by omega) fun h7 l7 => ⟨_, _, rfl, ?_⟩⟩
    have l37 := Heap.le_trans l4 (Heap.le_trans l5 (Heap.le_trans l6 l7))
    have l17 := Heap.le_trans l1 (Heap.le_trans l2 l37)
    by_cases g1 : (fit (rdM M i c + ya)).2 ≠ 0
    · rw [if_pos g1] at e
      subst e
      refine Br.yes (by simpa using g1) (Ret.mk ?_)
      rw [fit_3 g1]
      exact k0 h7 l17 (show (3 : Int) ≠ 0 by decide)
    · rw [if_neg g1] at e
      have A7 := A3.le l37
      have Ar7 := Ar.le l37
      obtain ⟨B', eB', hcl7⟩ := A7.rw.cl (i := i) (by rw [cutM_len]; exact hi)
      rw [fit_e g1]
      refine Br.no (by simpa using g1) (withAddr_intro rfl ⟨_, _, _, A7.rows, _, Ar7.cell rfl, by omega, hil, withAddr_intro eB' ⟨_, _, _, hcl7, _, Ar7.cell rfl, by omega, hcc, withAddr_intro rfl ⟨A7.stR (i := i) hi hc, ?_⟩⟩⟩)
      try dsimp only
      simp only [Int.toNat_natCast]
      rw [w1 (by omega)]
      have hD : gm.D S.M.length (gm.f.R i) = true := XFr.D_f (by rw [← sM.1]; exact gm.f.D_row hi)
      exact post_x3 X hn hs hI hh fm A k0 k1 m (j + 1) _ (wrM M i c (rdM M i c + ya)) (by omega) (le_setN l17 (fm _ hD)) (sM.wr (by rw [← sM.1]; exact hi)) (A7.wrR (S := ⟨M, S.N, S.cur⟩) hi hc (fit_in g1)) e
theorem S_xPost {h : Heap} (l0 : h0.le h) (fr : ∀ x, g.D S.M.length x = true → h0 x = none) (A : XAt h g S) (X : Pos h q b) (hn : b.length = n) (hs : n ≤ 1000) (hI : ∀ x ∈ b, I64 x.m ∧ I64 x.c ∧ I64 x.a)
    (k : ∀ h' g', h0.le h' → XAt h' g' (postG S b).2 → g'.p = g.p → (∀ x, g'.D S.M.length x = true → g.D S.M.length x = true ∨ h x = none) → K (.int .i64 (postG S b).1) h') : CallA Try.prog fn_pref08_Ledger_Post [pointer (some ⟨g.p, 0, none⟩), slice q n qc] h K := by
  refine F_pref08_Ledger_Post _ _ _ _ _ _ ?_
  unfold F_pref08_Ledger_PostT
  unfold postG at k
  have c8 := A.sz.c8
  refine withAddr_intro rfl ⟨_, _, _, A.nos, by omega, by omega, by omega, by omega, newB_at fun r h1 hr l1 Ar => ?_⟩
  rw [Int.toNat_natCast] at Ar ⊢
  have e0 : repL S.cur [Value.bool false, slice none 0 0] = (List.replicate S.cur (⟨false, none, 0, 0⟩ : BgR)).flatMap bgV := by
    generalize S.cur = w
    induction w with
    | zero => rfl
    | succ w ih => rw [List.replicate_succ, List.flatMap_cons, ← ih]; rfl
  rw [e0] at Ar
  have A1 := A.le l1
  have l01 := Heap.le_trans l0 l1
  have keepg : ∀ h', h0.le h' → XAt h' g S → True → ∀ {v : Value}, (∀ h' g', h0.le h' → XAt h' g' S → g'.p = g.p → (∀ x, g'.D S.M.length x = true → g.D S.M.length x = true ∨ h x = none) → K v h') → K v h' := fun h' l' A' _ {v} kk => kk h' g l' A' rfl fun x hx => .inl hx
  have m0 : ∀ (m j : Nat), m + j = n → (∀ x ∈ b.take j, hasB S x.m x.c = true) → L_pref08_Ledger_Post_0 (some ⟨g.p, 0, none⟩) q n qc (some ⟨r, 0, none⟩) S.cur S.cur (j : Int) h1 K := by
    intro m
    induction m with
    | zero =>
      intro j hj hh
      refine L_pref08_Ledger_Post_0r _ _ _ _ _ _ _ _ _ _ ?_
      unfold L_pref08_Ledger_Post_0T
      rw [show b.take j = b from List.take_of_length_le (by omega)] at hh
      have any0 : ¬ b.any (fun p => !hasB S p.m p.c) = true := by
        simp only [Bool.not_eq_true, List.any_eq_false]
        intro x hx
        rw [hh x hx]; decide
      rw [if_neg any0] at k
      have hh2 : ∀ x ∈ b, 0 ≤ x.m ∧ x.m < (S.M.length : Int) ∧ 0 ≤ x.c ∧ x.c < (S.cur : Int) := fun x hx => of_decide_eq_true (hh x hx)
      refine Br.no (by simp; omega) (post_x1 (h1 := h) X hn hs (fun x hx => (hI x hx).2.2) (fun x hx => by have := hh2 x hx; omega) hr (fun h2 bl l2 s => ?_) n 0 h1 _ (by omega) l1 ⟨List.length_replicate, Ar, fun c y hy => ?_⟩)
      · have A2 := A.le l2
        have l02 := Heap.le_trans l0 l2
        have len0 : ∀ (c : Nat) (y : BgR), bl[c]? = some y → (0 < y.n ↔ sumL (ofCur b (c : Int)) ≠ 0) := fun c y hy => by
          obtain ⟨neg, p, cc, ds, e1, _, ok, e2, _, _, e3⟩ := s.big c y hy
          simp only [agg.injEq, Array.mk.injEq, List.cons.injEq, Value.bool.injEq, slice.injEq, and_true] at e1
          obtain ⟨q1, q2, q3, q4⟩ := e1
          rw [q3]
          have e2 : sumL (ofCur b (c : Int)) = sg neg ds := e2
          rw [e2]
          constructor
          · intro hp hz
            have : dig ds = 0 := by
              unfold sg at hz
              split at hz <;> omega
            rw [(e3 this).1] at hp
            exact absurd hp (by simp)
          · intro hz
            refine Nat.pos_of_ne_zero fun h0 => hz ?_
            have : ds = [] := List.length_eq_zero_iff.1 h0
            rw [this]; unfold sg; split <;> rfl
        have m2 : ∀ (m c : Nat), m + c = S.cur → (∀ d : Nat, d < c → sumL (ofCur b (d : Int)) = 0) → L_pref08_Ledger_Post_2 (some ⟨g.p, 0, none⟩) q n qc (some ⟨r, 0, none⟩) S.cur S.cur (c : Int) h2 K := by
          intro m
          induction m with
          | zero =>
            intro c hc hz
            refine L_pref08_Ledger_Post_2r _ _ _ _ _ _ _ _ _ _ ?_
            unfold L_pref08_Ledger_Post_2T
            have he : evenB S b = true := by
              unfold evenB
              rw [List.all_eq_true]
              exact fun d hd => decide_eq_true (hz d (by have := List.mem_range.1 hd; omega))
            rw [if_neg (by rw [he]; decide)] at k
            refine Br.no (by simp; omega) (S_xCopy A2 fun h3 gm l3 Am fm => ⟨_, rfl, ?_⟩)
            refine post_x3 (h1 := h2) (rdL_le l2 X) hn hs (fun x hx => (hI x hx).2.2) hh2 fm (res := addsM b S.M) A2 (fun h4 l4 hne => ?_) (fun h4 l4 hz A4 => ?_) n 0 h3 S.M (by omega) l3 A.sz.sh Am rfl
            · rw [if_pos hne, addsM_3' _ _ hne] at k
              exact k h4 g (Heap.le_trans l02 l4) (A2.le l4) rfl fun x hx => .inl hx
            · rw [if_neg (by simpa using hz)] at k
              have hlM : (addsM b S.M).2.length = S.M.length := (addsM_ok b A.sz.sh A.sz.i64 (fun p hp => by have := hh2 p hp; omega) hz).1.1
              have npm : ∀ x, gm.D S.M.length x = true → x ≠ g.p ∧ x ≠ g.q := fun x hx => ⟨fun e => by
                have := fm x hx
                rw [e] at this
                exact A2.ap.ne this rfl, fun e => by
                have := fm x hx
                rw [e] at this
                exact A2.nd.ne this rfl⟩
              have nD : ∀ x, (x = g.p ∨ x = g.q) → gm.f.D S.M.length x = false := fun x hx => by
                cases hd : gm.f.D S.M.length x with
                | false => rfl
                | true =>
                  have := npm x (XFr.D_f hd)
                  rcases hx with e | e
                  · exact (this.1 e).elim
                  · exact (this.2 e).elim
              refine Ret.mk (k _ ⟨g.p, gm.f, g.q, g.qc, g.qs⟩ (le_setN (Heap.le_trans l02 l4) (fr _ (g.D_p _))) ⟨?_, A4.rw.mv fun x xs d a => a.set_ne ?_, (A2.nd.le l4).set_ne A.qp, by rw [hlM]; exact nD _ (.inl rfl), A.qp, by rw [hlM]; exact nD _ (.inr rfl), A4.sz⟩ rfl fun x hx => ?_)
              · have := (A2.ap.le l4).set (o := 0) (ws := [.slice gm.f.a S.M.length gm.f.C])
                rw [hlM]
                exact this
              · rw [cutM_len] at d
                have d : gm.f.D (addsM b S.M).2.length x = true := d
                rw [hlM] at d
                exact (npm x (XFr.D_f d)).1
              · rcases XFr.D_t hx with rfl | rfl | e
                · exact .inl (g.D_p _)
                · exact .inl (g.D_q _)
                · exact .inr (none_of_le l2 (fm x (XFr.D_f e)))
          | succ m ih =>
            intro c hc hz
            refine L_pref08_Ledger_Post_2r _ _ _ _ _ _ _ _ _ _ ?_
            unfold L_pref08_Ledger_Post_2T
            have hcl : c < bl.length := by rw [s.len]; omega
            have hy : bl[c]? = some bl[c] := List.getElem?_eq_getElem hcl
            have h0c := len0 c _ hy
            generalize bl[c] = y at *
            have cell1 : h2.cell r (0 + (c : Int).toNat * 2 + 1) = some (.slice y.p y.n y.c) := s.at'.cell (by rw [Nat.zero_add, Int.toNat_natCast, arr_get bgV_len bl c 1 y hy (by omega)]; rfl)
            refine Br.yes (by simp; omega) ⟨by omega, by omega, withAddr_intro rfl ⟨_, _, _, cell1, Br.dec (fun g1 => ?_) fun g1 => ?_⟩⟩
            · have he : evenB S b = false := by
                unfold evenB
                rw [List.all_eq_false]
                exact ⟨c, List.mem_range.2 (by omega), by simpa using h0c.1 (by omega)⟩
              rw [if_pos he] at k
              exact Ret.mk (k h2 g l02 A2 rfl fun x hx => .inl hx)
            · rw [w1 (by omega)]
              refine ih (c + 1) (by omega) fun d hd => ?_
              by_cases e : d = c
              · rw [e]
                exact Classical.byContradiction fun hne => g1 (by have := h0c.2 hne; omega)
              · exact hz d (by omega)
        exact m2 S.cur 0 (by omega) fun d hd => by omega
      · rw [List.getElem?_replicate] at hy
        split at hy
        · cases hy
          exact ⟨false, none, 0, [], rfl, .inl rfl, fun _ h => (by cases h), rfl, Nat.le_refl _, by simp, fun _ => ⟨rfl, rfl⟩⟩
        · cases hy
    | succ m ih =>
      intro j hj hh
      refine L_pref08_Ledger_Post_0r _ _ _ _ _ _ _ _ _ _ ?_
      unfold L_pref08_Ledger_Post_0T
      have hx : b[j]? = some b[j] := List.getElem?_eq_getElem (by omega)
      have htk : b.take (j + 1) = b.take j ++ [b[j]] := by rw [List.take_add_one, hx]; rfl
      have hmem : b[j] ∈ b := List.getElem_mem _
      generalize b[j] = y at *
      obtain ⟨P1, P2, _⟩ := px1 (rdL_le l1 X) hn (rfl : (j : Int) = (j : Int)) hx
      refine Br.yes (by simp; omega) (P1 (P2 fun _ _ _ => S_xHas A1 ⟨_, rfl, ?_⟩))
      cases hb : hasB S y.m y.c with
      | false =>
        have any1 : b.any (fun p => !hasB S p.m p.c) = true := List.any_eq_true.2 ⟨y, hmem, by rw [hb]; rfl⟩
        rw [if_pos any1] at k
        exact Br.yes rfl (Ret.mk (k h1 g l01 A1 rfl fun x hx => .inl hx))
      | true =>
        rw [w1 (by omega)]
        refine Br.no rfl (ih (j + 1) (by omega) fun x hx2 => ?_)
        rw [htk] at hx2
        rcases List.mem_append.1 hx2 with hx2 | hx2
        · exact hh x hx2
        · rw [List.mem_singleton.1 hx2]; exact hb
  exact m0 n 0 (by omega) fun x hx => by simp at hx
end
end Go.Proofs.Ytghdadniddoboaa

/- Three things side by side: the program's ledger and worths, the reference's ledger, and its copy of balances as they were told. -/
namespace Go.Proofs.Ytghdadniddoboaa
open Go Go.Sy Go.Value
set_option linter.unusedVariables false
set_option linter.unusedSimpArgs false

def LWD (p B : Nat) (f : WoF) (N x : Nat) : Bool := x == p || (x == B || famD (3 + 3 * N) f.b x)
section
variable {h0 h : Heap} {S : Lg} {p B C : Nat} {sp : List Value} {f : WoF} {T : List Cur} {N : Nat} {R : Nat → List Int}
theorem LWD_t {x : Nat} (h : LWD p B f N x = true) : x = p ∨ x = B ∨ ∃ i, i < 3 + 3 * N ∧ f.b i = x := by
  unfold LWD at h
  rw [Bool.or_eq_true, Bool.or_eq_true] at h
  rcases h with h | h | h
  · exact .inl (by simpa using h)
  · exact .inr (.inl (by simpa using h))
  · exact .inr (.inr (famD_t h))
theorem LWD_p : LWD p B f N p = true := by unfold LWD; simp
theorem LWD_B : LWD p B f N B = true := by unfold LWD; simp
theorem LWD_f {i : Nat} (hi : i < 3 + 3 * N) : LWD p B f N (f.b i) = true := by unfold LWD; rw [famD_i hi]; simp
theorem LW.none' (W : LW h0 h S p B C sp f T N R) {x : Nat} (hx : LWD p B f N x = true) : h0 x = none := by
  rcases LWD_t hx with rfl | rfl | ⟨i, hi, rfl⟩
  · exact W.np
  · exact W.nB
  · exact W.fr i hi
theorem LW.at' (W : LW h0 h S p B C sp f T N R) {x : Nat} (hx : LWD p B f N x = true) : ∃ xs, At h x xs := by
  rcases LWD_t hx with rfl | rfl | ⟨i, hi, rfl⟩
  · exact ⟨_, W.LA.ap⟩
  · exact ⟨_, W.LA.ab⟩
  · exact ⟨_, W.X.fam.at' i hi⟩
theorem LW.mv {b0 h' : Heap} (W : LW h0 h S p B C sp f T N R) (l : b0.le h') (k : ∀ x xs, LWD p B f N x = true → At h x xs → At h' x xs) (z : ∀ x, LWD p B f N x = true → b0 x = none) : LW b0 h' S p B C sp f T N R :=
  { W with LA := ⟨k _ _ LWD_p W.LA.ap, k _ _ LWD_B W.LA.ab, W.LA.ne, W.LA.sz⟩, X := { W.X with fam := W.X.fam.mv fun x xs hx a => k x xs (by obtain ⟨i, hi, rfl⟩ := famD_t hx; exact LWD_f hi) a }, base := l, np := z _ LWD_p, nB := z _ LWD_B, fr := fun i hi => z _ (LWD_f hi) }
theorem LW.off (W : LW h0 h S p B C sp f T N R) : LW (h.wo (LWD p B f N)) h S p B C sp f T N R := W.mv (wo_le _ _) (fun _ _ _ a => a) fun _ hx => wo_none hx
theorem LW.out (W : LW h0 h S p B C sp f T N R) {x : Nat} (e : h x = none) : LWD p B f N x = false := by
  cases hd : LWD p B f N x with
  | false => rfl
  | true => obtain ⟨xs, a⟩ := W.at' hd; exact (a.ne e rfl).elim
end
theorem noD {D : Bool} (h : D = true → False) : D = false := by cases D with
  | false => rfl
  | true => exact (h rfl).elim
/-! rows that are exchanged -/
theorem slV_set (R CC : Nat → Nat) (w : Nat) {n i r c : Nat} (sp : List Value) (hi : i < n) : setL (slV R CC w n ++ sp) (0 + i) [.slice (some ⟨r, 0, none⟩) w c] = slV (updF R i r) (updF CC i c) w n ++ sp := by
  rw [Nat.zero_add, setL, setL, setT_eq, List.set_append_left _ _ (by rw [slV_len]; exact hi)]
  congr 1
  refine List.ext_getElem? fun j => ?_
  by_cases hj : j < n
  · rw [slV_get _ _ _ hj]
    by_cases e : j = i
    · subst e
      rw [List.getElem?_set_self (by rw [slV_len]; exact hj), updF_same, updF_same]
    · rw [List.getElem?_set_ne (fun x => e x.symm), slV_get _ _ _ hj, updF_ne _ _ e, updF_ne _ _ e]
  · rw [List.getElem?_eq_none (by rw [List.length_set, slV_len]; omega), List.getElem?_eq_none (by rw [slV_len]; omega)]
def Rws.sw (f : Rws) (i r c : Nat) (sp : List Value) : Rws := ⟨f.a, f.C, f.sp, updF f.R i r, updF f.CC i c, updF f.SP i sp⟩
theorem RwsAt.swap {h : Heap} {f : Rws} {M : Mx} {w : Nat} (A : RwsAt h f M w) {i B r c : Nat} {row : List Int} {sp : List Value} (hi : i < M.length) (ea : f.a = some ⟨B, 0, none⟩) (Ar : At h r (intsV .i64 row ++ sp)) (hr : f.D M.length r = false) (hw : row.length = w) :
    RwsAt (h.setN B (0 + i) [.slice (some ⟨r, 0, none⟩) w c]) (f.sw i r c sp) (M.set i row) w := by
  have rB : r ≠ B := fun e => by rw [e, Rws.D_a (by omega) ea] at hr; cases hr
  have rR : ∀ j, j < M.length → f.R j ≠ r := fun j hj e => by rw [← e, Rws.D_row f hj] at hr; cases hr
  refine ⟨?_, ?_, ?_, ?_, ?_⟩
  · obtain ⟨B', e, a⟩ := A.pr.resolve_left (by omega)
    rw [ea] at e; cases e
    have := a.set (o := 0 + i) (ws := [.slice (some ⟨r, 0, none⟩) w c])
    rw [slV_set _ _ _ _ hi] at this
    rw [List.length_set]
    exact .inr ⟨B, ea, this⟩
  · intro B' e j hj
    rw [List.length_set] at hj
    have e : f.a = some ⟨B', 0, none⟩ := e
    rw [ea] at e; cases e
    show updF f.R i r j ≠ B
    by_cases e2 : j = i
    · subst e2; rw [updF_same]; exact rB
    · rw [updF_ne _ _ e2]; exact A.nb B ea j hj
  · intro j hj
    rw [List.length_set] at hj
    show At _ (updF f.R i r j) (_ ++ updF f.SP i sp j)
    by_cases e2 : j = i
    · subst e2
      rw [updF_same, updF_same, List.getD_eq_getElem?_getD, List.getElem?_set_self hj]
      exact Ar.set_ne rB
    · rw [updF_ne _ _ e2, updF_ne _ _ e2, List.getD_eq_getElem?_getD, List.getElem?_set_ne (fun x => e2 x.symm), ← List.getD_eq_getElem?_getD]
      exact (A.row j hj).set_ne (A.nb B ea j hj)
  · intro j k hj hk e
    rw [List.length_set] at hj hk
    have e : updF f.R i r j = updF f.R i r k := e
    by_cases e1 : j = i
    · by_cases e2 : k = i
      · omega
      · rw [e1, updF_same, updF_ne _ _ e2] at e; exact (rR k hk e.symm).elim
    · by_cases e2 : k = i
      · rw [e2, updF_same, updF_ne _ _ e1] at e; exact (rR j hj e).elim
      · rw [updF_ne _ _ e1, updF_ne _ _ e2] at e; exact A.inj j k hj hk e
  · refine ⟨rfl, fun x hx => ?_⟩
    rcases List.mem_or_eq_of_mem_set hx with hx | rfl
    · exact A.sh.2 x hx
    · exact hw
def mxR (N : Nat) (R : Nat → List Int) : Mx := (List.range N).map R
theorem mxR_len (N : Nat) (R : Nat → List Int) : (mxR N R).length = N := by unfold mxR; rw [List.length_map, List.length_range]
theorem mxR_get {N i : Nat} (R : Nat → List Int) (h : i < N) : (mxR N R).getD i [] = R i := by
  unfold mxR
  rw [List.getD_eq_getElem?_getD, List.getElem?_map, List.getElem?_range h]; rfl
theorem mxR_cong {N : Nat} {R R' : Nat → List Int} (h : ∀ i, i < N → R i = R' i) : mxR N R = mxR N R' := by
  unfold mxR
  exact List.map_congr_left fun i hi => h i (List.mem_range.1 hi)
theorem mxR_set {N i : Nat} (R : Nat → List Int) (row : List Int) (h : i < N) : (mxR N R).set i row = mxR N (updF R i row) := by
  refine List.ext_getElem? fun j => ?_
  by_cases hj : j < N
  · have g : ∀ R : Nat → List Int, (mxR N R)[j]? = some (R j) := fun R => by unfold mxR; rw [List.getElem?_map, List.getElem?_range hj]; rfl
    rw [g]
    by_cases e : j = i
    · subst e
      rw [List.getElem?_set_self (by rw [mxR_len]; exact hj), updF_same]
    · rw [List.getElem?_set_ne (fun x => e x.symm), g, updF_ne _ _ e]
  · rw [List.getElem?_eq_none (by rw [List.length_set, mxR_len]; omega), List.getElem?_eq_none (by rw [mxR_len]; omega)]
theorem cut_row {S : Lg} (o : S.Sz) {i : Nat} (hi : i < S.M.length) : (cutM S).getD i [] = rowG S (i : Int) S.cur := by
  have hl : ((cutM S).getD i []).length = S.cur := by
    have := (cutM_sh o).row (i := i) (by rw [cutM_len]; exact hi)
    exact this
  refine List.ext_getElem? fun c => ?_
  by_cases hc : c < S.cur
  · have e1 := cutM_rd (S := S) (i := i) hc
    unfold rdM at e1
    rw [List.getD_eq_getElem?_getD, List.getElem?_eq_getElem (by omega)] at e1
    rw [List.getElem?_eq_getElem (by omega)]
    unfold rowG
    rw [List.getElem?_map, List.getElem?_range hc]
    show some _ = some (getG S (i : Int) (c : Int))
    unfold getG
    rw [if_pos (by unfold hasB; exact decide_eq_true (by omega)), Int.toNat_natCast, Int.toNat_natCast]
    exact congrArg some e1
  · rw [List.getElem?_eq_none (by omega), List.getElem?_eq_none (by rw [rowG_len]; omega)]
theorem cut_mx {S : Lg} (o : S.Sz) : cutM S = mxR S.M.length fun i => rowG S (i : Int) S.cur := by
  refine List.ext_getElem? fun i => ?_
  by_cases hi : i < S.M.length
  · have e := cut_row o hi
    rw [List.getD_eq_getElem?_getD, List.getElem?_eq_getElem (by rw [cutM_len]; exact hi)] at e
    rw [List.getElem?_eq_getElem (by rw [cutM_len]; exact hi)]
    unfold mxR
    rw [List.getElem?_map, List.getElem?_range hi]
    exact congrArg some e
  · rw [List.getElem?_eq_none (by rw [cutM_len]; omega), List.getElem?_eq_none (by rw [mxR_len]; omega)]
structure TF where
  p : Nat
  B : Nat
  C : Nat
  sp : List Value
  f : WoF
  g : XFr
  s : Nat
  sf : Rws
  z : Value
def TF.D2 (x : TF) (N b : Nat) : Bool := b == x.s || x.sf.D N b
def TF.D (x : TF) (N b : Nat) : Bool := LWD x.p x.B x.f N b || (x.g.D N b || x.D2 N b)
theorem TF.D2_t {x : TF} {N b : Nat} (h : x.D2 N b = true) : b = x.s ∨ x.sf.D N b = true := by
  unfold TF.D2 at h
  rw [Bool.or_eq_true] at h
  exact h.imp_left fun h => by simpa using h
theorem TF.D2_s (x : TF) (N : Nat) : x.D2 N x.s = true := by unfold TF.D2; simp
theorem TF.D2_f {x : TF} {N b : Nat} (h : x.sf.D N b = true) : x.D2 N b = true := by unfold TF.D2; rw [h, Bool.or_true]
structure Tri (h0 h : Heap) (s : St9) (Sr : Lg) (Rs : Nat → List Int) (N w : Nat) (x : TF) : Prop where
  W : LW h0 h s.S x.p x.B x.C x.sp x.f s.T N s.R
  X : XAt h x.g Sr
  sa : At h x.s [.slice x.sf.a N x.sf.C, x.z]
  sr : RwsAt h x.sf (mxR N Rs) w
  dp : x.sf.D N x.s = false
  f1 : ∀ b, x.g.D N b = true → h0 b = none ∧ LWD x.p x.B x.f N b = false
  f2 : ∀ b, x.D2 N b = true → h0 b = none ∧ LWD x.p x.B x.f N b = false ∧ x.g.D N b = false
  eT : s.T.length = w
  eN : Sr.M.length = N
  ec : Sr.cur = w
section
variable {h0 h : Heap} {K : Value → Heap → Prop} {s : St9} {Sr : Lg} {Rs : Nat → List Int} {N w : Nat} {x : TF}
theorem Tri.le {h' : Heap} (Q : Tri h0 h s Sr Rs N w x) (l : h.le h') : Tri h0 h' s Sr Rs N w x := { Q with W := Q.W.le l, X := Q.X.le l, sa := Q.sa.le l, sr := Q.sr.le l }
theorem Tri.cong {Rs' : Nat → List Int} (Q : Tri h0 h s Sr Rs N w x) (e : ∀ i, i < N → Rs i = Rs' i) : Tri h0 h s Sr Rs' N w x := { Q with sr := by rw [← mxR_cong e]; exact Q.sr }
theorem Tri.atX (Q : Tri h0 h s Sr Rs N w x) {b : Nat} (hb : x.g.D N b = true) : ∃ xs, At h b xs := Q.X.at (by rw [Q.eN]; exact hb)
theorem Tri.at2 (Q : Tri h0 h s Sr Rs N w x) {b : Nat} (hb : x.D2 N b = true) : ∃ xs, At h b xs := by
  rcases TF.D2_t hb with rfl | hb
  · exact ⟨_, Q.sa⟩
  · exact Q.sr.at (by rw [mxR_len]; exact hb)
theorem Tri.atD (Q : Tri h0 h s Sr Rs N w x) {b : Nat} (hb : x.D N b = true) : ∃ xs, At h b xs := by
  unfold TF.D at hb
  rw [Bool.or_eq_true, Bool.or_eq_true] at hb
  rcases hb with hb | hb | hb
  · exact Q.W.at' hb
  · exact Q.atX hb
  · exact Q.at2 hb
theorem Tri.noneD (Q : Tri h0 h s Sr Rs N w x) {b : Nat} (hb : x.D N b = true) : h0 b = none := by
  unfold TF.D at hb
  rw [Bool.or_eq_true, Bool.or_eq_true] at hb
  rcases hb with hb | hb | hb
  · exact Q.W.none' hb
  · exact (Q.f1 b hb).1
  · exact (Q.f2 b hb).1
theorem Tri.out (Q : Tri h0 h s Sr Rs N w x) {b : Nat} (e : h b = none) : x.D N b = false := noD fun hd => by obtain ⟨xs, a⟩ := Q.atD hd; exact a.ne e rfl
/-- a greater base -/
theorem Tri.top (Q : Tri h0 h s Sr Rs N w x) : h0.le (h.wo (x.D N)) ∧ Tri (h.wo (x.D N)) h s Sr Rs N w x := by
  have d1 : ∀ b, LWD x.p x.B x.f N b = true → x.D N b = true := fun b hb => by unfold TF.D; rw [hb, Bool.true_or]
  have d2 : ∀ b, x.g.D N b = true → x.D N b = true := fun b hb => by unfold TF.D; rw [hb, Bool.true_or, Bool.or_true]
  have d3 : ∀ b, x.D2 N b = true → x.D N b = true := fun b hb => by unfold TF.D; rw [hb, Bool.or_true, Bool.or_true]
  exact ⟨le_wo Q.W.base fun b hb => Q.noneD hb, { Q with W := Q.W.mv (wo_le _ _) (fun _ _ _ a => a) (fun b hb => wo_none (d1 b hb)), f1 := fun b hb => ⟨wo_none (d2 b hb), (Q.f1 b hb).2⟩, f2 := fun b hb => ⟨wo_none (d3 b hb), (Q.f2 b hb).2⟩ }⟩
/-- an operation of the program's -/
theorem S_doT (Q : Tri h0 h s Sr Rs N w x) {o : OpW} (ox : OpWI h0 o) (hb : o.b.length ≤ 20)
    (k : ∀ h' x', Tri h0 h' (doW N s o).2 Sr Rs N w x' → x'.p = x.p → x'.f.b 0 = x.f.b 0 → x'.g = x.g → x'.s = x.s → K (.int .i64 (doW N s o).1) h') :
    CallA Try.prog fn_law09_do [pointer (some ⟨x.p, 0, none⟩), pointer (some ⟨x.f.b 0, 0, none⟩), .int .i64 (N : Int), agg #[int .i64 o.d, int .i64 o.m, int .i64 o.c, int .i64 o.a, slice o.p o.b.length o.cp]] h K := by
  have l0 : h0.le (h.wo (LWD x.p x.B x.f N)) := le_wo Q.W.base fun b hb => Q.W.none' hb
  refine S_do09 Q.W.off (ox.le l0) hb fun h' B' C' sp' f' W' e0 => ?_
  have thru : ∀ b xs, LWD x.p x.B x.f N b = false → At h b xs → At h' b xs := fun b xs e a => (a.wo e).le W'.base
  have off : ∀ b xs, LWD x.p x.B x.f N b = false → At h b xs → LWD x.p B' f' N b = false := fun b xs e a => noD fun hd => (a.wo e).ne (W'.none' hd) rfl
  have eT : (doW N s o).2.T.length = s.T.length := by
    unfold doW
    split
    · rfl
    split
    · rfl
    split
    · rfl
    split
    · exact (wRate_tab Q.W.tab _ _).2
    split
    · exact (wCut_tab Q.W.tab _ _).2
    · rfl
  refine k h' { x with B := B', C := C', sp := sp', f := f' } ?_ rfl e0 rfl rfl
  refine { Q with W := W'.back l0, X := Q.X.mv fun b xs hb a => thru b xs (Q.f1 b (by rw [Q.eN] at hb; exact hb)).2 a, sa := thru _ _ (Q.f2 _ (x.D2_s N)).2.1 Q.sa, sr := Q.sr.mv fun b xs hb a => thru b xs (Q.f2 b (TF.D2_f (by rw [mxR_len] at hb; exact hb))).2.1 a, f1 := fun b hb => ⟨(Q.f1 b hb).1, ?_⟩, f2 := fun b hb => ⟨(Q.f2 b hb).1, ?_, (Q.f2 b hb).2.2⟩, eT := eT.trans Q.eT }
  · obtain ⟨xs, a⟩ := Q.atX hb
    exact off b xs (Q.f1 b hb).2 a
  · obtain ⟨xs, a⟩ := Q.at2 hb
    exact off b xs (Q.f2 b hb).2.1 a
/-- a pay-in of the reference's -/
theorem S_inT (Q : Tri h0 h s Sr Rs N w x) {m c a : Int} (ha : I64 a) (k : ∀ h', Tri h0 h' s (inG Sr m c a).2 Rs N w x → K (.int .i64 (inG Sr m c a).1) h') :
    CallA Try.prog fn_pref08_Ledger_In [pointer (some ⟨x.g.p, 0, none⟩), .int .i64 m, .int .i64 c, .int .i64 a] h K := by
  have l0 : h0.le (h.wo (x.g.D N)) := le_wo Q.W.base fun b hb => (Q.f1 b hb).1
  refine S_xIn (wo_le h (x.g.D N)) (fun b hb => wo_none (by rw [Q.eN] at hb; exact hb)) Q.X ha fun h' l' X' => k h' ?_
  have thru : ∀ b xs, x.g.D N b = false → At h b xs → At h' b xs := fun b xs e a => (a.wo e).le l'
  refine { Q with W := Q.W.mv (Heap.le_trans l0 l') (fun b xs hb a => thru b xs (noD fun hd => by rw [(Q.f1 b hd).2] at hb; cases hb) a) (fun b hb => Q.W.none' hb), X := X', sa := thru _ _ (Q.f2 _ (x.D2_s N)).2.2 Q.sa, sr := Q.sr.mv fun b xs hb a => thru b xs (Q.f2 b (TF.D2_f (by rw [mxR_len] at hb; exact hb))).2.2 a, eN := (inG_sz Sr m c a).1.trans Q.eN, ec := (inG_sz Sr m c a).2.trans Q.ec }
/-- a batch of the reference's -/
theorem S_postT (Q : Tri h0 h s Sr Rs N w x) {q : Option Addr} {b : List Pst} {n qc : Nat} (Xb : Pos h q b) (hn : b.length = n) (hs : n ≤ 1000) (hI : ∀ x ∈ b, I64 x.m ∧ I64 x.c ∧ I64 x.a)
    (k : ∀ h' x', Tri h0 h' s (postG Sr b).2 Rs N w x' → x'.p = x.p → x'.f = x.f → x'.g.p = x.g.p → K (.int .i64 (postG Sr b).1) h') :
    CallA Try.prog fn_pref08_Ledger_Post [pointer (some ⟨x.g.p, 0, none⟩), slice q n qc] h K := by
  have l0 : h0.le (h.wo (x.g.D N)) := le_wo Q.W.base fun b hb => (Q.f1 b hb).1
  refine S_xPost (wo_le h (x.g.D N)) (fun b hb => wo_none (by rw [Q.eN] at hb; exact hb)) Q.X Xb hn hs hI fun h' g' l' X' ep hD => ?_
  rw [Q.eN] at hD
  have thru : ∀ b xs, x.g.D N b = false → At h b xs → At h' b xs := fun b xs e a => (a.wo e).le l'
  refine k h' { x with g := g' } ?_ rfl rfl ep
  refine { Q with W := Q.W.mv (Heap.le_trans l0 l') (fun b xs hb a => thru b xs (noD fun hd => by rw [(Q.f1 b hd).2] at hb; cases hb) a) (fun b hb => Q.W.none' hb), X := X', sa := thru _ _ (Q.f2 _ (x.D2_s N)).2.2 Q.sa, sr := Q.sr.mv fun b xs hb a => thru b xs (Q.f2 b (TF.D2_f (by rw [mxR_len] at hb; exact hb))).2.2 a, f1 := fun b hb => ?_, f2 := fun b hb => ⟨(Q.f2 b hb).1, (Q.f2 b hb).2.1, ?_⟩, eN := (postG_sz Sr _).1.trans Q.eN, ec := (postG_sz Sr _).2.trans Q.ec }
  · rcases hD b hb with e | e
    · exact Q.f1 b e
    · exact ⟨none_of_le Q.W.base e, Q.W.out e⟩
  · refine noD fun hd => ?_
    rcases hD b hd with e | e
    · rw [(Q.f2 b hb).2.2] at e; cases e
    · obtain ⟨xs, a⟩ := Q.at2 hb
      exact a.ne e rfl
/-- all balances, told anew -/
theorem S_copyT (Q : Tri h0 h s Sr Rs N w x) (k : ∀ h' x', Tri h0 h' s Sr (fun i => rowG Sr (i : Int) w) N w x' → x'.p = x.p → x'.f = x.f → x'.g = x.g → K (pointer (some ⟨x'.s, 0, none⟩)) h') :
    CallA Try.prog fn_pref08_Ledger_Copy [pointer (some ⟨x.g.p, 0, none⟩)] h K := by
  refine S_xCopy Q.X fun h' g' l' X' hD => ?_
  rw [Q.eN] at hD
  have hD2 : ∀ b, (b == g'.p || g'.f.D N b) = true → g'.D N b = true := fun b hb => by
    rw [Bool.or_eq_true] at hb
    rcases hb with e | e
    · rw [show b = g'.p by simpa using e]; exact g'.D_p N
    · exact XFr.D_f e
  refine k h' { x with s := g'.p, sf := g'.f, z := .slice (some ⟨g'.q, 0, none⟩) Sr.cur g'.qc } ?_ rfl rfl rfl
  have Q' := Q.le l'
  refine { W := Q'.W, X := Q'.X, eT := Q.eT, eN := Q.eN, ec := Q.ec, f1 := Q.f1, sa := ?_, sr := ?_, dp := ?_, f2 := fun b hb => ?_ }
  · have := X'.ap
    rw [Q.eN] at this
    exact this
  · have := X'.rw
    rw [cut_mx X'.sz, Q.eN, Q.ec] at this
    exact this
  · have := X'.dp
    rw [Q.eN] at this
    exact this
  · have e := hD b (hD2 b hb)
    exact ⟨none_of_le Q.W.base e, Q.W.out e, noD fun hd => by obtain ⟨xs, a⟩ := Q.atX hd; exact a.ne e rfl⟩
/-- one member's balances, told anew -/
theorem Tri.row (Q : Tri h0 h s Sr Rs N w x) {m r c : Nat} {row : List Int} {sp : List Value} (hm : m < N) (nr : h0 r = none) (hD : x.D N r = false) (A : At h r (intsV .i64 row ++ sp)) (hw : row.length = w) :
    ∃ B x', x.sf.a = some ⟨B, 0, none⟩ ∧ h.canSt B (0 + m) 1 ∧ Tri h0 (h.setN B (0 + m) [.slice (some ⟨r, 0, none⟩) w c]) s Sr (updF Rs m row) N w x' ∧ x'.p = x.p ∧ x'.f = x.f ∧ x'.g = x.g ∧ x'.s = x.s := by
  have hl := mxR_len N Rs
  obtain ⟨B, ea, _⟩ := Q.sr.cl (i := m) (by rw [hl]; exact hm)
  have D2B : x.D2 N B = true := TF.D2_f (Rws.D_a (by omega) ea)
  have fB := Q.f2 B D2B
  have r1 : LWD x.p x.B x.f N r = false := by
    unfold TF.D at hD
    rw [Bool.or_eq_false_iff] at hD
    exact hD.1
  have r2 : x.g.D N r = false ∧ x.D2 N r = false := by
    unfold TF.D at hD
    rw [Bool.or_eq_false_iff, Bool.or_eq_false_iff] at hD
    exact hD.2
  have r3 : x.sf.D N r = false := noD fun hd => by rw [TF.D2_f hd] at r2; cases r2.2
  have sB : x.s ≠ B := fun e => by
    have := Q.dp
    rw [e, Rws.D_a (by omega) ea] at this
    cases this
  refine ⟨B, { x with sf := x.sf.sw m r c sp }, ea, ?_, ?_, rfl, rfl, rfl, rfl⟩
  · obtain ⟨B', e, a⟩ := Q.sr.pr.resolve_left (by rw [hl]; omega)
    rw [ea] at e; cases e
    exact a.canSt (by rw [List.length_append, slV_len, hl]; omega)
  · have dsw : ∀ b, (x.sf.sw m r c sp).D N b = true → x.sf.D N b = true ∨ b = r := fun b hb => by
      rcases Rws.D_t hb with ⟨h1, h2⟩ | ⟨i, hi, h2⟩
      · exact .inl (Rws.D_a h1 h2)
      · have h2 : updF x.sf.R m r i = b := h2
        by_cases e : i = m
        · subst e; rw [updF_same] at h2; exact .inr h2.symm
        · rw [updF_ne _ _ e] at h2; rw [← h2]; exact .inl (x.sf.D_row hi)
    have d2' : ∀ b, TF.D2 { x with sf := x.sf.sw m r c sp } N b = true → x.D2 N b = true ∨ b = r := fun b hb => by
      rcases TF.D2_t hb with e | e
      · exact .inl (by have e : b = x.s := e; rw [e]; exact x.D2_s N)
      · exact (dsw b e).imp_left TF.D2_f
    refine { W := Q.W.mv (le_setN Q.W.base fB.1) (fun b xs hb a => a.set_ne (fun e => by rw [e, fB.2.1] at hb; cases hb)) (fun b hb => Q.W.none' hb), X := Q.X.mv (fun b xs hb a => a.set_ne (fun e => by rw [Q.eN, e, fB.2.2] at hb; cases hb)), sa := Q.sa.set_ne sB, sr := ?_, dp := ?_, f1 := Q.f1, f2 := fun b hb => ?_, eT := Q.eT, eN := Q.eN, ec := Q.ec }
    · rw [← mxR_set _ _ hm]
      exact Q.sr.swap (by rw [hl]; exact hm) ea A (by rw [hl]; exact r3) hw
    · refine noD fun hd => ?_
      rcases dsw _ hd with e | e
      · rw [Q.dp] at e; cases e
      · rw [← e] at r2
        rw [x.D2_s N] at r2
        cases r2.2
    · rcases d2' b hb with e | rfl
      · exact Q.f2 b e
      · exact ⟨nr, r1, r2.1⟩
end
end Go.Proofs.Ytghdadniddoboaa

/- The law WorthTells. -/
namespace Go.Proofs.Ytghdadniddoboaa
open Go Go.Sy Go.Value
set_option linter.unusedVariables false
set_option linter.unusedSimpArgs false

theorem S_RWithO {K : Value → Heap → Prop} {h : Heap} {p : Option Addr} {l : List Cur} {n c : Nat} {cur r t : Int} (C : Curs h p l) (hn : l.length = n) (hs : n ≤ 1000000)
    (k : ∀ p' n' c' e h', h.le h' → WResO h h' p' n' e (rWith l cur r t) → K (tuple #[slice p' n' c', .int .i64 e]) h') : CallA Try.prog fn_ref03_With [slice p n c, .int .i64 cur, .int .i64 r, .int .i64 t] h K := by
  refine F_ref03_With _ _ _ _ _ _ _ _ ?_
  unfold F_ref03_WithT
  unfold rWith at k
  refine Br.dec (fun e => ?_) (fun e => Br.dec (fun e2 => ?_) (fun e2 => ?_))
  · rw [if_neg (by omega)] at k
    exact Ret.mk (k none 0 0 1 h h.le_refl ⟨rfl, rfl, rfl⟩)
  · rw [if_pos (by omega), List.getElem?_eq_none (by omega)] at k
    exact Ret.mk (k none 0 0 1 h h.le_refl ⟨rfl, rfl, rfl⟩)
  · obtain ⟨j, rfl⟩ := Int.eq_ofNat_of_zero_le (show 0 ≤ cur by omega)
    have hx : l[j]? = some l[j] := List.getElem?_eq_getElem (by omega)
    rw [if_pos (by omega), Int.toNat_natCast, hx] at k
    generalize l[j] = x at *
    dsimp only at k
    intro r0 hr
    refine (own_new (T := 61) (z := [string { data := #[] }, .int .i64 0, .int .i64 0]) hr).push (by decide) (le_ins hr) (by omega) (by rw [curV_length, hn]; rfl) (C.le (le_ins hr)) (allCells_cur _) (by simp) ?_
    intro p' c' h' l' own _ _
    rw [Nat.zero_add, List.nil_append] at *
    rcases own with ⟨e1, _, _⟩ | ⟨b, sp, rfl, e0, B, hcap⟩
    · have := congrArg List.length e1
      rw [curV_length, List.length_nil] at this
      omega
    · rw [Int.toNat_natCast]
      refine ⟨by omega, by omega, withAddr_intro rfl ⟨B.canSt (by rw [List.length_append, curV_length]; omega), by omega, by omega, withAddr_intro rfl ?_⟩⟩
      have B1 := B.set (o := 0 + j * 3 + 1) (ws := [.int .i64 r])
      have e4 : setL (curV l ++ sp) (0 + j * 3 + 1) [.int .i64 r] = curV (l.set j ⟨x.code, r, x.cut⟩) ++ sp := by
        rw [Nat.zero_add]; exact curV_rate r sp l j x hx
      rw [e4] at B1
      refine ⟨B1.canSt (by rw [List.length_append, curV_length, List.length_set]; omega), ?_⟩
      have B2 := B1.set (o := 0 + j * 3 + 2) (ws := [.int .i64 t])
      have e5 : setL (curV (l.set j ⟨x.code, r, x.cut⟩) ++ sp) (0 + j * 3 + 2) [.int .i64 t] = curV (l.set j ⟨x.code, r, t⟩) ++ sp := by
        rw [Nat.zero_add, curV_cut t sp _ j ⟨x.code, r, x.cut⟩ (by rw [List.getElem?_set_self (by omega)]), List.set_set]
      rw [e5] at B2
      have l2 := le_setN (o := 0 + j * 3 + 2) (ws := [.int .i64 t]) (le_setN (o := 0 + j * 3 + 1) (ws := [.int .i64 r]) l' e0) e0
      generalize (h'.setN b (0 + j * 3 + 1) [.int .i64 r]).setN b (0 + j * 3 + 2) [.int .i64 t] = h2 at *
      have C2 : Curs h2 (some ⟨b, 0, none⟩) (l.set j ⟨x.code, r, t⟩) := B2.toRd
      refine S_RCheck C2 (by simpa using hn) ⟨_, rfl, Br.intro (fun g => ?_) (fun g => ?_)⟩
      · rw [if_neg (by simpa using g)] at k
        exact Ret.mk (k none 0 0 1 h2 l2 ⟨rfl, rfl, rfl⟩)
      · rw [if_pos (by simpa using g)] at k
        exact Ret.mk (k _ _ _ _ h2 l2 ⟨⟨b, sp, rfl, e0, B2⟩, by simpa using hn, rfl⟩)
section
variable {he : Heap} {N w : Nat} {mq : Option Addr} {more : List Pst} {mn mc : Nat} {q : Option Addr} {l : List OpW} {n qc : Nat}
/-- behind an operation: all members -/
theorem tells_1 {K : Value → Heap → Prop} {h0 : Heap} {s : St9} {x : TF} {tp : Option Addr} {tc : Nat} {j : Int} (hN : 1 ≤ N) (hN2 : N ≤ 16) (CT : Curs h0 tp s.T) (Xm : Pos h0 mq more) (hmn : more.length = mn) (hms : mn ≤ 20) (hmI : ∀ y ∈ more, I64 y.a)
    (k : ∀ h', Tri h0 h' s s.S s.R N w x → L_law09_WorthTells_0 tp w tc mq mn mc (N : Int) (some ⟨x.p, 0, none⟩) (some ⟨x.g.p, 0, none⟩) (some ⟨x.f.b 0, 0, none⟩) (some ⟨x.s, 0, none⟩) q n qc (n : Int) (IntKind.wrap .i64 (j + 1)) h' K) :
    ∀ (d : Nat) (m : Int) (h : Heap), m + d = (N : Int) + 1 → -1 ≤ m → Tri h0 h s s.S s.R N w x → L_law09_WorthTells_1 tp w tc mq mn mc (N : Int) (some ⟨x.p, 0, none⟩) (some ⟨x.g.p, 0, none⟩) (some ⟨x.f.b 0, 0, none⟩) (some ⟨x.s, 0, none⟩) m q n qc (n : Int) j h K := by
  intro d
  induction d with
  | zero =>
    intro m h hm h1 Q
    refine L_law09_WorthTells_1r _ _ _ _ _ _ _ _ _ _ _ _ _ _ _ _ _ _ _ ?_
    unfold L_law09_WorthTells_1T
    exact Br.no (by simp; omega) (k h Q)
  | succ d ih =>
    intro m h hm h1 Q
    refine L_law09_WorthTells_1r _ _ _ _ _ _ _ _ _ _ _ _ _ _ _ _ _ _ _ ?_
    unfold L_law09_WorthTells_1T
    refine Br.yes (by simp; omega) ?_
    refine L_law09_WorthTells_1051r _ _ _ _ _ _ _ _ _ _ _ _ _ _ _ _ _ _ _ ?_
    unfold L_law09_WorthTells_1051T
    have next : ∀ h', Tri h0 h' s s.S s.R N w x → L_law09_WorthTells_1 tp w tc mq mn mc (N : Int) (some ⟨x.p, 0, none⟩) (some ⟨x.g.p, 0, none⟩) (some ⟨x.f.b 0, 0, none⟩) (some ⟨x.s, 0, none⟩) (IntKind.wrap .i64 (m + 1)) q n qc (n : Int) j h' K := fun h' Q' => by
      rw [wrap_i64_id (n := m + 1) (by omega) (by omega)]
      exact ih (m + 1) h' (by omega) (by omega) Q'
    obtain ⟨t1, t8, _⟩ := tab_parts Q.W.tab
    have eT := Q.eT
    by_cases hin : 0 ≤ m ∧ m < (N : Int)
    · obtain ⟨i, rfl⟩ : ∃ i : Nat, m = i := ⟨m.toNat, by omega⟩
      have hi : i < N := by omega
      refine S_wNet Q.W.X ?_
      rw [if_pos hin, Int.toNat_natCast]
      refine ⟨_, _, rfl, S_wShort Q.W.X ?_⟩
      rw [if_pos hin, Int.toNat_natCast]
      refine ⟨_, _, rfl, S_wIf (row := s.R i) Q.W.tab Q.W.X (fun _ _ => by rw [Int.toNat_natCast]) (Q.W.ln i hi) (Q.W.i64 i hi) (rdL_le Q.W.base Xm) hmn (by omega) hmI fun h2 l2 => ?_⟩
      rw [if_pos hin]
      refine ⟨_, _, _, rfl, Br.no (by simp) (Br.no (by simp; omega) ?_)⟩
      have row : ∀ {h' : Heap}, Tri h0 h' s s.S s.R N w x → ∃ B, x.sf.a = some ⟨B, 0, none⟩ ∧ h'.cell B (0 + i) = some (.slice (some ⟨x.sf.R i, 0, none⟩) w (x.sf.CC i)) ∧ Ints .i64 h' (some ⟨x.sf.R i, 0, none⟩) (s.R i) ∧ h'.cell x.s 0 = some (.slice x.sf.a N x.sf.C) := fun Q' => by
        have hl := mxR_len N s.R
        obtain ⟨B, ea, g⟩ := Q'.sr.cl (i := i) (by rw [hl]; exact hi)
        have := Q'.sr.row i (by rw [hl]; exact hi)
        rw [mxR_get _ hi] at this
        exact ⟨B, ea, g, this.toRd, Q'.sa.cell rfl⟩
      have ok := all_inb Q.W.tab
      have Q2 := Q.le l2
      have ln := (Q.W.ln i hi).trans eT
      have iI := Q.W.i64 i hi
      obtain ⟨B, ea, g1, I1, c1⟩ := row Q2
      refine withAddr_intro rfl ⟨_, _, _, c1, by omega, by omega, withAddr_intro ea ⟨_, _, _, g1, S_xNet (CT.le Q2.W.base) eT ok I1 ln (by omega) iI fun h3 l3 => ⟨_, _, rfl, ?_⟩⟩⟩
      have Q3 := Q2.le l3
      obtain ⟨B3, ea3, g3, I3, c3⟩ := row Q3
      refine withAddr_intro rfl ⟨_, _, _, c3, by omega, by omega, withAddr_intro ea3 ⟨_, _, _, g3, S_xShort (CT.le Q3.W.base) eT ok I3 ln (by omega) iI fun h4 l4 => ⟨_, _, rfl, ?_⟩⟩⟩
      have Q4 := Q3.le l4
      obtain ⟨B4, ea4, g4, I4, c4⟩ := row Q4
      refine withAddr_intro rfl ⟨_, _, _, c4, by omega, by omega, withAddr_intro ea4 ⟨_, _, _, g4, S_xIf (CT.le Q4.W.base) eT ok I4 ln (by omega) (by omega) iI (rdL_le Q4.W.base Xm) hmn (by omega) hmI fun h5 l5 => ⟨_, _, _, rfl, ?_⟩⟩⟩
      have Q5 := Q4.le l5
      refine Br.no (by simp [acOf]) (Br.no (by simp [acOf]) (Br.no (by simp [acOf]) (Br.no (by simp [acOf]) (Br.no (by simp) (Br.no (by simp) (Br.no (by simp) (next h5 Q5)))))))
    · refine S_wNet Q.W.X ?_
      rw [if_neg hin]
      refine ⟨_, _, rfl, S_wShort Q.W.X ?_⟩
      rw [if_neg hin]
      refine ⟨_, _, rfl, S_wIf (row := s.R 0) Q.W.tab Q.W.X (fun a b => (hin ⟨a, b⟩).elim) (Q.W.ln 0 (by omega)) (Q.W.i64 0 (by omega)) (rdL_le Q.W.base Xm) hmn (by omega) hmI fun h2 l2 => ?_⟩
      rw [if_neg hin]
      refine ⟨_, _, _, rfl, ?_⟩
      by_cases hm0 : m < 0
      · exact Br.yes (by simpa using hm0) (Br.no rfl (Br.no rfl (Br.no rfl (Br.no rfl (Br.no rfl (next h2 (Q.le l2)))))))
      · exact Br.no (by simpa using hm0) (Br.yes (by simp; omega) (Br.no rfl (Br.no rfl (Br.no rfl (Br.no rfl (Br.no rfl (next h2 (Q.le l2))))))))
/-- both tables are the same -/
theorem tells_46 {K : Value → Heap → Prop} {h0 h : Heap} {s : St9} {x : TF} {tp : Option Addr} {tc tn : Nat} {j e : Int} (hN : 1 ≤ N) (hN2 : N ≤ 16) (CT : Curs h0 tp s.T) (hw : tn = w) (Xm : Pos h0 mq more) (hmn : more.length = mn) (hms : mn ≤ 20) (hmI : ∀ y ∈ more, I64 y.a) (Q : Tri h0 h s s.S s.R N w x)
    (k : ∀ h', Tri h0 h' s s.S s.R N w x → L_law09_WorthTells_0 tp w tc mq mn mc (N : Int) (some ⟨x.p, 0, none⟩) (some ⟨x.g.p, 0, none⟩) (some ⟨x.f.b 0, 0, none⟩) (some ⟨x.s, 0, none⟩) q n qc (n : Int) (IntKind.wrap .i64 (j + 1)) h' K) :
    L_law09_WorthTells_1046 tp tn tc mq mn mc (N : Int) (some ⟨x.p, 0, none⟩) (some ⟨x.g.p, 0, none⟩) (some ⟨x.f.b 0, 0, none⟩) (some ⟨x.s, 0, none⟩) e e q n qc (n : Int) j h K := by
  subst hw
  refine L_law09_WorthTells_1046r _ _ _ _ _ _ _ _ _ _ _ _ _ _ _ _ _ _ _ _ ?_
  unfold L_law09_WorthTells_1046T
  obtain ⟨t1, t8, _⟩ := tab_parts Q.W.tab
  refine Br.no (by simp) (S_wTable Q.W.X (by omega) fun p' c' h1 l1 own => ⟨_, _, _, rfl, ?_⟩)
  have Q1 := Q.le l1
  refine S_RSame (o := some s.T) (e1 := 0) (e2 := 0) ⟨own.rd, rfl, rfl⟩ ⟨CT.le Q1.W.base, Q.eT, rfl⟩ (by omega) ⟨_, rfl, Br.no rfl ?_⟩
  exact tells_1 hN hN2 CT Xm hmn hms hmI k (N + 2) (-1) h1 (by omega) (by omega) Q1
/-- one member's balances are told anew: where they come from -/
theorem tells_row {h0 h : Heap} {s : St9} {Sr : Lg} {Rs : Nat → List Int} {x : TF} {ox : Nat} {ov : List Value} {m : Nat} {mi : Int} (Q : Tri h0 h s Sr Rs N w x) (hm : m < N) (hmi : mi = (m : Int)) (Ao : At h ox ov) (ho : ov[1]? = some (.int .i64 mi)) (w1 : 1 ≤ w) (w8 : w ≤ 8) {P : Heap → Prop}
    (k : ∀ h1 h' x', h.le h1 → Tri h0 h' s Sr (updF Rs m (rowG Sr (m : Int) w)) N w x' → x'.p = x.p → x'.f = x.f → x'.g = x.g → x'.s = x.s → P h') :
    withAddr (some ⟨x.s, 0, none⟩) fun (b o : Nat) => ∃ (a : Option Addr), ∃ (n : Nat), ∃ (m : Nat), Heap.cell h b o = some (slice a n m) ∧ ∃ (n_1 : Int), Heap.cell h ox 1 = some (int .i64 n_1) ∧ withAddr (some ⟨x.g.p, 0, none⟩) fun (b_1 o : Nat) =>
      ∃ (a_1 : Option Addr), ∃ (n_2 : Nat), ∃ (m : Nat), Heap.cell h b_1 o = some (slice a_1 n_2 m) ∧ ∃ (n_3 : Int), Heap.cell h ox 1 = some (int .i64 n_3) ∧ 0 ≤ n_3 ∧ n_3 < (n_2 : Int) ∧ withAddr a_1 fun (b_2 o : Nat) =>
        ∃ (a_2 : Option Addr), ∃ (n_4 : Nat), ∃ (m : Nat), Heap.cell h b_2 (o + Int.toNat n_3) = some (slice a_2 n_4 m) ∧ newB h [] 2 fun (r_1 : Nat) (h : Heap) => AppA [int .i64 0] 2 h (some { block := r_1, off := 0 }) 0 0 n_4 a_2 fun (ap : Option Addr) (cp : Nat) (h_1 : Heap) =>
          (Heap.le h h_1 ∨ Keeps [b, ox] h h_1) ∧ 0 ≤ n_1 ∧ n_1 < (n : Int) ∧ withAddr a fun (b o : Nat) => Heap.canSt h_1 b (o + Int.toNat n_1) 1 ∧ P (Heap.setN h_1 b (o + Int.toNat n_1) [slice ap (0 + n_4) cp]) := by
  subst hmi
  have hmS : m < Sr.M.length := by rw [Q.eN]; exact hm
  obtain ⟨Bx, ex, gx⟩ := Q.X.rw.cl (i := m) (by rw [cutM_len]; exact hmS)
  have rowx := Q.X.rw.row m (by rw [cutM_len]; exact hmS)
  rw [cut_row Q.X.sz hmS, Q.ec] at rowx
  rw [Q.ec] at gx
  have hl := rowG_len Sr (m : Int) w
  refine withAddr_intro rfl ⟨_, _, _, Q.sa.cell rfl, _, Ao.cell ho, withAddr_intro rfl ⟨_, _, _, Q.X.rows, _, Ao.cell ho, by omega, by omega, withAddr_intro ex ⟨_, _, _, gx, fun r hr => ?_⟩⟩⟩
  have I : Ints .i64 h (some ⟨x.g.f.R m, 0, none⟩) (rowG Sr (m : Int) w) := rowx.toRd
  refine (own_new (T := 2) (z := [int .i64 0]) hr).push (by decide) (le_ins hr) (by omega) (by rw [intsV_length, hl]; simp) (I.le (le_ins hr)) (allCells_ints _ _) (by simp) ?_
  intro p' c' h' l' own keep how
  rw [Nat.zero_add] at *
  rw [List.nil_append] at own
  obtain ⟨t, sp, rfl, z0, A⟩ := own_blk own (fun e => by have := congrArg List.length e; rw [intsV_length, hl, List.length_nil] at this; omega)
  have Q1 := Q.le l'
  have l2 : (h.ins r (.cells [].toArray 2 (0, 0))).le h' ∨ Keeps [x.s, ox] (h.ins r (.cells [].toArray 2 (0, 0))) h' := by
    refine .inr fun b hb y hy => ?_
    have hne : b ≠ r := fun e => by
      rcases List.mem_cons.1 hb with rfl | hb
      · exact Q.sa.ne hr e
      · rw [List.mem_singleton] at hb; subst hb; exact Ao.ne hr e
    unfold Heap.ins at hy
    rw [if_neg hne] at hy
    exact l' _ _ hy
  obtain ⟨B, x', ea, cs, Q2, e1, e2, e3, e4⟩ := Q1.row (c := c') hm (none_of_le Q.W.base z0) (Q.out z0) A hl
  refine ⟨l2, by omega, by omega, withAddr_intro ea ?_⟩
  rw [Int.toNat_natCast]
  exact ⟨cs, k h _ x' h.le_refl Q2 e1 e2 e3 e4⟩
end
end Go.Proofs.Ytghdadniddoboaa
