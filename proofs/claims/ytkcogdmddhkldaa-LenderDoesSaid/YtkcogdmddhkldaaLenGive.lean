/- What is given back. -/
import Derived.Test.YtkcogdmddhkldaaLenText
namespace Go.Proofs.Ytkcogdmddhkldaa
open Go Go.Sy Go.Value
set_option linter.unusedVariables false
set_option linter.unusedSimpArgs false

section
variable {h0 h : Heap} {K : Value → Heap → Prop} {f : Frm} {S : Ln}
theorem LenAt.mono {h' : Heap} (A : LenAt h f S) (k : ∀ b xs, At h b xs → At h' b xs) : LenAt h' f S := { A with ap := k _ _ A.ap, pr := A.pr.elim .inl fun ⟨B, e, a⟩ => .inr ⟨B, e, k _ _ a⟩, row := fun i hi => k _ _ (A.row i hi) }
theorem S_nunfit {c0 : Nat} (A : LenAt h f S) {x y : Int} (Ac : At h c0 [.pointer (some ⟨f.p, 0, none⟩)]) (k : ∀ h', h.le h' → K (.bool (!knownB S x || decide (y < 1))) h') :
    CallA Try.prog fn_plender_Lenders_Give_1 [agg #[.int .i64 x, .int .i64 y], pointer (some ⟨c0, 0, none⟩)] h K := by
  refine F_plender_Lenders_Give_1 _ _ _ _ _ ?_
  unfold F_plender_Lenders_Give_1T
  refine newB_at fun r h1 hr l1 Ar => ⟨_, (Ac.le l1).cell rfl, _, Ar.cell rfl, S_nknown (A.le l1) ⟨_, rfl, ?_⟩⟩
  have := k h1 l1
  cases hk : knownB S x with
  | false => rw [hk] at this; exact Br.yes rfl (Ret.mk this)
  | true => rw [hk] at this; exact Br.no rfl ⟨_, Ar.cell rfl, Ret.mk this⟩
theorem S_anyUnfit {c0 : Nat} (A : LenAt h f S) (Ac : At h c0 [.pointer (some ⟨f.p, 0, none⟩)]) {q : Option Addr} {l : List Prt} {n qc : Nat} (C : Pts h q l) (hn : l.length = n) (hs : n ≤ 1000)
    (k : ∀ h', h.le h' → K (.bool (l.any fun x => !knownB S x.p || decide (x.a < 1))) h') :
    CallA Try.prog fn_slices_ContainsFunc_lender_Part_lender_Part [slice q n qc, func (Fn.func fn_plender_Lenders_Give_1) #[] #[pointer (some ⟨c0, 0, none⟩)]] h K := by
  refine F_slices_ContainsFunc_lender_Part_lender_Part _ _ _ _ _ _ ?_
  unfold F_slices_ContainsFunc_lender_Part_lender_PartT
  refine F_slices_IndexFunc_lender_Part_lender_Part _ _ _ _ _ _ ?_
  unfold F_slices_IndexFunc_lender_Part_lender_PartT
  have main : ∀ (m j : Nat) (h1 : Heap), m + j = n → h.le h1 → l.any (fun x => !knownB S x.p || decide (x.a < 1)) = (l.drop j).any (fun x => !knownB S x.p || decide (x.a < 1)) →
      L_slices_IndexFunc_lender_Part_lender_Part_0 q n qc c0 (n : Int) (j : Int) h1 fun v h => ∃ (n : Int), v = int IntKind.i64 n ∧ Ret h K (Value.bool (decide (n ≥ 0))) := by
    intro m
    induction m with
    | zero =>
      intro j h1 hj l1 e
      refine L_slices_IndexFunc_lender_Part_lender_Part_0r _ _ _ _ _ _ _ _ ?_
      unfold L_slices_IndexFunc_lender_Part_lender_Part_0T
      rw [List.drop_eq_nil_of_le (by omega)] at e
      have := k h1 l1
      rw [e] at this
      exact Br.no (by simp; omega) (Ret.mk ⟨-1, rfl, Ret.mk this⟩)
    | succ m ih =>
      intro j h1 hj l1 e
      refine L_slices_IndexFunc_lender_Part_lender_Part_0r _ _ _ _ _ _ _ _ ?_
      unfold L_slices_IndexFunc_lender_Part_lender_Part_0T
      have hx : l[j]? = some l[j] := List.getElem?_eq_getElem (by omega)
      rw [List.drop_eq_getElem_cons (by omega : j < l.length), List.any_cons] at e
      generalize l[j] = x at *
      refine Br.yes (by simp; omega) (qx (rdL_le l1 C) hn rfl hx (S_nunfit (A.le l1) (Ac.le l1) fun h2 l2 => ⟨_, rfl, Br.intro (fun g => ?_) fun g => ?_⟩))
      · rw [g, Bool.true_or] at e
        have := k h2 (Heap.le_trans l1 l2)
        rw [e] at this
        exact Ret.mk ⟨_, rfl, Ret.mk (by rw [decide_eq_true (by omega)]; exact this)⟩
      · rw [g, Bool.false_or] at e
        rw [w1 (by omega)]
        exact ih (j + 1) h2 (by omega) (Heap.le_trans l1 l2) e
  exact main n 0 h (by omega) h.le_refl rfl
theorem addsM_cons (x : Prt) (l : List Prt) (c : Nat) (M : Mx) : addsM (toP (c : Int) (x :: l)) M = if (fit (rdM M x.p.toNat c + x.a)).2 ≠ 0 then (3, M) else addsM (toP (c : Int) l) (wrM M x.p.toNat c (rdM M x.p.toNat c + x.a)) := by
  show addsM (⟨x.p, (c : Int), x.a⟩ :: toP c l) M = _
  rw [addsM]
  simp only [Int.toNat_natCast]
section
variable (fr : Fresh h0 f S.L.length) {c n : Nat} (hc : c < S.cur) {q : Option Addr} {l : List Prt} {qc x mr : Nat} (C : Pts h0 q l) (hn : l.length = n) (hs : n ≤ 1000)
  (hk : ∀ x ∈ l, 0 ≤ x.p ∧ x.p < (S.L.length : Int) ∧ 1 ≤ x.a) (hxr : ∀ i, i < S.L.length → x ≠ f.R i)
include fr hc C hn hs hk hxr
theorem give_1 {Mf : Mx} {fm : Int → Option Int} (hf1 : ∀ x ∈ l, fm x.p = some (rdM Mf x.p.toNat c)) (hfI : ∀ i, I64 (rdM Mf i c) ∧ 0 ≤ rdM Mf i c)
    (k : ∀ h' M', h0.le h' → shM M' S.L.length S.cur → LenAt h' f ⟨M', S.F, S.cur⟩ → (∀ i d, rdM M' i d = if d = c ∧ ∃ x ∈ l, x.p = (i : Int) then rdM Mf i d else rdM S.L i d) → K (.int .i64 0) h') :
    ∀ (m j : Nat) (h : Heap) (M' : Mx), m + j = n → h0.le h → shM M' S.L.length S.cur → LenAt h f ⟨M', S.F, S.cur⟩ → At h x [.pointer (some ⟨f.p, 0, none⟩)] → MapF h mr .i64 .i64 fm →
    (∀ i d, rdM M' i d = if d = c ∧ ∃ x ∈ l.take j, x.p = (i : Int) then rdM Mf i d else rdM S.L i d) → L_plender_Lenders_Give_1 (c : Int) x (some mr) q n qc (n : Int) (j : Int) h K
  | 0, j, h, M', hj, l0, sM, A, Ax, M, e => by
    refine L_plender_Lenders_Give_1r _ _ _ _ _ _ _ _ _ _ ?_
    unfold L_plender_Lenders_Give_1T
    rw [List.take_of_length_le (by omega)] at e
    exact Br.no (by simp; omega) (Ret.mk (k h M' l0 sM A e))
  | m + 1, j, h, M', hj, l0, sM, A, Ax, M, e => by
    refine L_plender_Lenders_Give_1r _ _ _ _ _ _ _ _ _ _ ?_
    unfold L_plender_Lenders_Give_1T
    have hx : l[j]? = some l[j] := List.getElem?_eq_getElem (by omega)
    have hmem : l[j] ∈ l := List.getElem_mem _
    have htk : l.take (j + 1) = l.take j ++ [l[j]] := by rw [List.take_add_one, hx]; rfl
    generalize l[j] = y at *
    obtain ⟨y1, y2, y3⟩ := hk y hmem
    have hfy := hf1 y hmem
    obtain ⟨yp, ya⟩ := y
    dsimp only at y1 y2 y3 hfy
    obtain ⟨i, rfl⟩ : ∃ i : Nat, yp = i := ⟨yp.toNat, by omega⟩
    rw [Int.toNat_natCast] at hfy
    have hi : i < M'.length := by rw [sM.1]; omega
    refine Br.yes (by simp; omega) (qx (rdL_le l0 C) hn rfl hx (newB_cp (vs := [.int .i64 (i : Int), .int .i64 ya]) rfl fun r h1 hr l1 Ar st => ⟨st, ?_⟩))
    generalize h1.setN r 0 _ = h2 at *
    have A2 := A.le l1
    have M2 := M.le l1
    obtain ⟨B, eB, _⟩ := A2.prov (i := i) hi
    have hil : (i : Int) < (M'.length : Int) := by omega
    refine ⟨_, (Ax.le l1).cell rfl, withAddr_intro rfl ⟨_, _, _, A2.provs, _, Ar.cell rfl, by omega, hil, withAddr_intro eB ⟨_, _, _, A2.line hi eB, _, Ar.cell rfl, mr, fm, rfl, M2, by omega, by (show (c : Int) < (S.cur : Int); omega), withAddr_intro rfl ⟨A2.stR hi hc, ?_⟩⟩⟩⟩
    try dsimp only
    simp only [Int.toNat_natCast]
    rw [hfy, Option.getD_some, w1 (by omega)]
    obtain ⟨v1, v2⟩ := hfI i
    have sM2 := sM.wr (c := c) (v := rdM Mf i c) (by omega : i < S.L.length)
    refine give_1 hf1 hfI k m (j + 1) _ (wrM M' i c (rdM Mf i c)) (by omega) (le_setN (Heap.le_trans l0 l1) (fr.r i (by rw [← sM.1]; exact hi))) sM2 (A2.wrR (S := ⟨M', S.F, S.cur⟩) hi hc v1 v2) ((Ax.le l1).set_ne (hxr i (by omega))) (M2.set (A2.row i hi)) fun i' d => ?_
    · rw [rd_wr sM (by omega) hc, e, htk]
      by_cases g : i' = i ∧ d = c
      · obtain ⟨rfl, rfl⟩ := g
        rw [if_pos ⟨rfl, rfl⟩, if_pos ⟨rfl, _, List.mem_append_right _ (List.mem_singleton_self _), rfl⟩]
      · rw [if_neg g]
        have e3 : (d = c ∧ ∃ x ∈ l.take j, x.p = (i' : Int)) ↔ (d = c ∧ ∃ x ∈ l.take j ++ [(⟨(i : Int), ya⟩ : Prt)], x.p = (i' : Int)) := by
          refine and_congr_right fun hd => ⟨fun ⟨z, hz, hp⟩ => ⟨z, List.mem_append_left _ hz, hp⟩, fun ⟨z, hz, hp⟩ => ?_⟩
          rcases List.mem_append.1 hz with hz | hz
          · exact ⟨z, hz, hp⟩
          · rw [List.mem_singleton] at hz
            subst hz
            dsimp only at hp
            exact (g ⟨by omega, hd⟩).elim
        by_cases g3 : d = c ∧ ∃ x ∈ l.take j, x.p = (i' : Int)
        · rw [if_pos g3, if_pos (e3.1 g3)]
        · rw [if_neg g3, if_neg (fun x => g3 (e3.2 x))]
end
section
variable {c n : Nat} (hc : c < S.cur) {q : Option Addr} {l : List Prt} {qc x mr : Nat} (C : Pts h0 q l) (hn : l.length = n) (hs : n ≤ 1000) (hI : ∀ x ∈ l, I64 x.p ∧ I64 x.a)
  (hk : ∀ x ∈ l, 0 ≤ x.p ∧ x.p < (S.L.length : Int) ∧ 1 ≤ x.a) (nm : h0 mr = none)
include hc C hn hs hI hk nm
theorem give_0 {res : Int × Mx} (k0 : ∀ h', h0.le h' → LenAt h' f S → res.1 ≠ 0 → K (.int .i64 res.1) h')
    (k1 : ∀ h' M' fm, h0.le h' → LenAt h' f S → At h' x [.pointer (some ⟨f.p, 0, none⟩)] → MapF h' mr .i64 .i64 fm → (∀ y ∈ l, fm y.p = some (rdM res.2 y.p.toNat c)) → res = (0, M') → (∀ (i d : Nat), ¬ (d = c ∧ ∃ y ∈ l, y.p = (i : Int)) → rdM res.2 i d = rdM S.L i d) → L_plender_Lenders_Give_1 (c : Int) x (some mr) q n qc (n : Int) 0 h' K) :
    ∀ (m j : Nat) (h : Heap) (M' : Mx) (fm : Int → Option Int), m + j = n → h0.le h → shM M' S.L.length S.cur → (∀ i d, I64 (rdM M' i d)) → LenAt h f S → At h x [.pointer (some ⟨f.p, 0, none⟩)] → MapF h mr .i64 .i64 fm →
    (∀ i : Nat, i < S.L.length → fm (i : Int) = if (∃ y ∈ l.take j, y.p = (i : Int)) then some (rdM M' i c) else none) → (∀ (i d : Nat), ¬ (d = c ∧ ∃ y ∈ l.take j, y.p = (i : Int)) → rdM M' i d = rdM S.L i d) → addsM (toP (c : Int) (l.drop j)) M' = res →
    L_plender_Lenders_Give_0 (c : Int) q n qc x (some mr) q n qc (n : Int) (j : Int) h K
  | 0, j, h, M', fm, hj, l0, sM, iM, A, Ax, M, hf, ho, e => by
    refine L_plender_Lenders_Give_0r _ _ _ _ _ _ _ _ _ _ _ _ _ ?_
    unfold L_plender_Lenders_Give_0T
    rw [List.take_of_length_le (by omega)] at hf ho
    rw [List.drop_eq_nil_of_le (by omega)] at e
    have e : (0, M') = res := e
    subst e
    refine Br.no (by simp; omega) (k1 h M' fm l0 A Ax M (fun y hy => ?_) rfl ho)
    obtain ⟨y1, y2, y3⟩ := hk y hy
    obtain ⟨i, hi⟩ : ∃ i : Nat, y.p = i := ⟨y.p.toNat, by omega⟩
    rw [hi, hf i (by omega), if_pos ⟨y, hy, hi⟩, Int.toNat_natCast]
  | m + 1, j, h, M', fm, hj, l0, sM, iM, A, Ax, M, hf, ho, e => by
    refine L_plender_Lenders_Give_0r _ _ _ _ _ _ _ _ _ _ _ _ _ ?_
    unfold L_plender_Lenders_Give_0T
    have hx : l[j]? = some l[j] := List.getElem?_eq_getElem (by omega)
    have hmem : l[j] ∈ l := List.getElem_mem _
    have htk : l.take (j + 1) = l.take j ++ [l[j]] := by rw [List.take_add_one, hx]; rfl
    rw [List.drop_eq_getElem_cons (by omega : j < l.length)] at e
    generalize l[j] = y at *
    obtain ⟨y1, y2, y3⟩ := hk y hmem
    obtain ⟨z1, z2⟩ := hI y hmem
    obtain ⟨yp, ya⟩ := y
    dsimp only at y1 y2 y3 z1 z2
    obtain ⟨i, rfl⟩ : ∃ i : Nat, yp = i := ⟨yp.toNat, by omega⟩
    rw [addsM_cons] at e
    simp only [Int.toNat_natCast] at e
    have hi : i < S.L.length := by omega
    refine Br.yes (by simp; omega) (qx (rdL_le l0 C) hn rfl hx (newB_cp (vs := [.int .i64 (i : Int), .int .i64 ya]) rfl fun r h1 hr l1 Ar st => ⟨st, _, Ar.cell rfl, mr, fm, rfl, M.le l1, ?_⟩))
    generalize h1.setN r 0 _ = h2 at *
    have A2 := A.le l1
    have M2 := M.le l1
    have Ax2 := Ax.le l1
    have hmn : mr ≠ x := fun e => (M2.ne Ax2) e.symm
    obtain ⟨B, eB, _⟩ := A2.prov (i := i) hi
    have hfi := hf i hi
    have go : ∀ was : Int, was = rdM M' i c → ∃ (n_4 : Int), h2.cell r 1 = some (.int .i64 n_4) ∧ CallA Try.prog fn_money_Add [.int .i64 was, .int .i64 n_4] h2 fun (v : Value) (h : Heap) => ∃ (n_7 : Int), ∃ (n_5 : Int), v = tuple #[.int .i64 n_7, .int .i64 n_5] ∧
        Br (n_5 != 0) (Ret h K (.int .i64 n_5)) (∃ (n_6 : Int), h.cell r 0 = some (.int .i64 n_6) ∧ MPutA h (some mr) .i64 .i64 n_6 n_7 fun (h : Heap) => L_plender_Lenders_Give_0 (c : Int) q n qc x (some mr) q n qc (n : Int) (IntKind.wrap .i64 ((j : Int) + 1)) h K) := fun was ew => by
      subst ew
      refine ⟨_, Ar.cell rfl, S_Add (iM i c) z2 h2 _ ⟨_, _, rfl, ?_⟩⟩
      by_cases g : (fit (rdM M' i c + ya)).2 ≠ 0
      · rw [if_pos g] at e
        subst e
        refine Br.yes (by simpa using g) (Ret.mk ?_)
        rw [fit_3 g]
        exact k0 h2 (Heap.le_trans l0 l1) A2 (show (3 : Int) ≠ 0 by decide)
      · rw [if_neg g] at e
        rw [fit_e g]
        refine Br.no (by simpa using g) ⟨_, Ar.cell rfl, mr, fm, rfl, M2, fun o ho2 hcell => ?_⟩
        rw [w1 (by omega)]
        have hat : ∀ b xs, At h2 b xs → At (h2.ins mr o) b xs := fun b xs a => a.insM (M2.ne a)
        have Mo : MapF (h2.ins mr o) mr .i64 .i64 (fun x => if x = (i : Int) then some (rdM M' i c + ya) else fm x) := ho2 _ (by unfold Heap.ins; rw [if_pos rfl])
        refine give_0 k0 k1 m (j + 1) _ (wrM M' i c (rdM M' i c + ya)) _ (by omega) (le_insM (Heap.le_trans l0 l1) nm) (sM.wr hi) (fun i' d => ?_) (A2.mono hat) (hat _ _ Ax2) Mo (fun i' hi' => ?_) (fun i' d hd => ?_) e
        · rw [rd_wr sM hi hc]; split
          · exact fit_in g
          · exact iM i' d
        · try dsimp only
          rw [rd_wr sM hi hc, htk]
          by_cases g2 : i' = i
          · subst g2
            rw [if_pos rfl, if_pos ⟨_, List.mem_append_right _ (List.mem_singleton_self _), rfl⟩, if_pos ⟨rfl, rfl⟩]
          · rw [if_neg (by omega), if_neg (show ¬ (i' = i ∧ c = c) from fun x => g2 x.1), hf i' hi']
            have e3 : (∃ y ∈ l.take j, y.p = (i' : Int)) ↔ (∃ y ∈ l.take j ++ [(⟨(i : Int), ya⟩ : Prt)], y.p = (i' : Int)) := by
              refine ⟨fun ⟨z, hz, hp⟩ => ⟨z, List.mem_append_left _ hz, hp⟩, fun ⟨z, hz, hp⟩ => ?_⟩
              rcases List.mem_append.1 hz with hz | hz
              · exact ⟨z, hz, hp⟩
              · rw [List.mem_singleton] at hz
                subst hz
                dsimp only at hp
                exact (g2 (by omega)).elim
            by_cases g3 : ∃ y ∈ l.take j, y.p = (i' : Int)
            · rw [if_pos g3, if_pos (e3.1 g3)]
            · rw [if_neg g3, if_neg (fun x => g3 (e3.2 x))]
        · rw [htk] at hd
          rw [rd_wr sM hi hc, if_neg (fun x => hd ⟨x.2, _, List.mem_append_right _ (List.mem_singleton_self _), by dsimp only; rw [x.1]⟩)]
          exact ho i' d fun ⟨a, z, hz, hp⟩ => hd ⟨a, z, List.mem_append_left _ hz, hp⟩
    by_cases g1 : ∃ y ∈ l.take j, y.p = (i : Int)
    · rw [if_pos g1] at hfi
      rw [hfi]
      exact Br.no rfl (go _ rfl)
    · rw [if_neg g1] at hfi
      rw [hfi]
      have : rdM S.L i c = rdM M' i c := (ho i c fun x => g1 x.2).symm
      refine Br.yes rfl ⟨_, Ax2.cell rfl, withAddr_intro rfl ⟨_, _, _, A2.provs, _, Ar.cell rfl, by omega, by omega, withAddr_intro eB ⟨_, _, _, A2.line hi eB, by omega, by omega, withAddr_intro rfl ⟨_, A2.amt hi hc, ?_⟩⟩⟩⟩
      exact go _ this
end
theorem S_nGive {h : Heap} (l0 : h0.le h) (fr : Fresh h0 f S.L.length) (A : LenAt h f S) {c : Int} {q : Option Addr} {l : List Prt} {n qc : Nat} (C : Pts h0 q l) (hn : l.length = n) (hs : n ≤ 1000) (hI : ∀ x ∈ l, I64 x.p ∧ I64 x.a)
    (k : ∀ h', h0.le h' → LenAt h' f (giveN S c l).2 → K (.int .i64 (giveN S c l).1) h') :
    CallA Try.prog fn_plender_Lenders_Give [pointer (some ⟨f.p, 0, none⟩), .int .i64 c, slice q n qc] h K := by
  refine F_plender_Lenders_Give _ _ _ _ _ _ _ ?_
  unfold F_plender_Lenders_GiveT
  unfold giveN at k
  refine newB_at fun x h1 hx l1 Ax => ⟨_, Ax.cell rfl, S_nhas (A.le l1) ⟨_, rfl, ?_⟩⟩
  have l01 := Heap.le_trans l0 l1
  have A1 := A.le l1
  by_cases g1 : hasC S c = false
  · rw [if_pos g1] at k
    rw [g1]
    exact Br.yes rfl (Ret.mk (k h1 l01 A1))
  rw [if_neg g1] at k
  have g1 : hasC S c = true := by simpa using g1
  rw [g1]
  obtain ⟨c, rfl, hc⟩ := hasC_t g1
  refine Br.no rfl (S_anyUnfit A1 Ax (rdL_le l01 C) hn hs fun h2 l2 => ⟨_, rfl, ?_⟩)
  have l02 := Heap.le_trans l01 l2
  have A2 := A1.le l2
  by_cases g2 : l.any (fun x => !knownB S x.p || decide (x.a < 1)) = true
  · rw [if_pos g2] at k
    rw [g2]
    exact Br.yes rfl (Ret.mk (k h2 l02 A2))
  rw [if_neg g2] at k
  have hk : ∀ x ∈ l, 0 ≤ x.p ∧ x.p < (S.L.length : Int) ∧ 1 ≤ x.a := fun x hx => by
    have g2 : l.any (fun x => !knownB S x.p || decide (x.a < 1)) = false := by simpa using g2
    rw [List.any_eq_false] at g2
    have := g2 x hx
    simp only [Bool.or_eq_true, Bool.not_eq_true', not_or, Bool.not_eq_false, decide_eq_true_eq] at this
    have hk := of_decide_eq_true this.1
    omega
  have g2 : l.any (fun x => !knownB S x.p || decide (x.a < 1)) = false := by simpa using g2
  rw [g2]
  refine Br.no rfl fun mr hmr => ?_
  have nx := none_of_le l0 hx
  have nm := none_of_le l02 hmr
  have hxr : ∀ i, i < S.L.length → x ≠ f.R i := fun i hi e => (A.row i hi).ne hx e.symm
  refine give_0 hc C hn hs hI hk nm (res := addsM (toP (c : Int) l) S.L) (fun h' l' A' hne => ?_) (fun h' M' fm l' A' Ax' Mf hf er ho => ?_) n 0 _ S.L (fun _ => none) (by omega) (le_ins2 l02 hmr) A.ok.sh A.ok.i64 (A2.le (le_ins hmr)) ((Ax.le l2).le (le_ins hmr)) (MapF.new _ _ _ _) (fun i hi => by rw [if_neg (fun ⟨y, hy, _⟩ => by cases hy)]) (fun i d _ => rfl) rfl
  · rw [if_pos hne] at k
    have e3 : (addsM (toP (c : Int) l) S.L).1 = 3 := by
      have : ∀ (l : List Pst) (M : Mx), (addsM l M).1 ≠ 0 → (addsM l M).1 = 3 := by
        intro l
        induction l with
        | nil => intro M h; exact (h rfl).elim
        | cons a l ih =>
          intro M h
          rw [addsM] at h ⊢
          split
          · rfl
          · rename_i g; rw [if_neg g] at h; exact ih _ h
      exact this _ _ hne
    rw [e3]
    exact k h' l' A'
  · rw [if_neg (by rw [er]; simp)] at k
    have hb : ∀ p ∈ toP (c : Int) l, 0 ≤ p.m ∧ p.m < (S.L.length : Int) ∧ 0 ≤ p.c ∧ p.c < (S.cur : Int) ∧ 0 ≤ p.a := fun p hp => by
      unfold toP at hp
      obtain ⟨x, hx, rfl⟩ := List.mem_map.1 hp
      have := hk x hx
      dsimp only; omega
    obtain ⟨s1, s2, _, _⟩ := addsM_ok (toP (c : Int) l) A.ok.sh A.ok.i64 (fun p hp => by have := hb p hp; omega) (by rw [er])
    have s3 := adds_pos (toP (c : Int) l) A.ok.sh A.ok.pos hb
    refine give_1 fr hc C hn hs hk hxr hf (fun i => ⟨s2 i c, s3 i c⟩) (fun h2 M2 l2 sM2 A2 e2 => ?_) n 0 h' S.L (by omega) l' A.ok.sh A' Ax' Mf (fun i d => by rw [if_neg (fun ⟨_, y, hy, _⟩ => by cases hy)])
    have : M2 = (addsM (toP (c : Int) l) S.L).2 := mx_ext sM2 s1 fun i d hi hd => by
      rw [e2]
      split
      · rfl
      · rename_i g; exact (ho i d g).symm
    rw [this] at A2
    exact k h2 l2 A2
end
end Go.Proofs.Ytkcogdmddhkldaa
