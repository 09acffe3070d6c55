/- A batch: whether it is even, and what it leaves. -/
import Derived.Test.YtkcogdmddhkldaaLedSpec
namespace Go.Proofs.Ytkcogdmddhkldaa
open Go Go.Sy Go.Value
set_option linter.unusedVariables false
set_option linter.unusedSimpArgs false
theorem ofCur_snoc (l : List Pst) (x : Pst) (c : Int) : ofCur (l ++ [x]) c = if x.c = c then ofCur l c ++ [x.a] else ofCur l c := by
  unfold ofCur
  rw [List.filter_append, List.map_append, List.filter_cons]
  by_cases h : x.c = c
  · rw [if_pos h, decide_eq_true h, if_pos rfl]; rfl
  · rw [if_neg h, decide_eq_false h, if_neg (by decide)]; simp
theorem ofCur_len (l : List Pst) (c : Int) : (ofCur l c).length ≤ l.length := by unfold ofCur; rw [List.length_map]; exact List.length_filter_le _ _
section
variable {h0 : Heap} {K : Value → Heap → Prop} {q : Option Addr} {b : List Pst} {n qc w : Nat}
theorem even_1 (X : Pos h0 q b) (hn : b.length = n) (hs : n ≤ 1000) (hI : ∀ x ∈ b, I64 x.m ∧ I64 x.c ∧ I64 x.a) {c : Nat}
    (k0 : ∀ h', h0.le h' → sumL (ofCur b (c : Int)) ≠ 0 → K (.bool false) h') (k1 : ∀ h', h0.le h' → sumL (ofCur b (c : Int)) = 0 → L_pledger_Ledger_even_0 q n qc (w : Int) (IntKind.wrap .i64 ((c : Int) + 1)) h' K) :
    ∀ (m j : Nat) (h : Heap) (of : Option Addr) (oc : Nat) (ws : List Int), m + j = n → h0.le h → OwnL h0 h [.int .i64 0] of oc (intsV .i64 ws) → ws = ofCur (b.take j) (c : Int) →
    L_pledger_Ledger_even_1 q n qc (c : Int) of ws.length oc (w : Int) (c : Int) q n qc (n : Int) (j : Int) h K := by
  intro m
  induction m with
  | zero =>
    intro j h of oc ws hj l0 own e
    refine L_pledger_Ledger_even_1r _ _ _ _ _ _ _ _ _ _ _ _ _ _ _ _ ?_
    unfold L_pledger_Ledger_even_1T
    rw [List.take_of_length_le (by omega)] at e
    subst e
    have hI2 : allI64 (ofCur b (c : Int)) := fun v hv => by
      unfold ofCur at hv
      obtain ⟨x, hx, rfl⟩ := List.mem_map.1 hv
      exact (hI x (List.mem_filter.1 hx).1).2.2
    refine Br.no (by simp; omega) (S_Sum (by have := ofCur_len b (c : Int); omega) hI2 h own.rd _ ⟨_, _, rfl, ?_⟩)
    by_cases hz : sumL (ofCur b (c : Int)) = 0
    · rw [hz, fit_ok I64_0]
      exact Br.no rfl (Br.no rfl (k1 h l0 hz))
    · by_cases hb : I64 (sumL (ofCur b (c : Int)))
      · rw [fit_ok hb]
        exact Br.yes (by simpa using hz) (Ret.mk (k0 h l0 hz))
      · rw [fit_over hb]
        exact Br.no rfl (Br.yes rfl (Ret.mk (k0 h l0 hz)))
  | succ m ih =>
    intro j h of oc ws hj l0 own e
    refine L_pledger_Ledger_even_1r _ _ _ _ _ _ _ _ _ _ _ _ _ _ _ _ ?_
    unfold L_pledger_Ledger_even_1T
    have hx : b[j]? = some b[j] := List.getElem?_eq_getElem (by omega)
    have htk : b.take (j + 1) = b.take j ++ [b[j]] := by rw [List.take_add_one, hx]; rfl
    have hwl : ws.length ≤ j := by rw [e]; have := ofCur_len (b.take j) (c : Int); rw [List.length_take] at this; omega
    generalize b[j] = x at *
    refine Br.yes (by simp; omega) (px (rdL_le l0 X) hn rfl hx fun r hr => ?_)
    have A0 := At.new h r [.int .i64 0, .int .i64 0, .int .i64 0] 102
    have l1 : h.le (h.ins r (.cells [.int .i64 0, .int .i64 0, .int .i64 0].toArray 102 (0, 0))) := le_ins hr
    have A1 : At ((h.ins r (.cells [.int .i64 0, .int .i64 0, .int .i64 0].toArray 102 (0, 0))).setN r 0 [.int .i64 x.m, .int .i64 x.c, .int .i64 x.a]) r [.int .i64 x.m, .int .i64 x.c, .int .i64 x.a] := A0.set
    have l2 : h.le ((h.ins r (.cells [.int .i64 0, .int .i64 0, .int .i64 0].toArray 102 (0, 0))).setN r 0 [.int .i64 x.m, .int .i64 x.c, .int .i64 x.a]) := le_setN l1 hr
    refine ⟨A0.canSt (by simp), ?_⟩
    generalize (h.ins r (.cells [.int .i64 0, .int .i64 0, .int .i64 0].toArray 102 (0, 0))).setN r 0 [.int .i64 x.m, .int .i64 x.c, .int .i64 x.a] = h2 at *
    have l02 := Heap.le_trans l0 l2
    have w1 : IntKind.wrap .i64 ((j : Int) + 1) = ((j + 1 : Nat) : Int) := by rw [wrap_i64_id (by omega) (by omega)]; omega
    refine ⟨_, A1.cell rfl, Br.intro (fun g => ?_) (fun g => ?_)⟩
    · have g : x.c = (c : Int) := by simpa using g
      refine ⟨_, A1.cell rfl, fun s hs => ?_⟩
      have l3 : h2.le (h2.ins s (.cells [.int .i64 x.a].toArray 2 (0, 0))) := le_ins hs
      have e2 : ws ++ [x.a] = ofCur (b.take (j + 1)) (c : Int) := by rw [htk, ofCur_snoc, if_pos g, e]
      refine ((own.le l2).le l3).push (by decide) (Heap.le_trans l02 l3) (by omega) (n := 1) (ws := intsV .i64 [x.a]) rfl (rdL_new _ _ _ _ _) (allCells_ints _ _) (by rw [intsV_length]; simp) ?_
      intro p' c' h' l' w' keep _
      rw [w1]
      rw [← intsV_append] at w'
      have := ih (j + 1) h' p' c' (ws ++ [x.a]) (by omega) l' w' e2
      rw [List.length_append] at this
      exact this
    · have g : x.c ≠ (c : Int) := by simpa using g
      rw [w1]
      exact ih (j + 1) h2 of oc ws (by omega) l02 (own.le l2) (by rw [htk, ofCur_snoc, if_neg g, e])
theorem even_0 (X : Pos h0 q b) (hn : b.length = n) (hs : n ≤ 1000) (hI : ∀ x ∈ b, I64 x.m ∧ I64 x.c ∧ I64 x.a) (hw : w ≤ 8)
    (k0 : ∀ h', h0.le h' → (∃ c, c < w ∧ sumL (ofCur b (c : Int)) ≠ 0) → K (.bool false) h') (k1 : ∀ h', h0.le h' → (∀ c : Nat, c < w → sumL (ofCur b (c : Int)) = 0) → K (.bool true) h') :
    ∀ (m c : Nat) (h : Heap), m + c = w → h0.le h → (∀ d : Nat, d < c → sumL (ofCur b (d : Int)) = 0) → L_pledger_Ledger_even_0 q n qc (w : Int) (c : Int) h K := by
  intro m
  induction m with
  | zero =>
    intro c h hc l0 z
    refine L_pledger_Ledger_even_0r _ _ _ _ _ _ _ ?_
    unfold L_pledger_Ledger_even_0T
    exact Br.no (by simp; omega) (Ret.mk (k1 h l0 fun d hd => z d (by omega)))
  | succ m ih =>
    intro c h hc l0 z
    refine L_pledger_Ledger_even_0r _ _ _ _ _ _ _ ?_
    unfold L_pledger_Ledger_even_0T
    refine Br.yes (by simp; omega) (even_1 X hn hs hI (fun h' l' hz => k0 h' l' ⟨c, by omega, hz⟩) (fun h' l' hz => ?_) n 0 h none 0 [] (by omega) l0 (OwnL.nil _ _ _) rfl)
    rw [wrap_i64_id (by omega) (by omega)]
    exact ih (c + 1) h' (by omega) l' fun d hd => by
      by_cases e : d = c
      · rw [e]; exact hz
      · exact z d (by omega)
end
section
variable {h0 h : Heap} {K : Value → Heap → Prop} {p B C : Nat} {sp : List Value} {S : Lg} {q : Option Addr} {b : List Pst} {n qc : Nat}
theorem S_leven (A : LedAt h p B C sp S) (X : Pos h q b) (hn : b.length = n) (hs : n ≤ 1000) (hI : ∀ x ∈ b, I64 x.m ∧ I64 x.c ∧ I64 x.a)
    (k : ∀ h', h.le h' → K (.bool (evenB S b)) h') : CallA Try.prog fn_pledger_Ledger_even [pointer (some ⟨p, 0, none⟩), slice q n qc] h K := by
  refine F_pledger_Ledger_even _ _ _ _ _ _ ?_
  unfold F_pledger_Ledger_evenT
  have kf : ∀ h', h.le h' → (∃ c, c < S.cur ∧ sumL (ofCur b (c : Int)) ≠ 0) → K (.bool false) h' := fun h' l' ⟨c, hc, hz⟩ => by
    have : evenB S b = false := by
      unfold evenB
      rw [List.all_eq_false]
      exact ⟨c, List.mem_range.2 hc, by simpa using hz⟩
    have kk := k h' l'
    rw [this] at kk
    exact kk
  have kt : ∀ h', h.le h' → (∀ c : Nat, c < S.cur → sumL (ofCur b (c : Int)) = 0) → K (.bool true) h' := fun h' l' hz => by
    have : evenB S b = true := by
      unfold evenB
      rw [List.all_eq_true]
      exact fun c hc => decide_eq_true (hz c (List.mem_range.1 hc))
    have kk := k h' l'
    rw [this] at kk
    exact kk
  exact withAddr_intro rfl ⟨_, A.cur, even_0 X hn hs hI A.sz.c8 kf kt S.cur 0 h (by omega) h.le_refl (fun d hd => by omega)⟩
end
section
variable {h0 : Heap} {K : Value → Heap → Prop} {p B C r rc : Nat} {sp : List Value} {S : Lg} {q : Option Addr} {b : List Pst} {n qc : Nat}
/-- all postings, one by one -/
theorem post_1 (np : h0 p = none) (nB : h0 B = none) (nr : h0 r = none) (hpr : p ≠ r) (hBr : B ≠ r) (X : Pos h0 q b) (hn : b.length = n) (hs : n ≤ 1000) (hI : ∀ x ∈ b, I64 x.m ∧ I64 x.c ∧ I64 x.a) (hh : ∀ x ∈ b, 0 ≤ x.m ∧ x.m < (S.M.length : Int) ∧ 0 ≤ x.c ∧ x.c < ((8 : Nat) : Int)) {res : Int × Mx}
    (k0 : ∀ h', h0.le h' → LedAt h' p B C sp S → res.1 ≠ 0 → K (.int .i64 res.1) h') (k1 : ∀ h' sp', h0.le h' → LedAt h' p r rc sp' ⟨res.2, S.N, S.cur⟩ → res.1 = 0 → K (.int .i64 0) h') :
    ∀ (m j : Nat) (h : Heap) (M : Mx) (sp2 : List Value), m + j = n → h0.le h → LedAt h p B C sp S → At h r (intsV .i64 M.flatten ++ sp2) → shM M S.M.length 8 → (∀ i c, I64 (rdM M i c)) → addsM (b.drop j) M = res →
    L_pledger_Ledger_Post_1 (some ⟨p, 0, none⟩) (some ⟨r, 0, none⟩) S.M.length rc q n qc (n : Int) (j : Int) h K := by
  intro m
  induction m with
  | zero =>
    intro j h M sp2 hj l0 A AR sM iM e
    refine L_pledger_Ledger_Post_1r _ _ _ _ _ _ _ _ _ _ _ ?_
    unfold L_pledger_Ledger_Post_1T
    rw [List.drop_eq_nil_of_le (by omega)] at e
    subst e
    refine Br.no (by simp; omega) (withAddr_intro rfl ⟨A.ap.canSt (by unfold ledV; simp), Ret.mk (k1 _ sp2 (le_setN l0 np) ⟨?_, ?_, hpr, ?_⟩ rfl)⟩)
    · have := A.ap.set (o := 0) (ws := [.slice (some ⟨r, 0, none⟩) S.M.length rc])
      unfold ledV at this ⊢
      show At _ p (.slice (some ⟨r, 0, none⟩) M.length rc :: _)
      rw [sM.1]
      exact this
    · exact AR.set_ne (fun e => hpr e.symm)
    · refine { A.sz with n1 := by show 1 ≤ M.length; rw [sM.1]; exact A.sz.n1, n16 := by show M.length ≤ 16; rw [sM.1]; exact A.sz.n16, sh := by show shM M M.length 8; rw [sM.1]; exact sM, i64 := iM }
  | succ m ih =>
    intro j h M sp2 hj l0 A AR sM iM e
    refine L_pledger_Ledger_Post_1r _ _ _ _ _ _ _ _ _ _ _ ?_
    unfold L_pledger_Ledger_Post_1T
    have hx : b[j]? = some b[j] := List.getElem?_eq_getElem (by omega)
    rw [List.drop_eq_getElem_cons (by omega : j < b.length)] at e
    have hmem : b[j] ∈ b := List.getElem_mem _
    generalize b[j] = x at *
    obtain ⟨x1, x2, x3, x4⟩ := hh x hmem
    obtain ⟨_, _, x6⟩ := hI x hmem
    obtain ⟨xm, xc, xa⟩ := x
    dsimp only at x1 x2 x3 x4 x6
    obtain ⟨i, rfl⟩ : ∃ i : Nat, xm = i := ⟨xm.toNat, by omega⟩
    obtain ⟨c, rfl⟩ : ∃ c : Nat, xc = c := ⟨xc.toNat, by omega⟩
    have hi : i < S.M.length := by omega
    have hc : c < 8 := by omega
    refine Br.yes (by simp; omega) (px (rdL_le l0 X) hn rfl hx fun s hsn => ?_)
    have A0 := At.new h s [.int .i64 0, .int .i64 0, .int .i64 0] 102
    have l1 : h.le (h.ins s (.cells [.int .i64 0, .int .i64 0, .int .i64 0].toArray 102 (0, 0))) := le_ins hsn
    have A1 : At ((h.ins s (.cells [.int .i64 0, .int .i64 0, .int .i64 0].toArray 102 (0, 0))).setN s 0 [.int .i64 (i : Int), .int .i64 (c : Int), .int .i64 xa]) s [.int .i64 (i : Int), .int .i64 (c : Int), .int .i64 xa] := A0.set
    have l2 : h.le ((h.ins s (.cells [.int .i64 0, .int .i64 0, .int .i64 0].toArray 102 (0, 0))).setN s 0 [.int .i64 (i : Int), .int .i64 (c : Int), .int .i64 xa]) := le_setN l1 hsn
    have hsr : s ≠ r := fun e => AR.ne hsn e.symm
    refine ⟨A0.canSt (by simp), ?_⟩
    generalize (h.ins s (.cells [.int .i64 0, .int .i64 0, .int .i64 0].toArray 102 (0, 0))).setN s 0 [.int .i64 (i : Int), .int .i64 (c : Int), .int .i64 xa] = h2 at *
    have l02 := Heap.le_trans l0 l2
    have AR2 := AR.le l2
    have A2 := A.le l2
    have hl := flat_len sM.2
    have hlt : i * 8 + c < M.length * 8 := by rw [sM.1]; omega
    have cl : h2.cell r (0 + i * 8 + c) = some (.int .i64 (rdM M i c)) := AR2.cell (by
      rw [Nat.zero_add, List.getElem?_append_left (by rw [intsV_length, hl]; exact hlt), intsV_map, List.getElem?_map, flat_get sM.2 (by rw [sM.1]; exact hi) hc]; rfl)
    rw [addsM] at e
    simp only [Int.toNat_natCast] at e
    refine ⟨_, A1.cell rfl, _, A1.cell rfl, by omega, by omega, withAddr_intro rfl (br8 hc ⟨_, cl, _, A1.cell rfl, S_Add (iM i c) x6 h2 _ ⟨_, _, rfl, ?_⟩⟩)⟩
    by_cases g : (fit (rdM M i c + xa)).2 ≠ 0
    · rw [if_pos g] at e
      subst e
      refine Br.yes (by simpa using g) (Ret.mk ?_)
      rw [fit_3 g]
      exact k0 h2 l02 A2 (show (3 : Int) ≠ 0 by decide)
    · rw [if_neg g] at e
      have st : h2.canSt r (0 + i * 8 + c) 1 := AR2.canSt (by rw [List.length_append, intsV_length, hl]; omega)
      refine Br.no (by simpa using g) ⟨_, A1.cell rfl, _, A1.cell rfl, by omega, by omega, withAddr_intro rfl (br8 hc ⟨st, ?_⟩)⟩
      have AR3 := AR2.set (o := 0 + i * 8 + c) (ws := [.int .i64 (fit (rdM M i c + xa)).1])
      rw [Nat.zero_add, setL_ints1 (by rw [hl]; exact hlt), ← flat_set sM.2 (by rw [sM.1]; exact hi) hc] at AR3
      have A3 : LedAt (h2.setN r (i * 8 + c) [.int .i64 (fit (rdM M i c + xa)).1]) p B C sp S := ⟨A2.ap.set_ne hpr, A2.ab.set_ne hBr, A2.ne, A2.sz⟩
      rw [← fit_e g] at e
      have w1 : IntKind.wrap .i64 ((j : Int) + 1) = ((j + 1 : Nat) : Int) := by rw [wrap_i64_id (by omega) (by omega)]; omega
      rw [w1]
      have := ih (j + 1) _ (wrM M i c (fit (rdM M i c + xa)).1) sp2 (by omega) (le_setN l02 nr) A3 AR3 (sM.wr hi) (fun i' c' => by
        rw [rd_wr sM hi hc]; split
        · exact fit_I _
        · exact iM i' c') e
      simp only [Int.toNat_natCast, Nat.zero_add]
      exact this
theorem S_lPost {h : Heap} (l0 : h0.le h) (np : h0 p = none) (nB : h0 B = none) (A : LedAt h p B C sp S) (X : Pos h0 q b) (hn : b.length = n) (hs : n ≤ 1000) (hI : ∀ x ∈ b, I64 x.m ∧ I64 x.c ∧ I64 x.a)
    (k : ∀ h' B' C' sp', h0.le h' → LedAt h' p B' C' sp' (postG S b).2 → h0 B' = none → K (.int .i64 (postG S b).1) h') : CallA Try.prog fn_pledger_Ledger_Post [pointer (some ⟨p, 0, none⟩), slice q n qc] h K := by
  refine F_pledger_Ledger_Post _ _ _ _ _ _ ?_
  unfold F_pledger_Ledger_PostT
  have main : ∀ (m j : Nat) (h1 : Heap), m + j = n → h.le h1 → (∀ x ∈ b.take j, hasB S x.m x.c = true) → L_pledger_Ledger_Post_0 (some ⟨p, 0, none⟩) q n qc q n qc (n : Int) (j : Int) h1 K := by
    intro m
    induction m with
    | zero =>
      intro j h1 hj l1 hh
      refine L_pledger_Ledger_Post_0r _ _ _ _ _ _ _ _ _ _ _ ?_
      unfold L_pledger_Ledger_Post_0T
      rw [List.take_of_length_le (by omega)] at hh
      have A1 := A.le l1
      have l01 := Heap.le_trans l0 l1
      have any0 : ¬ b.any (fun p => !hasB S p.m p.c) = true := by
        simp only [Bool.not_eq_true, List.any_eq_false]
        intro x hx
        rw [hh x hx]; decide
      unfold postG at k
      rw [if_neg any0] at k
      refine Br.no (by simp; omega) (S_leven A1 (rdL_le l01 X) hn hs hI fun h2 l2 => ⟨_, rfl, ?_⟩)
      by_cases he : evenB S b = false
      · rw [if_pos he] at k
        rw [he]
        exact Br.yes rfl (Ret.mk (k h2 B C sp (Heap.le_trans l01 l2) (A1.le l2) nB))
      rw [if_neg he] at k
      have he : evenB S b = true := by simpa using he
      rw [he]
      have A2 := A1.le l2
      have l02 := Heap.le_trans l01 l2
      refine Br.no rfl (withAddr_intro rfl ⟨_, _, _, A2.rows, ?_⟩)
      have hfl := flat_len A.sz.sh.2
      refine (OwnL.nil h0 h2 [.int .i64 0, .int .i64 0, .int .i64 0, .int .i64 0, .int .i64 0, .int .i64 0, .int .i64 0, .int .i64 0]).push (by decide) l02 (by have := A.sz.n16; omega) (ws := intsV .i64 S.M.flatten) (by rw [intsV_length, hfl]; rfl) A2.ab.toRd (allCells_ints _ _) rfl ?_
      intro p' c' h3 l3 own keep how
      rw [List.nil_append] at own
      rcases own with ⟨e1, e2, e3⟩ | ⟨r, sp2, rfl, e0, AR, hcap⟩
      · have := congrArg List.length e1
        rw [intsV_length, hfl] at this
        have := A.sz.n1
        rw [List.length_nil] at *
        omega
      · have hr : h2 r = none := by
          rcases how with e | ⟨r', e, hr'⟩
          · cases e
          · cases e; exact hr'
        have hpr : p ≠ r := A2.ap.ne hr
        have hBr : B ≠ r := A2.ab.ne hr
        have A3 : LedAt h3 p B C sp S := ⟨keep _ _ A2.ap (by intro e; cases e), keep _ _ A2.ab (by intro e; cases e), A2.ne, A2.sz⟩
        rw [Nat.zero_add]
        refine post_1 np nB e0 hpr hBr X hn hs hI (has_in A.sz.c8 hh) (res := addsM b S.M) (fun h' l' A' hne => ?_) (fun h' sp' l' A' hz => ?_) n 0 h3 S.M sp2 (by omega) l3 A3 AR A.sz.sh A.sz.i64 rfl
        · rw [if_pos hne] at k
          exact k h' B C sp l' A' nB
        · rw [if_neg (by simpa using hz)] at k
          exact k h' r c' sp' l' A' e0
    | succ m ih =>
      intro j h1 hj l1 hh
      refine L_pledger_Ledger_Post_0r _ _ _ _ _ _ _ _ _ _ _ ?_
      unfold L_pledger_Ledger_Post_0T
      have hx : b[j]? = some b[j] := List.getElem?_eq_getElem (by omega)
      have htk : b.take (j + 1) = b.take j ++ [b[j]] := by rw [List.take_add_one, hx]; rfl
      have hmem : b[j] ∈ b := List.getElem_mem _
      generalize b[j] = x at *
      refine Br.yes (by simp; omega) (px (rdL_le (Heap.le_trans l0 l1) X) hn rfl hx fun s hsn => ?_)
      have A0 := At.new h1 s [.int .i64 0, .int .i64 0, .int .i64 0] 102
      have l2 : h1.le (h1.ins s (.cells [.int .i64 0, .int .i64 0, .int .i64 0].toArray 102 (0, 0))) := le_ins hsn
      have A1 : At ((h1.ins s (.cells [.int .i64 0, .int .i64 0, .int .i64 0].toArray 102 (0, 0))).setN s 0 [.int .i64 x.m, .int .i64 x.c, .int .i64 x.a]) s [.int .i64 x.m, .int .i64 x.c, .int .i64 x.a] := A0.set
      have l3 : h1.le ((h1.ins s (.cells [.int .i64 0, .int .i64 0, .int .i64 0].toArray 102 (0, 0))).setN s 0 [.int .i64 x.m, .int .i64 x.c, .int .i64 x.a]) := le_setN l2 hsn
      refine ⟨A0.canSt (by simp), ?_⟩
      generalize (h1.ins s (.cells [.int .i64 0, .int .i64 0, .int .i64 0].toArray 102 (0, 0))).setN s 0 [.int .i64 x.m, .int .i64 x.c, .int .i64 x.a] = h2 at *
      have lh2 := Heap.le_trans l1 l3
      refine ⟨_, A1.cell rfl, _, A1.cell rfl, S_lhas (A.le lh2) ⟨_, rfl, ?_⟩⟩
      cases hb : hasB S x.m x.c with
      | false =>
        have any1 : b.any (fun p => !hasB S p.m p.c) = true := List.any_eq_true.2 ⟨x, hmem, by rw [hb]; rfl⟩
        unfold postG at k
        rw [if_pos any1] at k
        exact Br.yes rfl (Ret.mk (k h2 B C sp (Heap.le_trans l0 lh2) (A.le lh2) nB))
      | true =>
        have w1 : IntKind.wrap .i64 ((j : Int) + 1) = ((j + 1 : Nat) : Int) := by rw [wrap_i64_id (by omega) (by omega)]; omega
        rw [w1]
        refine Br.no rfl (ih (j + 1) h2 (by omega) lh2 fun y hy => ?_)
        rw [htk] at hy
        rcases List.mem_append.1 hy with hy | hy
        · exact hh y hy
        · rw [List.mem_singleton.1 hy]; exact hb
  exact main n 0 h (by omega) h.le_refl (fun x hx => by simp at hx)
end
end Go.Proofs.Ytkcogdmddhkldaa
