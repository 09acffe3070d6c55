import Derived.Test.YtgjeecaombnmiaaGreatM09
import Derived.Test.YtgjeecaombnmiaaGreatM06
import Derived.Test.YtgjeecaombnmiaaGreatM02
/- A batch: whether it is even, and what it leaves. -/
namespace Go.Proofs.YtgjeecaombnmiaaGreat
open Go Go.Sy Go.Value
set_option linter.unusedVariables false
set_option linter.unusedSimpArgs false
theorem qN7 (l : List Pst) (x : Pst) (c : Int) : qBU (l ++ [x]) c = if x.c = c then qBU l c ++ [x.a] else qBU l c := by
  unfold qBU
  rw [List.filter_append, List.map_append, List.filter_cons]
  by_cases h : x.c = c
  · rw [if_pos h, decide_eq_true h, if_pos rfl]; rfl
  · rw [if_neg h, decide_eq_false h, if_neg (by decide)]; simp
theorem qPY (l : List Pst) (c : Int) : (qBU l c).length ≤ l.length := by unfold qBU; rw [List.length_map]; exact List.length_filter_le _ _
section
variable {h0 : Heap} {K : Value → Heap → Prop} {q : Option Addr} {b : List Pst} {n qc w : Nat}
theorem qYI (X : Pos h0 q b) (hn : b.length = n) (hs : n ≤ 1000) (hI : ∀ x ∈ b, I64 x.m ∧ I64 x.c ∧ I64 x.a) {c : Nat}
    (k0 : ∀ h', h0.le h' → q5 (qBU b (c : Int)) ≠ 0 → K (.bool false) h') (k1 : ∀ h', h0.le h' → q5 (qBU b (c : Int)) = 0 → qBl q n qc (w : Int) (IntKind.wrap .i64 ((c : Int) + 1)) h' K) :
    ∀ (m j : Nat) (h : Heap) (of : Option Addr) (oc : Nat) (ws : List Int), m + j = n → h0.le h → OwnL h0 h [.int .i64 0] of oc (qK .i64 ws) → ws = qBU (b.take j) (c : Int) →
    qBi q n qc (c : Int) of ws.length oc (w : Int) (c : Int) q n qc (n : Int) (j : Int) h K := by
  intro m
  induction m with
  | zero =>
    intro j h of oc ws hj l0 own e
    refine qFq _ _ _ _ _ _ _ _ _ _ _ _ _ _ _ _ ?_
    unfold qD0
    rw [List.take_of_length_le (by omega)] at e
    subst e
    have hI2 : qLk (qBU b (c : Int)) := fun v hv => by
      unfold qBU at hv
      obtain ⟨x, hx, rfl⟩ := List.mem_map.1 hv
      exact (hI x (List.mem_filter.1 hx).1).2.2
    refine Br.no (by simp; omega) (qWM (by have := qPY b (c : Int); omega) hI2 h own.rd _ ⟨_, _, rfl, ?_⟩)
    by_cases hz : q5 (qBU b (c : Int)) = 0
    · rw [hz, qDb qGc]
      exact Br.no rfl (Br.no rfl (k1 h l0 hz))
    · by_cases hb : I64 (q5 (qBU b (c : Int)))
      · rw [qDb hb]
        exact Br.yes (by simpa using hz) (Ret.mk (k0 h l0 hz))
      · rw [qGk hb]
        exact Br.no rfl (Br.yes rfl (Ret.mk (k0 h l0 hz)))
  | succ m ih =>
    intro j h of oc ws hj l0 own e
    refine qFq _ _ _ _ _ _ _ _ _ _ _ _ _ _ _ _ ?_
    unfold qD0
    have hx : b[j]? = some b[j] := List.getElem?_eq_getElem (by omega)
    have htk : b.take (j + 1) = b.take j ++ [b[j]] := by rw [List.take_add_one, hx]; rfl
    have hwl : ws.length ≤ j := by rw [e]; have := qPY (b.take j) (c : Int); rw [List.length_take] at this; omega
    generalize b[j] = x at *
    refine Br.yes (by simp; omega) (px (qAV l0 X) hn rfl hx fun r hr => ?_)
    have A0 := At.new h r [.int .i64 0, .int .i64 0, .int .i64 0] 71
    have l1 : h.le (h.ins r (.cells [.int .i64 0, .int .i64 0, .int .i64 0].toArray 71 (0, 0))) := qb hr
    have A1 : At ((h.ins r (.cells [.int .i64 0, .int .i64 0, .int .i64 0].toArray 71 (0, 0))).setN r 0 [.int .i64 x.m, .int .i64 x.c, .int .i64 x.a]) r [.int .i64 x.m, .int .i64 x.c, .int .i64 x.a] := A0.set
    have l2 : h.le ((h.ins r (.cells [.int .i64 0, .int .i64 0, .int .i64 0].toArray 71 (0, 0))).setN r 0 [.int .i64 x.m, .int .i64 x.c, .int .i64 x.a]) := qS l1 hr
    refine ⟨A0.canSt (by simp), ?_⟩
    generalize (h.ins r (.cells [.int .i64 0, .int .i64 0, .int .i64 0].toArray 71 (0, 0))).setN r 0 [.int .i64 x.m, .int .i64 x.c, .int .i64 x.a] = h2 at *
    have l02 := Heap.le_trans l0 l2
    have w1 : IntKind.wrap .i64 ((j : Int) + 1) = ((j + 1 : Nat) : Int) := by rw [qO (by omega) (by omega)]; omega
    refine ⟨_, A1.cell rfl, Br.intro (fun g => ?_) (fun g => ?_)⟩
    · have g : x.c = (c : Int) := by simpa using g
      refine ⟨_, A1.cell rfl, fun s hs => ?_⟩
      have l3 : h2.le (h2.ins s (.cells [.int .i64 x.a].toArray 2 (0, 0))) := qb hs
      have e2 : ws ++ [x.a] = qBU (b.take (j + 1)) (c : Int) := by rw [htk, qN7, if_pos g, e]
      refine ((own.le l2).le l3).push (by decide) (Heap.le_trans l02 l3) (by omega) (n := 1) (ws := qK .i64 [x.a]) rfl (qI4 _ _ _ _ _) (qEG _ _) (by rw [qL]; simp) ?_
      intro p' c' h' l' w' keep _
      rw [w1]
      rw [← qAI] at w'
      have := ih (j + 1) h' p' c' (ws ++ [x.a]) (by omega) l' w' e2
      rw [List.length_append] at this
      exact this
    · have g : x.c ≠ (c : Int) := by simpa using g
      rw [w1]
      exact ih (j + 1) h2 of oc ws (by omega) l02 (own.le l2) (by rw [htk, qN7, if_neg g, e])
theorem qYN (X : Pos h0 q b) (hn : b.length = n) (hs : n ≤ 1000) (hI : ∀ x ∈ b, I64 x.m ∧ I64 x.c ∧ I64 x.a) (hw : w ≤ 8)
    (k0 : ∀ h', h0.le h' → (∃ c, c < w ∧ q5 (qBU b (c : Int)) ≠ 0) → K (.bool false) h') (k1 : ∀ h', h0.le h' → (∀ c : Nat, c < w → q5 (qBU b (c : Int)) = 0) → K (.bool true) h') :
    ∀ (m c : Nat) (h : Heap), m + c = w → h0.le h → (∀ d : Nat, d < c → q5 (qBU b (d : Int)) = 0) → qBl q n qc (w : Int) (c : Int) h K := by
  intro m
  induction m with
  | zero =>
    intro c h hc l0 z
    refine qFi _ _ _ _ _ _ _ ?_
    unfold qDu
    exact Br.no (by simp; omega) (Ret.mk (k1 h l0 fun d hd => z d (by omega)))
  | succ m ih =>
    intro c h hc l0 z
    refine qFi _ _ _ _ _ _ _ ?_
    unfold qDu
    refine Br.yes (by simp; omega) (qYI X hn hs hI (fun h' l' hz => k0 h' l' ⟨c, by omega, hz⟩) (fun h' l' hz => ?_) n 0 h none 0 [] (by omega) l0 (OwnL.nil _ _ _) rfl)
    rw [qO (by omega) (by omega)]
    exact ih (c + 1) h' (by omega) l' fun d hd => by
      by_cases e : d = c
      · rw [e]; exact hz
      · exact z d (by omega)
end
section
variable {h0 h : Heap} {K : Value → Heap → Prop} {p B C : Nat} {sp : List Value} {S : Lg} {q : Option Addr} {b : List Pst} {n qc : Nat}
theorem qWa (A : LedAt h p B C sp S) (X : Pos h q b) (hn : b.length = n) (hs : n ≤ 1000) (hI : ∀ x ∈ b, I64 x.m ∧ I64 x.c ∧ I64 x.a)
    (k : ∀ h', h.le h' → K (.bool (qGe S b)) h') : CallA Tryz.prog qEb [pointer (some ⟨p, 0, none⟩), slice q n qc] h K := by
  refine qKR _ _ _ _ _ _ ?_
  unfold qGT
  have kf : ∀ h', h.le h' → (∃ c, c < S.cur ∧ q5 (qBU b (c : Int)) ≠ 0) → K (.bool false) h' := fun h' l' ⟨c, hc, hz⟩ => by
    have : qGe S b = false := by
      unfold qGe
      rw [List.all_eq_false]
      exact ⟨c, List.mem_range.2 hc, by simpa using hz⟩
    have kk := k h' l'
    rw [this] at kk
    exact kk
  have kt : ∀ h', h.le h' → (∀ c : Nat, c < S.cur → q5 (qBU b (c : Int)) = 0) → K (.bool true) h' := fun h' l' hz => by
    have : qGe S b = true := by
      unfold qGe
      rw [List.all_eq_true]
      exact fun c hc => decide_eq_true (hz c (List.mem_range.1 hc))
    have kk := k h' l'
    rw [this] at kk
    exact kk
  exact qB rfl ⟨_, A.cur, qYN X hn hs hI A.sz.c8 kf kt S.cur 0 h (by omega) h.le_refl (fun d hd => by omega)⟩
end
section
variable {h0 : Heap} {K : Value → Heap → Prop} {p B C r rc : Nat} {sp : List Value} {S : Lg} {q : Option Addr} {b : List Pst} {n qc : Nat}
theorem qXe (np : h0 p = none) (nB : h0 B = none) (nr : h0 r = none) (hpr : p ≠ r) (hBr : B ≠ r) (X : Pos h0 q b) (hn : b.length = n) (hs : n ≤ 1000) (hI : ∀ x ∈ b, I64 x.m ∧ I64 x.c ∧ I64 x.a) (hh : ∀ x ∈ b, 0 ≤ x.m ∧ x.m < (S.M.length : Int) ∧ 0 ≤ x.c ∧ x.c < ((8 : Nat) : Int)) {res : Int × Mx}
    (k0 : ∀ h', h0.le h' → LedAt h' p B C sp S → res.1 ≠ 0 → K (.int .i64 res.1) h') (k1 : ∀ h' sp', h0.le h' → LedAt h' p r rc sp' ⟨res.2, S.N, S.cur⟩ → res.1 = 0 → K (.int .i64 0) h') :
    ∀ (m j : Nat) (h : Heap) (M : Mx) (sp2 : List Value), m + j = n → h0.le h → LedAt h p B C sp S → At h r (qK .i64 M.flatten ++ sp2) → shM M S.M.length 8 → (∀ i c, I64 (rdM M i c)) → qAK (b.drop j) M = res →
    qCx (some ⟨p, 0, none⟩) (some ⟨r, 0, none⟩) S.M.length rc q n qc (n : Int) (j : Int) h K := by
  intro m
  induction m with
  | zero =>
    intro j h M sp2 hj l0 A AR sM iM e
    refine qFh _ _ _ _ _ _ _ _ _ _ _ ?_
    unfold qDv
    rw [List.drop_eq_nil_of_le (by omega)] at e
    subst e
    refine Br.no (by simp; omega) (qB rfl ⟨A.ap.canSt (by unfold qIg; simp), Ret.mk (k1 _ sp2 (qS l0 np) ⟨?_, ?_, hpr, ?_⟩ rfl)⟩)
    · have := A.ap.set (o := 0) (ws := [.slice (some ⟨r, 0, none⟩) S.M.length rc])
      unfold qIg at this ⊢
      show At _ p (.slice (some ⟨r, 0, none⟩) M.length rc :: _)
      rw [sM.1]
      exact this
    · exact AR.set_ne (fun e => hpr e.symm)
    · refine { A.sz with n1 := by show 1 ≤ M.length; rw [sM.1]; exact A.sz.n1, n16 := by show M.length ≤ 16; rw [sM.1]; exact A.sz.n16, sh := by show shM M M.length 8; rw [sM.1]; exact sM, i64 := iM }
  | succ m ih =>
    intro j h M sp2 hj l0 A AR sM iM e
    refine qFh _ _ _ _ _ _ _ _ _ _ _ ?_
    unfold qDv
    have hx : b[j]? = some b[j] := List.getElem?_eq_getElem (by omega)
    rw [List.drop_eq_getElem_cons (by omega : j < b.length)] at e
    have hmem : b[j] ∈ b := List.getElem_mem _
    generalize b[j] = x at *
    obtain ⟨x1, x2, x3, x4⟩ := hh x hmem
    obtain ⟨_, _, x6⟩ := hI x hmem
    obtain ⟨xm, xc, xa⟩ := x
    dsimp only at x1 x2 x3 x4 x6
    obtain ⟨i, rfl⟩ : ∃ i : Nat, xm = i := ⟨xm.toNat, by omega⟩
    obtain ⟨c, rfl⟩ : ∃ c : Nat, xc = c := ⟨xc.toNat, by omega⟩
    have hi : i < S.M.length := by omega
    have hc : c < 8 := by omega
    refine Br.yes (by simp; omega) (px (qAV l0 X) hn rfl hx fun s hsn => ?_)
    have A0 := At.new h s [.int .i64 0, .int .i64 0, .int .i64 0] 71
    have l1 : h.le (h.ins s (.cells [.int .i64 0, .int .i64 0, .int .i64 0].toArray 71 (0, 0))) := qb hsn
    have A1 : At ((h.ins s (.cells [.int .i64 0, .int .i64 0, .int .i64 0].toArray 71 (0, 0))).setN s 0 [.int .i64 (i : Int), .int .i64 (c : Int), .int .i64 xa]) s [.int .i64 (i : Int), .int .i64 (c : Int), .int .i64 xa] := A0.set
    have l2 : h.le ((h.ins s (.cells [.int .i64 0, .int .i64 0, .int .i64 0].toArray 71 (0, 0))).setN s 0 [.int .i64 (i : Int), .int .i64 (c : Int), .int .i64 xa]) := qS l1 hsn
    have hsr : s ≠ r := fun e => AR.ne hsn e.symm
    refine ⟨A0.canSt (by simp), ?_⟩
    generalize (h.ins s (.cells [.int .i64 0, .int .i64 0, .int .i64 0].toArray 71 (0, 0))).setN s 0 [.int .i64 (i : Int), .int .i64 (c : Int), .int .i64 xa] = h2 at *
    have l02 := Heap.le_trans l0 l2
    have AR2 := AR.le l2
    have A2 := A.le l2
    have hl := qE3 sM.2
    have hlt : i * 8 + c < M.length * 8 := by rw [sM.1]; omega
    have cl : h2.cell r (0 + i * 8 + c) = some (.int .i64 (rdM M i c)) := AR2.cell (by
      rw [Nat.zero_add, List.getElem?_append_left (by rw [qL, hl]; exact hlt), qBt, List.getElem?_map, qK5 sM.2 (by rw [sM.1]; exact hi) hc]; rfl)
    rw [qAK] at e
    simp only [Int.toNat_natCast] at e
    refine ⟨_, A1.cell rfl, _, A1.cell rfl, by omega, by omega, qB rfl (br8 hc ⟨_, cl, _, A1.cell rfl, qMw (iM i c) x6 h2 _ ⟨_, _, rfl, ?_⟩⟩)⟩
    by_cases g : (fit (rdM M i c + xa)).2 ≠ 0
    · rw [if_pos g] at e
      subst e
      refine Br.yes (by simpa using g) (Ret.mk ?_)
      rw [qSh g]
      exact k0 h2 l02 A2 (show (3 : Int) ≠ 0 by decide)
    · rw [if_neg g] at e
      have st : h2.canSt r (0 + i * 8 + c) 1 := AR2.canSt (by rw [List.length_append, qL, hl]; omega)
      refine Br.no (by simpa using g) ⟨_, A1.cell rfl, _, A1.cell rfl, by omega, by omega, qB rfl (br8 hc ⟨st, ?_⟩)⟩
      have AR3 := AR2.set (o := 0 + i * 8 + c) (ws := [.int .i64 (fit (rdM M i c + xa)).1])
      rw [Nat.zero_add, qHM (by rw [hl]; exact hlt), ← qNi sM.2 (by rw [sM.1]; exact hi) hc] at AR3
      have A3 : LedAt (h2.setN r (i * 8 + c) [.int .i64 (fit (rdM M i c + xa)).1]) p B C sp S := ⟨A2.ap.set_ne hpr, A2.ab.set_ne hBr, A2.ne, A2.sz⟩
      rw [← qS3 g] at e
      have w1 : IntKind.wrap .i64 ((j : Int) + 1) = ((j + 1 : Nat) : Int) := by rw [qO (by omega) (by omega)]; omega
      rw [w1]
      have := ih (j + 1) _ (wrM M i c (fit (rdM M i c + xa)).1) sp2 (by omega) (qS l02 nr) A3 AR3 (sM.wr hi) (fun i' c' => by
        rw [qE2 sM hi hc]; split
        · exact qSP _
        · exact iM i' c') e
      simp only [Int.toNat_natCast, Nat.zero_add]
      exact this
theorem qSM {h : Heap} (l0 : h0.le h) (np : h0 p = none) (nB : h0 B = none) (A : LedAt h p B C sp S) (X : Pos h0 q b) (hn : b.length = n) (hs : n ≤ 1000) (hI : ∀ x ∈ b, I64 x.m ∧ I64 x.c ∧ I64 x.a)
    (k : ∀ h' B' C' sp', h0.le h' → LedAt h' p B' C' sp' (qAj S b).2 → h0 B' = none → K (.int .i64 (qAj S b).1) h') : CallA Tryz.prog qB0 [pointer (some ⟨p, 0, none⟩), slice q n qc] h K := by
  refine qKW _ _ _ _ _ _ ?_
  unfold qGM
  have main : ∀ (m j : Nat) (h1 : Heap), m + j = n → h.le h1 → (∀ x ∈ b.take j, qC5 S x.m x.c = true) → qCw (some ⟨p, 0, none⟩) q n qc q n qc (n : Int) (j : Int) h1 K := by
    intro m
    induction m with
    | zero =>
      intro j h1 hj l1 hh
      refine qFy _ _ _ _ _ _ _ _ _ _ _ ?_
      unfold qDr
      rw [List.take_of_length_le (by omega)] at hh
      have A1 := A.le l1
      have l01 := Heap.le_trans l0 l1
      have any0 : ¬ b.any (fun p => !qC5 S p.m p.c) = true := by
        simp only [Bool.not_eq_true, List.any_eq_false]
        intro x hx
        rw [hh x hx]; decide
      unfold qAj at k
      rw [if_neg any0] at k
      refine Br.no (by simp; omega) (qWa A1 (qAV l01 X) hn hs hI fun h2 l2 => ⟨_, rfl, ?_⟩)
      by_cases he : qGe S b = false
      · rw [if_pos he] at k
        rw [he]
        exact Br.yes rfl (Ret.mk (k h2 B C sp (Heap.le_trans l01 l2) (A1.le l2) nB))
      rw [if_neg he] at k
      have he : qGe S b = true := by simpa using he
      rw [he]
      have A2 := A1.le l2
      have l02 := Heap.le_trans l01 l2
      refine Br.no rfl (qB rfl ⟨_, _, _, A2.rows, ?_⟩)
      have hfl := qE3 A.sz.sh.2
      refine (OwnL.nil h0 h2 [.int .i64 0, .int .i64 0, .int .i64 0, .int .i64 0, .int .i64 0, .int .i64 0, .int .i64 0, .int .i64 0]).push (by decide) l02 (by have := A.sz.n16; omega) (ws := qK .i64 S.M.flatten) (by rw [qL, hfl]; rfl) A2.ab.toRd (qEG _ _) rfl ?_
      intro p' c' h3 l3 own keep how
      rw [List.nil_append] at own
      rcases own with ⟨e1, e2, e3⟩ | ⟨r, sp2, rfl, e0, AR, hcap⟩
      · have := congrArg List.length e1
        rw [qL, hfl] at this
        have := A.sz.n1
        rw [List.length_nil] at *
        omega
      · have hr : h2 r = none := by
          rcases how with e | ⟨r', e, hr'⟩
          · cases e
          · cases e; exact hr'
        have hpr : p ≠ r := A2.ap.ne hr
        have hBr : B ≠ r := A2.ab.ne hr
        have A3 : LedAt h3 p B C sp S := ⟨keep _ _ A2.ap (by intro e; cases e), keep _ _ A2.ab (by intro e; cases e), A2.ne, A2.sz⟩
        rw [Nat.zero_add]
        refine qXe np nB e0 hpr hBr X hn hs hI (qTv A.sz.c8 hh) (res := qAK b S.M) (fun h' l' A' hne => ?_) (fun h' sp' l' A' hz => ?_) n 0 h3 S.M sp2 (by omega) l3 A3 AR A.sz.sh A.sz.i64 rfl
        · rw [if_pos hne] at k
          exact k h' B C sp l' A' nB
        · rw [if_neg (by simpa using hz)] at k
          exact k h' r c' sp' l' A' e0
    | succ m ih =>
      intro j h1 hj l1 hh
      refine qFy _ _ _ _ _ _ _ _ _ _ _ ?_
      unfold qDr
      have hx : b[j]? = some b[j] := List.getElem?_eq_getElem (by omega)
      have htk : b.take (j + 1) = b.take j ++ [b[j]] := by rw [List.take_add_one, hx]; rfl
      have hmem : b[j] ∈ b := List.getElem_mem _
      generalize b[j] = x at *
      refine Br.yes (by simp; omega) (px (qAV (Heap.le_trans l0 l1) X) hn rfl hx fun s hsn => ?_)
      have A0 := At.new h1 s [.int .i64 0, .int .i64 0, .int .i64 0] 71
      have l2 : h1.le (h1.ins s (.cells [.int .i64 0, .int .i64 0, .int .i64 0].toArray 71 (0, 0))) := qb hsn
      have A1 : At ((h1.ins s (.cells [.int .i64 0, .int .i64 0, .int .i64 0].toArray 71 (0, 0))).setN s 0 [.int .i64 x.m, .int .i64 x.c, .int .i64 x.a]) s [.int .i64 x.m, .int .i64 x.c, .int .i64 x.a] := A0.set
      have l3 : h1.le ((h1.ins s (.cells [.int .i64 0, .int .i64 0, .int .i64 0].toArray 71 (0, 0))).setN s 0 [.int .i64 x.m, .int .i64 x.c, .int .i64 x.a]) := qS l2 hsn
      refine ⟨A0.canSt (by simp), ?_⟩
      generalize (h1.ins s (.cells [.int .i64 0, .int .i64 0, .int .i64 0].toArray 71 (0, 0))).setN s 0 [.int .i64 x.m, .int .i64 x.c, .int .i64 x.a] = h2 at *
      have lh2 := Heap.le_trans l1 l3
      refine ⟨_, A1.cell rfl, _, A1.cell rfl, qQZ (A.le lh2) ⟨_, rfl, ?_⟩⟩
      cases hb : qC5 S x.m x.c with
      | false =>
        have any1 : b.any (fun p => !qC5 S p.m p.c) = true := List.any_eq_true.2 ⟨x, hmem, by rw [hb]; rfl⟩
        unfold qAj at k
        rw [if_pos any1] at k
        exact Br.yes rfl (Ret.mk (k h2 B C sp (Heap.le_trans l0 lh2) (A.le lh2) nB))
      | true =>
        have w1 : IntKind.wrap .i64 ((j : Int) + 1) = ((j + 1 : Nat) : Int) := by rw [qO (by omega) (by omega)]; omega
        rw [w1]
        refine Br.no rfl (ih (j + 1) h2 (by omega) lh2 fun y hy => ?_)
        rw [htk] at hy
        rcases List.mem_append.1 hy with hy | hy
        · exact hh y hy
        · rw [List.mem_singleton.1 hy]; exact hb
  exact main n 0 h (by omega) h.le_refl (fun x hx => by simp at hx)
end
end Go.Proofs.YtgjeecaombnmiaaGreat

/- A strings.Builder: bytes are put behind it, one by one, and then it tells the text. -/
namespace Go.Proofs.YtgjeecaombnmiaaGreat
open Go Go.Sy Go.Value
set_option linter.unusedVariables false
set_option linter.unusedSimpArgs false

def qXr (h0 h : Heap) (q : Option Addr) (c : Nat) (bs : List Int) : Prop :=
  (bs = [] ∧ q = none ∧ c = 0) ∨ ∃ r sp, q = some ⟨r, 0, none⟩ ∧ h0 r = none ∧ h r = some (.cells (u8V bs ++ sp).toArray 5 (0, 0)) ∧ c = bs.length + sp.length
structure Bu (h0 h : Heap) (p : Nat) (bs : List Int) : Prop where
  new : h0 p = none
  ex : ∃ a q c, h p = some (.cells [.pointer a, .slice q bs.length c].toArray 96 (0, 0)) ∧ (a = none ∨ a = some ⟨p, 0, none⟩) ∧ qXr h0 h q c bs ∧ q ≠ some ⟨p, 0, none⟩
theorem Bu.start {h : Heap} {r : Nat} (hr : h r = none) : Bu h (h.ins r (.cells [.pointer none, .slice none 0 0].toArray 96 (0, 0))) r [] :=
  ⟨hr, none, none, 0, by unfold Heap.ins; rw [if_pos rfl]; rfl, .inl rfl, .inl ⟨rfl, rfl, rfl⟩, fun e => by cases e⟩
theorem Bu.le {h0 h h' : Heap} {p : Nat} {bs : List Int} (b : Bu h0 h p bs) (l : h.le h') : Bu h0 h' p bs := by
  obtain ⟨a, q, c, h1, h2, h3, h4⟩ := b.ex
  refine ⟨b.new, a, q, c, l _ _ h1, h2, ?_, h4⟩
  rcases h3 with h3 | ⟨r, sp, e1, e2, e3, e4⟩
  · exact .inl h3
  · exact .inr ⟨r, sp, e1, e2, l _ _ e3, e4⟩
theorem qW8 : liesAt Tryz.prog Tryz.prog.depth 96 ([Value.pointer none, .slice none 0 0].toArray.size / Tryz.prog.cellsOf 96) 0 96 1 = true := by kernel_rfl
theorem qTf : ∃ d, Tryz.prog.depth = d + 1 := ⟨Tryz.prog.depth - 1, by kernel_rfl⟩
theorem qXE {N m : Nat} (h : m ≤ N) : liesAt Tryz.prog Tryz.prog.depth 5 (N / Tryz.prog.cellsOf 5) 0 5 m = true := by
  have e1 : Tryz.prog.cellsOf 5 = 1 := by kernel_rfl
  obtain ⟨d, e2⟩ := qTf
  rw [e1, Nat.div_one]
  have e3 : ∀ d, rowAt Tryz.prog (fun x => sameLayout Tryz.prog (d + 1) x 5) (d + 1) 5 N 0 m = true := fun d => by
    unfold rowAt
    rw [e1]
    have : sameLayout Tryz.prog (d + 1) 5 5 = true := by unfold sameLayout; rw [beq_self_eq_true, Bool.true_or]
    simp only [this]
    have h2 : 0 / 1 + m ≤ N := by omega
    simp [h]
  unfold liesAt
  rw [e2]
  dsimp only
  rw [e3 d, Bool.true_or]
theorem qJU {h : Heap} {b o : Nat} {vs ws : List Value} {T : TypeId} (e : h b = some (.cells vs.toArray T (0, 0))) : h.setN b o ws b = some (.cells (qh vs o ws).toArray T (0, 0)) := by
  unfold Heap.setN
  rw [Nat.beq_refl, e]
theorem qFP {h : Heap} {b o : Nat} {vs : List Value} {T : TypeId} {v : Value} (e : h b = some (.cells vs.toArray T (0, 0))) (g : vs[o]? = some v) : h.cell b o = some v := At.cell ⟨T, e⟩ g
theorem qRR {h0 h : Heap} {K : Value → Heap → Prop} {p : Nat} {bs : List Int} (B : Bu h0 h p bs) (l : h0.le h)
    (k : ∀ h', h0.le h' → Bu h0 h' p bs → K (tuple #[]) h') : CallA Tryz.prog qCt [pointer (some ⟨p, 0, none⟩)] h K := by
  obtain ⟨a, q, c, h1, h2, h3, h4⟩ := B.ex
  refine qH4 _ _ _ ?_
  unfold qEf
  refine qB rfl ⟨a, qFP h1 rfl, ?_⟩
  rcases h2 with rfl | rfl
  · refine Br.yes rfl (qB rfl ⟨⟨_, _, _, h1, by simp⟩, ⟨_, _, _, h1, qW8⟩, qB rfl ⟨At.canSt ⟨_, h1⟩ (by simp), Ret.mk (k _ (qS l B.new) ?_)⟩⟩)
    refine ⟨B.new, some ⟨p, 0, none⟩, q, c, qJU h1, .inr rfl, ?_, h4⟩
    rcases h3 with h3 | ⟨r, sp, e1, e2, e3, e4⟩
    · exact .inl h3
    · exact .inr ⟨r, sp, e1, e2, by rw [q3 (fun e => h4 (by rw [e1, e]))]; exact e3, e4⟩
  · exact Br.no rfl (qB rfl ⟨_, qFP h1 rfl, qB rfl (qB rfl ⟨rfl, rfl, Ret.mk (k h l B)⟩)⟩)
theorem qKI {h0 h : Heap} {K : Value → Heap → Prop} {p : Nat} {bs : List Int} {b : Int} (B : Bu h0 h p bs) (l : h0.le h) (hl : bs.length < 100000000)
    (k : ∀ h', h0.le h' → Bu h0 h' p (bs ++ [b]) → K nilIface h') : CallA Tryz.prog qAn [pointer (some ⟨p, 0, none⟩), .int .u8 b] h K := by
  refine qHp _ _ _ _ ?_
  unfold qEg
  refine qRR B l fun h1 l1 B1 => ⟨rfl, ?_⟩
  obtain ⟨a, q, c, g1, g2, g3, g4⟩ := B1.ex
  refine qB rfl ⟨q, bs.length, c, qFP g1 rfl, fun s hs => ?_⟩
  have ne : p ≠ s := fun e => by rw [← e, g1] at hs; cases hs
  have hs0 := qJ l1 hs
  have g1' : (h1.ins s (.cells [.int .u8 b].toArray 5 (0, 0))) p = some (.cells [.pointer a, .slice q bs.length c].toArray 96 (0, 0)) := qb hs _ _ g1
  have l2 : h0.le (h1.ins s (.cells [.int .u8 b].toArray 5 (0, 0))) := qHw l1 hs
  have rd : rdL (h1.ins s (.cells [.int .u8 b].toArray 5 (0, 0))) (some ⟨s, 0, none⟩) (u8V [b]) := qI4 _ _ _ _ _
  have nil2 : ∀ x, (h1.ins s (.cells [.int .u8 b].toArray 5 (0, 0))) x = none → h1 x = none := fun x e => qJ (qb hs) e
  have g3' : qXr h0 (h1.ins s (.cells [.int .u8 b].toArray 5 (0, 0))) q c bs := by
    rcases g3 with g3 | ⟨r, sp, e1, e2, e3, e4⟩
    · exact .inl g3
    · exact .inr ⟨r, sp, e1, e2, qb hs _ _ e3, e4⟩
  generalize h1.ins s (.cells [.int .u8 b].toArray 5 (0, 0)) = h2 at *
  have hu : ∀ m : List Int, (u8V m).length = m.length := fun m => by rw [qFR, List.length_map]
  have hua : ∀ m n : List Int, u8V (m ++ n) = u8V m ++ u8V n := fun m n => by rw [qFR, qFR, qFR, List.map_append]
  refine ⟨by omega, u8V [b], rfl, rd, rfl, ?_⟩
  rcases g3' with ⟨rfl, rfl, rfl⟩ | ⟨r, sp, rfl, e2, e3, rfl⟩
  · refine .inr ⟨by simp, [], rfl, .inl rfl, fun cap r hc hr => ?_⟩
    have g6 : (h2.ins r (.cells ([] ++ u8V [b] ++ q4 (cap - (([] : List Int).length + 1)) [.int .u8 0]).toArray 5 (0, 0))) p = some (.cells [.pointer a, .slice none 0 0].toArray 96 (0, 0)) := qb hr _ _ g1'
    have hpr : p ≠ r := fun e => by rw [← e, g1'] at hr; cases hr
    have l3 := qHw (x := .cells ([] ++ u8V [b] ++ q4 (cap - (([] : List Int).length + 1)) [.int .u8 0]).toArray 5 (0, 0)) l2 hr
    refine qB rfl ⟨At.canSt ⟨_, g6⟩ (by simp), Ret.mk (k _ (qS l3 B.new) ⟨B.new, a, some ⟨r, 0, none⟩, cap, qJU g6, g2, .inr ⟨r, q4 (cap - 1) [.int .u8 0], rfl, qJ l2 hr, ?_, ?_⟩, ?_⟩)⟩
    · rw [q3 (fun e => hpr e.symm)]
      unfold Heap.ins
      rw [if_pos rfl]; rfl
    · rw [qCS]; simp at hc ⊢; omega
    · intro e; cases e; exact hpr rfl
  · have hpr : p ≠ r := fun e => g4 (by rw [e])
    by_cases hroom : bs.length + 1 ≤ bs.length + sp.length
    · refine .inl ⟨hroom, .inr ⟨r, 0, rfl, At.canSt ⟨_, e3⟩ ?_⟩, ?_⟩
      · rw [List.length_append, hu, hu]
        simp; omega
      · have e4 : (h2.setN r (0 + bs.length * 1) (u8V [b])) r = some (.cells (u8V (bs ++ [b]) ++ sp.drop 1).toArray 5 (0, 0)) := by
          rw [qJU e3, Nat.zero_add, Nat.mul_one, ← hu bs, qGo _ _ _ (by rw [hu]; simp; omega), hua]; rfl
        have g6 : (h2.setN r (0 + bs.length * 1) (u8V [b])) p = some (.cells [.pointer a, .slice (some ⟨r, 0, none⟩) bs.length (bs.length + sp.length)].toArray 96 (0, 0)) := by rw [q3 hpr]; exact g1'
        have l3 : h0.le (h2.setN r (0 + bs.length * 1) (u8V [b])) := qS l2 e2
        show qA _ _
        refine qB rfl ⟨At.canSt ⟨_, g6⟩ (by simp), Ret.mk (k _ (qS l3 B.new) ⟨B.new, a, some ⟨r, 0, none⟩, bs.length + sp.length, ?_, g2, .inr ⟨r, sp.drop 1, rfl, e2, ?_, ?_⟩, g4⟩)⟩
        · rw [List.length_append]
          exact qJU g6
        · rw [q3 (fun e => hpr e.symm)]; exact e4
        · simp; omega
    · refine .inr ⟨by omega, u8V bs, by rw [hu]; simp, At.toRd ⟨_, e3⟩, fun cap s2 hc hr => ?_⟩
      have g6 : (h2.ins s2 (.cells (u8V bs ++ u8V [b] ++ q4 (cap - (bs.length + 1)) [.int .u8 0]).toArray 5 (0, 0))) p = some (.cells [.pointer a, .slice (some ⟨r, 0, none⟩) bs.length (bs.length + sp.length)].toArray 96 (0, 0)) := qb hr _ _ g1'
      have hps : p ≠ s2 := fun e => by rw [← e, g1'] at hr; cases hr
      have l3 := qHw (x := .cells (u8V bs ++ u8V [b] ++ q4 (cap - (bs.length + 1)) [.int .u8 0]).toArray 5 (0, 0)) l2 hr
      refine qB rfl ⟨At.canSt ⟨_, g6⟩ (by simp), Ret.mk (k _ (qS l3 B.new) ⟨B.new, a, some ⟨s2, 0, none⟩, cap, ?_, g2, .inr ⟨s2, q4 (cap - (bs.length + 1)) [.int .u8 0], rfl, qJ l2 hr, ?_, ?_⟩, ?_⟩)⟩
      · rw [List.length_append]
        exact qJU g6
      · rw [q3 (fun e => hps e.symm), hua]
        unfold Heap.ins
        rw [if_pos rfl]
      · rw [qCS, List.length_append]; simp; omega
      · intro e; cases e; exact hps rfl
theorem qUR {h0 h : Heap} {K : Value → Heap → Prop} {p : Nat} {bs : List Int} (B : Bu h0 h p bs) (l : h0.le h) (hl : bs.length < 100000000) (hc : bs ≠ [])
    (k : ∀ h', h0.le h' → K (string (qH7 bs)) h') : CallA Tryz.prog qDU [pointer (some ⟨p, 0, none⟩)] h K := by
  refine qIy _ _ _ ?_
  unfold qFI
  obtain ⟨a, q, c, g1, g2, g3, g4⟩ := B.ex
  have hu : ∀ m : List Int, (u8V m).length = m.length := fun m => by rw [qFR, List.length_map]
  rcases g3 with ⟨rfl, _, _⟩ | ⟨r, sp, rfl, e2, e3, rfl⟩
  · exact (hc rfl).elim
  · have hlen : 0 < bs.length := List.length_pos_iff.2 hc
    refine qB rfl ⟨_, _, _, qFP g1 rfl, .inr (by omega), qB rfl ⟨_, _, _, qFP g1 rfl, bs, rfl, by omega, .inr ⟨r, 0, rfl, ⟨_, _, _, e3, qXE ?_⟩, fun j hj => ?_, Ret.mk (k _ ?_)⟩⟩⟩
    · simp only [List.size_toArray, List.length_append, hu]; omega
    · rw [Nat.zero_add, qFP e3 (v := (u8V bs)[j]'(by rw [hu]; exact hj)) (by rw [List.getElem?_append_left (by rw [hu]; exact hj), List.getElem?_eq_getElem])]
      exact (List.getElem?_eq_getElem _).symm
    · intro x y hx
      unfold Heap.freezeA
      rw [if_neg (by omega)]
      dsimp only
      rw [if_neg (fun e => by rw [e, e2] at hx; cases hx)]
      exact l x y hx
end Go.Proofs.YtgjeecaombnmiaaGreat

/- A ledger as bytes. -/
namespace Go.Proofs.YtgjeecaombnmiaaGreat
open Go Go.Sy Go.Value
set_option linter.unusedVariables false
set_option linter.unusedSimpArgs false

theorem Bu.more {h0 h : Heap} {p r : Nat} {bs : List Int} {x : Obj} (b : Bu h0 h p bs) (hr : h r = none) : Bu (h0.ins r x) (h.ins r x) p bs := by
  obtain ⟨a, q, c, h1, h2, h3, h4⟩ := b.ex
  have hp : p ≠ r := fun e => by rw [← e, h1] at hr; cases hr
  refine ⟨?_, a, q, c, qb hr _ _ h1, h2, ?_, h4⟩
  · unfold Heap.ins; rw [if_neg hp]; exact b.new
  · rcases h3 with h3 | ⟨s, sp, e1, e2, e3, e4⟩
    · exact .inl h3
    · refine .inr ⟨s, sp, e1, ?_, qb hr _ _ e3, e4⟩
      unfold Heap.ins
      rw [if_neg (fun e => by rw [e, hr] at e3; cases e3)]; exact e2
theorem qNz {h0 h : Heap} {r : Nat} {x : Obj} (l : h0.le h) : (h0.ins r x).le (h.ins r x) := fun y o e => by
  unfold Heap.ins at e ⊢
  split
  · rename_i g; rw [if_pos g] at e; exact e
  · rename_i g; rw [if_neg g] at e; exact l y o e
def qQE (w : Nat) (row : List Int) : List Int := (row.take w).flatMap be8
def qDB (w : Nat) : Mx → List Int
  | [] => []
  | r :: M => qQE w r ++ qDB w M
def qHO (S : Lg) : List Int := (S.M.length : Int) :: (S.cur : Int) :: qDB S.cur (S.N :: S.M)
theorem qRG (l : List Int) : (l.flatMap be8).length = l.length * 8 := by
  induction l with
  | nil => rfl
  | cons a l ih => rw [List.flatMap_cons, List.length_append, qF0, ih, List.length_cons]; omega
theorem qRp {w : Nat} {row : List Int} (h : w ≤ row.length) : (qQE w row).length = w * 8 := by
  unfold qQE; rw [qRG, List.length_take]; congr 1; omega
theorem qJG {w : Nat} : ∀ {M : Mx}, (∀ r ∈ M, r.length = 8) → w ≤ 8 → (qDB w M).length = M.length * (w * 8)
  | [], _, _ => by simp [qDB]
  | r :: M, h, hw => by
    rw [qDB, List.length_append, qRp (by rw [h r (List.mem_cons_self ..)]; exact hw), qJG (fun x hx => h x (List.mem_cons_of_mem _ hx)) hw, List.length_cons, Nat.succ_mul]; omega
theorem qXw (w : Nat) (row : List Int) : bytes (qQE w row) := fun b hb => by
  unfold qQE at hb
  obtain ⟨n, _, h⟩ := List.mem_flatMap.1 hb
  exact qWD n b h
theorem qRw (w : Nat) : ∀ M : Mx, bytes (qDB w M)
  | [] => qPW
  | r :: M => qUV (qXw w r) (qRw w M)
theorem qX6 {S : Lg} (o : S.Sz) : ∀ r ∈ S.N :: S.M, r.length = 8 := fun r hr => by
  rcases List.mem_cons.1 hr with rfl | hr
  · exact o.N8
  · exact o.sh.2 r hr
theorem qL8 {S : Lg} (o : S.Sz) : (qHO S).length = 2 + (S.M.length + 1) * (S.cur * 8) := by
  unfold qHO
  rw [List.length_cons, List.length_cons, qJG (qX6 o) o.c8, List.length_cons]; omega
theorem qWj {S : Lg} (o : S.Sz) : bytes (qHO S) := fun b hb => by
  unfold qHO at hb
  have := o.n16
  have := o.c8
  rcases List.mem_cons.1 hb with rfl | hb
  · omega
  · rcases List.mem_cons.1 hb with rfl | hb
    · omega
    · exact qRw _ _ b hb
theorem qRO {S : Lg} (o : S.Sz) : (qHO S).length ≤ 2000 := by
  rw [qL8 o]
  have := o.n16
  have := o.c8
  have : (S.M.length + 1) * (S.cur * 8) ≤ 17 * 64 := Nat.mul_le_mul (by omega) (by omega)
  omega
section
variable {h0 h : Heap} {K : Value → Heap → Prop} {p : Nat} {bs : List Int}
theorem qVK {n : Int} : ∀ (j : Nat) (h : Heap) (bs : List Int), j ≤ 8 → bs.length + j < 100000000 → h0.le h → Bu h0 h p bs → (∀ h', h0.le h' → Bu h0 h' p (bs ++ beF n j) → K (tuple #[]) h') →
    qGE (some ⟨p, 0, none⟩) n ((j : Int) - 1) h K := by
  intro j
  induction j with
  | zero =>
    intro h bs hj hl l B k
    refine qJc _ _ _ _ _ ?_
    unfold qHC
    exact Br.no (by simp) (Ret.mk (k h l (by rw [beF, List.append_nil]; exact B)))
  | succ j ih =>
    intro h bs hj hl l B k
    refine qJc _ _ _ _ _ ?_
    unfold qHC
    rw [show ((j + 1 : Nat) : Int) - 1 = (j : Int) by omega]
    have w1 : IntKind.wrap .i64 ((j : Int) - 1) = (j : Int) - 1 := qO (by omega) (by omega)
    rw [qS2 n j (by omega), w1]
    refine Br.yes (decide_eq_true (by omega)) (Br.yes (decide_eq_true (by rw [qO (by omega) (by omega)]; omega)) (qKI B l (by omega) fun h' l' B' => ⟨rfl, ?_⟩))
    have : bs ++ beF n (j + 1) = (bs ++ [qFO n j]) ++ beF n j := by rw [beF, List.append_assoc]; rfl
    rw [this] at k
    exact ih h' (bs ++ [qFO n j]) (by omega) (by rw [List.length_append]; simp; omega) l' B' k
theorem qYi {n : Int} (B : Bu h0 h p bs) (l : h0.le h) (hl : bs.length + 8 < 100000000) (k : ∀ h', h0.le h' → Bu h0 h' p (bs ++ be8 n) → K (tuple #[]) h') : CallA Tryz.prog qIU [pointer (some ⟨p, 0, none⟩), .int .i64 n] h K := by
  refine qQv _ _ _ _ ?_
  unfold qLR
  exact qVK 8 h bs (Nat.le_refl 8) hl l B k
end
theorem eight {l : List Int} (h : l.length = 8) : l = [l.getD 0 0, l.getD 1 0, l.getD 2 0, l.getD 3 0, l.getD 4 0, l.getD 5 0, l.getD 6 0, l.getD 7 0] := by
  match l, h with
  | [a, b, c, d, e, f, g, i], _ => rfl
theorem qLm {l : List Int} {j : Nat} (h : j < l.length) : l.take (j + 1) = l.take j ++ [l.getD j 0] := by
  rw [List.take_add_one, List.getD_eq_getElem?_getD, List.getElem?_eq_getElem h]; rfl
section
variable {h0 : Heap} {K : Value → Heap → Prop} {p B C s rc : Nat} {sp : List Value} {S : Lg} {ap : Option Addr} {R : Mx}
theorem qXx {tk : List Int} {q : Option Addr} {i n qc w : Nat} {t30 : Option Addr} {g : Heap} {l : Option Addr} {bs : List Int} (hw : tk.length = w) (h8 : w ≤ 8) (hbs : bs.length ≤ 10000) (I : Ints .i64 g q tk)
    (k : ∀ h', g.le h' → Bu g h' s (bs ++ tk.flatMap be8) → qBj l s t30 n rc (n : Int) (IntKind.wrap .i64 ((i : Int) + 1)) h' K) :
    ∀ (m j : Nat) (h : Heap), m + j = w → g.le h → Bu g h s (bs ++ (tk.take j).flatMap be8) → qCy l s t30 n rc (n : Int) (i : Int) q w qc (w : Int) (j : Int) h K := by
  intro m
  induction m with
  | zero =>
    intro j h hj lg B
    refine qFl _ _ _ _ _ _ _ _ _ _ _ _ _ _ ?_
    unfold qDw
    rw [List.take_of_length_le (by omega)] at B
    exact Br.no (by simp; omega) (k h lg B)
  | succ m ih =>
    intro j h hj lg B
    refine qFl _ _ _ _ _ _ _ _ _ _ _ _ _ _ ?_
    unfold qDw
    have hx : tk[j]? = some (tk.getD j 0) := by rw [List.getD_eq_getElem?_getD, List.getElem?_eq_getElem (by omega)]; rfl
    have I' : Ints .i64 h q tk := I.le lg
    have fm : ((tk.take j).flatMap be8).length ≤ 64 := by rw [qRG, List.length_take]; omega
    have w1 : IntKind.wrap .i64 ((j : Int) + 1) = ((j + 1 : Nat) : Int) := by rw [qO (by omega) (by omega)]; omega
    rw [w1]
    refine Br.yes (by simp; omega) (ix I' hw rfl hx (qYi B lg (by rw [List.length_append]; omega) fun h' l' B' => ⟨rfl, ih (j + 1) h' (by omega) l' ?_⟩))
    rw [qLm (by omega), List.flatMap_append, List.flatMap_singleton, ← List.append_assoc]
    exact B'
theorem qYT (A : LedAt h0 p B C sp S) {R : Mx} (h8 : ∀ r ∈ R, r.length = 8) (hR : R.length ≤ 17) {q : Option Addr} (k : ∀ h', h0.le h' → K (string (qH7 (qHO S))) h') (hS : qHO S = (S.M.length : Int) :: (S.cur : Int) :: qDB S.cur R) :
    ∀ (m i : Nat) (h g : Heap), m + i = R.length → h0.le g → g.le h → rdL g q (qK .i64 R.flatten) → Bu g h s ((S.M.length : Int) :: (S.cur : Int) :: qDB S.cur (R.take i)) → qBj (some ⟨p, 0, none⟩) s q R.length rc (R.length : Int) (i : Int) h K := by
  have hw8 := A.sz.c8
  intro m
  induction m with
  | zero =>
    intro i h g hi l0 lg I Bx
    refine qFg _ _ _ _ _ _ _ _ _ ?_
    unfold qDq
    rw [List.take_of_length_le (by omega), ← hS] at Bx
    have := qRO A.sz
    refine Br.no (by simp; omega) (qUR Bx lg (by omega) (by unfold qHO; simp) fun h' l' => ⟨_, rfl, Ret.mk (k h' (Heap.le_trans l0 l'))⟩)
  | succ m ih =>
    intro i h g hi l0 lg I Bx
    refine qFg _ _ _ _ _ _ _ _ _ ?_
    unfold qDq
    have hiR : i < R.length := by omega
    have hfl := qE3 h8
    have cl : ∀ c, c < 8 → ∀ b o, q = some ⟨b, o, none⟩ → h.cell b (o + i * 8 + c) = some (.int .i64 (rdM R i c)) := fun c hc b o e => by
      rcases qAV lg I with e2 | ⟨b', o', e2, r⟩
      · have := congrArg List.length e2
        rw [qL, hfl] at this
        simp at this; omega
      · rw [e] at e2
        cases e2
        rw [Nat.add_assoc, r _ (by rw [qL, hfl]; omega), qBt, List.getElem?_map, qK5 h8 hiR hc]; rfl
    obtain ⟨b, o, hq⟩ : ∃ b o, q = some ⟨b, o, none⟩ := by
      rcases I with e2 | ⟨b', o', e2, r⟩
      · have := congrArg List.length e2
        rw [qL, hfl] at this
        simp at this; omega
      · exact ⟨b', o', e2⟩
    have hrow : (R.getD i []).length = 8 := by
      rw [List.getD_eq_getElem?_getD, List.getElem?_eq_getElem hiR]
      exact h8 _ (List.getElem_mem _)
    refine Br.yes (by simp; omega) ⟨by omega, by omega, qB hq ?_⟩
    rw [Int.toNat_natCast]
    refine ⟨_, cl 0 (by omega) b o hq, _, cl 1 (by omega) b o hq, _, cl 2 (by omega) b o hq, _, cl 3 (by omega) b o hq, _, cl 4 (by omega) b o hq, _, cl 5 (by omega) b o hq, _, cl 6 (by omega) b o hq, _, cl 7 (by omega) b o hq, fun r hr => ?_⟩
    refine ⟨qIC _ _ _ _ _ _ (by simp), ?_⟩
    rw [qQA]
    have ev : qh [Value.int .i64 0, .int .i64 0, .int .i64 0, .int .i64 0, .int .i64 0, .int .i64 0, .int .i64 0, .int .i64 0] 0 [Value.int .i64 (rdM R i 0), .int .i64 (rdM R i 1), .int .i64 (rdM R i 2), .int .i64 (rdM R i 3), .int .i64 (rdM R i 4), .int .i64 (rdM R i 5), .int .i64 (rdM R i 6), .int .i64 (rdM R i 7)] = qK .i64 (R.getD i []) := by
      rw [eight hrow]; rfl
    rw [ev]
    have Bx2 := Bx.more (x := .cells (qK .i64 (R.getD i [])).toArray 85 (0, 0)) hr
    have hgr := qJ lg hr
    have lg2 := qNz (r := r) (x := .cells (qK .i64 (R.getD i [])).toArray 85 (0, 0)) lg
    have l0g : g.le (g.ins r (.cells (qK .i64 (R.getD i [])).toArray 85 (0, 0))) := qb hgr
    have AR : At (g.ins r (.cells (qK .i64 (R.getD i [])).toArray 85 (0, 0))) r (qK .i64 (R.getD i [])) := At.new _ _ _ _
    have l02 := Heap.le_trans l0 l0g
    generalize h.ins r (.cells (qK .i64 (R.getD i [])).toArray 85 (0, 0)) = h2 at *
    generalize g.ins r (.cells (qK .i64 (R.getD i [])).toArray 85 (0, 0)) = g2 at *
    have A2 : LedAt h2 p B C sp S := A.le (Heap.le_trans l02 lg2)
    have sa : qHE (some ⟨r, 0, none⟩) 0 8 1 = some ⟨r, 0, none⟩ := qNL _ _ _
    rw [sa]
    refine qB rfl ⟨_, A2.cur, by omega, by omega, ?_⟩
    rw [Int.toNat_natCast, Nat.sub_zero]
    have htk : ((R.getD i []).take S.cur).length = S.cur := by rw [List.length_take, hrow]; omega
    have I2 : Ints .i64 g2 (some ⟨r, 0, none⟩) ((R.getD i []).take S.cur) := by
      have e3 : qK .i64 (R.getD i []) = qK .i64 ((R.getD i []).take S.cur) ++ qK .i64 ((R.getD i []).drop S.cur) := by rw [← qAI, List.take_append_drop]
      rw [e3] at AR
      exact AR.toRd
    have hbl : (qDB S.cur (R.take i)).length ≤ 17 * 64 := by
      rw [qJG (fun x hx => h8 x (List.mem_of_mem_take hx)) hw8, List.length_take]
      exact Nat.mul_le_mul (by omega) (by omega)
    have w1 : IntKind.wrap .i64 ((i : Int) + 1) = ((i + 1 : Nat) : Int) := by rw [qO (by omega) (by omega)]; omega
    refine qXx (bs := (S.M.length : Int) :: (S.cur : Int) :: qDB S.cur (R.take i)) htk hw8 (by rw [List.length_cons, List.length_cons]; omega) I2 (fun h' l' B' => ?_) S.cur 0 h2 (by omega) lg2 (by simpa using Bx2)
    rw [w1]
    refine ih (i + 1) h' g2 (by omega) l02 l' (qAV l0g I) ?_
    have e4 : R.take (i + 1) = R.take i ++ [R.getD i []] := by rw [List.take_add_one, List.getD_eq_getElem?_getD, List.getElem?_eq_getElem hiR]; rfl
    have e5 : ∀ (X Y : Mx), qDB S.cur (X ++ Y) = qDB S.cur X ++ qDB S.cur Y := fun X Y => by
      induction X with
      | nil => rfl
      | cons a X ih => rw [List.cons_append, qDB, qDB, ih, List.append_assoc]
    rw [e4, e5]
    have e6 : qDB S.cur [R.getD i []] = ((R.getD i []).take S.cur).flatMap be8 := by rw [qDB, qDB, List.append_nil]; rfl
    rw [e6]
    exact B'
end
theorem qOG {n : Nat} (h : n < 256) : IntKind.wrap IntKind.u8 (n : Int) = (n : Int) := by rw [qOe]; omega
theorem qXB {h : Heap} {K : Value → Heap → Prop} {p B C : Nat} {sp : List Value} {S : Lg} (A : LedAt h p B C sp S) (k : ∀ h', h.le h' → K (string (qH7 (qHO S))) h') : CallA Tryz.prog qEY [pointer (some ⟨p, 0, none⟩)] h K := by
  refine qKk _ _ _ ?_
  unfold qGS
  intro r hr
  have Bx := Bu.start hr
  have l1 : h.le (h.ins r (.cells [.pointer none, .slice none 0 0].toArray 96 (0, 0))) := qb hr
  generalize h.ins r (.cells [.pointer none, .slice none 0 0].toArray 96 (0, 0)) = h1 at *
  have n16 := A.sz.n16
  have c8 := A.sz.c8
  refine qB rfl ⟨_, _, _, (A.le l1).rows, qKI Bx l1 (by simp) fun h2 l2 B2 => ⟨rfl, qB rfl ⟨_, (A.le l2).cur, qKI B2 l2 (by simp) fun h3 l3 B3 => ⟨rfl, qB rfl ?_⟩⟩⟩⟩
  rw [qOG (by omega), qOG (by omega)] at B3
  have A3 := A.le l3
  refine ⟨_, A3.nos (c := 0) (by omega), _, A3.nos (c := 1) (by omega), _, A3.nos (c := 2) (by omega), _, A3.nos (c := 3) (by omega), _, A3.nos (c := 4) (by omega), _, A3.nos (c := 5) (by omega), _, A3.nos (c := 6) (by omega), _, A3.nos (c := 7) (by omega), qB rfl ⟨_, _, _, A3.rows, fun s hs => ?_⟩⟩
  have eN : [Value.int .i64 (S.N.getD 0 0), .int .i64 (S.N.getD 1 0), .int .i64 (S.N.getD 2 0), .int .i64 (S.N.getD 3 0), .int .i64 (S.N.getD 4 0), .int .i64 (S.N.getD 5 0), .int .i64 (S.N.getD 6 0), .int .i64 (S.N.getD 7 0)] = qK .i64 S.N := by
    rw [eight A.sz.N8]; rfl
  rw [eN]
  have l4 : h3.le (h3.ins s (.cells (qK .i64 S.N).toArray 85 (0, 0))) := qb hs
  have AN : At (h3.ins s (.cells (qK .i64 S.N).toArray 85 (0, 0))) s (qK .i64 S.N ++ []) := by rw [List.append_nil]; exact At.new _ _ _ _
  generalize h3.ins s (.cells (qK .i64 S.N).toArray 85 (0, 0)) = h4 at *
  have A4 := A3.le l4
  have B4 := B3.le l4
  have l04 := Heap.le_trans l3 l4
  have hfl := qE3 A.sz.sh.2
  have n1 := A.sz.n1
  refine ⟨by omega, qK .i64 S.M.flatten, by rw [qL, hfl]; rfl, A4.ab.toRd, qEG _ _, .inr ⟨by omega, qK .i64 S.N, by rw [qL, A.sz.N8]; rfl, AN.toRd, fun cap t hc ht => ?_⟩⟩
  have eR : qK .i64 S.N ++ qK .i64 S.M.flatten = qK .i64 (S.N :: S.M).flatten := by rw [List.flatten_cons, qAI]
  rw [eR]
  have B5 := B4.more (x := .cells (qK .i64 (S.N :: S.M).flatten ++ q4 (cap - (1 + S.M.length)) [Value.int .i64 0, .int .i64 0, .int .i64 0, .int .i64 0, .int .i64 0, .int .i64 0, .int .i64 0, .int .i64 0]).toArray 85 (0, 0)) ht
  have lg := qNz (r := t) (x := .cells (qK .i64 (S.N :: S.M).flatten ++ q4 (cap - (1 + S.M.length)) [Value.int .i64 0, .int .i64 0, .int .i64 0, .int .i64 0, .int .i64 0, .int .i64 0, .int .i64 0, .int .i64 0]).toArray 85 (0, 0)) l04
  have I5 : rdL (h.ins t (.cells (qK .i64 (S.N :: S.M).flatten ++ q4 (cap - (1 + S.M.length)) [Value.int .i64 0, .int .i64 0, .int .i64 0, .int .i64 0, .int .i64 0, .int .i64 0, .int .i64 0, .int .i64 0]).toArray 85 (0, 0))) (some ⟨t, 0, none⟩) (qK .i64 (S.N :: S.M).flatten) := (At.new _ _ _ _).toRd
  have e9 : 1 + S.M.length = (S.N :: S.M).length := by rw [List.length_cons]; omega
  rw [e9]
  rw [e9] at B5 lg I5
  exact qYT A (qX6 A.sz) (by rw [List.length_cons]; omega) k rfl (S.N :: S.M).length 0 _ _ (by omega) (qb (qJ l04 ht)) lg I5 B5
end Go.Proofs.YtgjeecaombnmiaaGreat
