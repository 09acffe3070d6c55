/- The reference's providers: made of lines; read from bytes. -/
import Derived.Test.YtkcogdmddhkldaaLenRefB
import Derived.Test.YtkcogdmddhkldaaLenReadB
namespace Go.Proofs.Ytkcogdmddhkldaa
open Go Go.Sy Go.Value
set_option linter.unusedVariables false
set_option linter.unusedSimpArgs false

structure RNew (h0 h : Heap) (x B : Nat) (bs : List Value) (n w : Nat) (a : Option Addr) (C : Nat) (R CC : Nat → Nat) (SP : Nat → List Value) (M : Mx) : Prop where
  rb : RwB h0 h a C R CC SP M w
  ax : At h x [.slice a M.length C, .slice (some ⟨B, 0, none⟩) n n, .int .i64 (w : Int)]
  ab : At h B (boolVs (List.replicate n false))
  nx : h0 x = none
  nB : h0 B = none
  xB : B ≠ x
  dx : a ≠ some ⟨x, 0, none⟩
  dB : a ≠ some ⟨B, 0, none⟩
  rx : ∀ i, i < M.length → R i ≠ x
  rB : ∀ i, i < M.length → R i ≠ B
theorem repL_bools (n : Nat) : repL n [Value.bool false] = boolVs (List.replicate n false) := by
  induction n with
  | zero => rfl
  | succ n ih => rw [List.replicate_succ, show boolVs (false :: List.replicate n false) = Value.bool false :: boolVs (List.replicate n false) from rfl, ← ih]; rfl
section
variable {h0 : Heap} {K : Value → Heap → Prop} {p : Option Addr} {NL : List NRow} {n c w : Nat}
theorem rnew_loop (X : Nets h0 p NL) (hn : NL.length = n) (hs : n ≤ 8) (hw1 : 1 ≤ w) (w8 : w ≤ 8) (hI : ∀ x ∈ NL, ∀ v ∈ x.l, I64 v) {x B : Nat}
    (k0 : ∀ h', h0.le h' → (∃ r ∈ mxOf NL, badRow (w : Int) r = true) → K (tuple #[.pointer none, .int .i64 1]) h')
    (k1 : ∀ h' a C R CC SP, RNew h0 h' x B [] n w a C R CC SP (mxOf NL) → (∀ r ∈ mxOf NL, badRow (w : Int) r = false) → K (tuple #[.pointer (some ⟨x, 0, none⟩), .int .i64 0]) h') :
    ∀ (m j : Nat) (h : Heap) (a : Option Addr) (C : Nat) (R CC : Nat → Nat) (SP : Nat → List Value), m + j = n → RNew h0 h x B [] n w a C R CC SP ((mxOf NL).take j) → (∀ r ∈ (mxOf NL).take j, badRow (w : Int) r = false) →
      L_ref15_New_0 p n c (w : Int) x (j : Int) h K := by
  have hM : (mxOf NL).length = n := by unfold mxOf; rw [List.length_map, hn]
  intro m
  induction m with
  | zero =>
    intro j h a C R CC SP hj I hg
    refine L_ref15_New_0r _ _ _ _ _ _ _ _ ?_
    unfold L_ref15_New_0T
    rw [List.take_of_length_le (by omega)] at I hg
    exact Br.no (by simp; omega) (Ret.mk (k1 h a C R CC SP I hg))
  | succ m ih =>
    intro j h a C R CC SP hj I hg
    refine L_ref15_New_0r _ _ _ _ _ _ _ _ ?_
    unfold L_ref15_New_0T
    have hx : NL[j]? = some NL[j] := List.getElem?_eq_getElem (by omega)
    have hmem : NL[j] ∈ NL := List.getElem_mem _
    have hMx : (mxOf NL)[j]'(by omega) = NL[j].l := by simp [mxOf]
    have htk : (mxOf NL).take (j + 1) = (mxOf NL).take j ++ [NL[j].l] := by rw [List.take_add_one, List.getElem?_eq_getElem (by omega), hMx]; rfl
    have hmr : NL[j].l ∈ mxOf NL := by rw [← hMx]; exact List.getElem_mem _
    have htl : ((mxOf NL).take j).length = j := by rw [List.length_take]; omega
    generalize NL[j] = y at *
    have base := I.rb.base
    refine Br.yes (by simp; omega) (nx (X.le base) hn rfl hx (Br.intro (fun g => ?_) fun g => ?_))
    · refine Ret.mk (k0 h base ⟨_, hmr, ?_⟩)
      unfold badRow
      rw [g, Bool.true_or]
    · have hyl : y.l.length = w := by simp at g; omega
      have main : ∀ (q d : Nat), q + d = w → (∀ v ∈ y.l.take d, 0 ≤ v) → L_ref15_New_1 p n c (w : Int) x (j : Int) (d : Int) h K := by
        intro q
        induction q with
        | zero =>
          intro d hd hv
          refine L_ref15_New_1r _ _ _ _ _ _ _ _ _ ?_
          unfold L_ref15_New_1T
          rw [List.take_of_length_le (by omega)] at hv
          have hbr : badRow (w : Int) y.l = false := by
            unfold badRow
            rw [Bool.or_eq_false_iff]
            refine ⟨by simp; omega, ?_⟩
            rw [List.any_eq_false]
            intro v hv2
            have := hv v hv2
            simp; omega
          refine Br.no (by simp; omega) ⟨_, _, _, I.ax.cell rfl, nx (X.le base) hn rfl hx fun r hr => ?_⟩
          -- the row's copy
          refine (own_new hr).push2 (by decide) (le_ins hr) (by omega) (by rw [intsV_length]; simp) (((X.le base).2 y hmem).le (le_ins hr)) (allCells_ints _ _) rfl fun p' c' h2 l2 w2 keep2 how2 => ?_
          rw [List.nil_append] at w2
          rcases w2 with ⟨e, _, _⟩ | ⟨s, sp, rfl, hs0, As, _⟩
          · have := congrArg List.length e
            rw [intsV_length, List.length_nil] at this
            omega
          · refine ⟨.inr fun b hb yy hy => ?_, ?_⟩
            · rw [List.mem_singleton] at hb
              subst hb
              exact keep2 b yy hy fun e => by cases e; exact I.ax.ne hr rfl
            · have I2 := I.rb.le l2
              have fr := I.rb.fresh hs0
              rw [Nat.zero_add, hyl, htl]
              refine I2.push (none_of_le base hs0) As fr.1 fr.2 hyl (by omega) htl fun s3 h3 a3 C3 h4 hs3 l3 I4 keep4 how4 => ?_
              have l23 := Heap.le_trans l2 l3
              have Ax3 := I.ax.le l23
              have Ab3 := I.ab.le l23
              have Ax4 := keepAt keep4 Ax3 I.dx
              have hxs : x ≠ s := I.ax.ne hs0
              have hBs : B ≠ s := I.ab.ne hs0
              refine ⟨Ax4.canSt (by simp), ?_⟩
              rw [w1 (by omega)]
              have dx4 := push_ne how4 Ax3 I.dx
              have dB4 := push_ne how4 Ab3 I.dB
              have rx4 : ∀ i, i < ((mxOf NL).take j ++ [y.l]).length → (if i = ((mxOf NL).take j).length then s else R i) ≠ x := fun i hi => by
                rw [List.length_append, List.length_singleton] at hi
                split
                · exact hxs.symm
                · exact I.rx i (by omega)
              have rB4 : ∀ i, i < ((mxOf NL).take j ++ [y.l]).length → (if i = ((mxOf NL).take j).length then s else R i) ≠ B := fun i hi => by
                rw [List.length_append, List.length_singleton] at hi
                split
                · exact hBs.symm
                · exact I.rB i (by omega)
              have Ax5 := Ax4.set (o := 0) (ws := [.slice a3 (j + 1) C3])
              have Ab5 := (keepAt keep4 Ab3 I.dB).set_ne (o := 0) (ws := [.slice a3 (j + 1) C3]) I.xB
              have hl5 : ((mxOf NL).take j ++ [y.l]).length = j + 1 := by rw [List.length_append, htl]; rfl
              have IN : RNew h0 (h4.setN x 0 [.slice a3 (j + 1) C3]) x B [] n w a3 C3 _ _ _ ((mxOf NL).take j ++ [y.l]) := ⟨I4.set I.nx dx4 rx4, by rw [hl5]; exact Ax5, Ab5, I.nx, I.nB, I.xB, dx4, dB4, rx4, rB4⟩
              rw [← htk] at IN
              refine ih (j + 1) _ a3 C3 _ _ _ (by omega) IN fun r hr => ?_
              rw [htk] at hr
              rcases List.mem_append.1 hr with hr | hr
              · exact hg r hr
              · rw [List.mem_singleton] at hr; rw [hr]; exact hbr
        | succ q ihq =>
          intro d hd hv
          refine L_ref15_New_1r _ _ _ _ _ _ _ _ _ ?_
          unfold L_ref15_New_1T
          have hdl : d < y.l.length := by omega
          have hx2 : y.l[d]? = some y.l[d] := List.getElem?_eq_getElem hdl
          have htk2 : y.l.take (d + 1) = y.l.take d ++ [y.l[d]] := by rw [List.take_add_one, hx2]; rfl
          have hm2 : y.l[d] ∈ y.l := List.getElem_mem _
          generalize y.l[d] = v at *
          refine Br.yes (by simp; omega) (nx (X.le base) hn rfl hx (ix ((X.le base).2 y hmem) rfl rfl hx2 (Br.dec (fun g2 => ?_) fun g2 => ?_)))
          · refine Ret.mk (k0 h base ⟨_, hmr, ?_⟩)
            unfold badRow
            rw [Bool.or_eq_true]
            exact .inr (List.any_eq_true.2 ⟨v, hm2, decide_eq_true g2⟩)
          · rw [w1 (by omega)]
            refine ihq (d + 1) (by omega) fun u hu => ?_
            rw [htk2] at hu
            rcases List.mem_append.1 hu with hu | hu
            · exact hv u hu
            · rw [List.mem_singleton] at hu; omega
      exact main w 0 (by omega) fun v hv => by simp at hv
theorem S_rNew {h : Heap} {cu : Int} (X : Nets h p NL) (hn : NL.length = n) (hs : n ≤ 1000) (hI : ∀ x ∈ NL, ∀ v ∈ x.l, I64 v)
    (k0 : newE (mxOf NL) cu ≠ 0 → ∀ h', h.le h' → K (tuple #[.pointer none, .int .i64 (newE (mxOf NL) cu)]) h')
    (k1 : newE (mxOf NL) cu = 0 → ∀ w : Nat, cu = (w : Int) → ∀ h' g, h.le h' → RAt h' g ⟨mxOf NL, List.replicate n false, w⟩ → (∀ x, g.D n x = true → h x = none) → K (tuple #[.pointer (some ⟨g.p, 0, none⟩), .int .i64 0]) h') :
    CallA Try.prog fn_ref15_New [slice p n c, .int .i64 cu] h K := by
  have hM : (mxOf NL).length = n := by unfold mxOf; rw [List.length_map, hn]
  refine F_ref15_New _ _ _ _ _ _ ?_
  unfold F_ref15_NewT
  unfold newE at k0 k1
  rw [hM] at k0 k1
  refine Br.dec (fun g => ?_) fun g => Br.dec (fun g2 => ?_) fun g2 => Br.dec (fun g3 => ?_) fun g3 => ?_
  · rw [if_pos (by omega)] at k0
    exact Ret.mk (k0 (by decide) h h.le_refl)
  · rw [if_neg (by omega), if_pos g2] at k0
    exact Ret.mk (k0 (by decide) h h.le_refl)
  · rw [if_neg (by omega), if_neg g2, if_pos (by omega)] at k0
    exact Ret.mk (k0 (by decide) h h.le_refl)
  rw [if_neg (by omega), if_neg g2, if_neg (by omega)] at k0 k1
  obtain ⟨w, rfl⟩ : ∃ w : Nat, cu = w := ⟨cu.toNat, by omega⟩
  refine ⟨by omega, by omega, by omega, by omega, newB_at fun B h1 hB l1 AB => newB_at fun x h2 hx l2 Ax => ?_⟩
  rw [Int.toNat_natCast] at AB Ax
  rw [repL_bools] at AB
  have nx0 := none_of_le l1 hx
  refine rnew_loop (h0 := h) X hn (by omega) (by omega) (by omega) hI (x := x) (B := B) (fun h' l' hbad => ?_) (fun h' a C R CC SP I hg => ?_) n 0 h2 none 0 (fun _ => 0) (fun _ => 0) (fun _ => []) (by omega) ⟨RwB.nil _ _ (Heap.le_trans l1 l2) _, Ax, AB.le l2, nx0, hB, AB.ne hx, fun e => (by cases e), fun e => (by cases e), fun i hi => absurd hi (by simp), fun i hi => absurd hi (by simp)⟩ fun r hr => by simp at hr
  · obtain ⟨r, hr, hb⟩ := hbad
    have : (mxOf NL).any (badRow (w : Int)) = true := List.any_eq_true.2 ⟨r, hr, hb⟩
    rw [this, if_pos rfl] at k0
    exact k0 (by decide) h' l'
  · have hany : (mxOf NL).any (badRow (w : Int)) = false := by
      rw [List.any_eq_false]
      intro r hr
      rw [hg r hr]; decide
    rw [hany, if_neg (by decide)] at k1
    have hrl : ∀ r ∈ mxOf NL, r.length = w ∧ ∀ v ∈ r, I64 v ∧ 0 ≤ v := fun r hr => by
      have hb := hg r hr
      unfold badRow at hb
      rw [Bool.or_eq_false_iff, List.any_eq_false] at hb
      have hb1 : r.length = w := by have := hb.1; simp at this; omega
      refine ⟨hb1, fun v hv => ⟨?_, ?_⟩⟩
      · unfold mxOf at hr
        obtain ⟨y, hy, rfl⟩ := List.mem_map.1 hr
        exact hI y hy v hv
      · have := hb.2 v hv
        simp at this; omega
    obtain ⟨qs, A, hf⟩ := I.rb.fin
    have ok : (⟨mxOf NL, List.replicate n false, w⟩ : Ln).Ok := by
      have rd : ∀ i d, I64 (rdM (mxOf NL) i d) ∧ 0 ≤ rdM (mxOf NL) i d := fun i d => by
        unfold rdM
        cases hx : (mxOf NL)[i]? with
        | none => rw [List.getD_eq_getElem?_getD (l := mxOf NL), hx]; exact ⟨I64_0, Int.le_refl 0⟩
        | some row =>
          rw [List.getD_eq_getElem?_getD (l := mxOf NL), hx]
          dsimp only [Option.getD_some]
          cases hv : row[d]? with
          | none => rw [List.getD_eq_getElem?_getD, hv]; exact ⟨I64_0, Int.le_refl 0⟩
          | some v => rw [List.getD_eq_getElem?_getD, hv]; exact (hrl row (List.mem_of_getElem? hx)).2 v (List.mem_of_getElem? hv)
      exact ⟨by show (mxOf NL).length ≤ 8; omega, by show 1 ≤ w; omega, by show w ≤ 8; omega, ⟨rfl, fun r hr => (hrl r hr).1⟩, by show (List.replicate n false).length = (mxOf NL).length; rw [List.length_replicate, hM], fun i d => (rd i d).1, fun i d => (rd i d).2⟩
    have nD : ∀ y, a ≠ some ⟨y, 0, none⟩ → (∀ i, i < (mxOf NL).length → R i ≠ y) → (⟨a, C, qs, R, CC, SP⟩ : Rws).D (mxOf NL).length y = false := fun y h1 h2 => by
      cases hd : (⟨a, C, qs, R, CC, SP⟩ : Rws).D (mxOf NL).length y with
      | false => rfl
      | true =>
        rcases Rws.D_t hd with ⟨_, e⟩ | ⟨i, hi, e⟩
        · exact (h1 e).elim
        · exact (h2 i hi e).elim
    refine k1 rfl w rfl h' ⟨x, ⟨a, C, qs, R, CC, SP⟩, some ⟨B, 0, none⟩, n, []⟩ I.rb.base ⟨?_, A, .inr ⟨B, rfl, by rw [List.append_nil]; exact I.ab⟩, nD x I.dx I.rx, fun B' e => by cases e; exact ⟨I.xB, nD B I.dB I.rB⟩, ok⟩ fun y hy => ?_
    · have := I.ax
      rw [List.length_replicate]
      exact this
    · rcases RFr.D_t hy with rfl | ⟨_, e⟩ | e
      · exact I.nx
      · have e : some (⟨B, 0, none⟩ : Addr) = some ⟨y, 0, none⟩ := e
        cases e; exact I.nB
      · exact hf y (by rw [hM]; exact e)
end
end Go.Proofs.Ytkcogdmddhkldaa
