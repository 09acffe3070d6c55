/- The laws LenderReads and LenderDoes. -/
import Derived.Test.YtkcogdmddhkldaaLenRefD
import Derived.Test.YtkcogdmddhkldaaLenLaw
import Derived.Test.YtkcogdmddhkldaaEqLenLawB
namespace Go.Proofs.Ytkcogdmddhkldaa
open Go Go.Sy Go.Value
set_option linter.unusedVariables false
set_option linter.unusedSimpArgs false

theorem law15_LenderReads_ok {h : Heap} {s : ByteArray} (_hs : s.size ≤ 9223372036854775807) : CallA Try.prog fn_law15_LenderReads [string s] h fun v h' => v = .bool true ∧ h.le h' := by
  refine F_law15_LenderReads _ _ _ ?_
  unfold F_law15_LenderReadsT
  have kg : ∀ h', h.le h' → Ret h' (fun v h' => v = .bool true ∧ h.le h') (.bool true) := fun h' l' => Ret.mk ⟨rfl, l'⟩
  refine S_law15_awake fun h1 l1 => ⟨_, rfl, Br.no rfl (Br.dec (fun _ => kg h1 l1) fun _ => S_nRead (fun h2 l2 e => ⟨_, _, rfl, ?_⟩) fun h2 f S l2 e A fr => ⟨_, _, rfl, ?_⟩)⟩
  · refine S_rRead (fun h3 l3 _ => ⟨_, _, rfl, Br.no rfl (Br.no rfl (Br.yes rfl (kg h3 (Heap.le_trans l1 (Heap.le_trans l2 l3)))))⟩) fun h3 g S l3 e2 => ?_
    rw [e] at e2; cases e2
  · refine S_rRead (fun h3 l3 e2 => ?_) fun h3 g S2 l3 e2 B gr => ⟨_, _, rfl, ?_⟩
    · rw [e] at e2; cases e2
    · rw [e] at e2
      cases e2
      have et : strOf (textN S) = s := by rw [read_text (bytesI_r s) e, strOf_bytesI]
      have hb : (s.toList == s.toList) = true := beq_self_eq_true _
      refine Br.no rfl (Br.no rfl (Br.no rfl (S_nText (A.le l3) fun h4 l4 => ⟨_, rfl, ?_⟩)))
      rw [et]
      refine Br.yes hb (S_rText (B.le l4) fun h5 l5 => ⟨_, rfl, ?_⟩)
      rw [et, hb]
      exact kg h5 (Heap.le_trans l1 (Heap.le_trans l2 (Heap.le_trans l3 (Heap.le_trans l4 l5))))
theorem drawN_small {S : Ln} (o : S.Ok) (c need : Int) : (drawN S c need).1.length ≤ 8 := by
  unfold drawN
  split
  · exact Nat.zero_le _
  split
  · exact Nat.zero_le _
  rename_i h1 h2
  obtain ⟨j, rfl, hj⟩ := hasC_t (by simpa using h1)
  simp only [Int.toNat_natCast]
  have D := drawM_ok (F := S.F) hj S.L.length 0 need S.L (by omega) o.sh o.i64 o.pos (by omega)
  have : ∀ (l : List Prt) (a : Int), l.Pairwise (fun x y => x.p < y.p) → (∀ x ∈ l, a ≤ x.p ∧ x.p < (S.L.length : Int)) → (l.length : Int) ≤ max 0 ((S.L.length : Int) - a) := by
    intro l
    induction l with
    | nil => intro a _ _; simp; omega
    | cons x l ih =>
      intro a hp hh
      rw [List.pairwise_cons] at hp
      have h1 := hh x (List.mem_cons_self ..)
      have := ih (x.p + 1) hp.2 fun y hy => ⟨by have := hp.1 y hy; omega, (hh y (List.mem_cons_of_mem _ hy)).2⟩
      rw [List.length_cons]
      omega
  have := this _ 0 D.inc fun x hx => ⟨by have := (D.par x hx).1; omega, (D.par x hx).2.1⟩
  have := o.n8
  omega
section
variable {h0 h h' : Heap} {K : Value → Heap → Prop} {f : Frm} {g : RFr} {S : Ln}
theorem Frm.D_p (f : Frm) (n : Nat) : f.D n f.p = true := by unfold Frm.D; simp
theorem Frm.D_a {f : Frm} {n B : Nat} (h0 : 0 < n) (e : f.a = some ⟨B, 0, none⟩) : f.D n B = true := by unfold Frm.D; rw [e]; simp [h0]
theorem Frm.D_row (f : Frm) {n i : Nat} (hi : i < n) : f.D n (f.R i) = true := by
  have : ((List.range n).any fun j => f.R j == f.R i) = true := List.any_eq_true.2 ⟨i, List.mem_range.2 hi, by simp⟩
  unfold Frm.D; rw [this, Bool.or_true]
theorem LenAt.mv (A : LenAt h f S) (k : ∀ b xs, f.D S.L.length b = true → At h b xs → At h' b xs) : LenAt h' f S := by
  refine { A with ap := k _ _ (f.D_p _) A.ap, pr := ?_, row := fun i hi => k _ _ (f.D_row hi) (A.row i hi) }
  by_cases h0 : S.L.length = 0
  · exact .inl h0
  · obtain ⟨B, e, a⟩ := A.pr.resolve_left h0
    exact .inr ⟨B, e, k _ _ (Frm.D_a (by omega) e) a⟩
theorem LenAt.at (A : LenAt h f S) {x : Nat} (e : f.D S.L.length x = true) : ∃ xs, At h x xs := by
  rcases Frm.D_t e with rfl | ⟨h0, e2⟩ | ⟨i, hi, rfl⟩
  · exact ⟨_, A.ap⟩
  · obtain ⟨B, e3, a⟩ := A.pr.resolve_left (by omega)
    rw [e2] at e3; cases e3; exact ⟨_, a⟩
  · exact ⟨_, A.row i hi⟩
theorem keeps_wo {h1 : Heap} {D : Nat → Bool} (l : (h.wo D).le h1) {bs : List Nat} (e : ∀ b ∈ bs, D b = false) : Keeps bs h h1 := fun b hb y hy => l b y (by rw [wo_get (e b hb)]; exact hy)
variable {lp oq : Option Addr} {ln lc on oc : Nat}
/-- what is held against each other behind an operation -/
theorem does_1024 {x : Nat} {o : OpL} {j : Nat} (hln : S.L.length = ln) (k : ∀ h', h.le h' → L_law15_LenderDoes_0 lp ln lc oq on oc (some ⟨f.p, 0, none⟩) (some ⟨g.p, 0, none⟩) (IntKind.wrap .i64 ((j : Int) + 1)) h' K)
    (A : LenAt h f S) (B : RAt h g S) (Ax : At h x (opLV o)) : L_law15_LenderDoes_1024 lp ln lc oq on oc (some ⟨f.p, 0, none⟩) (some ⟨g.p, 0, none⟩) (j : Int) x h K := by
  refine L_law15_LenderDoes_1024r _ _ _ _ _ _ _ _ _ _ _ _ ?_
  unfold L_law15_LenderDoes_1024T
  refine S_nText A fun h1 l1 => ⟨_, rfl, S_rText (B.le l1) fun h2 l2 => ⟨_, rfl, Br.no (by rw [beq_self_eq_true]; rfl) ?_⟩⟩
  have l12 := Heap.le_trans l1 l2
  have A2 := A.le l12
  have B2 := B.le l12
  have Ax2 := Ax.le l12
  have kk := k h2 l12
  refine ⟨_, Ax2.cell rfl, _, Ax2.cell rfl, _, Ax2.cell rfl, _, Ax2.cell rfl, S_nLeft A2 ⟨_, rfl, .inl h2.le_refl, S_rLeft B2 ⟨_, rfl, Br.no (by simp) ⟨_, Ax2.cell rfl, _, Ax2.cell rfl, S_nFailed A2 ⟨_, rfl, .inl h2.le_refl, ?_⟩⟩⟩⟩⟩
  have hk : ¬ (0 ≤ o.p ∧ o.p < (S.L.length : Int)) → failedN S o.p = false := fun hh => by
    unfold failedN knownB
    rw [decide_eq_false hh, if_neg (by decide)]
  refine Br.dec (fun g1 => ⟨_, Ax2.cell rfl, Br.dec (fun g2 => ?_) fun g2 => ?_⟩) fun g1 => ?_
  · obtain ⟨i, hi⟩ : ∃ i : Nat, o.p = i := ⟨o.p.toNat, by omega⟩
    have hil : i < S.L.length := by omega
    obtain ⟨Bb, e, hb, _⟩ := B2.flag hil
    have hf : failedN S o.p = S.F.getD i false := by
      unfold failedN knownB
      rw [decide_eq_true (by omega), if_pos rfl, hi, Int.toNat_natCast]
    refine withAddr_intro rfl ⟨_, _, _, B2.flags, _, Ax2.cell rfl, g1, by omega, withAddr_intro e ⟨_, by rw [hi, Int.toNat_natCast]; exact hb, ?_⟩⟩
    rw [hf]
    exact Br.no (by simp) kk
  · rw [hk (by omega)]; exact Br.no rfl kk
  · rw [hk (by omega)]; exact Br.no rfl kk
variable (kg : ∀ h', h0.le h' → Ret h' K (.bool true))
include kg
theorem does_0 {l : List OpL} (O : OpsL h0 oq l) (hon : l.length = on) (hs : on ≤ 40) (hO : ∀ x ∈ l, OpLI x ∧ x.l.length ≤ 20) :
    ∀ (m j : Nat) (h : Heap) (S : Ln), m + j = on → h0.le h → LenAt h f S → RAt h g S → (∀ x, f.D ln x = true → h0 x = none) → (∀ x, g.D ln x = true → h0 x = none) → (∀ x, g.D ln x = true → f.D ln x = false) → S.L.length = ln →
    L_law15_LenderDoes_0 lp ln lc oq on oc (some ⟨f.p, 0, none⟩) (some ⟨g.p, 0, none⟩) (j : Int) h K
  | 0, j, h, S, hj, l0, A, B, ff, gf, dj, hln => by
    refine L_law15_LenderDoes_0r _ _ _ _ _ _ _ _ _ _ _ ?_
    unfold L_law15_LenderDoes_0T
    exact Br.yes rfl (Br.no (by simp; omega) (kg h l0))
  | m + 1, j, h, S, hj, l0, A, B, ff, gf, dj, hln => by
    refine L_law15_LenderDoes_0r _ _ _ _ _ _ _ _ _ _ _ ?_
    unfold L_law15_LenderDoes_0T
    have dj' : ∀ x, f.D ln x = true → g.D ln x = false := fun x hx => by
      cases hg : g.D ln x with
      | false => rfl
      | true => rw [dj x hg] at hx; cases hx
    have hx : l[j]? = some l[j] := List.getElem?_eq_getElem (by omega)
    have hmem : l[j] ∈ l := List.getElem_mem _
    generalize l[j] = x at *
    obtain ⟨I, hl20⟩ := hO x hmem
    have hd := doN_ok A.ok x
    unfold doN at hd
    refine Br.yes rfl (Br.yes (by simp; omega) (ax opLV_len (O.1.le l0) hon rfl hx (by omega) fun b o e r => ⟨_, r 0 (by omega), _, r 1 (by omega), _, r 2 (by omega), _, r 3 (by omega), _, _, _, r 4 (by omega), newB_cp (vs := opLV x) rfl fun r h2 hr l2 Ar st => ⟨st, _, Ar.cell rfl, ?_⟩⟩))
    have fr : f.D ln r = false := by rw [← hln]; exact A.at_D hr
    have gr : g.D ln r = false := by rw [← hln]; exact B.fresh hr
    show Br (x.d == 0) (∃ n_6, (h2.setN r 0 (opLV x)).cell r 1 = some (int IntKind.i64 n_6) ∧ _) _
    have l02 := Heap.le_trans l0 l2
    have A2 := A.le l2
    have B2 := B.le l2
    generalize hh3 : h2.setN r 0 (opLV x) = h3 at *
    have hh4 : h2.setN r 0 [int IntKind.i64 x.d, int IntKind.i64 x.c, int IntKind.i64 x.p, int IntKind.i64 x.need, slice x.q x.l.length x.qc] = h3 := hh3
    rw [hh4]
    have lw : h0.le (h3.wo (f.D ln)) := le_wo l02 ff
    have next : ∀ (h5 : Heap) (S' : Ln), h0.le h5 → LenAt h5 f S' → RAt h5 g S' → At h5 r (opLV x) → S'.L.length = ln → L_law15_LenderDoes_1024 lp ln lc oq on oc (some ⟨f.p, 0, none⟩) (some ⟨g.p, 0, none⟩) (j : Int) r h5 K := fun h5 S' l5 A5 B5 Ar5 hl5 => by
      refine does_1024 hl5 (fun h6 l6 => ?_) A5 B5 Ar5
      rw [w1 (by omega)]
      exact does_0 O hon hs hO m (j + 1) h6 S' (by omega) (Heap.le_trans l5 l6) (A5.le l6) (B5.le l6) ff gf dj hl5
    have B_thru : ∀ h5, (h3.wo (f.D ln)).le h5 → RAt h5 g S := fun h5 l5 => B2.mv fun b xs d a => (a.wo (dj b (by rw [← hln]; exact d))).le l5
    refine Br.intro (fun g => ?_) fun g => Br.intro (fun g2 => ?_) fun g2 => ?_
    · rw [if_pos (by simpa using g)] at hd
      refine ⟨_, Ar.cell rfl, _, Ar.cell rfl, S_nDraw (wo_le _ (f.D ln)) (by rw [hln]; exact Frm.fresh_wo _ _ _) A2 I.need fun h4 p4 c4 l4 A4 own4 dis4 => ⟨_, _, _, _, _, rfl, ?_⟩⟩
      have Ar4 : At h4 r (opLV x) := (Ar.wo fr).le l4
      have B4 := B_thru h4 l4
      have p4g : ∀ b o, p4 = some ⟨b, o, none⟩ → Go.Proofs.Ytkcogdmddhkldaa.RFr.D ‹RFr› ln b = false := fun b o e => by
        rcases own4 with ⟨_, q, _⟩ | ⟨s, sp, q, hs, _, _⟩
        · rw [q] at e; cases e
        · rw [q] at e; cases e
          cases hg : RFr.D ‹RFr› ln b with
          | false => rfl
          | true =>
            obtain ⟨xs, a⟩ := B2.at (by rw [hln]; exact hg)
            exact ((a.wo (dj b hg)).ne hs rfl).elim
      refine ⟨_, Ar4.cell rfl, _, Ar4.cell rfl, S_rDraw (wo_le _ (RFr.D ‹RFr› ln)) (fun y hy => wo_none (by rw [← hln]; exact hy)) B4 I.need fun h5 p5 c5 l5 B5 R5 _ _ => ⟨_, _, _, _, _, rfl, ?_⟩⟩
      have A5 : LenAt h5 f (drawN S x.c x.need).2.2.2 := A4.mv fun b xs d a => (a.wo (dj' b (by rw [← hln, ← drawN_len A.ok x.c x.need]; exact d))).le l5
      have Ar5 : At h5 r (opLV x) := (Ar4.wo gr).le l5
      have P5 : Pts h5 p4 (drawN S x.c x.need).1 := rdL_le l5 (rd_wo own4.rd p4g)
      have l05 : h0.le h5 := Heap.le_trans (le_wo (Heap.le_trans lw l4) gf) l5
      have hsm : (drawN S x.c x.need).1.length ≤ 1000 := by have := drawN_small A.ok x.c x.need; omega
      refine S_own15 P5 rfl hsm fun h6 p6 c6 l6 own6 => ⟨_, _, _, rfl, S_Same15 own6.rd (rdL_le l6 R5) rfl hsm ⟨_, rfl, Br.no rfl (Br.no (by simp) (Br.no (by simp) ?_))⟩⟩
      exact next h6 _ (Heap.le_trans l05 l6) (A5.le l6) (B5.le l6) (Ar5.le l6) (by rw [hd.2]; exact hln)
    · rw [if_neg (by simpa using g), if_pos (by simpa using g2)] at hd
      refine ⟨_, Ar.cell rfl, _, _, _, Ar.cell rfl, _, Ar.cell rfl, _, _, _, Ar.cell rfl, S_nGive (wo_le _ (f.D ln)) (by rw [hln]; exact Frm.fresh_wo _ _ _) A2 (rdL_le lw (O.2 x hmem)) rfl (by omega) I.l fun h4 l4 A4 => ⟨_, rfl, .inr (keeps_wo l4 fun b hb => ?_), ?_⟩⟩
      · simp only [List.mem_cons, List.not_mem_nil, or_false, or_self] at hb
        rw [hb]; exact fr
      have Ar4 : At h4 r (opLV x) := (Ar.wo fr).le l4
      have B4 := B_thru h4 l4
      have P4 := rdL_le (Heap.le_trans lw l4) (O.2 x hmem)
      refine S_own15 P4 rfl (by omega) fun h5 p5 c5 l5 own5 => ⟨_, _, _, rfl, .inl l5, ?_⟩
      have B5 := B4.le l5
      have p5g : ∀ b o, p5 = some ⟨b, o, none⟩ → RFr.D ‹RFr› ln b = false := fun b o e => by
        rcases own5 with ⟨_, q, _⟩ | ⟨s, sp, q, hs, _, _⟩
        · rw [q] at e; cases e
        · rw [q] at e; cases e
          rw [← hln]; exact B4.fresh hs
      refine S_rGive (wo_le _ (RFr.D ‹RFr› ln)) (fun y hy => wo_none (by rw [← hln]; exact hy)) B5 (rd_wo own5.rd p5g) rfl (by omega) I.l fun h6 l6 B6 => ⟨_, rfl, Br.no (by simp) ?_⟩
      have A6 : LenAt h6 f (giveN S x.c x.l).2 := (A4.le l5).mv fun b xs d a => (a.wo (dj' b (by rw [← hln, ← giveN_len A.ok x.c x.l]; exact d))).le l6
      have Ar6 : At h6 r (opLV x) := ((Ar4.le l5).wo gr).le l6
      exact next h6 _ (Heap.le_trans (le_wo (Heap.le_trans lw (Heap.le_trans l4 l5)) gf) l6) A6 B6 Ar6 (by rw [hd.2]; exact hln)
    · rw [if_neg (by simpa using g), if_neg (by simpa using g2)] at hd
      refine ⟨_, Ar.cell rfl, _, Ar.cell rfl, S_nFail (wo_le _ (f.D ln)) (by rw [hln]; exact Frm.fresh_wo _ _ _) A2 fun h4 l4 A4 => ⟨_, rfl, .inr (keeps_wo l4 fun b hb => ?_), ?_⟩⟩
      · rw [List.mem_singleton] at hb
        rw [hb]; exact fr
      have Ar4 : At h4 r (opLV x) := (Ar.wo fr).le l4
      have B4 := B_thru h4 l4
      refine S_rFail (wo_le _ (RFr.D ‹RFr› ln)) (fun y hy => wo_none (by rw [← hln]; exact hy)) B4 fun h6 l6 B6 => ⟨_, rfl, Br.no (by simp) ?_⟩
      have A6 : LenAt h6 f (failN S x.p).2 := A4.mv fun b xs d a => (a.wo (dj' b (by rw [← hln, ← failN_len (S := S) x.p]; exact d))).le l6
      have Ar6 : At h6 r (opLV x) := (Ar4.wo gr).le l6
      exact next h6 _ (Heap.le_trans (le_wo (Heap.le_trans lw l4) gf) l6) A6 B6 Ar6 (by rw [hd.2]; exact hln)
end
theorem law15_LenderDoes_ok {h : Heap} {lp : Option Addr} {ln lc : Nat} (HL : netSh.Has h [.slice lp ln lc]) {cu : Int} (hcu : I64 cu) {q : Option Addr} {n qc : Nat} (HO : opsLSh.Has h [.slice q n qc]) :
    CallA Try.prog fn_law15_LenderDoes [slice lp ln lc, .int .i64 cu, slice q n qc] h fun v h' => v = .bool true ∧ h.le h' := by
  obtain ⟨hmax, NL, hNL, X, hI, hXl⟩ := nets_of HL
  obtain ⟨hmax2, l, hl, O, hO⟩ := opsL_of HO
  refine F_law15_LenderDoes _ _ _ _ _ _ _ _ _ ?_
  unfold F_law15_LenderDoesT
  have kg : ∀ h', h.le h' → Ret h' (fun v h' => v = .bool true ∧ h.le h') (.bool true) := fun h' l' => Ret.mk ⟨rfl, l'⟩
  refine S_law15_awake fun h1 l1 => ⟨_, rfl, Br.no rfl (S_large15 (X.le l1) hNL (O.le l1) hl hmax hmax2 fun b hb => ⟨_, rfl, ?_⟩)⟩
  cases b with
  | true => exact Br.yes rfl (kg h1 l1)
  | false =>
    obtain ⟨b1, b2, b3, b4⟩ := hb rfl
    have hM : (mxOf NL).length = ln := by unfold mxOf; rw [List.length_map, hNL]
    have X1 := X.le l1
    refine Br.no rfl (S_nNew X1 hNL (by omega) hI (fun x hx => by have := b2 x hx; omega) (fun hne h2 l2 => ⟨_, _, rfl, ?_⟩) fun he w ew h2 f l2 A fr => ⟨_, _, rfl, ?_⟩)
    · refine S_rNew (X1.le l2) hNL (by omega) hI (fun _ h3 l3 => ⟨_, _, rfl, Br.no (by simp) (Br.no rfl ?_)⟩) fun he => absurd he hne
      refine L_law15_LenderDoes_0r _ _ _ _ _ _ _ _ _ _ _ ?_
      unfold L_law15_LenderDoes_0T
      exact Br.no rfl (kg h3 (Heap.le_trans l1 (Heap.le_trans l2 l3)))
    · refine S_rNew (X1.le l2) hNL (by omega) hI (fun hne => absurd he hne) fun _ w' ew' h3 g l3 B gr => ⟨_, _, rfl, Br.no rfl (Br.no rfl ?_)⟩
      have : w' = w := by omega
      subst this
      have A3 := A.le l3
      refine does_0 (h0 := h1) (fun h' l' => kg h' (Heap.le_trans l1 l')) (O.le l1) hl b3 (fun x hx => ⟨(hO x hx).1, b4 x hx⟩) n 0 h3 _ (by omega) (Heap.le_trans l2 l3) A3 B (fun x hx => ?_) (fun x hx => none_of_le l2 (gr x hx)) (fun x hx => ?_) hM
      · rcases Frm.D_t hx with rfl | ⟨h0, e⟩ | ⟨i, hi, rfl⟩
        · exact fr.p
        · exact fr.a x e h0
        · exact fr.r i hi
      · cases hf : f.D ln x with
        | false => rfl
        | true =>
          obtain ⟨xs, a⟩ := A.at (x := x) (by rw [← hM] at hf; exact hf)
          exact (a.ne (gr x hx) rfl).elim
end Go.Proofs.Ytkcogdmddhkldaa
