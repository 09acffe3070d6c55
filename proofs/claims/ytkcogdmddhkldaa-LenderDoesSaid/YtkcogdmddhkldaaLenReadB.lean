/- Providers, read from their bytes: the walk. -/
import Derived.Test.YtkcogdmddhkldaaLenRead
namespace Go.Proofs.Ytkcogdmddhkldaa
open Go Go.Sy Go.Value
set_option linter.unusedVariables false
set_option linter.unusedSimpArgs false

theorem pRow_snoc : ∀ (i : Nat) (l : List Int), pRow (i + 1) l = pRow i l ++ [decL 0 ((l.drop (8 * i)).take 8)]
  | 0, l => rfl
  | i + 1, l => by
    rw [pRow, pRow_snoc i, pRow, List.drop_drop, show 8 + 8 * i = 8 * (i + 1) by omega]; rfl
theorem ec8 (c : UInt8) : IntKind.wrap .i64 (c.toNat : Int) = (c.toNat : Int) := by
  have := c.toNat_lt
  exact wrap_i64_id (by omega) (by omega)
theorem repL_ints (n : Nat) : repL n [Value.int .i64 0] = intsV .i64 (List.replicate n 0) := by
  induction n with
  | zero => rfl
  | succ n ih => rw [List.replicate_succ, intsV, ← ih]; rfl
theorem RdI.set {h0 h : Heap} {rest o Rw : Nat} {ws : List Value} {lp fp : Option Addr} {lc fc : Nat} {NL : List NRow} {FB : List Bool} {s : ByteArray} (I : RdI h0 h rest lp lc fp fc NL FB s) (nR : h0 Rw = none) (n1 : lp ≠ some ⟨Rw, 0, none⟩) (n2 : fp ≠ some ⟨Rw, 0, none⟩) (n3 : Rw ≠ rest) (n4 : ∀ x ∈ NL, x.p ≠ some ⟨Rw, 0, none⟩) :
    RdI h0 (h.setN Rw o ws) rest lp lc fp fc NL FB s :=
  ⟨le_setN I.base nR, I.ar.set_ne n3.symm, I.nr, I.ol.set_ne n1, I.fl.set_ne n2, fun x hx => let ⟨r, e1, e2, e3, e4, e5⟩ := I.rows x hx; ⟨r, e1, e2.set_ne (fun e => n4 x hx (by rw [e1, e])), e3, e4, e5⟩, I.d1, I.d2, I.d3⟩
section
variable {h0 : Heap} {K : Value → Heap → Prop} {n w : Nat} {R : Option Ln} (k0 : ∀ h', h0.le h' → R = none → K (tuple #[.pointer none, .int .i64 2]) h')
  (k1 : ∀ h' f S, h0.le h' → R = some S → LenAt h' f S → Fresh h0 f S.L.length → K (tuple #[.pointer (some ⟨f.p, 0, none⟩), .int .i64 0]) h')
/-- one row -/
theorem rd_1 {rest : Nat} {text : ByteArray} {lp fp : Option Addr} {lc fc : Nat} {NL : List NRow} {FB : List Bool} {Rw ln fn : Nat} {t38 : Int} {B0 : List Int} (hB : 8 * w ≤ B0.length) (w255 : w ≤ 255) (n1 : lp ≠ some ⟨Rw, 0, none⟩) (n2 : fp ≠ some ⟨Rw, 0, none⟩) (n3 : Rw ≠ rest) (hln : NL.length = ln) (hl2 : ln ≤ 1000) (nR : h0 Rw = none) (n4 : ∀ x ∈ NL, x.p ≠ some ⟨Rw, 0, none⟩)
    (k : ∀ h' lp' lc' s', RdI h0 h' rest lp' lc' fp fc (NL ++ [⟨some ⟨Rw, 0, none⟩, w, pRow w B0⟩]) FB s' → bytesI s' = B0.drop (8 * w) → L_lender_Read_0 text rest lp' (ln + 1) lc' fp fn fc rest (n : Int) (IntKind.wrap .i64 (t38 + 1)) h' K) :
    ∀ (m i : Nat) (h : Heap) (s : ByteArray), m + i = w → RdI h0 h rest lp lc fp fc NL FB s → At h Rw (intsV .i64 (pRow i B0 ++ List.replicate m 0)) → bytesI s = B0.drop (8 * i) →
    L_lender_Read_1 text rest lp ln lc fp fn fc rest (some ⟨Rw, 0, none⟩) w w (n : Int) t38 (w : Int) (i : Int) h K
  | 0, i, h, s, hi, I, A, e => by
    refine L_lender_Read_1r _ _ _ _ _ _ _ _ _ _ _ _ _ _ _ _ _ _ ?_
    unfold L_lender_Read_1T
    have hiw : i = w := by omega
    subst hiw
    rw [List.replicate_zero, List.append_nil] at A
    refine Br.no (by simp) (push1 I.ol (by decide) I.base (by omega) rfl rfl (by rw [netV_length, hln]; simp) fun r h1 p' c' h' hr l1 l' w' keep how => ?_)
    have hrow := pRow_len i B0
    have w2 : OwnL h0 h' zSl p' c' (netV NL ++ netV [⟨some ⟨Rw, 0, none⟩, i, pRow i B0⟩]) := by
      rw [show netV [(⟨some ⟨Rw, 0, none⟩, i, pRow i B0⟩ : NRow)] = [slice (some ⟨Rw, 0, none⟩) (pRow i B0).length i] from rfl, hrow]
      exact w'
    exact k h' p' c' s ((I.le l1).pushL rfl (A.le l1) n1 n2 n3 l' w2 keep how) e
  | m + 1, i, h, s, hi, I, A, e => by
    refine L_lender_Read_1r _ _ _ _ _ _ _ _ _ _ _ _ _ _ _ _ _ _ ?_
    unfold L_lender_Read_1T
    have hs : 8 ≤ s.size := by rw [← bytesI_length, e, List.length_drop]; omega
    refine Br.yes (by simp; omega) (S_take (g := h.del rest) (del_le _ _) (del_same _ _) I.ar hs fun h' s' l' A' e' => ⟨_, rfl, by omega, by omega, withAddr_intro rfl ?_⟩)
    have At' : At h' Rw (intsV .i64 (pRow i B0 ++ List.replicate (m + 1) 0)) := (A.del n3).le l'
    have l0' : h0.le h' := Heap.le_trans (le_del I.base I.nr) l'
    have hpl := pRow_len i B0
    have I2 : RdI h0 h' rest lp lc fp fc NL FB s' := I.mv l0' A' fun b xs hb a => (a.del hb).le l'
    refine ⟨At'.canSt (by rw [intsV_length, List.length_append, hpl, List.length_replicate]; simp), ?_⟩
    rw [w1 (by omega), Int.toNat_natCast, Nat.zero_add, e]
    have A2 := At'.set (o := i) (ws := [.int .i64 (decL 0 ((B0.drop (8 * i)).take 8))])
    have e2 : setL (intsV .i64 (pRow i B0 ++ List.replicate (m + 1) 0)) i [.int .i64 (decL 0 ((B0.drop (8 * i)).take 8))] = intsV .i64 (pRow (i + 1) B0 ++ List.replicate m 0) := by
      have := setL_end [.int .i64 (decL 0 ((B0.drop (8 * i)).take 8))] (intsV .i64 (pRow i B0)) (intsV .i64 (List.replicate (m + 1) 0)) (by rw [intsV_length, List.length_replicate]; simp)
      rw [intsV_length, hpl, ← intsV_append] at this
      rw [this, pRow_snoc, List.replicate_succ]
      simp only [intsV_append, intsV, List.append_assoc, List.cons_append, List.nil_append, List.length_cons, List.length_nil, List.drop_succ_cons, List.drop_zero]
    rw [e2] at A2
    refine rd_1 hB w255 n1 n2 n3 hln hl2 nR n4 k m (i + 1) _ s' (by omega) (I2.set nR n1 n2 n3 n4) A2 (by rw [e', e, List.drop_drop, Nat.mul_succ])
include k1
theorem rd_2 {g : Heap} (hg : h0.le g) {f : Frm} {M : Mx} (hM : M.length = n) (fr : Fresh g f n) {FB : List Bool} (hF : FB.length = n) (hR : R = some ⟨M, FB, w⟩) {fp : Option Addr} {fc : Nat} (I : rdL g fp (boolV FB)) :
    ∀ (m j : Nat) (h : Heap) (F : List Bool), m + j = n → g.le h → LenAt h f ⟨M, F, w⟩ → (∀ i, i < j → F[i]? = FB[i]?) → L_lender_Read_2 (some ⟨f.p, 0, none⟩) fp n fc (n : Int) (j : Int) h K
  | 0, j, h, F, hj, l0, A, e => by
    refine L_lender_Read_2r _ _ _ _ _ _ _ _ ?_
    unfold L_lender_Read_2T
    have hf := A.ok.fl
    have hf : F.length = M.length := hf
    have : F = FB := List.ext_getElem? fun i => by
      by_cases hi : i < n
      · exact e i (by omega)
      · rw [List.getElem?_eq_none (by omega), List.getElem?_eq_none (by omega)]
    subst this
    refine Br.no (by simp; omega) (Ret.mk (k1 h f _ (Heap.le_trans hg l0) hR A ⟨none_of_le hg fr.p, fun B e hn => none_of_le hg (fr.a B e (by rw [← hM]; exact hn)), fun i hi => none_of_le hg (fr.r i (by rw [← hM]; exact hi))⟩))
  | m + 1, j, h, F, hj, l0, A, e => by
    refine L_lender_Read_2r _ _ _ _ _ _ _ _ ?_
    unfold L_lender_Read_2T
    have hf := A.ok.fl
    have hf : F.length = M.length := hf
    have n8 := A.ok.n8
    have n8 : M.length ≤ 8 := n8
    have hx : FB[j]? = some FB[j] := List.getElem?_eq_getElem (by omega)
    obtain ⟨B, eB, _⟩ := A.prov (i := j) (by show j < M.length; omega)
    have hin : (j : Int) < (M.length : Int) := by omega
    rcases I with e2 | ⟨b, o, e2, r⟩
    · have := congrArg List.length e2
      rw [boolV_len, List.length_nil] at this
      omega
    · refine Br.yes (by simp; omega) ⟨by omega, by omega, withAddr_intro e2 ⟨FB[j], ?_, withAddr_intro rfl ⟨_, _, _, A.provs, by omega, hin, withAddr_intro eB ⟨A.stF (i := j) (by show j < M.length; omega) eB, ?_⟩⟩⟩⟩
      · rw [Int.toNat_natCast]
        refine cell_le l0 ?_
        rw [r j (by rw [boolV_len]; omega)]
        unfold boolV
        rw [List.getElem?_map, hx]; rfl
      · rw [w1 (by omega), Int.toNat_natCast]
        refine rd_2 hg hM fr hF hR (.inr ⟨b, o, e2, r⟩) m (j + 1) _ (F.set j FB[j]) (by omega) (le_setN l0 (fr.a B eB (by omega))) (A.wrF (S := ⟨M, F, w⟩) (by show j < M.length; omega) eB) fun i hi => ?_
        rw [List.getElem?_set]
        by_cases h2 : j = i
        · subst h2
          rw [if_pos rfl, if_pos (by omega), hx]
        · rw [if_neg h2]; exact e i (by omega)
include k0
theorem rd_fin {rest : Nat} {h : Heap} {lp fp : Option Addr} {lc fc : Nat} {NL : List NRow} {FB : List Bool} {s : ByteArray} (I : RdI h0 h rest lp lc fp fc NL FB s) (hn : NL.length = n) (hf : FB.length = n) (n255 : n ≤ 255) (w255 : w ≤ 255)
    (hr : ∀ x ∈ NL, x.l.length = w ∧ ∀ v ∈ x.l, I64 v) (hR : R = if newE (mxOf NL) (w : Int) ≠ 0 then none else some ⟨mxOf NL, FB, w⟩) :
    CallA Try.prog fn_lender_New [slice lp n lc, .int .i64 (w : Int)] h fun (v : Value) (h : Heap) => ∃ (a : Option Addr), ∃ (n_1 : Int), v = tuple #[pointer a, .int .i64 n_1] ∧ Br (n_1 != 0) (Ret h K (tuple #[pointer none, .int .i64 2])) (L_lender_Read_2 a fp n fc (n : Int) 0 h K) := by
  have hM : (mxOf NL).length = n := by unfold mxOf; rw [List.length_map, hn]
  refine S_nNew I.nets hn (by omega) (fun x hx => (hr x hx).2) (fun x hx => by rw [(hr x hx).1]; omega) (fun hne h' l' => ⟨_, _, rfl, ?_⟩) fun he w' ew h' f l' A fr => ⟨_, _, rfl, ?_⟩
  · rw [if_pos hne] at hR
    exact Br.yes (by simpa using hne) (Ret.mk (k0 h' (Heap.le_trans I.base l') hR))
  · have : w' = w := by omega
    subst this
    rw [if_neg (by simpa using he)] at hR
    exact Br.no rfl (rd_2 k1 I.base hM fr hf hR I.fl.rd n 0 h' _ (by omega) l' A fun i hi => by omega)
theorem rd_0 {rest : Nat} {text : ByteArray} {c1 : UInt8} (hc1 : text[1]? = some c1) (ew : (c1.toNat : Int) = (w : Int)) (n255 : n ≤ 255) (w255 : w ≤ 255) {res : Option (List Bool × Mx)}
    (hR : R = match res with
      | none => none
      | some p => if newE p.2 (w : Int) ≠ 0 then none else some ⟨p.2, p.1, w⟩) :
    ∀ (m j : Nat) (h : Heap) (lp : Option Addr) (lc : Nat) (fp : Option Addr) (fc : Nat) (NL : List NRow) (FB : List Bool) (s : ByteArray), m + j = n → RdI h0 h rest lp lc fp fc NL FB s → NL.length = j → FB.length = j →
      (∀ x ∈ NL, x.l.length = w ∧ ∀ v ∈ x.l, I64 v) → (bytesI s).length = m * (1 + 8 * w) → ((pAll w m (bytesI s)).map fun p => (FB ++ p.1, mxOf NL ++ p.2)) = res →
      L_lender_Read_0 text rest lp j lc fp j fc rest (n : Int) (j : Int) h K
  | 0, j, h, lp, lc, fp, fc, NL, FB, s, hj, I, hn, hf, hr, hl, e => by
    refine L_lender_Read_0r _ _ _ _ _ _ _ _ _ _ _ _ _ ?_
    unfold L_lender_Read_0T
    rw [pAll, Option.map_some, List.append_nil, List.append_nil] at e
    subst e
    have hjn : j = n := by omega
    subst hjn
    refine Br.no (by simp) ⟨by omega, c1, hc1, ?_⟩
    rw [ec8, ew]
    exact rd_fin k0 k1 I hn hf n255 w255 hr hR
  | m + 1, j, h, lp, lc, fp, fc, NL, FB, s, hj, I, hn, hf, hr, hl, e => by
    refine L_lender_Read_0r _ _ _ _ _ _ _ _ _ _ _ _ _ ?_
    unfold L_lender_Read_0T
    rw [Nat.succ_mul] at hl
    rw [bytesI_length] at hl
    obtain ⟨c, hc, hb⟩ := str_get s (i := 0) (by omega)
    have hg : (bytesI s).getD 0 0 = (c.toNat : Int) := by rw [List.getD_eq_getElem?_getD, hb]; rfl
    rw [pAll, hg] at e
    refine Br.yes (by simp; omega) ⟨s, I.ar.cell rfl, by omega, c, hc, Br.dec (fun g => ?_) fun g => ?_⟩
    · rw [if_pos g] at e
      subst e
      exact Ret.mk (k0 h I.base hR)
    · rw [if_neg g] at e
      refine ⟨s, I.ar.cell rfl, by omega, c, hc, push1 I.fl (by decide) I.base (by omega) rfl rfl (by rw [boolV_len, hf]; simp) fun r h1 p' c' h2 hr1 l1 l2 w2 keep how => ?_⟩
      have I2 := (I.le l1).pushF l2 w2 keep how
      refine ⟨s, I2.ar.cell rfl, by omega, by omega, I2.ar.canSt (by simp), by omega, c1, hc1, ?_⟩
      rw [ec8, ew, Int.toNat_natCast]
      have es : bytesI (s.extract 1 s.size) = (bytesI s).drop 1 := by rw [bytesI_extract, List.take_of_length_le (by rw [bytesI_length]; exact Nat.le_refl _)]
      have A3 : At (h2.setN rest 0 [.string (s.extract 1 s.size)]) rest [.string (s.extract 1 s.size)] := I2.ar.set
      have I3 : RdI h0 (h2.setN rest 0 [.string (s.extract 1 s.size)]) rest lp lc p' c' NL (FB ++ [(c.toNat : Int) == 1]) (s.extract 1 s.size) := I2.mv (le_setN l2 I.nr) A3 fun b xs hb a => a.set_ne hb
      generalize h2.setN rest 0 [.string (s.extract 1 s.size)] = h3 at *
      refine ⟨by omega, by omega, by omega, by omega, newB_at fun Rw h4 hR4 l4 A4 => ?_⟩
      have I4 := I3.le l4
      rw [repL_ints] at A4
      have hB : 8 * w ≤ ((bytesI s).drop 1).length := by rw [List.length_drop, bytesI_length]; omega
      refine rd_1 (NL := NL) (FB := FB ++ [(c.toNat : Int) == 1]) (B0 := (bytesI s).drop 1) hB w255 (I3.ol.fresh hR4) (I3.fl.fresh hR4) (fun e => by rw [e] at hR4; exact I3.ar.ne hR4 rfl) hn (by omega) (none_of_le I3.base hR4) (fun x hx e2 => ?_) (fun h5 lp5 lc5 s5 I5 e5 => ?_) w 0 h4 _ (by omega) I4 (by rw [pRow, List.nil_append]; exact A4) (by rw [es, Nat.mul_zero, List.drop_zero])
      · obtain ⟨r', q1, q2, _⟩ := I3.rows x hx
        rw [q1] at e2; cases e2
        exact q2.ne hR4 rfl
      · rw [w1 (by omega)]
        refine rd_0 hc1 ew n255 w255 hR m (j + 1) h5 lp5 lc5 p' c' _ _ s5 (by omega) I5 (by rw [List.length_append, hn]; rfl) (by rw [List.length_append, hf]; rfl) (fun x hx => ?_) (by rw [e5, List.length_drop, List.length_drop, bytesI_length]; omega) ?_
        · rcases List.mem_append.1 hx with hx | hx
          · exact hr x hx
          · rw [List.mem_singleton] at hx
            subst hx
            exact ⟨pRow_len _ _, pRow_I64 _ _⟩
        · rw [e5, List.drop_drop, ← e, Option.map_map]
          congr 1
          funext p
          simp [Function.comp, mxOf]
end
theorem S_nRead {h : Heap} {K : Value → Heap → Prop} {s : ByteArray} (k0 : ∀ h', h.le h' → readN (bytesI s) = none → K (tuple #[.pointer none, .int .i64 2]) h')
    (k1 : ∀ h' f S, h.le h' → readN (bytesI s) = some S → LenAt h' f S → Fresh h f S.L.length → K (tuple #[.pointer (some ⟨f.p, 0, none⟩), .int .i64 0]) h') : CallA Try.prog fn_lender_Read [string s] h K := by
  refine F_lender_Read _ _ _ ?_
  unfold F_lender_ReadT
  have hlen := bytesI_length s
  refine Br.dec (fun g => Ret.mk (k0 h h.le_refl (by unfold readN; rw [if_pos (by omega)]))) fun g => ?_
  obtain ⟨c, hc, hb⟩ := str_get s (i := 0) (by omega)
  obtain ⟨c1, hc1, hb1⟩ := str_get s (i := 1) (by omega)
  have hg : (bytesI s).getD 0 0 = (c.toNat : Int) := by rw [List.getD_eq_getElem?_getD, hb]; rfl
  have hg1 : (bytesI s).getD 1 0 = (c1.toNat : Int) := by rw [List.getD_eq_getElem?_getD, hb1]; rfl
  have q := c.toNat_lt
  have q1 := c1.toNat_lt
  refine ⟨by omega, c, hc, by omega, c1, hc1, ?_⟩
  have hmul : c.toNat * (1 + 8 * c1.toNat) ≤ 256 * 2049 := Nat.mul_le_mul (by omega) (by omega)
  have ewr : IntKind.wrap .i64 (2 + IntKind.wrap .i64 (IntKind.wrap .i64 (c.toNat : Int) * IntKind.wrap .i64 (1 + IntKind.wrap .i64 (8 * IntKind.wrap .i64 (c1.toNat : Int))))) = ((2 + c.toNat * (1 + 8 * c1.toNat) : Nat) : Int) := by
    rw [ec8, ec8, wrap_i64_id (n := 8 * (c1.toNat : Int)) (by omega) (by omega), wrap_i64_id (n := 1 + 8 * (c1.toNat : Int)) (by omega) (by omega)]
    have e : (c.toNat : Int) * (1 + 8 * (c1.toNat : Int)) = ((c.toNat * (1 + 8 * c1.toNat) : Nat) : Int) := by simp
    rw [e, wrap_i64_id (n := ((c.toNat * (1 + 8 * c1.toNat) : Nat) : Int)) (by omega) (by omega), wrap_i64_id (by omega) (by omega)]; omega
  rw [ewr]
  have hR : readN (bytesI s) = if s.size ≠ 2 + c.toNat * (1 + 8 * c1.toNat) then none else match pAll c1.toNat c.toNat ((bytesI s).drop 2) with
      | none => none
      | some p => if newE p.2 (c1.toNat : Int) ≠ 0 then none else some ⟨p.2, p.1, c1.toNat⟩ := by
    unfold readN
    rw [if_neg (by omega), hg, hg1, hlen]
    simp only [Int.toNat_natCast]
    split <;> rfl
  refine Br.intro (fun g2 => ?_) fun g2 => ?_
  · have g2 : s.size ≠ 2 + c.toNat * (1 + 8 * c1.toNat) := by
      have := (show ((s.size : Int) != ((2 + c.toNat * (1 + 8 * c1.toNat) : Nat) : Int)) = true from g2)
      simp only [bne_iff_ne] at this; omega
    rw [if_pos g2] at hR
    exact Ret.mk (k0 h h.le_refl hR)
  · have g2 : s.size = 2 + c.toNat * (1 + 8 * c1.toNat) := by
      have := (show ((s.size : Int) != ((2 + c.toNat * (1 + 8 * c1.toNat) : Nat) : Int)) = false from g2)
      simp only [bne_eq_false_iff_eq] at this; omega
    rw [if_neg (by simpa using g2)] at hR
    refine ⟨by omega, by omega, newB_cp (vs := [.string (s.extract 2 s.size)]) rfl fun r h1 hr l1 Ar st => ⟨st, by omega, c, hc, ?_⟩⟩
    rw [ec8]
    have es : bytesI (s.extract 2 s.size) = (bytesI s).drop 2 := by rw [bytesI_extract, List.take_of_length_le (by rw [hlen]; exact Nat.le_refl _)]
    refine rd_0 k0 k1 hc1 rfl (by omega) (by omega) hR c.toNat 0 _ none 0 none 0 [] [] _ (by omega) ⟨l1, Ar, hr, OwnL.nil _ _ _, OwnL.nil _ _ _, fun x hx => (by cases hx), fun e => (by cases e), fun e => (by cases e), fun r e => (by cases e)⟩ rfl rfl (fun x hx => by cases hx) (by rw [es, List.length_drop, hlen]; omega) ?_
    rw [es]
    cases pAll c1.toNat c.toNat ((bytesI s).drop 2) with
    | none => rfl
    | some p => simp [mxOf]
end Go.Proofs.Ytkcogdmddhkldaa
