/- The reference's providers, read from bytes. -/
import Derived.Test.YtkcogdmddhkldaaLenRefC
namespace Go.Proofs.Ytkcogdmddhkldaa
open Go Go.Sy Go.Value
set_option linter.unusedVariables false
set_option linter.unusedSimpArgs false

theorem rawL_snoc : ∀ (l : List Int) (a b : Int), rawL a (l ++ [b]) = rawL a l * 256 + b
  | [], a, b => rfl
  | x :: l, a, b => by rw [List.cons_append, rawL, rawL_snoc l, rawL]
theorem dec_raw {l : List Int} : IntKind.wrap .i64 (rawL 0 l % 18446744073709551616) = decL 0 l := by
  obtain ⟨k, hk⟩ := decL_raw l 0
  have h := decL_I64 l 0 I64_0
  unfold I64 at h
  rw [wrap_i64]
  omega
theorem RwB.mv {h0 h h' : Heap} {a : Option Addr} {C w : Nat} {R CC : Nat → Nat} {SP : Nat → List Value} {M : Mx} (I : RwB h0 h a C R CC SP M w) (l : h0.le h') (k : ∀ b xs, (a = some ⟨b, 0, none⟩ ∨ ∃ i, i < M.length ∧ R i = b) → At h b xs → At h' b xs) : RwB h0 h' a C R CC SP M w :=
  { I with base := l, own := I.own.mv fun b xs e a => k b xs (.inl e) a, row := fun i hi => k _ _ (.inr ⟨i, hi, rfl⟩) (I.row i hi) }
structure RRd (h0 h : Heap) (a : Option Addr) (C : Nat) (R CC : Nat → Nat) (SP : Nat → List Value) (M : Mx) (w : Nat) (fp : Option Addr) (fc : Nat) (FB : List Bool) : Prop where
  rb : RwB h0 h a C R CC SP M w
  fl : OwnL h0 h [.bool false] fp fc (boolVs FB)
  d1 : ∀ r, a = some ⟨r, 0, none⟩ → fp ≠ some ⟨r, 0, none⟩
  d2 : ∀ i, i < M.length → fp ≠ some ⟨R i, 0, none⟩
section
variable {h0 h h' : Heap} {a : Option Addr} {C w : Nat} {R CC : Nat → Nat} {SP : Nat → List Value} {M : Mx} {fp : Option Addr} {fc : Nat} {FB : List Bool}
theorem RRd.le (I : RRd h0 h a C R CC SP M w fp fc FB) (l : h.le h') : RRd h0 h' a C R CC SP M w fp fc FB := ⟨I.rb.le l, I.fl.le l, I.d1, I.d2⟩
theorem RRd.pushF (I : RRd h0 h a C R CC SP M w fp fc FB) {fp' : Option Addr} {fc' : Nat} {b : Bool} (l : h0.le h') (w' : OwnL h0 h' [.bool false] fp' fc' (boolVs FB ++ [.bool b]))
    (keep : ∀ b y, h b = some y → fp ≠ some ⟨b, 0, none⟩ → h' b = some y) (how : fp' = fp ∨ ∃ s, fp' = some ⟨s, 0, none⟩ ∧ h s = none) : RRd h0 h' a C R CC SP M w fp' fc' (FB ++ [b]) := by
  refine ⟨I.rb.mv l fun b xs e aa => keepAt keep aa ?_, by unfold boolVs; rw [List.map_append]; exact w', fun r e => ?_, fun i hi => push_ne how (I.rb.row i hi) (I.d2 i hi)⟩
  · rcases e with e | ⟨i, hi, e⟩
    · exact I.d1 b e
    · rw [← e]; exact I.d2 i hi
  · rcases I.rb.own with ⟨_, q, _⟩ | ⟨r', sp, q, _, aa, _⟩
    · rw [q] at e; cases e
    · rw [q] at e; cases e
      exact push_ne how aa (I.d1 r q)
end
section
variable {h0 : Heap} {K : Value → Heap → Prop} {s : ByteArray} {w n : Nat} {c1 : UInt8} (hc1 : s[1]? = some c1) (ew : (c1.toNat : Int) = (w : Int)) (w255 : w ≤ 255)
include hc1 ew w255
theorem rr_1 {hr : Heap} {a : Option Addr} {C ln fn fc t : Nat} {fp : Option Addr} {p : Int} (ht : t + 8 * w ≤ s.size) (hsz : s.size ≤ 1000000) 
    (k : ∀ h' r sp rc, hr.le h' → hr r = none → At h' r (intsV .i64 (pRow w ((bytesI s).drop t)) ++ sp) →
      newB h' [.slice (some ⟨r, 0, none⟩) w rc] 36 fun (r : Nat) (h : Heap) => AppA [slice none 0 0] 36 h a ln C 1 (some { block := r, off := 0 }) fun (ap : Option Addr) (cp : Nat) (h : Heap) => L_ref15_Read_0 s ap (ln + 1) cp fp fn fc ((t + 8 * w : Nat) : Int) (IntKind.wrap IntKind.i64 (p + 1)) h K) :
    ∀ (m c : Nat) (h : Heap) (r rc : Nat) (sp : List Value), m + c = w → hr.le h → hr r = none → At h r (intsV .i64 (pRow c ((bytesI s).drop t)) ++ sp) → rc * 1 = (intsV .i64 (pRow c ((bytesI s).drop t)) ++ sp).length →
    L_ref15_Read_1 s a ln C fp fn fc ((t + 8 * c : Nat) : Int) p (some ⟨r, 0, none⟩) c rc (c : Int) h K
  | 0, c, h, r, rc, sp, hc, l0, nr, A, hcap => by
    refine L_ref15_Read_1r _ _ _ _ _ _ _ _ _ _ _ _ _ _ _ ?_
    unfold L_ref15_Read_1T
    have hcw : c = w := by omega
    subst hcw
    refine ⟨by omega, c1, hc1, ?_⟩
    rw [ec8, ew]
    exact Br.no (by simp) (k h r sp rc l0 nr A)
  | m + 1, c, h, r, rc, sp, hc, l0, nr, A, hcap => by
    refine L_ref15_Read_1r _ _ _ _ _ _ _ _ _ _ _ _ _ _ _ ?_
    unfold L_ref15_Read_1T
    refine ⟨by omega, c1, hc1, ?_⟩
    rw [ec8, ew]
    have hbl := bytesI_length s
    have main : ∀ (q d : Nat) (nn : Int), q + d = 8 → nn = rawL 0 (((bytesI s).drop (t + 8 * c)).take d) % 18446744073709551616 → L_ref15_Read_2 s a ln C fp fn fc ((t + 8 * c : Nat) : Int) p (some ⟨r, 0, none⟩) c rc (c : Int) nn ((t + 8 * c + d : Nat) : Int) h K := by
      intro q
      induction q with
      | zero =>
        intro d nn hd hnn
        refine L_ref15_Read_2r _ _ _ _ _ _ _ _ _ _ _ _ _ _ _ _ _ ?_
        unfold L_ref15_Read_2T
        have hd8 : d = 8 := by omega
        subst hd8
        rw [wrap_i64_id (n := ((t + 8 * c : Nat) : Int) + 8) (by omega) (by omega)]
        have hpl := pRow_len c ((bytesI s).drop t)
        refine Br.no (by simp) ?_
        rw [hnn, dec_raw, w1 (by omega)]
        have own : OwnL hr h [.int .i64 0] (some ⟨r, 0, none⟩) rc (intsV .i64 (pRow c ((bytesI s).drop t))) := .inr ⟨r, sp, rfl, nr, A, hcap⟩
        refine push1 own (by decide) l0 (by omega) rfl rfl (by rw [intsV_length, hpl]; simp) fun r2 h1 p' c' h' hr2 l1 l' w' keep how => ?_
        have e1 : intsV .i64 (pRow c ((bytesI s).drop t)) ++ [.int .i64 (decL 0 (((bytesI s).drop (t + 8 * c)).take 8))] = intsV .i64 (pRow (c + 1) ((bytesI s).drop t)) := by
          rw [pRow_snoc, intsV_append, List.drop_drop]; rfl
        rw [e1] at w'
        rw [show ((t + 8 * c : Nat) : Int) + 8 = ((t + 8 * (c + 1) : Nat) : Int) by omega]
        rcases w' with ⟨e, _, _⟩ | ⟨r3, sp3, rfl, nr3, A3, cap3⟩
        · have := congrArg List.length e
          rw [intsV_length, pRow_len, List.length_nil] at this
          omega
        · exact rr_1 ht hsz k m (c + 1) h' r3 c' sp3 (by omega) l' nr3 A3 cap3
      | succ q ih =>
        intro d nn hd hnn
        refine L_ref15_Read_2r _ _ _ _ _ _ _ _ _ _ _ _ _ _ _ _ _ ?_
        unfold L_ref15_Read_2T
        rw [wrap_i64_id (n := ((t + 8 * c : Nat) : Int) + 8) (by omega) (by omega)]
        obtain ⟨ch, hch, hb⟩ := str_get s (i := t + 8 * c + d) (by omega)
        have hlt := ch.toNat_lt
        refine Br.yes (by simp; omega) ⟨by omega, ch, by rw [Int.toNat_natCast]; exact hch, ?_⟩
        rw [w1 (by omega)]
        have e3 : ((bytesI s).drop (t + 8 * c)).take (d + 1) = ((bytesI s).drop (t + 8 * c)).take d ++ [(ch.toNat : Int)] := by
          rw [List.take_add_one, List.getElem?_drop, hb]; rfl
        have e4 : IntKind.wrap .u64 (IntKind.wrap .u64 (nn * 256) + IntKind.wrap .u64 (ch.toNat : Int)) = rawL 0 (((bytesI s).drop (t + 8 * c)).take (d + 1)) % 18446744073709551616 := by
          rw [e3, rawL_snoc, hnn, wrap_u64, wrap_u64, wrap_u64]
          generalize rawL 0 (((bytesI s).drop (t + 8 * c)).take d) = z
          omega
        exact ih (d + 1) _ (by omega) e4
    have := main 8 0 0 rfl rfl
    exact Br.yes (by simp; omega) this
variable {R : Option Ln} (k0 : ∀ h', h0.le h' → R = none → K (tuple #[.pointer none, .int .i64 2]) h')
  (k1 : ∀ h' g S, h0.le h' → R = some S → RAt h' g S → (∀ x, g.D S.L.length x = true → h0 x = none) → K (tuple #[.pointer (some ⟨g.p, 0, none⟩), .int .i64 0]) h')
include k0 k1
theorem rr_0 {c0 : UInt8} (hc0 : s[0]? = some c0) (en : (c0.toNat : Int) = (n : Int)) (n255 : n ≤ 255) (hsz : s.size = 2 + n * (1 + 8 * w)) {res : Option (List Bool × Mx)}
    (hR : R = match res with
      | none => none
      | some p => if newE p.2 (w : Int) ≠ 0 then none else some ⟨p.2, p.1, w⟩) :
    ∀ (m j : Nat) (h : Heap) (a : Option Addr) (C : Nat) (Rf CC : Nat → Nat) (SP : Nat → List Value) (fp : Option Addr) (fc : Nat) (M : Mx) (FB : List Bool), m + j = n → RRd h0 h a C Rf CC SP M w fp fc FB → M.length = j → FB.length = j →
      (∀ r ∈ M, ∀ v ∈ r, I64 v) → ((pAll w m ((bytesI s).drop (2 + j * (1 + 8 * w)))).map fun p => (FB ++ p.1, M ++ p.2)) = res →
      L_ref15_Read_0 s a j C fp j fc ((2 + j * (1 + 8 * w) : Nat) : Int) (j : Int) h K
  | 0, j, h, a, C, Rf, CC, SP, fp, fc, M, FB, hj, I, hn, hf, hr, e => by
    refine L_ref15_Read_0r _ _ _ _ _ _ _ _ _ _ _ ?_
    unfold L_ref15_Read_0T
    rw [pAll, Option.map_some, List.append_nil, List.append_nil] at e
    subst e
    have hjn : j = n := by omega
    subst hjn
    refine ⟨by omega, c0, hc0, ?_⟩
    rw [ec8, en]
    refine Br.no (by simp) ⟨by omega, c1, hc1, ?_⟩
    rw [ec8, ew]
    -- the rows as they lie
    have hNL : ∃ NL : List NRow, NL.length = j ∧ mxOf NL = M ∧ Nets h a NL := by
      refine ⟨(List.range j).map fun i => ⟨some ⟨Rf i, 0, none⟩, CC i, M.getD i []⟩, by simp, ?_, ⟨?_, fun x hx => ?_⟩⟩
      · unfold mxOf
        rw [List.map_map]
        refine List.ext_getElem? fun i => ?_
        rw [List.getElem?_map]
        by_cases hi : i < j
        · rw [List.getElem?_range hi]
          simp only [Option.map_some, Function.comp]
          rw [List.getD_eq_getElem?_getD, List.getElem?_eq_getElem (by omega)]; rfl
        · rw [List.getElem?_eq_none (by simp; omega), List.getElem?_eq_none (by omega)]; rfl
      · have e2 : netV ((List.range j).map fun i => (⟨some ⟨Rf i, 0, none⟩, CC i, M.getD i []⟩ : NRow)) = slV Rf CC w M.length := by
          unfold slV
          rw [netV_map, List.map_map, hn]
          refine List.map_congr_left fun i hi => ?_
          have hi := List.mem_range.1 hi
          show Value.slice _ (M.getD i []).length _ = _
          rw [I.rb.sh (M.getD i []) (by rw [List.getD_eq_getElem?_getD, List.getElem?_eq_getElem (by omega)]; exact List.getElem_mem _)]
        rw [e2]
        exact I.rb.own.rd
      · obtain ⟨i, hi, rfl⟩ := List.mem_map.1 hx
        exact (I.rb.row i (by rw [hn]; exact List.mem_range.1 hi)).toRd
    obtain ⟨NL, h1, h2, X⟩ := hNL
    subst h2
    have base := I.rb.base
    replace hR : R = if newE (mxOf NL) (w : Int) ≠ 0 then none else some ⟨mxOf NL, FB, w⟩ := hR
    refine S_rNew X h1 (by omega) (fun x hx => hr x.l (List.mem_map.2 ⟨x, hx, rfl⟩)) (fun hne h' l' => ⟨_, _, rfl, ?_⟩) fun he w' ew' h' g l' A fr => ⟨_, _, rfl, ?_⟩
    · rw [if_pos hne] at hR
      exact Br.yes (by simpa using hne) (Ret.mk (k0 h' (Heap.le_trans base l') hR))
    · have : w' = w := by omega
      subst this
      rw [if_neg (by simpa using he)] at hR
      have hfr : ∀ x, g.f.D (mxOf NL).length x = true → h x = none := fun x hx => fr x (RFr.D_f (by rw [← hn]; exact hx))
      have hgp : h g.p = none := fr _ (g.D_p _)
      refine Br.no rfl (withAddr_intro rfl ⟨A.ap.canSt (by simp), Ret.mk ?_⟩)
      have Ax := A.ap.set (o := 0 + 1) (ws := [.slice fp j fc])
      have fl' := I.fl.le l'
      have nfp : ∀ B, fp = some ⟨B, 0, none⟩ → B ≠ g.p ∧ g.f.D (mxOf NL).length B = false := fun B e => by
        rcases I.fl with ⟨_, q, _⟩ | ⟨s', sp, q, _, aa, _⟩
        · rw [q] at e; cases e
        · rw [q] at e; cases e
          refine ⟨aa.ne hgp, ?_⟩
          cases hd : g.f.D (mxOf NL).length B with
          | false => rfl
          | true => exact (aa.ne (hfr B hd) rfl).elim
      have hsp : ∃ qs, FB.length = 0 ∨ ∃ B, fp = some ⟨B, 0, none⟩ ∧ At (h'.setN g.p (0 + 1) [.slice fp j fc]) B (boolVs FB ++ qs) := by
        rcases fl' with ⟨q, _, _⟩ | ⟨s', sp, q, _, aa, _⟩
        · refine ⟨[], .inl ?_⟩
          have := congrArg List.length q
          rw [boolVs_len, List.length_nil] at this; exact this
        · exact ⟨sp, .inr ⟨s', q, aa.set_ne (nfp s' q).1⟩⟩
      obtain ⟨qs, hsp⟩ := hsp
      refine k1 _ ⟨g.p, g.f, fp, fc, qs⟩ _ (le_setN (Heap.le_trans base l') (none_of_le base hgp)) hR ⟨?_, A.rw.mv fun b xs hd aa => aa.set_ne fun e => ?_, hsp, A.dp, nfp, ?_⟩ fun x hx => ?_
      · have hFl : FB.length = j := hf
        show At _ g.p [.slice g.f.a (mxOf NL).length g.f.C, .slice fp FB.length fc, .int .i64 (w' : Int)]
        rw [hFl]
        exact Ax
      · have := A.dp
        rw [e] at hd
        have this : g.f.D (mxOf NL).length g.p = false := this
        rw [this] at hd; cases hd
      · exact ⟨A.ok.n8, A.ok.c1, A.ok.c8, A.ok.sh, by show FB.length = (mxOf NL).length; omega, A.ok.i64, A.ok.pos⟩
      · rcases RFr.D_t hx with rfl | ⟨_, e⟩ | e
        · exact none_of_le base hgp
        · have e : fp = some ⟨x, 0, none⟩ := e
          rcases I.fl with ⟨_, q, _⟩ | ⟨s', sp, q, q2, aa, _⟩
          · rw [q] at e; cases e
          · rw [q] at e; cases e; exact q2
        · exact none_of_le base (hfr x e)
  | m + 1, j, h, a, C, Rf, CC, SP, fp, fc, M, FB, hj, I, hn, hf, hr, e => by
    refine L_ref15_Read_0r _ _ _ _ _ _ _ _ _ _ _ ?_
    unfold L_ref15_Read_0T
    have hmul : (j + 1) * (1 + 8 * w) ≤ n * (1 + 8 * w) := Nat.mul_le_mul_right _ (by omega)
    have hmul2 : n * (1 + 8 * w) ≤ 255 * 2041 := Nat.mul_le_mul n255 (by omega)
    rw [Nat.succ_mul j (1 + 8 * w)] at hmul
    generalize hT : 2 + j * (1 + 8 * w) = T at *
    have hTs : T + (1 + 8 * w) ≤ s.size := by omega
    obtain ⟨ch, hch, hb⟩ := str_get s (i := T) (by omega)
    have hg : ((bytesI s).drop T).getD 0 0 = (ch.toNat : Int) := by rw [List.getD_eq_getElem?_getD, List.getElem?_drop, Nat.add_zero, hb]; rfl
    rw [pAll, hg] at e
    have base := I.rb.base
    refine ⟨by omega, c0, hc0, ?_⟩
    rw [ec8, en]
    refine Br.yes (by simp; omega) ⟨by omega, ch, by rw [Int.toNat_natCast]; exact hch, Br.dec (fun g => ?_) fun g => ⟨by omega, ch, by rw [Int.toNat_natCast]; exact hch, ?_⟩⟩
    · rw [if_pos g] at e
      subst e
      exact Ret.mk (k0 h base hR)
    · rw [if_neg g] at e
      refine push1 I.fl (by decide) base (by omega) rfl rfl (by rw [boolVs_len, hf]; simp) fun r h1 p' c' h2 hr1 l1 l2 w2 keep how => ?_
      have I2 := (I.le l1).pushF l2 w2 keep how
      intro r2 hr2
      rw [w1 (by omega), show T + 1 = T + 1 + 8 * 0 by omega]
      refine rr_1 hc1 ew w255 (hr := h2) (t := T + 1) (by omega) (by omega) (fun h5 r5 sp5 rc5 l5 nr5 A5 => ?_) w 0 _ r2 0 [] (by omega) (le_ins hr2) hr2 (At.new h2 r2 [] _) rfl
      have I5 := I2.le l5
      have fr := I2.rb.fresh nr5
      have nfp : p' ≠ some ⟨r5, 0, none⟩ := I2.fl.fresh nr5
      refine I5.rb.push (none_of_le l2 nr5) A5 fr.1 fr.2 (pRow_len _ _) (by omega) hn fun s6 h6 a6 C6 h7 hs6 l6 I7 keep7 how7 => ?_
      rw [w1 (by omega)]
      have d1' : ∀ rr, p' = some ⟨rr, 0, none⟩ → a ≠ some ⟨rr, 0, none⟩ := fun rr e1 e2 => I2.d1 rr e2 e1
      have hT1 : T + 1 + 8 * w = 2 + (j + 1) * (1 + 8 * w) := by rw [Nat.succ_mul j (1 + 8 * w)]; omega
      rw [hT1]
      have hfl7 : OwnL h0 h7 [.bool false] p' c' (boolVs (FB ++ [(ch.toNat : Int) == 1])) := (I5.fl.le l6).mv fun b xs e aa => keepAt keep7 aa (d1' b e)
      refine rr_0 hc0 en n255 hsz hR m (j + 1) h7 a6 C6 _ _ _ p' c' (M ++ [pRow w ((bytesI s).drop (T + 1))]) (FB ++ [(ch.toNat : Int) == 1]) (by omega) ⟨I7, hfl7, fun rr e e2 => ?_, fun i hi e2 => ?_⟩ (by rw [List.length_append, hn]; rfl) (by rw [List.length_append, hf]; rfl) (fun r hr2 => ?_) ?_
      · rcases I5.fl with ⟨_, q, _⟩ | ⟨r', sp, q, _, aa, _⟩
        · rw [q] at e2; cases e2
        · rw [q] at e2; cases e2
          exact push_ne how7 (aa.le l6) (d1' rr q) e
      · rw [List.length_append, List.length_singleton] at hi
        split at e2
        · exact nfp e2
        · exact I2.d2 i (by omega) e2
      · rcases List.mem_append.1 hr2 with hr2 | hr2
        · exact hr r hr2
        · rw [List.mem_singleton] at hr2; rw [hr2]; exact pRow_I64 _ _
      · rw [← e, Option.map_map, List.drop_drop, List.drop_drop, ← hT1, show T + (1 + 8 * w) = T + 1 + 8 * w by omega]
        congr 1
        funext p
        simp [Function.comp]
end
theorem S_rRead {h : Heap} {K : Value → Heap → Prop} {s : ByteArray} (k0 : ∀ h', h.le h' → readN (bytesI s) = none → K (tuple #[.pointer none, .int .i64 2]) h')
    (k1 : ∀ h' g S, h.le h' → readN (bytesI s) = some S → RAt h' g S → (∀ x, g.D S.L.length x = true → h x = none) → K (tuple #[.pointer (some ⟨g.p, 0, none⟩), .int .i64 0]) h') : CallA Try.prog fn_ref15_Read [string s] h K := by
  refine F_ref15_Read _ _ _ ?_
  unfold F_ref15_ReadT
  have hlen := bytesI_length s
  refine Br.dec (fun g => Ret.mk (k0 h h.le_refl (by unfold readN; rw [if_pos (by omega)]))) fun g => ?_
  obtain ⟨c, hc, hb⟩ := str_get s (i := 0) (by omega)
  obtain ⟨c1, hc1, hb1⟩ := str_get s (i := 1) (by omega)
  have hg : (bytesI s).getD 0 0 = (c.toNat : Int) := by rw [List.getD_eq_getElem?_getD, hb]; rfl
  have hg1 : (bytesI s).getD 1 0 = (c1.toNat : Int) := by rw [List.getD_eq_getElem?_getD, hb1]; rfl
  have q := c.toNat_lt
  have q1 := c1.toNat_lt
  refine ⟨by omega, c, hc, by omega, c1, hc1, ?_⟩
  have hmul : c.toNat * (1 + 8 * c1.toNat) ≤ 256 * 2049 := Nat.mul_le_mul (by omega) (by omega)
  have ewr : IntKind.wrap .i64 (2 + IntKind.wrap .i64 (IntKind.wrap .i64 (c.toNat : Int) * IntKind.wrap .i64 (1 + IntKind.wrap .i64 (8 * IntKind.wrap .i64 (c1.toNat : Int))))) = ((2 + c.toNat * (1 + 8 * c1.toNat) : Nat) : Int) := by
    rw [ec8, ec8, wrap_i64_id (n := 8 * (c1.toNat : Int)) (by omega) (by omega), wrap_i64_id (n := 1 + 8 * (c1.toNat : Int)) (by omega) (by omega)]
    have e : (c.toNat : Int) * (1 + 8 * (c1.toNat : Int)) = ((c.toNat * (1 + 8 * c1.toNat) : Nat) : Int) := by simp
    rw [e, wrap_i64_id (n := ((c.toNat * (1 + 8 * c1.toNat) : Nat) : Int)) (by omega) (by omega), wrap_i64_id (by omega) (by omega)]; omega
  rw [ewr]
  have hR : readN (bytesI s) = if s.size ≠ 2 + c.toNat * (1 + 8 * c1.toNat) then none else match pAll c1.toNat c.toNat ((bytesI s).drop 2) with
      | none => none
      | some p => if newE p.2 (c1.toNat : Int) ≠ 0 then none else some ⟨p.2, p.1, c1.toNat⟩ := by
    unfold readN
    rw [if_neg (by omega), hg, hg1, hlen]
    simp only [Int.toNat_natCast]
    split <;> rfl
  refine Br.intro (fun g2 => ?_) fun g2 => ?_
  · have g2 : s.size ≠ 2 + c.toNat * (1 + 8 * c1.toNat) := by
      have := (show ((s.size : Int) != ((2 + c.toNat * (1 + 8 * c1.toNat) : Nat) : Int)) = true from g2)
      simp only [bne_iff_ne] at this; omega
    rw [if_pos g2] at hR
    exact Ret.mk (k0 h h.le_refl hR)
  · have g2 : s.size = 2 + c.toNat * (1 + 8 * c1.toNat) := by
      have := (show ((s.size : Int) != ((2 + c.toNat * (1 + 8 * c1.toNat) : Nat) : Int)) = false from g2)
      simp only [bne_eq_false_iff_eq] at this; omega
    rw [if_neg (by simpa using g2)] at hR
    refine newB_at fun r1 h1 hr1 l1 A1 => newB_at fun r2 h2 hr2 l2 A2 => ?_
    have A1' := A1.le l2
    have e2 : ((2 : Nat) : Int) = ((2 + 0 * (1 + 8 * c1.toNat) : Nat) : Int) := by simp
    have := rr_0 (h0 := h) (K := K) (s := s) (w := c1.toNat) (n := c.toNat) hc1 rfl (by omega) k0 k1 hc rfl (by omega) g2 hR c.toNat 0 h2 (some ⟨r1, 0, none⟩) 0 (fun _ => 0) (fun _ => 0) (fun _ => []) (some ⟨r2, 0, none⟩) 0 [] [] (by omega)
      ⟨⟨Heap.le_trans l1 l2, .inr ⟨r1, [], rfl, hr1, A1', rfl⟩, fun i hi => absurd hi (by simp), fun i hi => absurd hi (by simp), fun i _ hi => absurd hi (by simp), fun i hi => absurd hi (by simp), fun r hr => (by cases hr)⟩, .inr ⟨r2, [], rfl, none_of_le l1 hr2, A2, rfl⟩, fun r e e' => ?_, fun i hi => absurd hi (by simp)⟩ rfl rfl (fun r hr => by cases hr) ?_
    · rw [Nat.zero_mul, Nat.add_zero] at this
      exact this
    · cases e; cases e'
      exact A1.ne hr2 rfl
    · rw [Nat.zero_mul, Nat.add_zero]
      cases pAll c1.toNat c.toNat ((bytesI s).drop 2) with
      | none => rfl
      | some p => simp
end Go.Proofs.Ytkcogdmddhkldaa
