/- Propose, walked: rows laid anew; all pairs of a column; all columns. -/
import Derived.Test.YtkcogdmddhkldaaInSpec
namespace Go.Proofs.Ytkcogdmddhkldaa
open Go Go.Sy Go.Value
set_option linter.unusedVariables false
set_option linter.unusedSimpArgs false

theorem own_adopt {h0 h h1 : Heap} {L : Lay} (o : Own h0 h L) (l : h.le h1) {r : Nat} {us : List Value} (hr : h r = none) (a : At h1 r us) : Own h0 h1 (L.upd r us) := by
  refine ⟨Heap.le_trans o.base l, fun b vs e => ?_, fun b vs e => ?_⟩
  · by_cases hb : b = r
    · subst hb; exact none_of_le o.base hr
    · rw [Lay.upd_ne _ _ hb] at e; exact o.new b vs e
  · by_cases hb : b = r
    · subst hb
      rw [Lay.upd_same] at e
      cases e
      exact a
    · rw [Lay.upd_ne _ _ hb] at e; exact (o.has b vs e).le l
theorem MatS.add {h0 h h1 : Heap} {L : Lay} {np : Option Addr} {nc j w : Nat} {R C : Nat → Nat} {SP : Nat → List Value} {cells : List Value} {M : Mx} (s : MatS h0 h L np nc j w R SP C cells M none 0 []) (l1 : h.le h1) {p' : Option Addr} {c' : Nat} {row : List Int}
    (o : OwnL h h1 [int .i64 0] p' c' (intsV .i64 row)) (hrow : row.length = w) (hw : 0 < w) (hj : j < 1000) {T : TypeId} {J : Option Addr → Nat → Heap → Prop}
    (k : ∀ np' nc' h' L' R' SP' C' cells', MatS h0 h' L' np' nc' (j + 1) w R' SP' C' cells' (M ++ [row]) none 0 [] →
      (∀ b us, L b = some us → np ≠ some ⟨b, 0, none⟩ → (∀ i, i < j → R i ≠ b) → L' b = some us ∧ np' ≠ some ⟨b, 0, none⟩ ∧ ∀ i, i < j + 1 → R' i ≠ b) → J np' nc' h') :
    newB h1 [slice p' w c'] T fun (r : Nat) (h : Heap) => AppA [slice none 0 0] T h np j nc 1 (some { block := r, off := 0 }) J := by
  rcases o with ⟨e1, _, _⟩ | ⟨r', sp', rfl, hr', A, hcap⟩
  · have := congrArg List.length e1
    rw [intsV_length, List.length_nil] at this
    omega
  intro r hr
  have O1 := (own_adopt s.own l1 hr' A).le (le_ins hr (o := .cells [slice (some ⟨r', 0, none⟩) w c'].toArray T (0, 0)))
  have f1 := s.own.free hr'
  have hnp : np ≠ some ⟨r', 0, none⟩ := fun e => by
    rcases s.net with ⟨_, q, _⟩ | ⟨b, q, e2, e3, _⟩
    · rw [q] at e; cases e
    · rw [e2] at e; cases e; rw [f1] at e3; cases e3
  have N1 : Lst (L.upd r' (intsV .i64 row ++ sp')) zSl np nc cells := s.net.keep fun b e => Lay.upd_ne _ _ (fun x => hnp (by rw [e, x]))
  refine N1.push O1 (by decide) (by omega) (ws := [slice (some ⟨r', 0, none⟩) w c']) rfl (rdL_new _ _ _ _ _) rfl (by rw [s.len]; exact (Nat.mul_one j).symm) fun np' nc' h' L' O' N' keep how => ?_
  have row' : L' r' = some (intsV .i64 row ++ sp') := keep r' _ (Lay.upd_same _ _ _) hnp
  have old : ∀ b us, L b = some us → np ≠ some ⟨b, 0, none⟩ → L' b = some us := fun b us e e2 => by
    refine keep b us ?_ e2
    rw [Lay.upd_ne _ _ (Lay.ne e f1)]; exact e
  have hnp' : ∀ b us, (L.upd r' (intsV .i64 row ++ sp')) b = some us → np ≠ some ⟨b, 0, none⟩ → np' ≠ some ⟨b, 0, none⟩ := fun b us e e2 e3 => by
    rcases how with rfl | ⟨r2, e4, e5⟩
    · exact e2 e3
    · rw [e4] at e3; cases e3; rw [e] at e5; cases e5
  have Rne : ∀ i, i < j → R i ≠ r' := fun i hi => Lay.ne (s.rows.row i hi) f1
  have hM := s.rows.sh.1
  refine k np' nc' h' L' (fun i => if i = j then r' else R i) (fun i => if i = j then sp' else SP i) (fun i => if i = j then c' else C i) _ ⟨O', by rw [List.length_append, s.len]; rfl, fun i hi => ?_, N', ⟨⟨by rw [List.length_append, hM]; rfl, fun x hx => ?_⟩, fun i hi => ?_, fun i i' hi hi' e => ?_⟩, Lst.nil _ _, fun i hi => ?_, fun i hi e => (by cases e), fun b _ e => (by cases e)⟩ (fun b us e e2 e3 => ⟨old b us e e2, ?_, fun i hi => ?_⟩)
  · by_cases h : i = j
    · subst h
      rw [List.getElem?_append_right (by rw [s.len]; omega), s.len, Nat.sub_self]; simp
    · rw [List.getElem?_append_left (by rw [s.len]; omega), s.cl i (by omega)]; simp [h]
  · rcases List.mem_append.1 hx with hx | hx
    · exact s.rows.sh.2 x hx
    · rw [List.mem_singleton] at hx; rw [hx]; exact hrow
  · by_cases h : i = j
    · subst h
      simp only [if_true]
      rw [row', List.getD_eq_getElem?_getD, List.getElem?_append_right (by omega), hM, Nat.sub_self]; rfl
    · simp only [h, if_false]
      rw [old _ _ (s.rows.row i (by omega)) (s.dn i (by omega)), List.getD_eq_getElem?_getD, List.getD_eq_getElem?_getD, List.getElem?_append_left (by omega)]
  · by_cases h : i = j
    · by_cases h' : i' = j
      · rw [h, h']
      · simp only [h, h', if_true, if_false] at e
        exact (Rne i' (by omega) e.symm).elim
    · by_cases h' : i' = j
      · simp only [h, h', if_true, if_false] at e
        exact (Rne i (by omega) e).elim
      · simp only [h, h', if_false] at e
        exact s.rows.inj i i' (by omega) (by omega) e
  · by_cases h : i = j
    · simp only [h, if_true]
      exact hnp' _ _ (Lay.upd_same _ _ _) hnp
    · simp only [h, if_false]
      exact hnp' _ _ (by rw [Lay.upd_ne _ _ (Rne i (by omega))]; exact s.rows.row i (by omega)) (s.dn i (by omega))
  · refine hnp' b us ?_ e2
    rw [Lay.upd_ne _ _ (Lay.ne e f1)]; exact e
  · by_cases h : i = j
    · simp only [h, if_true]
      exact fun x => Lay.ne e f1 x.symm
    · simp only [h, if_false]
      exact e3 i (by omega)
/-! how many proposals there may be -/
theorem pair_len {ch : Int → Int × Int} {c : Nat} {least : Int} {to fr : Nat} {S S' : Mx × List Swp} (e : pairS ch c least to fr S = some S') : S'.2.length ≤ S.2.length + 1 := by
  unfold pairS at e
  split at e
  · cases e; omega
  · split at e
    · cases e
    · split at e
      · cases e; omega
      · split at e
        · cases e
        · split at e
          · cases e
          · cases e; simp
theorem frL_len {ch : Int → Int × Int} {c : Nat} {least : Int} {to : Nat} : ∀ (m fr : Nat) (S S' : Mx × List Swp), frL ch c least to m fr S = some S' → S'.2.length ≤ S.2.length + m
  | 0, _, S, S', e => by cases e; omega
  | m + 1, fr, S, S', e => by
    rw [frL] at e
    split at e
    · cases e
    · rename_i T hT
      have := pair_len hT
      have := frL_len m (fr + 1) T S' e
      omega
theorem toL_len {ch : Int → Int × Int} {c : Nat} {least : Int} {n : Nat} : ∀ (m to : Nat) (S S' : Mx × List Swp), toL ch c least n m to S = some S' → S'.2.length ≤ S.2.length + m * n
  | 0, _, S, S', e => by cases e; omega
  | m + 1, to, S, S', e => by
    rw [toL] at e
    split at e
    · cases e
    · rename_i T hT
      have h1 := frL_len n 0 S T hT
      have h2 := toL_len m (to + 1) T S' e
      rw [Nat.succ_mul]
      omega
section
variable {K : Value → Heap → Prop} {h0 : Heap} {k : Nat} {tp : Option Addr} {tn tc : Nat} {np : Option Addr} {nc n w : Nat} {R C : Nat → Nat} {SP : Nat → List Value} {cells : List Value} {l : List Cur} {least : Int} {c : Nat}
theorem cur_inner (T : Curs h0 tp l) (hl : l.length = tn) (ok : l.all inbB = true) (hw : w = tn) (hc : c < w) (hc0 : 0 < c) (hls : 1 ≤ least) (hn : n ≤ 1000) {to : Nat} (ht : to < n) :
    ∀ (m fr : Nat) (M : Mx) (sw : List Swp) (h : Heap) (L : Lay) (lp : Option Addr) (lc : Nat), m + fr = n → MkS h0 h L k tp tn tc np nc n w R SP C cells M lp lc sw → (∀ i d, I64 (rdM M i d)) → sw.length + m ≤ 999999 →
      (frL (fun a => changeR l c 0 a false) c least to m fr (M, sw) = none → ∀ h', h0.le h' → K (.int .i64 3) h') →
      (∀ S', frL (fun a => changeR l c 0 a false) c least to m fr (M, sw) = some S' → ∀ h' L' lp' lc', MkS h0 h' L' k tp tn tc np nc n w R SP C cells S'.1 lp' lc' S'.2 → (∀ i d, I64 (rdM S'.1 i d)) →
        L_pinout_maker_currency_0 (some ⟨k, 0, none⟩) (c : Int) least (n : Int) ((to + 1 : Nat) : Int) h' K) →
      L_pinout_maker_currency_1 (some ⟨k, 0, none⟩) (c : Int) least (to : Int) (n : Int) (to : Int) (n : Int) (fr : Int) h K := by
  intro m
  induction m with
  | zero =>
    intro fr M sw h L lp lc hm s hi hsl kerr kok
    refine L_pinout_maker_currency_1r _ _ _ _ _ _ _ _ _ _ ?_
    unfold L_pinout_maker_currency_1T
    refine Br.no (by simp; omega) ?_
    rw [wrap_i64_id (by omega) (by omega)]
    exact kok (M, sw) rfl h L lp lc s hi
  | succ m ih =>
    intro fr M sw h L lp lc hm s hi hsl kerr kok
    refine L_pinout_maker_currency_1r _ _ _ _ _ _ _ _ _ _ ?_
    unfold L_pinout_maker_currency_1T
    have S := s.mat
    have hf : fr < n := by omega
    have next : ∀ (h : Heap) (L : Lay) (lp : Option Addr) (lc : Nat) (M' : Mx) (sw' : List Swp), pairS (fun a => changeR l c 0 a false) c least to fr (M, sw) = some (M', sw') → MkS h0 h L k tp tn tc np nc n w R SP C cells M' lp lc sw' → (∀ i d, I64 (rdM M' i d)) →
        L_pinout_maker_currency_1 (some ⟨k, 0, none⟩) (c : Int) least (to : Int) (n : Int) (to : Int) (n : Int) (IntKind.wrap .i64 ((fr : Int) + 1)) h K := fun h L lp lc M' sw' e s hi => by
      rw [wrap_i64_id (by omega) (by omega)]
      have hlen := pair_len e
      dsimp only at hlen
      rw [frL, e] at kerr kok
      exact ih (fr + 1) M' sw' h L lp lc (by omega) s hi (by omega) kerr kok
    refine Br.yes (by simp; omega) (withAddr_intro rfl ⟨_, _, _, S.own.cell s.box rfl, S.rowAt ht (S.get ht hc ?_)⟩)
    refine Br.dec (fun g => ?_) (fun g => ?_)
    · rw [wrap_i64_id (by omega) (by omega)]
      exact kok (M, sw) (frL_done g _ _) h L lp lc s hi
    · refine withAddr_intro rfl ⟨_, _, _, S.own.cell s.box rfl, S.rowAt hf (S.get hf hc (Br.dec (fun g2 => ?_) (fun g2 => ?_)))⟩
      · exact next h L lp lc M sw (by unfold pairS; rw [if_pos (.inr g2)]) s hi
      · have hI := hi to c
        have hI2 := hi fr c
        unfold I64 at hI hI2
        refine S_Size ⟨hI.1, hI.2⟩ h _ ⟨_, _, rfl, ?_⟩
        by_cases hmin : rdM M to c = -9223372036854775808
        · have e1 : fit ((rdM M to c).natAbs : Int) = (0, 3) := fit_over (fun x => by unfold I64 at x; omega)
          rw [e1]
          refine Br.yes rfl (Ret.mk (kerr ?_ h S.own.base))
          rw [frL]
          unfold pairS
          rw [if_neg (by rintro (x | x) <;> dsimp only at x <;> omega), if_pos hmin]
        · have e1 : fit ((rdM M to c).natAbs : Int) = (-(rdM M to c), 0) := by
            have : ((rdM M to c).natAbs : Int) = -(rdM M to c) := by omega
            rw [this]; exact fit_ok ⟨by omega, by omega⟩
          rw [e1]
          refine Br.no rfl (withAddr_intro rfl ⟨_, _, _, S.own.cell s.box rfl, S.rowAt hf (S.get hf hc ?_)⟩)
          have ea : (if rdM M fr c < -(rdM M to c) then rdM M fr c else -(rdM M to c)) = amtM M c to fr := rfl
          dsimp only
          rw [ea]
          have am : 0 < amtM M c to fr ∧ amtM M c to fr ≤ rdM M fr c ∧ amtM M c to fr ≤ -(rdM M to c) := by
            unfold amtM; split <;> omega
          have e0 : pairS (fun a => changeR l c 0 a false) c least to fr (M, sw) = (if amtM M c to fr < least then some (M, sw) else if (changeR l c 0 (amtM M c to fr) false).2 ≠ 0 then none
              else if (fit (rdM M to 0 - (changeR l c 0 (amtM M c to fr) false).1)).2 ≠ 0 ∨ (fit (rdM M fr 0 + (changeR l c 0 (amtM M c to fr) false).1)).2 ≠ 0 then none
              else some (nextM M c to fr (amtM M c to fr) (changeR l c 0 (amtM M c to fr) false).1, sw ++ [⟨fr, to, c, amtM M c to fr, (changeR l c 0 (amtM M c to fr) false).1⟩])) := by
            conv => lhs; unfold pairS
            rw [if_neg (by rintro (x | x) <;> dsimp only at x <;> omega), if_neg hmin]
          have hne : to ≠ fr := fun x => by subst x; omega
          refine Br.dec (fun g3 => ?_) (fun g3 => ?_)
          · exact next h L lp lc M sw (by rw [e0, if_pos g3]) s hi
          · rw [if_neg g3] at e0
            refine S_one s T hl ok hw ht hf hne hc hc0 ⟨by omega, by omega⟩ hi (by omega) ⟨by omega, by omega⟩ ⟨by omega, by omega⟩ (fun g4 h' l' => ?_) (fun g4 g5 g6 h' L' lp' lc' s' => ?_)
            · refine ⟨_, rfl, Br.yes rfl (Ret.mk (kerr ?_ h' l'))⟩
              rw [frL, e0]
              by_cases g5 : (changeR l c 0 (amtM M c to fr) false).2 ≠ 0
              · rw [if_pos g5]
              · rw [if_neg g5, if_pos (g4.resolve_left g5)]
            · rw [if_neg (by rw [g4]; decide), if_neg (by rw [g5, g6]; decide)] at e0
              have hb1 : I64 (rdM M to 0 - (changeR l c 0 (amtM M c to fr) false).1) := fit_in (by rw [g5]; decide)
              have hb2 : I64 (rdM M fr 0 + (changeR l c 0 (amtM M c to fr) false).1) := fit_in (by rw [g6]; decide)
              refine ⟨_, rfl, Br.no rfl (next h' L' lp' lc' _ _ e0 s' (next_keep S.rows.sh ht hf hne hc hc0 hi (by omega) am.2.1 am.2.2 hb1 hb2).i64)⟩
theorem cur_outer (T : Curs h0 tp l) (hl : l.length = tn) (ok : l.all inbB = true) (hw : w = tn) (hc : c < w) (hc0 : 0 < c) (hls : 1 ≤ least) (hn : n ≤ 100) :
    ∀ (m to : Nat) (M : Mx) (sw : List Swp) (h : Heap) (L : Lay) (lp : Option Addr) (lc : Nat), m + to = n → MkS h0 h L k tp tn tc np nc n w R SP C cells M lp lc sw → (∀ i d, I64 (rdM M i d)) → sw.length + m * n ≤ 999999 →
      (toL (fun a => changeR l c 0 a false) c least n m to (M, sw) = none → ∀ h', h0.le h' → K (.int .i64 3) h') →
      (∀ S', toL (fun a => changeR l c 0 a false) c least n m to (M, sw) = some S' → ∀ h' L' lp' lc', MkS h0 h' L' k tp tn tc np nc n w R SP C cells S'.1 lp' lc' S'.2 → (∀ i d, I64 (rdM S'.1 i d)) → K (.int .i64 0) h') →
      L_pinout_maker_currency_0 (some ⟨k, 0, none⟩) (c : Int) least (n : Int) (to : Int) h K := by
  intro m
  induction m with
  | zero =>
    intro to M sw h L lp lc hm s hi hsl kerr kok
    refine L_pinout_maker_currency_0r _ _ _ _ _ _ _ ?_
    unfold L_pinout_maker_currency_0T
    exact Br.no (by simp; omega) (Ret.mk (kok (M, sw) rfl h L lp lc s hi))
  | succ m ih =>
    intro to M sw h L lp lc hm s hi hsl kerr kok
    refine L_pinout_maker_currency_0r _ _ _ _ _ _ _ ?_
    unfold L_pinout_maker_currency_0T
    rw [Nat.succ_mul] at hsl
    refine Br.yes (by simp; omega) (withAddr_intro rfl ⟨_, _, _, s.mat.own.cell s.box rfl, ?_⟩)
    refine cur_inner T hl ok hw hc hc0 hls (by omega) (by omega) n 0 M sw h L lp lc (by omega) s hi (by omega) (fun e => kerr (by rw [toL, e])) (fun S' e h' L' lp' lc' s' hi' => ?_)
    rw [toL, e] at kerr kok
    have := frL_len n 0 _ S' e
    dsimp only at this
    exact ih (to + 1) S'.1 S'.2 h' L' lp' lc' (by omega) s' hi' (by omega) kerr kok
theorem S_currency (T : Curs h0 tp l) (hl : l.length = tn) (ok : l.all inbB = true) (hw : w = tn) (hc : c < w) (hc0 : 0 < c) (hls : 1 ≤ least) (hn : n ≤ 100)
    {M : Mx} {sw : List Swp} {h : Heap} {L : Lay} {lp : Option Addr} {lc : Nat} (s : MkS h0 h L k tp tn tc np nc n w R SP C cells M lp lc sw) (hi : ∀ i d, I64 (rdM M i d)) (hsl : sw.length + n * n ≤ 999999)
    (kerr : toL (fun a => changeR l c 0 a false) c least n n 0 (M, sw) = none → ∀ h', h0.le h' → K (.int .i64 3) h')
    (kok : ∀ S', toL (fun a => changeR l c 0 a false) c least n n 0 (M, sw) = some S' → ∀ h' L' lp' lc', MkS h0 h' L' k tp tn tc np nc n w R SP C cells S'.1 lp' lc' S'.2 → (∀ i d, I64 (rdM S'.1 i d)) → K (.int .i64 0) h') :
    CallA Try.prog fn_pinout_maker_currency [pointer (some ⟨k, 0, none⟩), .int .i64 (c : Int), .int .i64 least] h K := by
  refine F_pinout_maker_currency _ _ _ _ _ ?_
  unfold F_pinout_maker_currencyT
  exact withAddr_intro rfl ⟨_, _, _, s.mat.own.cell s.box rfl, cur_outer T hl ok hw hc hc0 hls hn n 0 M sw h L lp lc (by omega) s hi hsl kerr kok⟩
end
end Go.Proofs.Ytkcogdmddhkldaa
