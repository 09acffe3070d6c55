/- What the maker of proposals does: one pair, a column, all columns. -/
import Derived.Test.YtkcogdmddhkldaaInMem
import Derived.Test.YtkcogdmddhkldaaTabLaw
import Derived.Test.YtkcogdmddhkldaaEqIn
namespace Go.Proofs.Ytkcogdmddhkldaa
open Go Go.Sy Go.Value
set_option linter.unusedVariables false
set_option linter.unusedSimpArgs false

theorem changeR_err {l : List Cur} {c : Nat} {a : Int} (ok : l.all inbB = true) (hc : c < l.length) : (changeR l c 0 a false).2 = 0 ∨ (changeR l c 0 a false).2 = 3 := by
  obtain ⟨j, x, e1, hx, ex⟩ := curAt_some (l := l) (cur := (c : Int)) rfl (by omega)
  obtain ⟨i, y, e2, hy, ey⟩ := curAt_some (l := l) (cur := 0) rfl (by omega)
  unfold changeR
  rw [ex, ey]
  have b := inb_of ok hy
  unfold md
  dsimp only
  rw [if_neg (by omega)]
  rcases fit_cases (dv (a * x.rate) y.rate false) with ⟨_, e⟩ | ⟨_, e⟩ <;> rw [e] <;> simp
theorem changeR_I64 {l : List Cur} {f t a : Int} {up : Bool} : I64 (changeR l f t a up).1 := by
  have I0 : I64 0 := ⟨by decide, by decide⟩
  unfold changeR
  split
  · unfold md
    split
    · exact I0
    · rename_i x y _ _ _
      rcases fit_cases (dv (a * x.rate) y.rate up) with ⟨h, e⟩ | ⟨_, e⟩ <;> rw [e]
      · exact h
      · exact I0
  · exact I0
theorem changeR_pos {l : List Cur} (ok : l.all inbB = true) (c : Nat) (a : Int) (ha : 0 ≤ a) : 0 ≤ (changeR l c 0 a false).1 := by
  unfold changeR
  split
  · rename_i x y ex ey
    unfold md
    split
    · exact Int.le_refl 0
    · rename_i hy
      have bx : 1 ≤ x.rate := by
        unfold curAt at ex
        split at ex
        · exact (inb_of ok ex).1
        · cases ex
      have e : dv (a * x.rate) y.rate false = a * x.rate / y.rate := rfl
      rcases fit_cases (dv (a * x.rate) y.rate false) with ⟨_, e2⟩ | ⟨_, e2⟩ <;> rw [e2]
      · rw [e]; exact Int.ediv_nonneg (Int.mul_nonneg ha (by omega)) (by omega)
      · exact Int.le_refl 0
  · exact Int.le_refl 0
section
variable {K : Value → Heap → Prop} {h : Heap}
theorem S_CloneI {p : Option Addr} {l : List Int} {n c : Nat} (I : Ints .i64 h p l) (hn : l.length = n) (hs : n ≤ 1000000) (k : ∀ p' c' h', h.le h' → OwnL h h' [int .i64 0] p' c' (intsV .i64 l) → K (slice p' n c') h') :
    CallA Try.prog fn_slices_Clone_int64_int64 [slice p n c] h K := by
  refine F_slices_Clone_int64_int64 _ _ _ _ _ ?_
  unfold F_slices_Clone_int64_int64T
  cases p with
  | none =>
    have : l = [] := by
      rcases I with e | ⟨b, o, e, _⟩
      · exact List.length_eq_zero_iff.1 (by rw [← intsV_length .i64, e]; rfl)
      · cases e
    subst this
    subst hn
    exact Br.yes rfl (Ret.mk (k none 0 h h.le_refl (OwnL.nil _ _ _)))
  | some a =>
    refine Br.no rfl ?_
    intro r hr
    refine (own_new (T := 2) (z := [int .i64 0]) hr).push (by decide) (le_ins hr) (by omega) (by rw [intsV_length, hn]; simp) (I.le (le_ins hr)) (allCells_ints _ _) (by simp) ?_
    intro p' c' h' l' w' _ _
    rw [Nat.zero_add]
    exact Ret.mk (k p' c' h' l' (by rw [List.nil_append] at w'; exact w'))
theorem S_unlike {p tp : Option Addr} {n c tn tc r : Nat} (A : At h r [slice tp tn tc]) (k : K (.bool ((n : Int) != (tn : Int))) h) :
    CallA Try.prog fn_inout_Propose_1 [slice p n c, pointer (some ⟨r, 0, none⟩)] h K := by
  refine F_inout_Propose_1 _ _ _ _ _ _ ?_
  unfold F_inout_Propose_1T
  exact ⟨_, _, _, A.cell rfl, Ret.mk k⟩
theorem unl_loop {p tp : Option Addr} {L : List NRow} {n c tn tc r : Nat} (X : Nets h p L) (hn : L.length = n) (A : At h r [slice tp tn tc]) (hs : n ≤ 1000000)
    (k : ∀ v : Int, decide (v ≥ 0) = L.any (fun x => (x.l.length : Int) != (tn : Int)) → K (.int .i64 v) h) :
    ∀ (m j : Nat), m + j = n → L.any (fun x => (x.l.length : Int) != (tn : Int)) = (L.drop j).any (fun x => (x.l.length : Int) != (tn : Int)) → L_slices_IndexFunc_sint64_sint64_a_0 p n c r n j h K := by
  intro m
  induction m with
  | zero =>
    intro j hj e
    refine L_slices_IndexFunc_sint64_sint64_a_0r _ _ _ _ _ _ _ _ ?_
    unfold L_slices_IndexFunc_sint64_sint64_a_0T
    rw [List.drop_eq_nil_of_le (by omega), List.any_nil] at e
    exact Br.no (by simp; omega) (Ret.mk (k _ (by rw [e]; decide)))
  | succ m ih =>
    intro j hj e
    refine L_slices_IndexFunc_sint64_sint64_a_0r _ _ _ _ _ _ _ _ ?_
    unfold L_slices_IndexFunc_sint64_sint64_a_0T
    have hx : L[j]? = some L[j] := List.getElem?_eq_getElem (by omega)
    rw [List.drop_eq_getElem_cons (by omega : j < L.length), List.any_cons] at e
    generalize L[j] = x at *
    refine Br.yes (by simp; omega) (nx X hn rfl hx (S_unlike A ⟨_, rfl, ?_⟩))
    cases eb : ((x.l.length : Int) != (tn : Int)) with
    | true =>
      rw [eb, Bool.true_or] at e
      exact Br.yes rfl (Ret.mk (k _ (by rw [e]; simp)))
    | false =>
      rw [eb, Bool.false_or] at e
      refine Br.no rfl ?_
      rw [wrap_i64_id (by omega) (by omega)]
      exact ih (j + 1) (by omega) e
theorem S_AnyUnlike {p tp : Option Addr} {L : List NRow} {n c tn tc r : Nat} (X : Nets h p L) (hn : L.length = n) (A : At h r [slice tp tn tc]) (hs : n ≤ 1000000) (k : K (.bool (L.any (fun x => (x.l.length : Int) != (tn : Int)))) h) :
    CallA Try.prog fn_slices_ContainsFunc_sint64_sint64 [slice p n c, func (Fn.func fn_inout_Propose_1) #[] #[pointer (some ⟨r, 0, none⟩)]] h K := by
  refine F_slices_ContainsFunc_sint64_sint64_a _ _ _ _ _ _ ?_
  unfold F_slices_ContainsFunc_sint64_sint64_aT
  refine F_slices_IndexFunc_sint64_sint64_a _ _ _ _ _ _ ?_
  unfold F_slices_IndexFunc_sint64_sint64_aT
  exact unl_loop X hn A hs (fun v e => ⟨_, rfl, by rw [e]; exact Ret.mk k⟩) n 0 (by omega) rfl
end
theorem MatS.upd {h0 h : Heap} {L : Lay} {np lp : Option Addr} {nc n w lc : Nat} {R C : Nat → Nat} {SP : Nat → List Value} {cells : List Value} {M : Mx} {sw : List Swp} (s : MatS h0 h L np nc n w R SP C cells M lp lc sw) {b i : Nat} {vs ws : List Value} (e : L b = some vs)
    (d1 : ∀ i, i < n → R i ≠ b) (d2 : np ≠ some ⟨b, 0, none⟩) (d3 : lp ≠ some ⟨b, 0, none⟩) : MatS h0 (h.setN b i ws) (L.upd b (setL vs i ws)) np nc n w R SP C cells M lp lc sw :=
  ⟨s.own.set e, s.len, s.cl, s.net.keep fun r e2 => Lay.upd_ne _ _ (fun x => d2 (by rw [e2, x])), s.rows.keep fun j hj => Lay.upd_ne _ _ (d1 j hj), s.sl.keep fun r e2 => Lay.upd_ne _ _ (fun x => d3 (by rw [e2, x])), s.dn, s.dl, s.nl⟩
/-- the maker, with its box -/
structure MkS (h0 h : Heap) (L : Lay) (k : Nat) (tp : Option Addr) (tn tc : Nat) (np : Option Addr) (nc n w : Nat) (R : Nat → Nat) (SP : Nat → List Value) (C : Nat → Nat) (cells : List Value) (M : Mx) (lp : Option Addr) (lc : Nat) (sw : List Swp) : Prop where
  mat : MatS h0 h L np nc n w R SP C cells M lp lc sw
  box : L k = some [slice tp tn tc, slice np n nc, slice lp sw.length lc]
  dk : ∀ i, i < n → R i ≠ k
  nk : np ≠ some ⟨k, 0, none⟩
  lk : lp ≠ some ⟨k, 0, none⟩
theorem MkS.le {h0 h h' : Heap} {L : Lay} {k : Nat} {tp : Option Addr} {tn tc : Nat} {np : Option Addr} {nc n w : Nat} {R : Nat → Nat} {SP : Nat → List Value} {C : Nat → Nat} {cells : List Value} {M : Mx} {lp : Option Addr} {lc : Nat} {sw : List Swp}
    (s : MkS h0 h L k tp tn tc np nc n w R SP C cells M lp lc sw) (l : h.le h') : MkS h0 h' L k tp tn tc np nc n w R SP C cells M lp lc sw := { s with mat := s.mat.le l }
section
variable {K : Value → Heap → Prop} {h0 : Heap} {k : Nat} {tp : Option Addr} {tn tc : Nat} {np : Option Addr} {nc n w : Nat} {R C : Nat → Nat} {SP : Nat → List Value} {cells : List Value} {l : List Cur}
theorem S_one {h : Heap} {L : Lay} {M : Mx} {lp : Option Addr} {lc : Nat} {sw : List Swp} (s : MkS h0 h L k tp tn tc np nc n w R SP C cells M lp lc sw) (T : Curs h0 tp l) (hl : l.length = tn) (ok : l.all inbB = true) (hw : w = tn) {to fr c : Nat} {a : Int} (ht : to < n) (hf : fr < n)
    (hne : to ≠ fr) (hc : c < w) (hc0 : 0 < c) (ha : I64 a) (hi : ∀ i d, I64 (rdM M i d)) (hsl : sw.length < 1000000) (b1 : I64 (rdM M to c + a)) (b2 : I64 (rdM M fr c - a))
    (kerr : ((changeR l c 0 a false).2 ≠ 0 ∨ (fit (rdM M to 0 - (changeR l c 0 a false).1)).2 ≠ 0 ∨ (fit (rdM M fr 0 + (changeR l c 0 a false).1)).2 ≠ 0) → ∀ h', h0.le h' → K (.int .i64 3) h')
    (kok : (changeR l c 0 a false).2 = 0 → (fit (rdM M to 0 - (changeR l c 0 a false).1)).2 = 0 → (fit (rdM M fr 0 + (changeR l c 0 a false).1)).2 = 0 → ∀ h' L' lp' lc', MkS h0 h' L' k tp tn tc np nc n w R SP C cells (nextM M c to fr a (changeR l c 0 a false).1) lp' lc' (sw ++ [⟨fr, to, c, a, (changeR l c 0 a false).1⟩]) → K (.int .i64 0) h') :
    CallA Try.prog fn_pinout_maker_one [pointer (some ⟨k, 0, none⟩), .int .i64 (fr : Int), .int .i64 (to : Int), .int .i64 (c : Int), .int .i64 a] h K := by
  refine F_pinout_maker_one _ _ _ _ _ _ _ ?_
  unfold F_pinout_maker_oneT
  have S := s.mat
  have O := S.own
  refine withAddr_intro rfl ⟨_, _, _, O.cell s.box rfl, S_Change (T.le O.base) hl ok ha ⟨_, _, rfl, ?_⟩⟩
  have cerr := changeR_err (l := l) (c := c) (a := a) ok (by omega)
  have cI : I64 (changeR l c 0 a false).1 := changeR_I64
  generalize changeR l c 0 a false = ch at *
  obtain ⟨base, e⟩ := ch
  dsimp only at *
  rcases cerr with rfl | rfl
  · refine Br.no rfl (withAddr_intro rfl ⟨_, _, _, O.cell s.box rfl, S.rowAt ht (S.get0 ht (by omega) (S_Sub (hi to 0) cI h _ ⟨_, _, rfl, ?_⟩))⟩)
    refine withAddr_intro rfl ⟨_, _, _, O.cell s.box rfl, S.rowAt hf (S.get0 hf (by omega) (S_Add (hi fr 0) cI h _ ⟨_, _, rfl, ?_⟩))⟩
    rcases fit_cases (rdM M to 0 - base) with ⟨i1, e1⟩ | ⟨_, e1⟩ <;> rw [e1] at kerr kok ⊢
    · rcases fit_cases (rdM M fr 0 + base) with ⟨i2, e2⟩ | ⟨_, e2⟩ <;> rw [e2] at kerr kok ⊢
      · refine Br.no rfl (Br.no rfl (withAddr_intro rfl ⟨_, _, _, O.cell s.box rfl, S.rowAt ht (withAddr_intro rfl ⟨_, _, _, O.cell s.box rfl, S.rowAt hf ?_⟩)⟩))
        refine ⟨by omega, by omega, withAddr_intro rfl ⟨S.canSt ht (by omega), ?_⟩⟩
        obtain ⟨L1, S1, k1⟩ := S.wr (i := to) (c := 0) (v := rdM M to 0 - base) ht (by omega)
        refine ⟨by omega, by omega, withAddr_intro rfl ⟨S1.canSt hf (by omega), ?_⟩⟩
        obtain ⟨L2, S2, k2⟩ := S1.wr (i := fr) (c := 0) (v := rdM M fr 0 + base) hf (by omega)
        dsimp only
        generalize (h.setN (R to) 0 [.int .i64 (rdM M to 0 - base)]).setN (R fr) 0 [.int .i64 (rdM M fr 0 + base)] = h2 at *
        have bx2 : L2 k = some [slice tp tn tc, slice np n nc, slice lp sw.length lc] := by rw [k2 k (fun i hi e => s.dk i hi e.symm), k1 k (fun i hi e => s.dk i hi e.symm)]; exact s.box
        have sh1 := S.rows.sh.wr (c := 0) (v := rdM M to 0 - base) ht
        have r1 : rdM (wrM (wrM M to 0 (rdM M to 0 - base)) fr 0 (rdM M fr 0 + base)) to c = rdM M to c := by
          rw [rd_wr sh1 hf (by omega), rd_wr S.rows.sh ht (by omega), if_neg (by omega), if_neg (by omega)]
        have r2 : rdM (wrM (wrM (wrM M to 0 (rdM M to 0 - base)) fr 0 (rdM M fr 0 + base)) to c (rdM M to c + a)) fr c = rdM M fr c := by
          rw [rd_wr (sh1.wr hf) ht hc, if_neg (fun x => hne x.1.symm), rd_wr sh1 hf (by omega), rd_wr S.rows.sh ht (by omega), if_neg (by omega), if_neg (by omega)]
        refine withAddr_intro rfl ⟨_, _, _, S2.own.cell bx2 rfl, S2.rowAt ht (S2.get ht hc ⟨by omega, by omega, withAddr_intro rfl ?_⟩)⟩
        rw [Nat.zero_add, Int.toNat_natCast, r1, wrap_i64_id b1.1 b1.2]
        refine ⟨S2.canSt ht hc, ?_⟩
        obtain ⟨L3, S3, k3⟩ := S2.wr (i := to) (c := c) (v := rdM M to c + a) ht hc
        have bx3 : L3 k = some [slice tp tn tc, slice np n nc, slice lp sw.length lc] := by rw [k3 k (fun i hi e => s.dk i hi e.symm)]; exact bx2
        generalize h2.setN (R to) c [.int .i64 (rdM M to c + a)] = h3 at *
        refine withAddr_intro rfl ⟨_, _, _, S3.own.cell bx3 rfl, S3.rowAt hf (S3.get hf hc ⟨by omega, by omega, withAddr_intro rfl ?_⟩)⟩
        rw [Nat.zero_add, r2, wrap_i64_id b2.1 b2.2]
        refine ⟨S3.canSt hf hc, ?_⟩
        obtain ⟨L4, S4, k4⟩ := S3.wr (i := fr) (c := c) (v := rdM M fr c - a) hf hc
        have bx4 : L4 k = some [slice tp tn tc, slice np n nc, slice lp sw.length lc] := by rw [k4 k (fun i hi e => s.dk i hi e.symm)]; exact bx3
        generalize h3.setN (R fr) c [.int .i64 (rdM M fr c - a)] = h4 at *
        refine withAddr_intro rfl ⟨_, _, _, S4.own.cell bx4 rfl, ?_⟩
        intro r hr
        have S5 := S4.le (le_ins hr (o := .cells [.int .i64 (fr : Int), .int .i64 (to : Int), .int .i64 (c : Int), .int .i64 a, .int .i64 base].toArray 41 (0, 0)))
        refine S5.push (x := ⟨fr, to, c, a, base⟩) (rdL_new _ _ _ _ _) hsl fun lp' lc' h6 L6 S6 st => ?_
        obtain ⟨bx6, lk6⟩ := st k _ bx4 s.lk
        refine withAddr_intro rfl ⟨S6.own.canSt bx6 (by simp), ?_⟩
        have S7 := S6.upd (i := 0 + 2) (ws := [slice lp' (sw.length + 1) lc']) bx6 s.dk s.nk lk6
        refine Ret.mk (kok rfl rfl rfl _ _ lp' lc' ⟨S7, ?_, s.dk, s.nk, lk6⟩)
        rw [Lay.upd_same, List.length_append]
        rfl
      · exact Br.no rfl (Br.yes rfl (Ret.mk (kerr (.inr (.inr (by decide))) h O.base)))
    · exact Br.yes rfl (Ret.mk (kerr (.inr (.inl (by decide))) h O.base))
  · exact Br.yes rfl (Ret.mk (kerr (.inl (by decide)) h O.base))
end
end Go.Proofs.Ytkcogdmddhkldaa
