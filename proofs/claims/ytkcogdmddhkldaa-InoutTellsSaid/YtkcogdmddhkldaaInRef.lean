/- Propose, whole: the reference's. -/
import Derived.Test.YtkcogdmddhkldaaInProp
import Derived.Test.YtkcogdmddhkldaaEqInRef
namespace Go.Proofs.Ytkcogdmddhkldaa
open Go Go.Sy Go.Value
set_option linter.unusedVariables false
set_option linter.unusedSimpArgs false

section
variable {K : Value → Heap → Prop} {h0 : Heap} {tp : Option Addr} {tn tc : Nat} {np : Option Addr} {nc n w : Nat} {R C : Nat → Nat} {SP : Nat → List Value} {cells : List Value} {l : List Cur} {least : Int} {c : Nat}
theorem ref_inner (T : Curs h0 tp l) (hl : l.length = tn) (ok : l.all inbB = true) (hw : w = tn) (hc : c < w) (hc0 : 0 < c) (hn : n ≤ 1000) (hls : 1 ≤ least) {to : Nat} (ht : to < n) :
    ∀ (m fr : Nat) (M : Mx) (sw : List Swp) (h : Heap) (L : Lay) (lp : Option Addr) (lc : Nat), m + fr = n → MatS h0 h L np nc n w R SP C cells M lp lc sw → (∀ i d, I64 (rdM M i d)) → sw.length + m ≤ 999999 →
      (frL (fun a => changeR l c 0 a false) c least to m fr (M, sw) = none → ∀ h', h0.le h' → K (tuple #[slice none 0 0, slice none 0 0, .int .i64 3]) h') →
      (∀ S', frL (fun a => changeR l c 0 a false) c least to m fr (M, sw) = some S' → ∀ h' L' lp' lc', MatS h0 h' L' np nc n w R SP C cells S'.1 lp' lc' S'.2 → (∀ i d, I64 (rdM S'.1 i d)) →
        L_ref14_Propose_2 tp tn tc least np n nc lp' S'.2.length lc' (c : Int) ((to + 1 : Nat) : Int) h' K) →
      L_ref14_Propose_3 tp tn tc least np n nc lp sw.length lc (c : Int) (to : Int) (fr : Int) h K := by
  intro m
  induction m with
  | zero =>
    intro fr M sw h L lp lc hm s hi hsl kerr kok
    refine L_ref14_Propose_3r _ _ _ _ _ _ _ _ _ _ _ _ _ _ _ ?_
    unfold L_ref14_Propose_3T
    refine Br.no (by simp; omega) ?_
    rw [wrap_i64_id (by omega) (by omega)]
    exact kok (M, sw) rfl h L lp lc s hi
  | succ m ih =>
    intro fr M sw h L lp lc hm S hi hsl kerr kok
    refine L_ref14_Propose_3r _ _ _ _ _ _ _ _ _ _ _ _ _ _ _ ?_
    unfold L_ref14_Propose_3T
    have hf : fr < n := by omega
    have next : ∀ (h : Heap) (L : Lay) (lp : Option Addr) (lc : Nat) (M' : Mx) (sw' : List Swp), pairS (fun a => changeR l c 0 a false) c least to fr (M, sw) = some (M', sw') → MatS h0 h L np nc n w R SP C cells M' lp lc sw' → (∀ i d, I64 (rdM M' i d)) →
        L_ref14_Propose_3 tp tn tc least np n nc lp sw'.length lc (c : Int) (to : Int) (IntKind.wrap .i64 ((fr : Int) + 1)) h K := fun h L lp lc M' sw' e s hi => by
      rw [wrap_i64_id (by omega) (by omega)]
      have hlen := pair_len e
      dsimp only at hlen
      rw [frL, e] at kerr kok
      exact ih (fr + 1) M' sw' h L lp lc (by omega) s hi (by omega) kerr kok
    refine Br.yes (by simp; omega) (S.rowAt ht (S.get ht hc ?_))
    refine Br.dec (fun g => ?_) (fun g => ?_)
    · exact next h L lp lc M sw (by unfold pairS; rw [if_pos (.inl g)]) S hi
    · refine S.rowAt hf (S.get hf hc (Br.dec (fun g2 => ?_) (fun g2 => ?_)))
      · exact next h L lp lc M sw (by unfold pairS; rw [if_pos (.inr g2)]) S hi
      · have hI := hi to c
        have hI2 := hi fr c
        refine L_ref14_Propose_1026r _ _ _ _ _ _ _ _ _ _ _ _ _ _ _ ?_
        unfold L_ref14_Propose_1026T
        refine S.rowAt ht (S.get ht hc (S_Of hI fun v1 h1 l1 bn1 => ?_))
        have br1 := bn1.raw
        obtain ⟨n1, p1, c1, d1, rfl, _⟩ := bn1
        refine ⟨_, _, _, _, rfl, S_Turned br1 (by omega) fun v2 h2 l2 bn2 => ?_⟩
        have br2 := bn2.raw
        obtain ⟨n2, p2, c2, d2, rfl, _⟩ := bn2
        refine ⟨_, _, _, _, rfl, S_Fit br2 (by omega) fun h3 l3 => ⟨_, _, rfl, ?_⟩⟩
        have l13 := Heap.le_trans l1 (Heap.le_trans l2 l3)
        have S := S.le l13
        unfold I64 at hI hI2
        by_cases hmin : rdM M to c = -9223372036854775808
        · have e1 : fit (-(rdM M to c)) = (0, 3) := fit_over (fun x => by unfold I64 at x; omega)
          rw [e1]
          refine Br.yes rfl (Ret.mk (kerr ?_ h3 S.own.base))
          rw [frL]
          unfold pairS
          rw [if_neg (by rintro (x | x) <;> dsimp only at x <;> omega), if_pos hmin]
        · have e1 : fit (-(rdM M to c)) = (-(rdM M to c), 0) := fit_ok ⟨by omega, by omega⟩
          rw [e1]
          refine Br.no rfl ?_
          refine L_ref14_Propose_1029r _ _ _ _ _ _ _ _ _ _ _ _ _ _ _ _ ?_
          unfold L_ref14_Propose_1029T
          refine S.rowAt hf (S.get hf hc ?_)
          have ea : (if rdM M fr c < -(rdM M to c) then rdM M fr c else -(rdM M to c)) = amtM M c to fr := rfl
          dsimp only
          rw [ea]
          have am : 0 < amtM M c to fr ∧ amtM M c to fr ≤ rdM M fr c ∧ amtM M c to fr ≤ -(rdM M to c) := by
            unfold amtM; split <;> omega
          have e0 : pairS (fun a => changeR l c 0 a false) c least to fr (M, sw) = (if amtM M c to fr < least then some (M, sw) else if (changeR l c 0 (amtM M c to fr) false).2 ≠ 0 then none
              else if (fit (rdM M to 0 - (changeR l c 0 (amtM M c to fr) false).1)).2 ≠ 0 ∨ (fit (rdM M fr 0 + (changeR l c 0 (amtM M c to fr) false).1)).2 ≠ 0 then none
              else some (nextM M c to fr (amtM M c to fr) (changeR l c 0 (amtM M c to fr) false).1, sw ++ [⟨fr, to, c, amtM M c to fr, (changeR l c 0 (amtM M c to fr) false).1⟩])) := by
            conv => lhs; unfold pairS
            rw [if_neg (by rintro (x | x) <;> dsimp only at x <;> omega), if_neg hmin]
          have hne : to ≠ fr := fun x => by subst x; omega
          refine Br.dec (fun g3 => ?_) (fun g3 => ?_)
          · exact next h3 L lp lc M sw (by rw [e0, if_pos g3]) S hi
          · rw [if_neg g3] at e0
            generalize amtM M c to fr = a at *
            have b1 : I64 (rdM M to c + a) := ⟨by omega, by omega⟩
            have b2 : I64 (rdM M fr c - a) := ⟨by omega, by omega⟩
            refine L_ref14_Propose_1031r _ _ _ _ _ _ _ _ _ _ _ _ _ _ _ _ ?_
            unfold L_ref14_Propose_1031T
            refine S_RChange (T.le S.own.base) hl ok (show I64 a from ⟨by omega, by omega⟩) fun h4 l4 => ⟨_, _, rfl, ?_⟩
            have S := S.le l4
            have cI : I64 (changeR l c 0 a false).1 := changeR_I64
            generalize changeR l c 0 a false = ch at *
            obtain ⟨base, e⟩ := ch
            dsimp only at *
            refine S.rowAt ht (S.get0 ht (by omega) (S_Of (hi to 0) fun v5 h5 l5 bn5 => ?_))
            have br5 := bn5.raw
            obtain ⟨n5, p5, c5, d5, rfl, _⟩ := bn5
            refine ⟨_, _, _, _, rfl, S_Of cI fun v6 h6 l6 bn6 => ?_⟩
            have br6 := bn6.raw
            obtain ⟨n6, p6, c6, d6, rfl, _⟩ := bn6
            refine ⟨_, _, _, _, rfl, S_Turned br6 (by omega) fun v7 h7 l7 bn7 => ?_⟩
            have br7 := bn7.raw
            obtain ⟨n7, p7, c7, d7, rfl, _⟩ := bn7
            refine ⟨_, _, _, _, rfl, S_Add_Big (br5.le (Heap.le_trans l6 l7)) br7 (B := 5) (by omega) (by omega) (by omega) fun v8 h8 l8 bn8 => ?_⟩
            have br8 := bn8.raw
            obtain ⟨n8, p8, c8, d8, rfl, _⟩ := bn8
            refine ⟨_, _, _, _, rfl, S_Fit br8 (by omega) fun h9 l9 => ⟨_, _, rfl, ?_⟩⟩
            have S := S.le (Heap.le_trans l5 (Heap.le_trans l6 (Heap.le_trans l7 (Heap.le_trans l8 l9))))
            refine L_ref14_Propose_1033r _ _ _ _ _ _ _ _ _ _ _ _ _ _ _ _ _ _ _ _ ?_
            unfold L_ref14_Propose_1033T
            refine S.rowAt hf (S.get0 hf (by omega) (S_Of (hi fr 0) fun v10 h10 l10 bn10 => ?_))
            have br10 := bn10.raw
            obtain ⟨n10, p10, c10, d10, rfl, _⟩ := bn10
            refine ⟨_, _, _, _, rfl, S_Of cI fun v11 h11 l11 bn11 => ?_⟩
            have br11 := bn11.raw
            obtain ⟨n11, p11, c11, d11, rfl, _⟩ := bn11
            refine ⟨_, _, _, _, rfl, S_Add_Big (br10.le l11) br11 (B := 5) (by omega) (by omega) (by omega) fun v12 h12 l12 bn12 => ?_⟩
            have br12 := bn12.raw
            obtain ⟨n12, p12, c12, d12, rfl, _⟩ := bn12
            refine ⟨_, _, _, _, rfl, S_Fit br12 (by omega) fun h13 l13 => ⟨_, _, rfl, ?_⟩⟩
            have S := S.le (Heap.le_trans l10 (Heap.le_trans l11 (Heap.le_trans l12 l13)))
            clear l1 l2 l3 l4 l5 l6 l7 l8 l9 l10 l11 l12 br1 br2 br5 br6 br7 br8 br10 br11 br12
            rw [show rdM M to 0 + -base = rdM M to 0 - base from by omega]
            by_cases ge : e = 0
            case neg =>
              refine Br.yes (by simpa using ge) (Ret.mk (kerr ?_ h13 S.own.base))
              rw [frL, e0, if_pos ge]
            subst ge
            rw [if_neg (by decide)] at e0
            refine Br.no rfl ?_
            rcases fit_cases (rdM M to 0 - base) with ⟨i1, f1⟩ | ⟨_, f1⟩ <;> rw [f1] at e0 ⊢
            case inr => exact Br.yes rfl (Ret.mk (kerr (by rw [frL, e0, if_pos (.inl (by decide))]) h13 S.own.base))
            refine Br.no rfl ?_
            rcases fit_cases (rdM M fr 0 + base) with ⟨i2, f2⟩ | ⟨_, f2⟩ <;> rw [f2] at e0 ⊢
            case inr => exact Br.yes rfl (Ret.mk (kerr (by rw [frL, e0, if_pos (.inr (by decide))]) h13 S.own.base))
            rw [if_neg (by rintro (x | x) <;> exact x rfl)] at e0
            refine Br.no rfl ?_
            refine L_ref14_Propose_1036r _ _ _ _ _ _ _ _ _ _ _ _ _ _ _ _ _ _ _ ?_
            unfold L_ref14_Propose_1036T
            refine S.rowAt ht ⟨by omega, by omega, withAddr_intro rfl ⟨S.canSt ht (by omega), ?_⟩⟩
            obtain ⟨L1, S1, _⟩ := S.wr (i := to) (c := 0) (v := rdM M to 0 - base) ht (by omega)
            refine L_ref14_Propose_1037r _ _ _ _ _ _ _ _ _ _ _ _ _ _ _ _ _ _ ?_
            unfold L_ref14_Propose_1037T
            refine S1.rowAt hf ⟨by omega, by omega, withAddr_intro rfl ⟨S1.canSt hf (by omega), ?_⟩⟩
            obtain ⟨L2, S2, _⟩ := S1.wr (i := fr) (c := 0) (v := rdM M fr 0 + base) hf (by omega)
            dsimp only
            have sh1 := S.rows.sh.wr (c := 0) (v := rdM M to 0 - base) ht
            have r1 : rdM (wrM (wrM M to 0 (rdM M to 0 - base)) fr 0 (rdM M fr 0 + base)) to c = rdM M to c := by
              rw [rd_wr sh1 hf (by omega), rd_wr S.rows.sh ht (by omega), if_neg (by omega), if_neg (by omega)]
            have r2 : rdM (wrM (wrM (wrM M to 0 (rdM M to 0 - base)) fr 0 (rdM M fr 0 + base)) to c (rdM M to c + a)) fr c = rdM M fr c := by
              rw [rd_wr (sh1.wr hf) ht hc, if_neg (fun x => hne x.1.symm), rd_wr sh1 hf (by omega), rd_wr S.rows.sh ht (by omega), if_neg (by omega), if_neg (by omega)]
            have kp := next_keep S.rows.sh ht hf hne hc hc0 hi (by omega) am.2.1 am.2.2 i1 i2
            generalize (h13.setN (R to) 0 [.int .i64 (rdM M to 0 - base)]).setN (R fr) 0 [.int .i64 (rdM M fr 0 + base)] = g2 at *
            refine L_ref14_Propose_1038r _ _ _ _ _ _ _ _ _ _ _ _ _ _ _ _ _ ?_
            unfold L_ref14_Propose_1038T
            refine S2.rowAt ht (S2.rowAt ht (S2.get ht hc ⟨by omega, by omega, withAddr_intro rfl ?_⟩))
            rw [Nat.zero_add, Int.toNat_natCast, r1, wrap_i64_id b1.1 b1.2]
            refine ⟨S2.canSt ht hc, ?_⟩
            obtain ⟨L3, S3, _⟩ := S2.wr (i := to) (c := c) (v := rdM M to c + a) ht hc
            generalize g2.setN (R to) c [.int .i64 (rdM M to c + a)] = g3 at *
            refine L_ref14_Propose_1039r _ _ _ _ _ _ _ _ _ _ _ _ _ _ _ _ _ ?_
            unfold L_ref14_Propose_1039T
            refine S3.rowAt hf (S3.rowAt hf (S3.get hf hc ⟨by omega, by omega, withAddr_intro rfl ?_⟩))
            rw [Nat.zero_add, Int.toNat_natCast, r2, wrap_i64_id b2.1 b2.2]
            refine ⟨S3.canSt hf hc, ?_⟩
            obtain ⟨L4, S4, _⟩ := S3.wr (i := fr) (c := c) (v := rdM M fr c - a) hf hc
            generalize g3.setN (R fr) c [.int .i64 (rdM M fr c - a)] = g4 at *
            refine L_ref14_Propose_1040r _ _ _ _ _ _ _ _ _ _ _ _ _ _ _ _ _ ?_
            unfold L_ref14_Propose_1040T
            intro r hr
            have S5 := S4.le (le_ins hr (o := .cells [.int .i64 (fr : Int), .int .i64 (to : Int), .int .i64 (c : Int), .int .i64 a, .int .i64 base].toArray 123 (0, 0)))
            refine S5.push (x := ⟨fr, to, c, a, base⟩) (rdL_new _ _ _ _ _) (by omega) fun lp' lc' h6 L6 S6 st => ?_
            have := next h6 L6 lp' lc' _ _ e0 S6 kp.i64
            rw [List.length_append] at this
            exact this
theorem ref_to (T : Curs h0 tp l) (hl : l.length = tn) (ok : l.all inbB = true) (hw : w = tn) (hc : c < w) (hc0 : 0 < c) (hn : n ≤ 100) (hls : 1 ≤ least) :
    ∀ (m to : Nat) (M : Mx) (sw : List Swp) (h : Heap) (L : Lay) (lp : Option Addr) (lc : Nat), m + to = n → MatS h0 h L np nc n w R SP C cells M lp lc sw → (∀ i d, I64 (rdM M i d)) → sw.length + m * n ≤ 999999 →
      (toL (fun a => changeR l c 0 a false) c least n m to (M, sw) = none → ∀ h', h0.le h' → K (tuple #[slice none 0 0, slice none 0 0, .int .i64 3]) h') →
      (∀ S', toL (fun a => changeR l c 0 a false) c least n m to (M, sw) = some S' → ∀ h' L' lp' lc', MatS h0 h' L' np nc n w R SP C cells S'.1 lp' lc' S'.2 → (∀ i d, I64 (rdM S'.1 i d)) →
        L_ref14_Propose_1 tp tn tc least np n nc lp' S'.2.length lc' (IntKind.wrap .i64 ((c : Int) + 1)) h' K) →
      L_ref14_Propose_2 tp tn tc least np n nc lp sw.length lc (c : Int) (to : Int) h K := by
  intro m
  induction m with
  | zero =>
    intro to M sw h L lp lc hm s hi hsl kerr kok
    refine L_ref14_Propose_2r _ _ _ _ _ _ _ _ _ _ _ _ _ _ ?_
    unfold L_ref14_Propose_2T
    exact Br.no (by simp; omega) (kok (M, sw) rfl h L lp lc s hi)
  | succ m ih =>
    intro to M sw h L lp lc hm s hi hsl kerr kok
    refine L_ref14_Propose_2r _ _ _ _ _ _ _ _ _ _ _ _ _ _ ?_
    unfold L_ref14_Propose_2T
    rw [Nat.succ_mul] at hsl
    refine Br.yes (by simp; omega) (ref_inner T hl ok hw hc hc0 (by omega) hls (by omega) n 0 M sw h L lp lc (by omega) s hi (by omega) (fun e => kerr (by rw [toL, e])) (fun S' e h' L' lp' lc' s' hi' => ?_))
    rw [toL, e] at kerr kok
    have := frL_len n 0 _ S' e
    dsimp only at this
    exact ih (to + 1) S'.1 S'.2 h' L' lp' lc' (by omega) s' hi' (by omega) kerr kok
theorem ref_cols (T : Curs h0 tp l) (hl : l.length = tn) (ok : l.all inbB = true) (hls : 1 ≤ least) (hn : n ≤ 16) (htn : tn ≤ 8) :
    ∀ (m c : Nat) (M : Mx) (sw : List Swp) (h : Heap) (L : Lay) (lp : Option Addr) (lc : Nat), m + c = tn → 1 ≤ c → MatS h0 h L np nc n tn R SP C cells M lp lc sw → (∀ i d, I64 (rdM M i d)) → sw.length + m * 256 ≤ 999999 →
      (curL (fun c a => changeR l (c : Int) 0 a false) least n m c (M, sw) = none → ∀ h', h0.le h' → K (tuple #[slice none 0 0, slice none 0 0, .int .i64 3]) h') →
      (∀ S', curL (fun c a => changeR l (c : Int) 0 a false) least n m c (M, sw) = some S' → ∀ h' L' lp' lc', MatS h0 h' L' np nc n tn R SP C cells S'.1 lp' lc' S'.2 → K (tuple #[slice lp' S'.2.length lc', slice np n nc, .int .i64 0]) h') →
      L_ref14_Propose_1 tp tn tc least np n nc lp sw.length lc (c : Int) h K := by
  intro m
  induction m with
  | zero =>
    intro c M sw h L lp lc hm hc s hi hsl kerr kok
    refine L_ref14_Propose_1r _ _ _ _ _ _ _ _ _ _ _ _ _ ?_
    unfold L_ref14_Propose_1T
    exact Br.no (by simp; omega) (Ret.mk (kok (M, sw) rfl h L lp lc s))
  | succ m ih =>
    intro c M sw h L lp lc hm hc s hi hsl kerr kok
    refine L_ref14_Propose_1r _ _ _ _ _ _ _ _ _ _ _ _ _ ?_
    unfold L_ref14_Propose_1T
    have hnn : n * n ≤ 16 * 16 := Nat.mul_le_mul hn hn
    refine Br.yes (by simp; omega) (ref_to T hl ok rfl (by omega) (by omega) (by omega) hls n 0 M sw h L lp lc (by omega) s hi (by omega) (fun e => kerr (by rw [curL, e])) (fun S' e h' L' lp' lc' s' hi' => ?_))
    rw [wrap_i64_id (by omega) (by omega)]
    rw [curL, e] at kerr kok
    have hlen := toL_len n 0 _ S' e
    dsimp only at hlen
    exact ih (c + 1) S'.1 S'.2 h' L' lp' lc' (by omega) (by omega) s' hi' (by omega) kerr kok
theorem ref_rows {p : Option Addr} {N nc0 : Nat} {NL : List NRow} (T : Curs h0 tp l) (hl : l.length = tn) (ok : l.all inbB = true) (htn : tn ≤ 8) (ht1 : 1 ≤ tn) (X : Nets h0 p NL) (hN : NL.length = N) (hn : N ≤ 16) (hI : ∀ x ∈ NL, ∀ v ∈ x.l, I64 v)
    (kbad : (likeB l (mxOf NL) = true ∨ least < 1) → ∀ h', h0.le h' → K (tuple #[slice none 0 0, slice none 0 0, .int .i64 1]) h')
    (kerr : likeB l (mxOf NL) = false → 1 ≤ least → curL (fun c a => changeR l (c : Int) 0 a false) least N (tn - 1) 1 (mxOf NL, []) = none → ∀ h', h0.le h' → K (tuple #[slice none 0 0, slice none 0 0, .int .i64 3]) h')
    (kok : likeB l (mxOf NL) = false → 1 ≤ least → ∀ S', curL (fun c a => changeR l (c : Int) 0 a false) least N (tn - 1) 1 (mxOf NL, []) = some S' → ∀ h' L' np nc R SP C cells lp' lc', MatS h0 h' L' np nc N tn R SP C cells S'.1 lp' lc' S'.2 → K (tuple #[slice lp' S'.2.length lc', slice np N nc, .int .i64 0]) h') :
    ∀ (m j : Nat) (h : Heap) (L : Lay) (np : Option Addr) (nc : Nat) (R C : Nat → Nat) (SP : Nat → List Value) (cells : List Value), m + j = N → MatS h0 h L np nc j tn R SP C cells ((mxOf NL).take j) none 0 [] → likeB l (mxOf NL) = likeB l ((mxOf NL).drop j) →
      L_ref14_Propose_0 tp tn tc p N nc0 least np j nc (j : Int) h K := by
  intro m
  induction m with
  | zero =>
    intro j h L np nc R C SP cells hm s e
    refine L_ref14_Propose_0r _ _ _ _ _ _ _ _ _ _ _ _ _ ?_
    unfold L_ref14_Propose_0T
    have hj : j = N := by omega
    subst hj
    rw [List.take_of_length_le (by unfold mxOf; rw [List.length_map]; omega)] at s
    rw [List.drop_eq_nil_of_le (by unfold mxOf; rw [List.length_map]; omega)] at e
    have e : likeB l (mxOf NL) = false := e
    refine Br.no (by simp) (Br.dec (fun g => Ret.mk (kbad (.inr g) h s.own.base)) fun g => ?_)
    intro r hr
    have O := s.own.ins (vs := []) (T := 123) hr
    have fr := s.own.free hr
    have hnp : ∀ b, np = some ⟨b, 0, none⟩ → b ≠ r := fun b e => by
      rcases s.net with ⟨_, q, _⟩ | ⟨b', q, e2, e3, _⟩
      · rw [q] at e; cases e
      · rw [e2] at e; cases e; exact Lay.ne e3 fr
    have hR : ∀ i, i < j → R i ≠ r := fun i hi => Lay.ne (s.rows.row i hi) fr
    have s2 : MatS h0 (h.ins r (.cells [].toArray 123 (0, 0))) (L.upd r []) np nc j tn R SP C cells (mxOf NL) (some ⟨r, 0, none⟩) 0 [] :=
      ⟨O, s.len, s.cl, s.net.keep fun b e => Lay.upd_ne _ _ (hnp b e), s.rows.keep fun i hi => Lay.upd_ne _ _ (hR i hi), .inr ⟨r, [], rfl, Lay.upd_same _ _ _, rfl⟩, s.dn, fun i hi e => hR i hi (by cases e; rfl), fun b e e2 => hnp b e (by cases e2; rfl)⟩
    refine ref_cols T hl ok (by omega) hn htn (tn - 1) 1 _ [] _ _ _ 0 (by omega) (by omega) s2 (fun i d => ?_) (by simp; omega) (kerr e (by omega)) (fun S' e2 h' L' lp' lc' s' => kok e (by omega) S' e2 h' L' np nc R SP C cells lp' lc' s')
    unfold rdM
    have I0 : I64 0 := ⟨by decide, by decide⟩
    cases hx : (mxOf NL)[i]? with
    | none => rw [List.getD_eq_getElem?_getD (l := mxOf NL), hx]; exact I0
    | some row =>
      rw [List.getD_eq_getElem?_getD (l := mxOf NL), hx]
      dsimp only [Option.getD_some]
      cases hv : row[d]? with
      | none => rw [List.getD_eq_getElem?_getD, hv]; exact I0
      | some v =>
        rw [List.getD_eq_getElem?_getD, hv]
        have := List.mem_of_getElem? hx
        unfold mxOf at this
        obtain ⟨y, hy, rfl⟩ := List.mem_map.1 this
        exact hI y hy v (List.mem_of_getElem? hv)
  | succ m ih =>
    intro j h L np nc R C SP cells hm s e
    refine L_ref14_Propose_0r _ _ _ _ _ _ _ _ _ _ _ _ _ ?_
    unfold L_ref14_Propose_0T
    have hx : NL[j]? = some NL[j] := List.getElem?_eq_getElem (by omega)
    have hmem : NL[j] ∈ NL := List.getElem_mem _
    have hlM : j < (mxOf NL).length := by unfold mxOf; rw [List.length_map]; omega
    have hMx : (mxOf NL)[j] = NL[j].l := by simp [mxOf]
    rw [List.drop_eq_getElem_cons hlM, hMx] at e
    generalize NL[j] = x at *
    unfold likeB at e
    rw [List.any_cons] at e
    have X1 := X.le s.own.base
    refine Br.yes (by simp; omega) (nx X1 hN rfl hx (Br.intro (fun g => ?_) (fun g => ?_)))
    · have : ((x.l.length : Int) != (l.length : Int)) = true := by rw [hl]; exact g
      rw [this, Bool.true_or] at e
      exact Ret.mk (kbad (.inl e) h s.own.base)
    · have g2 : ((x.l.length : Int) != (l.length : Int)) = false := by rw [hl]; exact g
      rw [g2, Bool.false_or] at e
      have hlen : x.l.length = tn := by simp at g; omega
      intro r hr
      have l1 := le_ins hr (o := .cells [].toArray 2 (0, 0))
      refine nx (X1.le l1) hN rfl hx ?_
      have O := own_new (T := 2) (z := [.int .i64 0]) hr
      refine O.push (by decide) l1 (by omega) (by rw [intsV_length]; simp) ((X1.le l1).2 x hmem) (allCells_ints _ _) (by simp) ?_
      intro p' c' h2 l2 w2 _ _
      rw [Nat.zero_add, hlen]
      rw [List.nil_append] at w2
      refine s.add l2 w2 hlen (by omega) (by omega) fun np' nc' h3 L3 R3 SP3 C3 cells3 s3 old => ?_
      rw [wrap_i64_id (by omega) (by omega)]
      have et : (mxOf NL).take (j + 1) = (mxOf NL).take j ++ [x.l] := by
        rw [List.take_add_one, mx_get hx]; rfl
      exact ih (j + 1) _ _ np' nc' R3 C3 SP3 cells3 (by omega) (by rw [et]; exact s3) e
theorem S_RPropose {h : Heap} {p : Option Addr} {N nc0 : Nat} {NL : List NRow} (T : Curs h tp l) (hl : l.length = tn) (X : Nets h p NL) (hN : NL.length = N) (hs : N ≤ 1000) (hI : ∀ x ∈ NL, ∀ v ∈ x.l, I64 v)
    (kk : ∀ lp ln lc np nn nc e h', h.le h' → PRes h' lp ln np nn e (propR l (mxOf NL) least) → K (tuple #[slice lp ln lc, slice np nn nc, .int .i64 e]) h') :
    CallA Try.prog fn_ref14_Propose [slice tp tn tc, slice p N nc0, .int .i64 least] h K := by
  refine F_ref14_Propose _ _ _ _ _ _ _ _ _ ?_
  unfold F_ref14_ProposeT
  have hM : (mxOf NL).length = N := by unfold mxOf; rw [List.length_map, hN]
  refine S_RCheck T hl ⟨_, rfl, ?_⟩
  unfold propR at kk
  rw [hM] at kk
  by_cases g1 : tabE l = 0
  case neg =>
    rw [if_pos g1] at kk
    exact Br.yes (by simpa using g1) (Ret.mk (kk _ _ _ _ _ _ _ h h.le_refl (PRes.none rfl)))
  rw [g1] at kk ⊢
  rw [if_neg (by decide)] at kk
  refine Br.no rfl ?_
  by_cases g2 : 16 < N
  case pos =>
    rw [if_pos g2] at kk
    exact Br.yes (by simp; omega) (Ret.mk (kk _ _ _ _ _ _ _ h h.le_refl (PRes.none rfl)))
  rw [if_neg g2] at kk
  refine Br.no (by simp; omega) ?_
  obtain ⟨t1, t8, _, _, _⟩ := tab_parts g1
  have ok := all_inb g1
  intro r hr
  have O := (Own.start h).ins (vs := []) (T := 36) hr
  have s0 : MatS h (h.ins r (.cells [].toArray 36 (0, 0))) (Lay.none.upd r []) (some ⟨r, 0, none⟩) 0 0 tn (fun _ => 0) (fun _ => []) (fun _ => 0) [] ((mxOf NL).take 0) none 0 [] :=
    ⟨O, rfl, fun i hi => absurd hi (by omega), .inr ⟨r, [], rfl, Lay.upd_same _ _ _, rfl⟩, ⟨⟨rfl, fun x hx => (by cases hx)⟩, fun i hi => absurd hi (by omega), fun i j hi => absurd hi (by omega)⟩, Lst.nil _ _, fun i hi => absurd hi (by omega), fun i hi => absurd hi (by omega), fun b _ e => (by cases e)⟩
  rw [hl] at kk
  refine ref_rows T hl ok (by omega) (by omega) X hN (by omega) hI (fun g h' l' => ?_) (fun g3 g4 e h' l' => ?_) (fun g3 g4 S' e h' L' np nc R SP C cells lp' lc' s' => ?_) N 0 _ _ _ 0 _ _ _ [] (by omega) s0 rfl
  · rw [if_pos g] at kk
    exact kk _ _ _ _ _ _ _ h' l' (PRes.none rfl)
  · rw [g3, if_neg (by simp; omega), e] at kk
    exact kk _ _ _ _ _ _ _ h' l' (PRes.none rfl)
  · rw [g3, if_neg (by simp; omega), e] at kk
    obtain ⟨NL', e1, e2, e3, e4⟩ := s'.nets
    exact kk _ _ _ _ _ _ _ h' s'.own.base ⟨rfl, e4, rfl, NL', e1, e2, e3⟩
end
end Go.Proofs.Ytkcogdmddhkldaa
