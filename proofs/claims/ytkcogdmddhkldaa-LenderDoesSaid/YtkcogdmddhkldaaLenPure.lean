/- Providers, in plain words: what is drawn, given back, and who fails; what is drawn, and what is needed still, are together the need; what is given back leaves all as it was. -/
import Derived.Test.YtkcogdmddhkldaaLedPure
namespace Go.Proofs.Ytkcogdmddhkldaa
open Go Go.Sy Go.Value
set_option linter.unusedVariables false
set_option linter.unusedSimpArgs false

structure Ln where
  L : Mx
  F : List Bool
  cur : Nat
structure Prt where
  p : Int
  a : Int
structure Ln.Ok (S : Ln) : Prop where
  n8 : S.L.length ≤ 8
  c1 : 1 ≤ S.cur
  c8 : S.cur ≤ 8
  sh : shM S.L S.L.length S.cur
  fl : S.F.length = S.L.length
  i64 : ∀ i c, I64 (rdM S.L i c)
  pos : ∀ i c, 0 ≤ rdM S.L i c
def knownB (S : Ln) (a : Int) : Bool := decide (0 ≤ a ∧ a < (S.L.length : Int))
def hasC (S : Ln) (c : Int) : Bool := decide (0 ≤ c ∧ c < (S.cur : Int))
theorem knownB_t {S : Ln} {a : Int} (h : knownB S a = true) : ∃ i : Nat, a = (i : Int) ∧ i < S.L.length := by
  have := of_decide_eq_true h
  exact ⟨a.toNat, by omega, by omega⟩
theorem hasC_t {S : Ln} {a : Int} (h : hasC S a = true) : ∃ i : Nat, a = (i : Int) ∧ i < S.cur := by
  have := of_decide_eq_true h
  exact ⟨a.toNat, by omega, by omega⟩
def roomN (F : List Bool) (c i : Nat) (M : Mx) : Int := if F.getD i false = true then 0 else rdM M i c
def leftN (S : Ln) (a c : Int) : Int := if knownB S a = false then 0 else if hasC S c = false then 0 else roomN S.F c.toNat a.toNat S.L
def failedN (S : Ln) (a : Int) : Bool := if knownB S a = true then S.F.getD a.toNat false else false
def failN (S : Ln) (a : Int) : Int × Ln := if knownB S a = false then (5, S) else if S.F.getD a.toNat false = true then (11, S) else (0, ⟨S.L, S.F.set a.toNat true, S.cur⟩)
/-- from provider i on -/
def drawM (F : List Bool) (c : Nat) : Nat → Nat → Int → Mx → List Prt × Int × Mx
  | 0, _, need, M => ([], need, M)
  | m + 1, i, need, M =>
    if 0 < (if need < roomN F c i M then need else roomN F c i M) then
      (⟨(i : Int), if need < roomN F c i M then need else roomN F c i M⟩ :: (drawM F c m (i + 1) (need - if need < roomN F c i M then need else roomN F c i M) (wrM M i c (rdM M i c - if need < roomN F c i M then need else roomN F c i M))).1,
        (drawM F c m (i + 1) (need - if need < roomN F c i M then need else roomN F c i M) (wrM M i c (rdM M i c - if need < roomN F c i M then need else roomN F c i M))).2)
    else drawM F c m (i + 1) (need - if need < roomN F c i M then need else roomN F c i M) M
def drawN (S : Ln) (c need : Int) : List Prt × Int × Int × Ln :=
  if hasC S c = false then ([], 0, 1, S) else if need < 0 then ([], 0, 1, S)
  else ((drawM S.F c.toNat S.L.length 0 need S.L).1, (drawM S.F c.toNat S.L.length 0 need S.L).2.1, 0, ⟨(drawM S.F c.toNat S.L.length 0 need S.L).2.2, S.F, S.cur⟩)
def toP (c : Int) (l : List Prt) : List Pst := l.map fun x => ⟨x.p, c, x.a⟩
def giveN (S : Ln) (c : Int) (l : List Prt) : Int × Ln :=
  if hasC S c = false then (1, S) else if l.any (fun x => !knownB S x.p || decide (x.a < 1)) = true then (1, S)
  else if (addsM (toP c l) S.L).1 ≠ 0 then (3, S) else (0, ⟨(addsM (toP c l) S.L).2, S.F, S.cur⟩)
/-- facts of one draw -/
structure DrawK (F : List Bool) (c : Nat) (n w i : Nat) (need : Int) (M : Mx) (r : List Prt × Int × Mx) : Prop where
  sh : shM r.2.2 n w
  still : 0 ≤ r.2.1 ∧ r.2.1 ≤ need
  sum : sumL (r.1.map (·.a)) + r.2.1 = need
  par : ∀ x ∈ r.1, (i : Int) ≤ x.p ∧ x.p < (n : Int) ∧ 1 ≤ x.a ∧ F.getD x.p.toNat false = false
  inc : r.1.Pairwise fun x y => x.p < y.p
  low : ∀ j d, j < i → rdM r.2.2 j d = rdM M j d
  oth : ∀ j d, d ≠ c → rdM r.2.2 j d = rdM M j d
  le : ∀ j d, 0 ≤ rdM r.2.2 j d ∧ rdM r.2.2 j d ≤ rdM M j d
  done : 0 < r.2.1 → ∀ j, i ≤ j → j < n → roomN F c j r.2.2 = 0
  back : addsM (toP (c : Int) r.1) r.2.2 = (0, M)
theorem roomN_le {F : List Bool} {c i : Nat} {M : Mx} (h : 0 ≤ rdM M i c) : 0 ≤ roomN F c i M ∧ roomN F c i M ≤ rdM M i c := by
  unfold roomN; split <;> omega
theorem drawM_ok {F : List Bool} {c n w : Nat} (hc : c < w) : ∀ (m i : Nat) (need : Int) (M : Mx), m + i = n → shM M n w → (∀ i d, I64 (rdM M i d)) → (∀ i d, 0 ≤ rdM M i d) → 0 ≤ need → DrawK F c n w i need M (drawM F c m i need M)
  | 0, i, need, M, hm, s, hi, hp, h0 => by
    refine ⟨s, ⟨h0, Int.le_refl _⟩, by show sumL [] + need = need; rw [show sumL [] = 0 from rfl]; omega, fun x hx => (by cases hx), List.Pairwise.nil, fun _ _ _ => rfl, fun _ _ _ => rfl, fun j d => ⟨hp j d, Int.le_refl _⟩, fun _ j h1 h2 => by omega, rfl⟩
  | m + 1, i, need, M, hm, s, hi, hp, h0 => by
    have hin : i < n := by omega
    have rl := roomN_le (F := F) (hp i c)
    have hF : 0 < roomN F c i M → F.getD i false = false := fun h => by
      unfold roomN at h
      split at h
      · omega
      · rename_i g; simpa using g
    rw [drawM]
    generalize hr : roomN F c i M = r at *
    have hn : 0 ≤ (if need < r then need else r) ∧ (if need < r then need else r) ≤ need ∧ (if need < r then need else r) ≤ r ∧ (need - (if need < r then need else r) > 0 → (if need < r then need else r) = r) := by
      split <;> omega
    generalize (if need < r then need else r) = a at *
    obtain ⟨a0, a1, a2, a3⟩ := hn
    by_cases hpos : 0 < a
    · rw [if_pos hpos]
      have e1 : ∀ j d, rdM (wrM M i c (rdM M i c - a)) j d = if j = i ∧ d = c then rdM M i c - a else rdM M j d := fun j d => rd_wr s hin hc j d
      have hiic := hi i c
      have hpic := hp i c
      unfold I64 at hiic
      have K := drawM_ok (F := F) hc m (i + 1) (need - a) (wrM M i c (rdM M i c - a)) (by omega) (s.wr hin) (fun j d => by rw [e1]; split <;> first | (unfold I64; omega) | exact hi j d) (fun j d => by rw [e1]; split <;> first | omega | exact hp j d) (by omega)
      have k6 := K.low i c (by omega)
      rw [e1, if_pos ⟨rfl, rfl⟩] at k6
      generalize drawM F c m (i + 1) (need - a) (wrM M i c (rdM M i c - a)) = R at *
      refine ⟨K.sh, ⟨K.still.1, by have := K.still.2; show R.2.1 ≤ need; omega⟩, ?_, ?_, ?_, fun j d h => ?_, fun j d h => ?_, fun j d => ?_, fun h j h1 h2 => ?_, ?_⟩
      · have := K.sum
        show a + sumL (R.1.map (·.a)) + R.2.1 = need
        omega
      · intro x hx
        rcases List.mem_cons.1 hx with rfl | hx
        · exact ⟨Int.le_refl _, by dsimp only; omega, by dsimp only; omega, by dsimp only; rw [Int.toNat_natCast]; exact hF (by omega)⟩
        · obtain ⟨x1, x2, x3, x4⟩ := K.par x hx
          exact ⟨by omega, x2, x3, x4⟩
      · refine List.Pairwise.cons (fun y hy => ?_) K.inc
        have := (K.par y hy).1
        dsimp only
        omega
      · rw [show (R.1, R.2).2.2 = R.2.2 from rfl] at *
        have := K.low j d (by omega)
        rw [e1, if_neg (by omega)] at this
        exact this
      · have := K.oth j d h
        rw [e1, if_neg (by omega)] at this
        exact this
      · have := K.le j d
        rw [e1] at this
        split at this
        · rename_i g; obtain ⟨rfl, rfl⟩ := g
          exact ⟨this.1, by have := this.2; show rdM R.2.2 _ _ ≤ _; omega⟩
        · exact this
      · by_cases e : j = i
        · subst e
          have h3 := K.done h
          have hst := K.still
          have ha : a = r := a3 (by have : 0 < R.2.1 := h; omega)
          show roomN F c j R.2.2 = 0
          unfold roomN at hr ⊢
          rw [k6]
          split at hr
          · rename_i g; rw [if_pos g]
          · rename_i g; rw [if_neg g]; omega
        · exact K.done h j (by omega) h2
      · show addsM (⟨(i : Int), (c : Int), a⟩ :: toP c R.1) R.2.2 = (0, M)
        have hb := K.back
        rw [addsM]
        dsimp only
        simp only [Int.toNat_natCast]
        rw [k6, show rdM M i c - a + a = rdM M i c by omega, fit_ok (hi i c), if_neg (by simp)]
        have sw : ∀ (l : List Prt) (A : Mx) (v : Int), shM A n w → (∀ x ∈ l, (i : Int) < x.p ∧ x.p < (n : Int)) → addsM (toP (c : Int) l) (wrM A i c v) = ((addsM (toP (c : Int) l) A).1, wrM (addsM (toP (c : Int) l) A).2 i c v) := by
          intro l
          induction l with
          | nil => intro A v sA _; rfl
          | cons x l ih =>
            intro A v sA hx
            obtain ⟨x1, x2⟩ := hx x (List.mem_cons_self ..)
            show addsM (⟨x.p, (c : Int), x.a⟩ :: toP c l) _ = _
            rw [show toP (c : Int) (x :: l) = ⟨x.p, (c : Int), x.a⟩ :: toP c l from rfl, addsM, addsM]
            dsimp only
            simp only [Int.toNat_natCast]
            have hxn : x.p.toNat < n := by omega
            have er : rdM (wrM A i c v) x.p.toNat c = rdM A x.p.toNat c := by rw [rd_wr sA hin hc, if_neg (by omega)]
            have ec : wrM (wrM A i c v) x.p.toNat c (rdM A x.p.toNat c + x.a) = wrM (wrM A x.p.toNat c (rdM A x.p.toNat c + x.a)) i c v := by
              refine mx_ext ((sA.wr hin).wr hxn) ((sA.wr hxn).wr hin) fun j d hj hd => ?_
              rw [rd_wr (sA.wr hin) hxn hc, rd_wr sA hin hc, rd_wr (sA.wr hxn) hin hc, rd_wr sA hxn hc]
              by_cases g1 : j = x.p.toNat ∧ d = c
              · rw [if_pos g1, if_neg (by omega), if_pos g1]
              · rw [if_neg g1]
                by_cases g2 : j = i ∧ d = c
                · rw [if_pos g2, if_pos g2]
                · rw [if_neg g2, if_neg g2, if_neg g1]
            rw [er]
            split
            · rfl
            · rw [ec]
              exact ih _ _ (sA.wr hxn) fun y hy => hx y (List.mem_cons_of_mem _ hy)
        have := sw R.1 R.2.2 (rdM M i c) K.sh (fun x hx => by have := K.par x hx; omega)
        rw [this, hb]
        dsimp only
        rw [wr_wr s hin, wr_rd_self s hin hc]
    · rw [if_neg hpos]
      have ha : a = 0 := by omega
      subst ha
      have K := drawM_ok (F := F) hc m (i + 1) (need - 0) M (by omega) s hi hp (by omega)
      generalize drawM F c m (i + 1) (need - 0) M = R at *
      refine ⟨K.sh, ⟨K.still.1, by have := K.still.2; omega⟩, by have := K.sum; omega, fun x hx => ?_, K.inc, fun j d h => K.low j d (by omega), K.oth, K.le, fun h j h1 h2 => ?_, K.back⟩
      · obtain ⟨x1, x2, x3, x4⟩ := K.par x hx
        exact ⟨by omega, x2, x3, x4⟩
      · by_cases e : j = i
        · subst e
          have hst := K.still
          have : (0 : Int) = r := a3 (by omega)
          have k6 := K.low j c (by omega)
          unfold roomN at hr ⊢
          rw [k6]
          split at hr
          · rename_i g; rw [if_pos g]
          · rename_i g; rw [if_neg g]; omega
        · exact K.done h j (by omega) h2
theorem drawN_ok {S : Ln} (o : S.Ok) (c need : Int) : (drawN S c need).2.2.2.Ok := by
  unfold drawN
  split
  · exact o
  split
  · exact o
  rename_i h1 h2
  obtain ⟨j, rfl, hj⟩ := hasC_t (by simpa using h1)
  simp only [Int.toNat_natCast]
  have K := drawM_ok (F := S.F) hj S.L.length 0 need S.L (by omega) o.sh o.i64 o.pos (by omega)
  have hl := K.sh.1
  refine { n8 := by show (drawM S.F j S.L.length 0 need S.L).2.2.length ≤ 8; rw [hl]; exact o.n8, c1 := o.c1, c8 := o.c8, sh := by show shM (drawM S.F j S.L.length 0 need S.L).2.2 (drawM S.F j S.L.length 0 need S.L).2.2.length S.cur; rw [hl]; exact K.sh, fl := by show S.F.length = (drawM S.F j S.L.length 0 need S.L).2.2.length; rw [hl]; exact o.fl, i64 := fun i d => ?_, pos := fun i d => (K.le i d).1 }
  have h3 := K.le i d
  have h4 := o.i64 i d
  unfold I64 at h4 ⊢
  exact ⟨by show _ ≤ rdM (drawM S.F j S.L.length 0 need S.L).2.2 i d; omega, by show rdM (drawM S.F j S.L.length 0 need S.L).2.2 i d ≤ _; omega⟩
theorem adds_pos {n w : Nat} : ∀ (b : List Pst) {M : Mx}, shM M n w → (∀ i c, 0 ≤ rdM M i c) → (∀ p ∈ b, 0 ≤ p.m ∧ p.m < (n : Int) ∧ 0 ≤ p.c ∧ p.c < (w : Int) ∧ 0 ≤ p.a) → ∀ i c, 0 ≤ rdM (addsM b M).2 i c
  | [], M, _, hp, _ => hp
  | p :: r, M, s, hp, hb => by
    have h := hb p (List.mem_cons_self ..)
    rw [addsM]
    split
    · exact hp
    · refine adds_pos r (s.wr (by omega)) (fun i c => ?_) fun q hq => hb q (List.mem_cons_of_mem _ hq)
      rw [rd_wr s (by omega) (by omega)]
      split
      · have := hp p.m.toNat p.c.toNat; omega
      · exact hp i c
theorem give_parts {S : Ln} {l : List Prt} {c : Nat} (hc : c < S.cur) (h : ¬ l.any (fun x => !knownB S x.p || decide (x.a < 1)) = true) : ∀ p ∈ toP (c : Int) l, 0 ≤ p.m ∧ p.m < (S.L.length : Int) ∧ 0 ≤ p.c ∧ p.c < (S.cur : Int) ∧ 0 ≤ p.a := fun p hp => by
  have h : l.any (fun x => !knownB S x.p || decide (x.a < 1)) = false := by simpa using h
  rw [List.any_eq_false] at h
  unfold toP at hp
  obtain ⟨x, hx, rfl⟩ := List.mem_map.1 hp
  have := h x hx
  simp only [Bool.or_eq_true, Bool.not_eq_true', not_or, Bool.not_eq_false, decide_eq_true_eq] at this
  have hk := of_decide_eq_true this.1
  dsimp only
  omega
theorem giveN_ok {S : Ln} (o : S.Ok) (c : Int) (l : List Prt) : (giveN S c l).2.Ok := by
  unfold giveN
  split
  · exact o
  split
  · exact o
  split
  · exact o
  rename_i h1 h2 h3
  obtain ⟨j, rfl, hj⟩ := hasC_t (by simpa using h1)
  have hb := give_parts hj h2
  obtain ⟨k1, k2, _, _⟩ := addsM_ok (toP (j : Int) l) o.sh o.i64 (fun p hp => by have := hb p hp; omega) (by simpa using h3)
  have hl := k1.1
  exact { n8 := by show (addsM (toP (j : Int) l) S.L).2.length ≤ 8; rw [hl]; exact o.n8, c1 := o.c1, c8 := o.c8, sh := by show shM (addsM (toP (j : Int) l) S.L).2 (addsM (toP (j : Int) l) S.L).2.length S.cur; rw [hl]; exact k1, fl := by show S.F.length = (addsM (toP (j : Int) l) S.L).2.length; rw [hl]; exact o.fl, i64 := k2, pos := adds_pos _ o.sh o.pos hb }
theorem failN_ok {S : Ln} (o : S.Ok) (a : Int) : (failN S a).2.Ok := by
  unfold failN
  split
  · exact o
  split
  · exact o
  exact { o with fl := by show (S.F.set a.toNat true).length = S.L.length; rw [List.length_set]; exact o.fl }
/-- what was drawn is given back -/
theorem give_back {S : Ln} (o : S.Ok) {c need : Int} (h : (drawN S c need).2.2.1 = 0) : giveN (drawN S c need).2.2.2 c (drawN S c need).1 = (0, S) := by
  unfold drawN at h ⊢
  by_cases h1 : hasC S c = false
  · rw [if_pos h1] at h; cases h
  rw [if_neg h1] at h ⊢
  by_cases h2 : need < 0
  · rw [if_pos h2] at h; cases h
  rw [if_neg h2]
  have h1 : hasC S c = true := by simpa using h1
  obtain ⟨j, rfl, hj⟩ := hasC_t h1
  simp only [Int.toNat_natCast]
  have K := drawM_ok (F := S.F) hj S.L.length 0 need S.L (by omega) o.sh o.i64 o.pos (by omega)
  unfold giveN
  have g1 : ¬ hasC ⟨(drawM S.F j S.L.length 0 need S.L).2.2, S.F, S.cur⟩ (j : Int) = false := by
    show ¬ decide (0 ≤ (j : Int) ∧ (j : Int) < (S.cur : Int)) = false
    rw [decide_eq_true (by omega)]; decide
  have g2 : ¬ (drawM S.F j S.L.length 0 need S.L).1.any (fun x => !knownB ⟨(drawM S.F j S.L.length 0 need S.L).2.2, S.F, S.cur⟩ x.p || decide (x.a < 1)) = true := by
    simp only [Bool.not_eq_true, List.any_eq_false]
    intro x hx
    obtain ⟨x1, x2, x3, _⟩ := K.par x hx
    have e1 : knownB ⟨(drawM S.F j S.L.length 0 need S.L).2.2, S.F, S.cur⟩ x.p = true := by
      unfold knownB
      refine decide_eq_true ?_
      show 0 ≤ x.p ∧ x.p < ((drawM S.F j S.L.length 0 need S.L).2.2.length : Int)
      rw [K.sh.1]; omega
    rw [e1, decide_eq_false (by omega)]; decide
  rw [if_neg g1, if_neg g2]
  dsimp only
  rw [K.back, if_neg (by simp)]
end Go.Proofs.Ytkcogdmddhkldaa
