/- A ledger, in plain words: what each operation answers and leaves; of each currency the balances are together the nostro; a batch and what takes it off. -/
import Derived.Test.YtkcogdmddhkldaaMat
namespace Go.Proofs.Ytkcogdmddhkldaa
open Go Go.Sy Go.Value
set_option linter.unusedVariables false
set_option linter.unusedSimpArgs false

structure Lg where
  M : Mx
  N : List Int
  cur : Nat
structure Pst where
  m : Int
  c : Int
  a : Int
/-- the sizes of a ledger -/
structure Lg.Sz (S : Lg) : Prop where
  n1 : 1 ≤ S.M.length
  n16 : S.M.length ≤ 16
  c1 : 1 ≤ S.cur
  c8 : S.cur ≤ 8
  sh : shM S.M S.M.length 8
  N8 : S.N.length = 8
  i64 : ∀ i c, I64 (rdM S.M i c)
  n64 : ∀ c, I64 (S.N.getD c 0)
/-- what always holds of it -/
structure Lg.Ok (S : Lg) : Prop extends S.Sz where
  z : ∀ i c, S.cur ≤ c → rdM S.M i c = 0
  zN : ∀ c, S.cur ≤ c → S.N.getD c 0 = 0
  sum : ∀ c, sumL (colM S.M c) = S.N.getD c 0
  pos : ∀ c, 0 ≤ S.N.getD c 0
def newG (n c : Nat) : Lg := ⟨List.replicate n (List.replicate 8 0), List.replicate 8 0, c⟩
def hasB (S : Lg) (m c : Int) : Bool := decide (0 ≤ m ∧ m < (S.M.length : Int) ∧ 0 ≤ c ∧ c < (S.cur : Int))
theorem hasB_t {S : Lg} {m c : Int} (h : hasB S m c = true) : ∃ i j : Nat, m = (i : Int) ∧ c = (j : Int) ∧ i < S.M.length ∧ j < S.cur := by
  unfold hasB at h
  have := of_decide_eq_true h
  exact ⟨m.toNat, c.toNat, by omega, by omega, by omega, by omega⟩
def getG (S : Lg) (m c : Int) : Int := if hasB S m c = true then rdM S.M m.toNat c.toNat else 0
def nosG (S : Lg) (c : Int) : Int := if hasB S 0 c = true then S.N.getD c.toNat 0 else 0
def wrG (S : Lg) (i c : Nat) (v : Int) : Lg := ⟨wrM S.M i c v, S.N, S.cur⟩
def wnG (S : Lg) (c : Nat) (v : Int) : Lg := ⟨S.M, S.N.set c v, S.cur⟩
def inG (S : Lg) (m c a : Int) : Int × Lg :=
  if hasB S m c = false then (1, S) else if a < 1 then (1, S)
  else if (fit (rdM S.M m.toNat c.toNat + a)).2 ≠ 0 then (3, S) else if (fit (S.N.getD c.toNat 0 + a)).2 ≠ 0 then (3, S)
  else (0, wnG (wrG S m.toNat c.toNat (rdM S.M m.toNat c.toNat + a)) c.toNat (S.N.getD c.toNat 0 + a))
def outG (S : Lg) (m c a : Int) : Int × Lg :=
  if hasB S m c = false then (1, S) else if a < 1 then (1, S)
  else if rdM S.M m.toNat c.toNat < a then (10, S) else if S.N.getD c.toNat 0 < a then (10, S)
  else (0, wnG (wrG S m.toNat c.toNat (rdM S.M m.toNat c.toNat - a)) c.toNat (S.N.getD c.toNat 0 - a))
def swapG (S : Lg) (m get give got given : Int) : Int × Lg :=
  if hasB S m get = false then (1, S) else if hasB S m give = false then (1, S) else if get = give then (1, S) else if got < 1 then (1, S) else if given < 1 then (1, S)
  else if S.N.getD give.toNat 0 < given then (10, S)
  else if (fit (rdM S.M m.toNat get.toNat + got)).2 ≠ 0 then (3, S) else if (fit (S.N.getD get.toNat 0 + got)).2 ≠ 0 then (3, S) else if (fit (rdM S.M m.toNat give.toNat - given)).2 ≠ 0 then (3, S)
  else (0, wnG (wrG (wnG (wrG S m.toNat get.toNat (rdM S.M m.toNat get.toNat + got)) get.toNat (S.N.getD get.toNat 0 + got)) m.toNat give.toNat (rdM S.M m.toNat give.toNat - given)) give.toNat (S.N.getD give.toNat 0 - given))
/-- the amounts of one currency -/
def ofCur (b : List Pst) (c : Int) : List Int := (b.filter fun p => decide (p.c = c)).map (·.a)
def evenB (S : Lg) (b : List Pst) : Bool := (List.range S.cur).all fun c => decide (sumL (ofCur b (c : Int)) = 0)
def addsM : List Pst → Mx → Int × Mx
  | [], M => (0, M)
  | p :: r, M => if (fit (rdM M p.m.toNat p.c.toNat + p.a)).2 ≠ 0 then (3, M) else addsM r (wrM M p.m.toNat p.c.toNat (rdM M p.m.toNat p.c.toNat + p.a))
def postG (S : Lg) (b : List Pst) : Int × Lg :=
  if b.any (fun p => !hasB S p.m p.c) = true then (1, S) else if evenB S b = false then (12, S)
  else if (addsM b S.M).1 ≠ 0 then ((addsM b S.M).1, S) else (0, ⟨(addsM b S.M).2, S.N, S.cur⟩)
theorem fit_e {x : Int} (h : ¬ (fit x).2 ≠ 0) : (fit x).1 = x := by rw [fit_ok (fit_in h)]
theorem fit_3 {x : Int} (h : (fit x).2 ≠ 0) : (fit x).2 = 3 := by
  unfold fit at *
  split
  · rename_i g; rw [if_pos g] at h; exact (h rfl).elim
  · rfl
theorem I64_0 : I64 0 := ⟨by decide, by decide⟩
theorem getD_set (l : List Int) (i j : Nat) (v : Int) (h : i < l.length) : (l.set i v).getD j 0 = if j = i then v else l.getD j 0 := by
  by_cases e : j = i
  · subst e
    rw [if_pos rfl, List.getD_eq_getElem?_getD, List.getElem?_set_self h]; rfl
  · rw [if_neg e, List.getD_eq_getElem?_getD, List.getElem?_set_ne (fun x => e x.symm), ← List.getD_eq_getElem?_getD]
theorem newG_ok {n c : Nat} (h1 : 1 ≤ n) (h2 : n ≤ 16) (h3 : 1 ≤ c) (h4 : c ≤ 8) : (newG n c).Ok := by
  have sh : shM (List.replicate n (List.replicate 8 (0 : Int))) n 8 := ⟨by simp, fun r hr => by rw [List.eq_of_mem_replicate hr]; simp⟩
  have r0 : ∀ i d, rdM (List.replicate n (List.replicate 8 (0 : Int))) i d = 0 := fun i d => by
    unfold rdM
    rw [List.getD_eq_getElem?_getD (l := List.replicate n _), List.getElem?_replicate]
    split
    · show (List.replicate 8 (0 : Int)).getD d 0 = 0
      rw [List.getD_eq_getElem?_getD, List.getElem?_replicate]
      split <;> rfl
    · rfl
  have n0 : ∀ d, (List.replicate 8 (0 : Int)).getD d 0 = 0 := fun d => by
    rw [List.getD_eq_getElem?_getD, List.getElem?_replicate]
    split <;> rfl
  have s0 : ∀ (n d : Nat), sumL (colM (List.replicate n (List.replicate 8 (0 : Int))) d) = 0 := fun n d => by
    induction n with
    | zero => rfl
    | succ n ih =>
      rw [List.replicate_succ]
      unfold colM at *
      rw [List.map_cons, sumL, ih, n0 d]; rfl
  refine { n1 := by simp [newG]; omega, n16 := by simp [newG]; omega, c1 := h3, c8 := h4, sh := by simp only [newG, List.length_replicate]; exact sh, N8 := by simp [newG], i64 := fun i d => ?_, n64 := fun d => ?_, z := fun i d _ => r0 i d, zN := fun d _ => n0 d, sum := fun d => ?_, pos := fun d => ?_ }
  · show I64 (rdM (List.replicate n (List.replicate 8 (0 : Int))) i d)
    rw [r0]; exact I64_0
  · show I64 ((List.replicate 8 (0 : Int)).getD d 0)
    rw [n0]; exact I64_0
  · show sumL (colM (List.replicate n (List.replicate 8 (0 : Int))) d) = (List.replicate 8 (0 : Int)).getD d 0
    rw [s0, n0]
  · show 0 ≤ (List.replicate 8 (0 : Int)).getD d 0
    rw [n0]; exact Int.le_refl 0
/-- one cell, and its nostro, by as much -/
theorem Lg.Ok.both {S : Lg} (o : S.Ok) {i c : Nat} {d : Int} (hi : i < S.M.length) (hc : c < S.cur) (h1 : I64 (rdM S.M i c + d)) (h2 : I64 (S.N.getD c 0 + d)) (h3 : 0 ≤ S.N.getD c 0 + d) :
    (wnG (wrG S i c (rdM S.M i c + d)) c (S.N.getD c 0 + d)).Ok := by
  have hc8 : c < 8 := by have := o.c8; omega
  have e1 : ∀ j d', rdM (wrM S.M i c (rdM S.M i c + d)) j d' = if j = i ∧ d' = c then rdM S.M i c + d else rdM S.M j d' := fun j d' => rd_wr o.sh hi hc8 j d'
  have e2 : ∀ d', (S.N.set c (S.N.getD c 0 + d)).getD d' 0 = if d' = c then S.N.getD c 0 + d else S.N.getD d' 0 := fun d' => getD_set _ _ _ _ (by rw [o.N8]; exact hc8)
  have hl : (wrM S.M i c (rdM S.M i c + d)).length = S.M.length := (o.sh.wr hi).1
  refine { n1 := by show 1 ≤ (wrM S.M i c _).length; rw [hl]; exact o.n1, n16 := by show (wrM S.M i c _).length ≤ 16; rw [hl]; exact o.n16, c1 := o.c1, c8 := o.c8, sh := by show shM (wrM S.M i c _) (wrM S.M i c _).length 8; rw [hl]; exact o.sh.wr hi, N8 := by show (S.N.set c _).length = 8; rw [List.length_set]; exact o.N8, i64 := fun j d' => ?_, n64 := fun d' => ?_, z := fun j d' h => ?_, zN := fun d' h => ?_, sum := fun d' => ?_, pos := fun d' => ?_ }
  · show I64 (rdM (wrM S.M i c _) j d')
    rw [e1]; split
    · exact h1
    · exact o.i64 j d'
  · show I64 ((S.N.set c _).getD d' 0)
    rw [e2]; split
    · exact h2
    · exact o.n64 d'
  · show rdM (wrM S.M i c _) j d' = 0
    have h : S.cur ≤ d' := h
    rw [e1, if_neg (by omega)]
    exact o.z j d' h
  · show (S.N.set c _).getD d' 0 = 0
    have h : S.cur ≤ d' := h
    rw [e2, if_neg (by omega)]
    exact o.zN d' h
  · show sumL (colM (wrM S.M i c _) d') = (S.N.set c _).getD d' 0
    rw [e2, col_wr o.sh hi hc8 d']
    have := o.sum d'
    split
    · rename_i e; subst e; omega
    · exact this
  · show 0 ≤ (S.N.set c _).getD d' 0
    rw [e2]; split
    · exact h3
    · exact o.pos d'
theorem inG_ok {S : Lg} (o : S.Ok) (m c a : Int) : (inG S m c a).2.Ok := by
  unfold inG
  split
  · exact o
  split
  · exact o
  split
  · exact o
  split
  · exact o
  rename_i h1 h2 h3 h4
  obtain ⟨i, j, rfl, rfl, hi, hj⟩ := hasB_t (by simpa using h1)
  simp only [Int.toNat_natCast] at h3 h4 ⊢
  have := o.pos j
  exact o.both hi hj (fit_in h3) (fit_in h4) (by omega)
theorem outG_ok {S : Lg} (o : S.Ok) (m c a : Int) : (outG S m c a).2.Ok := by
  unfold outG
  split
  · exact o
  split
  · exact o
  split
  · exact o
  split
  · exact o
  rename_i h1 h2 h3 h4
  obtain ⟨i, j, rfl, rfl, hi, hj⟩ := hasB_t (by simpa using h1)
  simp only [Int.toNat_natCast] at h3 h4 ⊢
  have g1 := o.i64 i j
  have g2 := o.n64 j
  unfold I64 at g1 g2
  exact o.both hi hj (d := -a) (by unfold I64; omega) (by unfold I64; omega) (by omega)
theorem swapG_ok {S : Lg} (o : S.Ok) (m get give got given : Int) : (swapG S m get give got given).2.Ok := by
  unfold swapG
  split
  · exact o
  split
  · exact o
  split
  · exact o
  split
  · exact o
  split
  · exact o
  split
  · exact o
  split
  · exact o
  split
  · exact o
  split
  · exact o
  rename_i h1 h2 h3 h4 h5 h6 h7 h8 h9
  obtain ⟨i, j, rfl, rfl, hi, hj⟩ := hasB_t (by simpa using h1)
  obtain ⟨i', j', e, rfl, _, hj'⟩ := hasB_t (S := S) (m := (i : Int)) (c := give) (by simpa using h2)
  simp only [Int.toNat_natCast] at h6 h7 h8 h9 ⊢
  have hne : j' ≠ j := fun e => h3 (by rw [e])
  have p := o.pos j
  have o1 := o.both hi hj (fit_in h7) (fit_in h8) (by omega)
  have hc8 : j < 8 := by have := o.c8; omega
  have e1 : rdM (wnG (wrG S i j (rdM S.M i j + got)) j (S.N.getD j 0 + got)).M i j' = rdM S.M i j' := by
    show rdM (wrM S.M i j _) i j' = _
    rw [rd_wr o.sh hi hc8, if_neg (fun x => hne x.2)]
  have e2 : (wnG (wrG S i j (rdM S.M i j + got)) j (S.N.getD j 0 + got)).N.getD j' 0 = S.N.getD j' 0 := by
    show (S.N.set j _).getD j' 0 = _
    rw [getD_set _ _ _ _ (by rw [o.N8]; exact hc8), if_neg hne]
  have g2 := o.n64 j'
  unfold I64 at g2
  have := o1.both (i := i) (c := j') (d := -given) (by rw [show (wnG (wrG S i j (rdM S.M i j + got)) j (S.N.getD j 0 + got)).M.length = S.M.length from (o.sh.wr hi).1]; exact hi) hj' (by rw [e1]; exact fit_in h9) (by rw [e2]; unfold I64; omega) (by rw [e2]; omega)
  rw [e1, e2] at this
  exact this
theorem ofCur_cons (p : Pst) (b : List Pst) (c : Int) : sumL (ofCur (p :: b) c) = (if p.c = c then p.a else 0) + sumL (ofCur b c) := by
  unfold ofCur
  rw [List.filter_cons]
  by_cases h : p.c = c
  · rw [if_pos h, decide_eq_true h, if_pos rfl, List.map_cons, sumL]
  · rw [if_neg h, decide_eq_false h, if_neg (by decide)]; omega
/-- what a batch that goes through leaves -/
theorem addsM_ok {n w : Nat} : ∀ (b : List Pst) {M : Mx}, shM M n w → (∀ i c, I64 (rdM M i c)) → (∀ p ∈ b, 0 ≤ p.m ∧ p.m < (n : Int) ∧ 0 ≤ p.c ∧ p.c < (w : Int)) → (addsM b M).1 = 0 →
    shM (addsM b M).2 n w ∧ (∀ i c, I64 (rdM (addsM b M).2 i c)) ∧ (∀ c : Nat, sumL (colM (addsM b M).2 c) = sumL (colM M c) + sumL (ofCur b (c : Int))) ∧ (∀ i c : Nat, (∀ p ∈ b, p.c ≠ (c : Int)) → rdM (addsM b M).2 i c = rdM M i c)
  | [], M, s, hi, _, _ => ⟨s, hi, fun c => by show _ = _ + sumL []; rw [show sumL [] = 0 from rfl]; exact (Int.add_zero _).symm, fun _ _ _ => rfl⟩
  | p :: r, M, s, hi, hb, e => by
    have hp := hb p (List.mem_cons_self ..)
    rw [addsM] at e ⊢
    split at e
    · cases e
    · rename_i h
      rw [if_neg h]
      have hm : p.m.toNat < n := by omega
      have hc : p.c.toNat < w := by omega
      have key := addsM_ok r (s.wr (c := p.c.toNat) (v := rdM M p.m.toNat p.c.toNat + p.a) hm) (fun i c => by
        rw [rd_wr s hm hc]; split
        · exact fit_in h
        · exact hi i c) (fun q hq => hb q (List.mem_cons_of_mem _ hq)) e
      obtain ⟨k1, k2, k3, k4⟩ := key
      refine ⟨k1, k2, fun c => ?_, fun i c hn => ?_⟩
      · rw [k3 c, col_wr s hm hc, ofCur_cons]
        by_cases hcc : c = p.c.toNat
        · subst hcc
          rw [if_pos rfl, if_pos (by omega)]; omega
        · rw [if_neg hcc, if_neg (by omega)]; omega
      · rw [k4 i c (fun q hq => hn q (List.mem_cons_of_mem _ hq)), rd_wr s hm hc, if_neg]
        have := hn p (List.mem_cons_self ..)
        omega
theorem any_has {S : Lg} {b : List Pst} (h : ¬ b.any (fun p => !hasB S p.m p.c) = true) : ∀ p ∈ b, hasB S p.m p.c = true := fun p hp => by
  have h : b.any (fun p => !hasB S p.m p.c) = false := by simpa using h
  rw [List.any_eq_false] at h
  have := h p hp
  simpa using this
theorem has_in {S : Lg} {b : List Pst} (h8 : S.cur ≤ 8) (h : ∀ p ∈ b, hasB S p.m p.c = true) : ∀ p ∈ b, 0 ≤ p.m ∧ p.m < (S.M.length : Int) ∧ 0 ≤ p.c ∧ p.c < ((8 : Nat) : Int) := fun p hp => by
  have := of_decide_eq_true (h p hp)
  omega
theorem postG_ok {S : Lg} (o : S.Ok) (b : List Pst) : (postG S b).2.Ok := by
  unfold postG
  split
  · exact o
  split
  · exact o
  split
  · exact o
  rename_i h1 h2 h3
  have hh := any_has h1
  obtain ⟨k1, k2, k3, k4⟩ := addsM_ok b o.sh o.i64 (has_in o.c8 hh) (by simpa using h3)
  have hl := k1.1
  have ev : ∀ c, c < S.cur → sumL (ofCur b (c : Int)) = 0 := fun c hc => by
    have h2 : evenB S b = true := by simpa using h2
    unfold evenB at h2
    rw [List.all_eq_true] at h2
    exact of_decide_eq_true (h2 c (List.mem_range.2 hc))
  have far : ∀ c : Nat, S.cur ≤ c → ∀ p ∈ b, p.c ≠ (c : Int) := fun c hc p hp => by
    have := of_decide_eq_true (hh p hp)
    omega
  refine { n1 := by show 1 ≤ (addsM b S.M).2.length; rw [hl]; exact o.n1, n16 := by show (addsM b S.M).2.length ≤ 16; rw [hl]; exact o.n16, c1 := o.c1, c8 := o.c8, sh := by show shM (addsM b S.M).2 (addsM b S.M).2.length 8; rw [hl]; exact k1, N8 := o.N8, i64 := k2, n64 := o.n64, z := fun i c hc => ?_, zN := o.zN, sum := fun c => ?_, pos := o.pos }
  · show rdM (addsM b S.M).2 i c = 0
    rw [k4 i c (far c hc)]; exact o.z i c hc
  · show sumL (colM (addsM b S.M).2 c) = S.N.getD c 0
    rw [k3 c, o.sum c]
    by_cases hc : c < S.cur
    · rw [ev c hc]; omega
    · have : ofCur b (c : Int) = [] := by
        unfold ofCur
        rw [List.map_eq_nil_iff, List.filter_eq_nil_iff]
        intro p hp
        have := far c (by omega) p hp
        simpa using this
      rw [this]; exact Int.add_zero _
/-- errors change nothing -/
theorem inG_err {S : Lg} {m c a : Int} : (inG S m c a).1 ≠ 0 → (inG S m c a).2 = S := by
  unfold inG
  repeat' split
  all_goals first
    | (intro _; rfl)
    | (intro h; exact (h rfl).elim)
theorem outG_err {S : Lg} {m c a : Int} : (outG S m c a).1 ≠ 0 → (outG S m c a).2 = S := by
  unfold outG
  repeat' split
  all_goals first
    | (intro _; rfl)
    | (intro h; exact (h rfl).elim)
theorem swapG_err {S : Lg} {m g v x y : Int} : (swapG S m g v x y).1 ≠ 0 → (swapG S m g v x y).2 = S := by
  unfold swapG
  repeat' split
  all_goals first
    | (intro _; rfl)
    | (intro h; exact (h rfl).elim)
theorem postG_err {S : Lg} {b : List Pst} : (postG S b).1 ≠ 0 → (postG S b).2 = S := by
  unfold postG
  repeat' split
  all_goals first
    | (intro _; rfl)
    | (intro h; exact (h rfl).elim)
/-! a batch, and what takes it off -/
theorem addsM_app : ∀ (a b : List Pst) (M : Mx), addsM (a ++ b) M = if (addsM a M).1 ≠ 0 then addsM a M else addsM b (addsM a M).2
  | [], b, M => by simp [addsM]
  | p :: r, b, M => by
    rw [List.cons_append, addsM, addsM]
    by_cases h : (fit (rdM M p.m.toNat p.c.toNat + p.a)).2 ≠ 0
    · rw [if_pos h, if_pos h, if_pos (show (3 : Int) ≠ 0 by decide)]
    · rw [if_neg h, if_neg h]
      exact addsM_app r b _
def negP (p : Pst) : Pst := ⟨p.m, p.c, -p.a⟩
theorem adds_back {n w : Nat} : ∀ (b : List Pst) {M : Mx}, shM M n w → (∀ i c, I64 (rdM M i c)) → (∀ p ∈ b, 0 ≤ p.m ∧ p.m < (n : Int) ∧ 0 ≤ p.c ∧ p.c < (w : Int)) → (addsM b M).1 = 0 → addsM (b.reverse.map negP) (addsM b M).2 = (0, M)
  | [], M, _, _, _, _ => rfl
  | p :: r, M, s, hi, hb, e => by
    have hp := hb p (List.mem_cons_self ..)
    rw [addsM] at e ⊢
    split at e
    · cases e
    · rename_i h
      rw [if_neg h]
      have hm : p.m.toNat < n := by omega
      have hc : p.c.toNat < w := by omega
      have i2 : ∀ i c, I64 (rdM (wrM M p.m.toNat p.c.toNat (rdM M p.m.toNat p.c.toNat + p.a)) i c) := fun i c => by
        rw [rd_wr s hm hc]; split
        · exact fit_in h
        · exact hi i c
      have s2 := s.wr (c := p.c.toNat) (v := rdM M p.m.toNat p.c.toNat + p.a) hm
      have ih := adds_back r s2 i2 (fun q hq => hb q (List.mem_cons_of_mem _ hq)) e
      rw [List.reverse_cons, List.map_append, addsM_app, ih, if_neg (by simp)]
      show addsM [negP p] _ = _
      have e1 : rdM (wrM M p.m.toNat p.c.toNat (rdM M p.m.toNat p.c.toNat + p.a)) p.m.toNat p.c.toNat = rdM M p.m.toNat p.c.toNat + p.a := by
        rw [rd_wr s hm hc, if_pos ⟨rfl, rfl⟩]
      have e2 : ∀ A : Mx, addsM [negP p] A = if (fit (rdM A p.m.toNat p.c.toNat + -p.a)).2 ≠ 0 then (3, A) else (0, wrM A p.m.toNat p.c.toNat (rdM A p.m.toNat p.c.toNat + -p.a)) := fun _ => rfl
      rw [e2]
      dsimp only
      rw [e1, show rdM M p.m.toNat p.c.toNat + p.a + -p.a = rdM M p.m.toNat p.c.toNat by omega, fit_ok (hi _ _), if_neg (by simp), wr_wr s hm, wr_rd_self s hm hc]
theorem sum_ofCur_neg : ∀ (b : List Pst) (c : Int), sumL (ofCur (b.reverse.map negP) c) = - sumL (ofCur b c) := by
  have app : ∀ (a b : List Pst) (c : Int), sumL (ofCur (a ++ b) c) = sumL (ofCur a c) + sumL (ofCur b c) := fun a b c => by
    unfold ofCur
    rw [List.filter_append, List.map_append, sumL_append]
  intro b c
  induction b with
  | nil => rfl
  | cons p r ih =>
    rw [List.reverse_cons, List.map_append, app, ih, ofCur_cons, List.map_cons, List.map_nil, ofCur_cons]
    show _ + ((if p.c = c then -p.a else 0) + sumL []) = _
    rw [show sumL [] = 0 from rfl]
    split <;> omega
theorem post_back {S : Lg} (o : S.Ok) {b : List Pst} (h : (postG S b).1 = 0) : postG (postG S b).2 (b.reverse.map negP) = (0, S) := by
  unfold postG at h ⊢
  by_cases h1 : b.any (fun p => !hasB S p.m p.c) = true
  · rw [if_pos h1] at h; cases h
  rw [if_neg h1] at h ⊢
  by_cases h2 : evenB S b = false
  · rw [if_pos h2] at h; cases h
  rw [if_neg h2] at h ⊢
  by_cases h3 : (addsM b S.M).1 ≠ 0
  · rw [if_pos h3] at h; exact (h3 h).elim
  rw [if_neg h3]
  have hh := any_has h1
  have h3' : (addsM b S.M).1 = 0 := by simpa using h3
  obtain ⟨k1, k2, k3, k4⟩ := addsM_ok b o.sh o.i64 (has_in o.c8 hh) h3'
  have back := adds_back b o.sh o.i64 (has_in o.c8 hh) h3'
  have g1 : ¬ (b.reverse.map negP).any (fun p => !hasB ⟨(addsM b S.M).2, S.N, S.cur⟩ p.m p.c) = true := by
    simp only [Bool.not_eq_true, List.any_eq_false]
    intro q hq
    obtain ⟨p, hp, rfl⟩ := List.mem_map.1 hq
    have hp2 := of_decide_eq_true (hh p (List.mem_reverse.1 hp))
    have e : hasB ⟨(addsM b S.M).2, S.N, S.cur⟩ (negP p).m (negP p).c = true := by
      unfold hasB
      refine decide_eq_true ?_
      show 0 ≤ p.m ∧ p.m < ((addsM b S.M).2.length : Int) ∧ 0 ≤ p.c ∧ p.c < (S.cur : Int)
      rw [k1.1]; exact hp2
    rw [e]; decide
  have g2 : ¬ evenB ⟨(addsM b S.M).2, S.N, S.cur⟩ (b.reverse.map negP) = false := by
    have h2 : evenB S b = true := by simpa using h2
    unfold evenB at h2 ⊢
    rw [List.all_eq_true] at h2
    simp only [Bool.not_eq_false, List.all_eq_true]
    intro c hc
    have := of_decide_eq_true (h2 c hc)
    exact decide_eq_true (by rw [sum_ofCur_neg, this]; rfl)
  dsimp only at back ⊢
  rw [if_neg g1, if_neg g2, back, if_neg (by simp)]
theorem in_out {S : Lg} (o : S.Ok) {m c a : Int} (h : (inG S m c a).1 = 0) (hg : 0 ≤ getG S m c) : outG (inG S m c a).2 m c a = (0, S) := by
  unfold inG at h ⊢
  by_cases h1 : hasB S m c = false
  · rw [if_pos h1] at h; cases h
  rw [if_neg h1] at h ⊢
  by_cases h2 : a < 1
  · rw [if_pos h2] at h; cases h
  rw [if_neg h2] at h ⊢
  by_cases h3 : (fit (rdM S.M m.toNat c.toNat + a)).2 ≠ 0
  · rw [if_pos h3] at h; cases h
  rw [if_neg h3] at h ⊢
  by_cases h4 : (fit (S.N.getD c.toNat 0 + a)).2 ≠ 0
  · rw [if_pos h4] at h; cases h
  rw [if_neg h4]
  have h1 : hasB S m c = true := by simpa using h1
  obtain ⟨i, j, rfl, rfl, hi, hj⟩ := hasB_t h1
  unfold getG at hg
  rw [if_pos h1] at hg
  simp only [Int.toNat_natCast] at hg ⊢
  have hc8 : j < 8 := by have := o.c8; omega
  have pn := o.pos j
  have hl : (wrM S.M i j (rdM S.M i j + a)).length = S.M.length := (o.sh.wr hi).1
  unfold outG
  have g1 : ¬ hasB (wnG (wrG S i j (rdM S.M i j + a)) j (S.N.getD j 0 + a)) (i : Int) (j : Int) = false := by
    unfold hasB at h1 ⊢
    show ¬ decide (0 ≤ (i : Int) ∧ (i : Int) < ((wrM S.M i j (rdM S.M i j + a)).length : Int) ∧ 0 ≤ (j : Int) ∧ (j : Int) < (S.cur : Int)) = false
    rw [hl, h1]; decide
  rw [if_neg g1, if_neg h2]
  simp only [Int.toNat_natCast]
  have e1 : rdM (wnG (wrG S i j (rdM S.M i j + a)) j (S.N.getD j 0 + a)).M i j = rdM S.M i j + a := by
    show rdM (wrM S.M i j _) i j = _
    rw [rd_wr o.sh hi hc8, if_pos ⟨rfl, rfl⟩]
  have e2 : (wnG (wrG S i j (rdM S.M i j + a)) j (S.N.getD j 0 + a)).N.getD j 0 = S.N.getD j 0 + a := by
    show (S.N.set j _).getD j 0 = _
    rw [getD_set _ _ _ _ (by rw [o.N8]; exact hc8), if_pos rfl]
  rw [e1, e2, if_neg (by omega), if_neg (by omega)]
  congr 1
  have hN : j < S.N.length := by rw [o.N8]; exact hc8
  unfold wnG wrG
  simp only [Int.add_sub_cancel, wr_wr o.sh hi, wr_rd_self o.sh hi hc8, List.set_set]
  cases S with
  | mk M N cur =>
    simp only [Lg.mk.injEq, true_and, and_true]
    dsimp only at hN
    rw [List.getD_eq_getElem?_getD, List.getElem?_eq_getElem hN]
    exact List.set_getElem_self _
end Go.Proofs.Ytkcogdmddhkldaa
