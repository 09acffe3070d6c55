import Derived.Test.YtghdadniddoboaaGreatM08
import Derived.Test.YtghdadniddoboaaGreatM10
import Derived.Test.YtghdadniddoboaaGreatM07
import Derived.Test.YtghdadniddoboaaGreatM04
/- Tables of whole numbers: rows, columns, what is written; and all rows in a row. -/
namespace Go.Proofs.YtghdadniddoboaaGreat
open Go Go.Sy Go.Value
set_option linter.unusedVariables false
set_option linter.unusedSimpArgs false

abbrev Mx := List (List Int)
def rdM (M : Mx) (i c : Nat) : Int := (M.getD i []).getD c 0
def wrM (M : Mx) (i c : Nat) (v : Int) : Mx := M.set i ((M.getD i []).set c v)
theorem fit_in {x : Int} (h : ¬ (fit x).2 ≠ 0) : I64 x := Classical.byContradiction fun hx => h (by rw [fit_over hx]; decide)
/-! reading and writing -/
def shM (M : Mx) (n w : Nat) : Prop := M.length = n ∧ ∀ r ∈ M, r.length = w
theorem shM.row {M : Mx} {n w i : Nat} (s : shM M n w) (h : i < n) : (M.getD i []).length = w := by
  rw [List.getD_eq_getElem?_getD, List.getElem?_eq_getElem (by rw [s.1]; exact h)]
  exact s.2 _ (List.getElem_mem _)
theorem shM.wr {M : Mx} {n w i c : Nat} {v : Int} (s : shM M n w) (h : i < n) : shM (wrM M i c v) n w := by
  refine ⟨by unfold wrM; rw [List.length_set]; exact s.1, fun r hr => ?_⟩
  unfold wrM at hr
  rcases List.mem_or_eq_of_mem_set hr with e | e
  · exact s.2 r e
  · rw [e, List.length_set]; exact s.row h
theorem rd_wr {M : Mx} {n w i c : Nat} {v : Int} (s : shM M n w) (h : i < n) (hc : c < w) (j d : Nat) : rdM (wrM M i c v) j d = if j = i ∧ d = c then v else rdM M j d := by
  unfold rdM wrM
  have hr := s.row h
  have hl : i < M.length := by rw [s.1]; exact h
  by_cases hj : j = i
  · subst hj
    have e1 : (M.set j ((M.getD j []).set c v)).getD j [] = (M.getD j []).set c v := by
      rw [List.getD_eq_getElem?_getD, List.getElem?_set_self hl]; rfl
    rw [e1]
    by_cases hd : d = c
    · subst hd
      rw [if_pos ⟨rfl, rfl⟩, List.getD_eq_getElem?_getD, List.getElem?_set_self (by omega)]; rfl
    · rw [if_neg (fun x => hd x.2), List.getD_eq_getElem?_getD, List.getElem?_set_ne (fun x => hd x.symm), ← List.getD_eq_getElem?_getD]
  · rw [if_neg (fun x => hj x.1)]
    have e1 : (M.set i ((M.getD i []).set c v)).getD j [] = M.getD j [] := by
      rw [List.getD_eq_getElem?_getD, List.getElem?_set_ne (fun x => hj x.symm), ← List.getD_eq_getElem?_getD]
    rw [e1]
def colM (M : Mx) (c : Nat) : List Int := M.map fun r => r.getD c 0
theorem colM_get (M : Mx) (c i : Nat) (h : i < M.length) : (colM M c)[i]? = some (rdM M i c) := by
  have e : M.getD i [] = M[i] := by rw [List.getD_eq_getElem?_getD, List.getElem?_eq_getElem h]; rfl
  unfold colM rdM
  rw [List.getElem?_map, List.getElem?_eq_getElem h, e]; rfl
theorem sum_set : ∀ (l : List Int) (i : Nat) (v : Int), i < l.length → sumL (l.set i v) = sumL l - l.getD i 0 + v
  | [], _, _, h => by simp at h
  | a :: l, 0, v, _ => by simp [sumL]; omega
  | a :: l, i + 1, v, h => by
    have := sum_set l i v (by simpa using h)
    simp only [List.set_cons_succ, sumL, List.getD_cons_succ]
    omega
theorem col_wr {M : Mx} {n w i c : Nat} {v : Int} (s : shM M n w) (h : i < n) (hc : c < w) (d : Nat) : sumL (colM (wrM M i c v) d) = if d = c then sumL (colM M d) - rdM M i d + v else sumL (colM M d) := by
  have hl : i < M.length := by rw [s.1]; exact h
  have e : colM (wrM M i c v) d = (colM M d).set i (if d = c then v else rdM M i d) := by
    refine List.ext_getElem? fun j => ?_
    by_cases hj : j < M.length
    · rw [colM_get _ _ _ (by unfold wrM; rw [List.length_set]; exact hj), rd_wr s h hc]
      by_cases hji : j = i
      · subst hji
        rw [List.getElem?_set_self (by unfold colM; rw [List.length_map]; exact hj)]
        by_cases hd : d = c
        · rw [if_pos ⟨rfl, hd⟩, if_pos hd]
        · rw [if_neg (fun x => hd x.2), if_neg hd]
      · rw [if_neg (fun x => hji x.1), List.getElem?_set_ne (fun x => hji x.symm), colM_get _ _ _ hj]
    · rw [List.getElem?_eq_none (by unfold colM wrM; rw [List.length_map, List.length_set]; omega), List.getElem?_eq_none (by rw [List.length_set]; unfold colM; rw [List.length_map]; omega)]
  rw [e, sum_set _ _ _ (by unfold colM; rw [List.length_map]; exact hl)]
  have g : (colM M d).getD i 0 = rdM M i d := by rw [List.getD_eq_getElem?_getD, colM_get _ _ _ hl]; rfl
  rw [g]
  split <;> omega
/-! all rows in a row -/
theorem flat_len {w : Nat} : ∀ {M : Mx}, (∀ r ∈ M, r.length = w) → M.flatten.length = M.length * w
  | [], _ => by simp
  | r :: M, h => by
    rw [List.flatten_cons, List.length_append, h r (List.mem_cons_self ..), flat_len (M := M) (fun x hx => h x (List.mem_cons_of_mem _ hx)), List.length_cons, Nat.succ_mul]
    omega
theorem flat_get {w : Nat} : ∀ {M : Mx}, (∀ r ∈ M, r.length = w) → ∀ {i c : Nat}, i < M.length → c < w → M.flatten[i * w + c]? = some (rdM M i c)
  | [], _, _, _, hi, _ => by simp at hi
  | r :: M, h, 0, c, _, hc => by
    have hr := h r (List.mem_cons_self ..)
    rw [List.flatten_cons, Nat.zero_mul, Nat.zero_add, List.getElem?_append_left (by omega)]
    unfold rdM
    rw [List.getD_cons_zero, List.getD_eq_getElem?_getD, List.getElem?_eq_getElem (by omega)]; rfl
  | r :: M, h, i + 1, c, hi, hc => by
    have hr := h r (List.mem_cons_self ..)
    have := flat_get (M := M) (fun x hx => h x (List.mem_cons_of_mem _ hx)) (i := i) (c := c) (by simpa using hi) hc
    rw [List.flatten_cons, List.getElem?_append_right (by rw [hr, Nat.succ_mul]; omega), hr, Nat.succ_mul, show i * w + w + c - w = i * w + c by omega, this]
    rfl
theorem flat_set {w : Nat} {v : Int} : ∀ {M : Mx}, (∀ r ∈ M, r.length = w) → ∀ {i c : Nat}, i < M.length → c < w → (wrM M i c v).flatten = M.flatten.set (i * w + c) v
  | [], _, _, _, hi, _ => by simp at hi
  | r :: M, h, 0, c, _, hc => by
    have hr := h r (List.mem_cons_self ..)
    show ((r.set c v) :: M).flatten = _
    rw [List.flatten_cons, List.flatten_cons, Nat.zero_mul, Nat.zero_add, List.set_append_left _ _ (by omega)]
  | r :: M, h, i + 1, c, hi, hc => by
    have hr := h r (List.mem_cons_self ..)
    have := flat_set (v := v) (M := M) (fun x hx => h x (List.mem_cons_of_mem _ hx)) (i := i) (c := c) (by simpa using hi) hc
    show (r :: wrM M i c v).flatten = _
    rw [List.flatten_cons, List.flatten_cons, this, List.set_append_right _ _ (by rw [hr, Nat.succ_mul]; omega), hr, Nat.succ_mul, show i * w + w + c - w = i * w + c by omega]
end Go.Proofs.YtghdadniddoboaaGreat

/- A ledger, in plain words: what each operation answers and leaves; of each currency the balances are together the nostro; a batch and what takes it off. -/
namespace Go.Proofs.YtghdadniddoboaaGreat
open Go Go.Sy Go.Value
set_option linter.unusedVariables false
set_option linter.unusedSimpArgs false

structure Lg where
  M : Mx
  N : List Int
  cur : Nat
structure Pst where
  m : Int
  c : Int
  a : Int
structure Lg.Sz (S : Lg) : Prop where
  n1 : 1 ≤ S.M.length
  n16 : S.M.length ≤ 16
  c1 : 1 ≤ S.cur
  c8 : S.cur ≤ 8
  sh : shM S.M S.M.length 8
  N8 : S.N.length = 8
  i64 : ∀ i c, I64 (rdM S.M i c)
  n64 : ∀ c, I64 (S.N.getD c 0)
structure Lg.Ok (S : Lg) : Prop extends S.Sz where
  z : ∀ i c, S.cur ≤ c → rdM S.M i c = 0
  zN : ∀ c, S.cur ≤ c → S.N.getD c 0 = 0
  sum : ∀ c, sumL (colM S.M c) = S.N.getD c 0
  pos : ∀ c, 0 ≤ S.N.getD c 0
def newG (n c : Nat) : Lg := ⟨List.replicate n (List.replicate 8 0), List.replicate 8 0, c⟩
def hasB (S : Lg) (m c : Int) : Bool := decide (0 ≤ m ∧ m < (S.M.length : Int) ∧ 0 ≤ c ∧ c < (S.cur : Int))
theorem hasB_t {S : Lg} {m c : Int} (h : hasB S m c = true) : ∃ i j : Nat, m = (i : Int) ∧ c = (j : Int) ∧ i < S.M.length ∧ j < S.cur := by
  unfold hasB at h
  have := of_decide_eq_true h
  exact ⟨m.toNat, c.toNat, by omega, by omega, by omega, by omega⟩
def getG (S : Lg) (m c : Int) : Int := if hasB S m c = true then rdM S.M m.toNat c.toNat else 0
def nosG (S : Lg) (c : Int) : Int := if hasB S 0 c = true then S.N.getD c.toNat 0 else 0
def wrG (S : Lg) (i c : Nat) (v : Int) : Lg := ⟨wrM S.M i c v, S.N, S.cur⟩
def wnG (S : Lg) (c : Nat) (v : Int) : Lg := ⟨S.M, S.N.set c v, S.cur⟩
def inG (S : Lg) (m c a : Int) : Int × Lg :=
  if hasB S m c = false then (1, S) else if a < 1 then (1, S)
  else if (fit (rdM S.M m.toNat c.toNat + a)).2 ≠ 0 then (3, S) else if (fit (S.N.getD c.toNat 0 + a)).2 ≠ 0 then (3, S)
  else (0, wnG (wrG S m.toNat c.toNat (rdM S.M m.toNat c.toNat + a)) c.toNat (S.N.getD c.toNat 0 + a))
def outG (S : Lg) (m c a : Int) : Int × Lg :=
  if hasB S m c = false then (1, S) else if a < 1 then (1, S)
  else if rdM S.M m.toNat c.toNat < a then (10, S) else if S.N.getD c.toNat 0 < a then (10, S)
  else (0, wnG (wrG S m.toNat c.toNat (rdM S.M m.toNat c.toNat - a)) c.toNat (S.N.getD c.toNat 0 - a))
def swapG (S : Lg) (m get give got given : Int) : Int × Lg :=
  if hasB S m get = false then (1, S) else if hasB S m give = false then (1, S) else if get = give then (1, S) else if got < 1 then (1, S) else if given < 1 then (1, S)
  else if S.N.getD give.toNat 0 < given then (10, S)
  else if (fit (rdM S.M m.toNat get.toNat + got)).2 ≠ 0 then (3, S) else if (fit (S.N.getD get.toNat 0 + got)).2 ≠ 0 then (3, S) else if (fit (rdM S.M m.toNat give.toNat - given)).2 ≠ 0 then (3, S)
  else (0, wnG (wrG (wnG (wrG S m.toNat get.toNat (rdM S.M m.toNat get.toNat + got)) get.toNat (S.N.getD get.toNat 0 + got)) m.toNat give.toNat (rdM S.M m.toNat give.toNat - given)) give.toNat (S.N.getD give.toNat 0 - given))
def ofCur (b : List Pst) (c : Int) : List Int := (b.filter fun p => decide (p.c = c)).map (·.a)
def evenB (S : Lg) (b : List Pst) : Bool := (List.range S.cur).all fun c => decide (sumL (ofCur b (c : Int)) = 0)
def addsM : List Pst → Mx → Int × Mx
  | [], M => (0, M)
  | p :: r, M => if (fit (rdM M p.m.toNat p.c.toNat + p.a)).2 ≠ 0 then (3, M) else addsM r (wrM M p.m.toNat p.c.toNat (rdM M p.m.toNat p.c.toNat + p.a))
def postG (S : Lg) (b : List Pst) : Int × Lg :=
  if b.any (fun p => !hasB S p.m p.c) = true then (1, S) else if evenB S b = false then (12, S)
  else if (addsM b S.M).1 ≠ 0 then ((addsM b S.M).1, S) else (0, ⟨(addsM b S.M).2, S.N, S.cur⟩)
theorem fit_e {x : Int} (h : ¬ (fit x).2 ≠ 0) : (fit x).1 = x := by rw [fit_ok (fit_in h)]
theorem fit_3 {x : Int} (h : (fit x).2 ≠ 0) : (fit x).2 = 3 := by
  unfold fit at *
  split
  · rename_i g; rw [if_pos g] at h; exact (h rfl).elim
  · rfl
theorem I64_0 : I64 0 := ⟨by decide, by decide⟩
theorem getD_set (l : List Int) (i j : Nat) (v : Int) (h : i < l.length) : (l.set i v).getD j 0 = if j = i then v else l.getD j 0 := by
  by_cases e : j = i
  · subst e
    rw [if_pos rfl, List.getD_eq_getElem?_getD, List.getElem?_set_self h]; rfl
  · rw [if_neg e, List.getD_eq_getElem?_getD, List.getElem?_set_ne (fun x => e x.symm), ← List.getD_eq_getElem?_getD]
theorem newG_ok {n c : Nat} (h1 : 1 ≤ n) (h2 : n ≤ 16) (h3 : 1 ≤ c) (h4 : c ≤ 8) : (newG n c).Ok := by
  have sh : shM (List.replicate n (List.replicate 8 (0 : Int))) n 8 := ⟨by simp, fun r hr => by rw [List.eq_of_mem_replicate hr]; simp⟩
  have r0 : ∀ i d, rdM (List.replicate n (List.replicate 8 (0 : Int))) i d = 0 := fun i d => by
    unfold rdM
    rw [List.getD_eq_getElem?_getD (l := List.replicate n _), List.getElem?_replicate]
    split
    · show (List.replicate 8 (0 : Int)).getD d 0 = 0
      rw [List.getD_eq_getElem?_getD, List.getElem?_replicate]
      split <;> rfl
    · rfl
  have n0 : ∀ d, (List.replicate 8 (0 : Int)).getD d 0 = 0 := fun d => by
    rw [List.getD_eq_getElem?_getD, List.getElem?_replicate]
    split <;> rfl
  have s0 : ∀ (n d : Nat), sumL (colM (List.replicate n (List.replicate 8 (0 : Int))) d) = 0 := fun n d => by
    induction n with
    | zero => rfl
    | succ n ih =>
      rw [List.replicate_succ]
      unfold colM at *
      rw [List.map_cons, sumL, ih, n0 d]; rfl
  refine { n1 := by simp [newG]; omega, n16 := by simp [newG]; omega, c1 := h3, c8 := h4, sh := by simp only [newG, List.length_replicate]; exact sh, N8 := by simp [newG], i64 := fun i d => ?_, n64 := fun d => ?_, z := fun i d _ => r0 i d, zN := fun d _ => n0 d, sum := fun d => ?_, pos := fun d => ?_ }
  · show I64 (rdM (List.replicate n (List.replicate 8 (0 : Int))) i d)
    rw [r0]; exact I64_0
  · show I64 ((List.replicate 8 (0 : Int)).getD d 0)
    rw [n0]; exact I64_0
  · show sumL (colM (List.replicate n (List.replicate 8 (0 : Int))) d) = (List.replicate 8 (0 : Int)).getD d 0
    rw [s0, n0]
  · show 0 ≤ (List.replicate 8 (0 : Int)).getD d 0
    rw [n0]; exact Int.le_refl 0
theorem Lg.Ok.both {S : Lg} (o : S.Ok) {i c : Nat} {d : Int} (hi : i < S.M.length) (hc : c < S.cur) (h1 : I64 (rdM S.M i c + d)) (h2 : I64 (S.N.getD c 0 + d)) (h3 : 0 ≤ S.N.getD c 0 + d) :
    (wnG (wrG S i c (rdM S.M i c + d)) c (S.N.getD c 0 + d)).Ok := by
  have hc8 : c < 8 := by have := o.c8; omega
  have e1 : ∀ j d', rdM (wrM S.M i c (rdM S.M i c + d)) j d' = if j = i ∧ d' = c then rdM S.M i c + d else rdM S.M j d' := fun j d' => rd_wr o.sh hi hc8 j d'
  have e2 : ∀ d', (S.N.set c (S.N.getD c 0 + d)).getD d' 0 = if d' = c then S.N.getD c 0 + d else S.N.getD d' 0 := fun d' => getD_set _ _ _ _ (by rw [o.N8]; exact hc8)
  have hl : (wrM S.M i c (rdM S.M i c + d)).length = S.M.length := (o.sh.wr hi).1
  refine { n1 := by show 1 ≤ (wrM S.M i c _).length; rw [hl]; exact o.n1, n16 := by show (wrM S.M i c _).length ≤ 16; rw [hl]; exact o.n16, c1 := o.c1, c8 := o.c8, sh := by show shM (wrM S.M i c _) (wrM S.M i c _).length 8; rw [hl]; exact o.sh.wr hi, N8 := by show (S.N.set c _).length = 8; rw [List.length_set]; exact o.N8, i64 := fun j d' => ?_, n64 := fun d' => ?_, z := fun j d' h => ?_, zN := fun d' h => ?_, sum := fun d' => ?_, pos := fun d' => ?_ }
  · show I64 (rdM (wrM S.M i c _) j d')
    rw [e1]; split
    · exact h1
    · exact o.i64 j d'
  · show I64 ((S.N.set c _).getD d' 0)
    rw [e2]; split
    · exact h2
    · exact o.n64 d'
  · show rdM (wrM S.M i c _) j d' = 0
    have h : S.cur ≤ d' := h
    rw [e1, if_neg (by omega)]
    exact o.z j d' h
  · show (S.N.set c _).getD d' 0 = 0
    have h : S.cur ≤ d' := h
    rw [e2, if_neg (by omega)]
    exact o.zN d' h
  · show sumL (colM (wrM S.M i c _) d') = (S.N.set c _).getD d' 0
    rw [e2, col_wr o.sh hi hc8 d']
    have := o.sum d'
    split
    · rename_i e; subst e; omega
    · exact this
  · show 0 ≤ (S.N.set c _).getD d' 0
    rw [e2]; split
    · exact h3
    · exact o.pos d'
theorem inG_ok {S : Lg} (o : S.Ok) (m c a : Int) : (inG S m c a).2.Ok := by
  unfold inG
  split
  · exact o
  split
  · exact o
  split
  · exact o
  split
  · exact o
  rename_i h1 h2 h3 h4
  obtain ⟨i, j, rfl, rfl, hi, hj⟩ := hasB_t (by simpa using h1)
  simp only [Int.toNat_natCast] at h3 h4 ⊢
  have := o.pos j
  exact o.both hi hj (fit_in h3) (fit_in h4) (by omega)
theorem outG_ok {S : Lg} (o : S.Ok) (m c a : Int) : (outG S m c a).2.Ok := by
  unfold outG
  split
  · exact o
  split
  · exact o
  split
  · exact o
  split
  · exact o
  rename_i h1 h2 h3 h4
  obtain ⟨i, j, rfl, rfl, hi, hj⟩ := hasB_t (by simpa using h1)
  simp only [Int.toNat_natCast] at h3 h4 ⊢
  have g1 := o.i64 i j
  have g2 := o.n64 j
  unfold I64 at g1 g2
  exact o.both hi hj (d := -a) (by unfold I64; omega) (by unfold I64; omega) (by omega)
theorem swapG_ok {S : Lg} (o : S.Ok) (m get give got given : Int) : (swapG S m get give got given).2.Ok := by
  unfold swapG
  split
  · exact o
  split
  · exact o
  split
  · exact o
  split
  · exact o
  split
  · exact o
  split
  · exact o
  split
  · exact o
  split
  · exact o
  split
  · exact o
  rename_i h1 h2 h3 h4 h5 h6 h7 h8 h9
  obtain ⟨i, j, rfl, rfl, hi, hj⟩ := hasB_t (by simpa using h1)
  obtain ⟨i', j', e, rfl, _, hj'⟩ := hasB_t (S := S) (m := (i : Int)) (c := give) (by simpa using h2)
  simp only [Int.toNat_natCast] at h6 h7 h8 h9 ⊢
  have hne : j' ≠ j := fun e => h3 (by rw [e])
  have p := o.pos j
  have o1 := o.both hi hj (fit_in h7) (fit_in h8) (by omega)
  have hc8 : j < 8 := by have := o.c8; omega
  have e1 : rdM (wnG (wrG S i j (rdM S.M i j + got)) j (S.N.getD j 0 + got)).M i j' = rdM S.M i j' := by
    show rdM (wrM S.M i j _) i j' = _
    rw [rd_wr o.sh hi hc8, if_neg (fun x => hne x.2)]
  have e2 : (wnG (wrG S i j (rdM S.M i j + got)) j (S.N.getD j 0 + got)).N.getD j' 0 = S.N.getD j' 0 := by
    show (S.N.set j _).getD j' 0 = _
    rw [getD_set _ _ _ _ (by rw [o.N8]; exact hc8), if_neg hne]
  have g2 := o.n64 j'
  unfold I64 at g2
  have := o1.both (i := i) (c := j') (d := -given) (by rw [show (wnG (wrG S i j (rdM S.M i j + got)) j (S.N.getD j 0 + got)).M.length = S.M.length from (o.sh.wr hi).1]; exact hi) hj' (by rw [e1]; exact fit_in h9) (by rw [e2]; unfold I64; omega) (by rw [e2]; omega)
  rw [e1, e2] at this
  exact this
theorem ofCur_cons (p : Pst) (b : List Pst) (c : Int) : sumL (ofCur (p :: b) c) = (if p.c = c then p.a else 0) + sumL (ofCur b c) := by
  unfold ofCur
  rw [List.filter_cons]
  by_cases h : p.c = c
  · rw [if_pos h, decide_eq_true h, if_pos rfl, List.map_cons, sumL]
  · rw [if_neg h, decide_eq_false h, if_neg (by decide)]; omega
theorem addsM_ok {n w : Nat} : ∀ (b : List Pst) {M : Mx}, shM M n w → (∀ i c, I64 (rdM M i c)) → (∀ p ∈ b, 0 ≤ p.m ∧ p.m < (n : Int) ∧ 0 ≤ p.c ∧ p.c < (w : Int)) → (addsM b M).1 = 0 →
    shM (addsM b M).2 n w ∧ (∀ i c, I64 (rdM (addsM b M).2 i c)) ∧ (∀ c : Nat, sumL (colM (addsM b M).2 c) = sumL (colM M c) + sumL (ofCur b (c : Int))) ∧ (∀ i c : Nat, (∀ p ∈ b, p.c ≠ (c : Int)) → rdM (addsM b M).2 i c = rdM M i c)
  | [], M, s, hi, _, _ => ⟨s, hi, fun c => by show _ = _ + sumL []; rw [show sumL [] = 0 from rfl]; exact (Int.add_zero _).symm, fun _ _ _ => rfl⟩
  | p :: r, M, s, hi, hb, e => by
    have hp := hb p (List.mem_cons_self ..)
    rw [addsM] at e ⊢
    split at e
    · cases e
    · rename_i h
      rw [if_neg h]
      have hm : p.m.toNat < n := by omega
      have hc : p.c.toNat < w := by omega
      have key := addsM_ok r (s.wr (c := p.c.toNat) (v := rdM M p.m.toNat p.c.toNat + p.a) hm) (fun i c => by
        rw [rd_wr s hm hc]; split
        · exact fit_in h
        · exact hi i c) (fun q hq => hb q (List.mem_cons_of_mem _ hq)) e
      obtain ⟨k1, k2, k3, k4⟩ := key
      refine ⟨k1, k2, fun c => ?_, fun i c hn => ?_⟩
      · rw [k3 c, col_wr s hm hc, ofCur_cons]
        by_cases hcc : c = p.c.toNat
        · subst hcc
          rw [if_pos rfl, if_pos (by omega)]; omega
        · rw [if_neg hcc, if_neg (by omega)]; omega
      · rw [k4 i c (fun q hq => hn q (List.mem_cons_of_mem _ hq)), rd_wr s hm hc, if_neg]
        have := hn p (List.mem_cons_self ..)
        omega
theorem any_has {S : Lg} {b : List Pst} (h : ¬ b.any (fun p => !hasB S p.m p.c) = true) : ∀ p ∈ b, hasB S p.m p.c = true := fun p hp => by
  have h : b.any (fun p => !hasB S p.m p.c) = false := by simpa using h
  rw [List.any_eq_false] at h
  have := h p hp
  simpa using this
theorem has_in {S : Lg} {b : List Pst} (h8 : S.cur ≤ 8) (h : ∀ p ∈ b, hasB S p.m p.c = true) : ∀ p ∈ b, 0 ≤ p.m ∧ p.m < (S.M.length : Int) ∧ 0 ≤ p.c ∧ p.c < ((8 : Nat) : Int) := fun p hp => by
  have := of_decide_eq_true (h p hp)
  omega
theorem postG_ok {S : Lg} (o : S.Ok) (b : List Pst) : (postG S b).2.Ok := by
  unfold postG
  split
  · exact o
  split
  · exact o
  split
  · exact o
  rename_i h1 h2 h3
  have hh := any_has h1
  obtain ⟨k1, k2, k3, k4⟩ := addsM_ok b o.sh o.i64 (has_in o.c8 hh) (by simpa using h3)
  have hl := k1.1
  have ev : ∀ c, c < S.cur → sumL (ofCur b (c : Int)) = 0 := fun c hc => by
    have h2 : evenB S b = true := by simpa using h2
    unfold evenB at h2
    rw [List.all_eq_true] at h2
    exact of_decide_eq_true (h2 c (List.mem_range.2 hc))
  have far : ∀ c : Nat, S.cur ≤ c → ∀ p ∈ b, p.c ≠ (c : Int) := fun c hc p hp => by
    have := of_decide_eq_true (hh p hp)
    omega
  refine { n1 := by show 1 ≤ (addsM b S.M).2.length; rw [hl]; exact o.n1, n16 := by show (addsM b S.M).2.length ≤ 16; rw [hl]; exact o.n16, c1 := o.c1, c8 := o.c8, sh := by show shM (addsM b S.M).2 (addsM b S.M).2.length 8; rw [hl]; exact k1, N8 := o.N8, i64 := k2, n64 := o.n64, z := fun i c hc => ?_, zN := o.zN, sum := fun c => ?_, pos := o.pos }
  · show rdM (addsM b S.M).2 i c = 0
    rw [k4 i c (far c hc)]; exact o.z i c hc
  · show sumL (colM (addsM b S.M).2 c) = S.N.getD c 0
    rw [k3 c, o.sum c]
    by_cases hc : c < S.cur
    · rw [ev c hc]; omega
    · have : ofCur b (c : Int) = [] := by
        unfold ofCur
        rw [List.map_eq_nil_iff, List.filter_eq_nil_iff]
        intro p hp
        have := far c (by omega) p hp
        simpa using this
      rw [this]; exact Int.add_zero _
theorem inG_err {S : Lg} {m c a : Int} : (inG S m c a).1 ≠ 0 → (inG S m c a).2 = S := by
  unfold inG
  repeat' split
  all_goals first
    | (intro _; rfl)
    | (intro h; exact (h rfl).elim)
theorem outG_err {S : Lg} {m c a : Int} : (outG S m c a).1 ≠ 0 → (outG S m c a).2 = S := by
  unfold outG
  repeat' split
  all_goals first
    | (intro _; rfl)
    | (intro h; exact (h rfl).elim)
theorem swapG_err {S : Lg} {m g v x y : Int} : (swapG S m g v x y).1 ≠ 0 → (swapG S m g v x y).2 = S := by
  unfold swapG
  repeat' split
  all_goals first
    | (intro _; rfl)
    | (intro h; exact (h rfl).elim)
theorem postG_err {S : Lg} {b : List Pst} : (postG S b).1 ≠ 0 → (postG S b).2 = S := by
  unfold postG
  repeat' split
  all_goals first
    | (intro _; rfl)
    | (intro h; exact (h rfl).elim)
/-! a batch, and what takes it off -/
end Go.Proofs.YtghdadniddoboaaGreat

/- What accounts are worth, in plain words. -/
namespace Go.Proofs.YtghdadniddoboaaGreat
open Go Go.Sy Go.Value
set_option linter.unusedVariables false
set_option linter.unusedSimpArgs false

abbrev Td := Int × Int
def toldW (T : List Cur) (c : Nat) (b : Int) : Td := worthR T (c : Int) b
def toldS (T : List Cur) (c : Nat) (b : Int) : Td := if b < 0 then ((fit (0 - (plainR T (c : Int) b).1)).1, if (plainR T (c : Int) b).2 < (fit (0 - (plainR T (c : Int) b).1)).2 then (fit (0 - (plainR T (c : Int) b).1)).2 else (plainR T (c : Int) b).2) else (0, 0)
def rowF (f : Nat → Int → Td) : Nat → List Int → List Td
  | _, [] => []
  | c, b :: r => f c b :: rowF f (c + 1) r
def chainT : Int → List Td → Td
  | s, [] => (s, 0)
  | s, x :: r => if x.2 ≠ 0 then (0, 3) else if (fit (s + x.1)).2 ≠ 0 then (0, 3) else chainT (s + x.1) r
def netW (T : List Cur) (row : List Int) : Td := chainT 0 (rowF (toldW T) 0 row)
def shW (T : List Cur) (row : List Int) : Td := chainT 0 (rowF (toldS T) 0 row)
theorem rowF_len (f : Nat → Int → Td) : ∀ (row : List Int) (c : Nat), (rowF f c row).length = row.length
  | [], _ => rfl
  | b :: r, c => by rw [rowF, List.length_cons, rowF_len f r, List.length_cons]
theorem rowF_get (f : Nat → Int → Td) : ∀ (row : List Int) (c j : Nat), j < row.length → (rowF f c row)[j]? = some (f (c + j) (row.getD j 0))
  | [], _, _, h => by simp at h
  | b :: r, c, 0, _ => rfl
  | b :: r, c, j + 1, h => by
    rw [rowF, List.getElem?_cons_succ, rowF_get f r (c + 1) j (by simpa using h), List.getD_cons_succ, show c + 1 + j = c + (j + 1) by omega]
theorem rowF_ext {f g : Nat → Int → Td} : ∀ (row : List Int) (c : Nat), (∀ j, c ≤ j → j < c + row.length → ∀ b, f j b = g j b) → rowF f c row = rowF g c row
  | [], _, _ => rfl
  | b :: r, c, h => by
    rw [rowF, rowF, h c (Nat.le_refl _) (by simp) b, rowF_ext r (c + 1) fun j h1 h2 => h j (by omega) (by simp; omega)]
theorem rowF_snoc (f : Nat → Int → Td) : ∀ (row : List Int) (c : Nat) (b : Int), rowF f c (row ++ [b]) = rowF f c row ++ [f (c + row.length) b]
  | [], c, b => rfl
  | a :: r, c, b => by rw [List.cons_append, rowF, rowF_snoc f r, rowF, List.cons_append, List.length_cons, show c + 1 + r.length = c + (r.length + 1) by omega]
theorem rowF_set {f : Nat → Int → Td} {k : Nat} {g : Nat → Int → Td} : ∀ (row : List Int) (c : Nat), (∀ j b, j ≠ k → f j b = g j b) → c ≤ k → k < c + row.length → rowF g c row = (rowF f c row).set (k - c) (g k (row.getD (k - c) 0))
  | [], c, _, h1, h2 => by simp at h2; omega
  | a :: r, c, h, h1, h2 => by
    by_cases e : k = c
    · subst e
      rw [rowF, rowF, Nat.sub_self, List.set_cons_zero, List.getD_cons_zero, rowF_ext r (k + 1) fun j h3 _ b => h j b (by omega)]
    · rw [rowF, rowF, show k - c = (k - (c + 1)) + 1 by omega, List.set_cons_succ, List.getD_cons_succ, h c a (by omega), rowF_set r (c + 1) h (by omega) (by simp at h2; omega)]
theorem md_I (a b c : Int) (up : Bool) : I64 (md a b c up).1 := by
  unfold md
  split
  · exact I64_0
  · unfold fit; split
    · assumption
    · exact I64_0
theorem fit_I' (a : Int) : I64 (fit a).1 := by
  unfold fit
  split
  · assumption
  · exact I64_0
theorem worthR_I (T : List Cur) (c a : Int) : I64 (worthR T c a).1 := by
  unfold worthR
  split
  · exact md_I _ _ _ _
  · exact I64_0
theorem plainR_I (T : List Cur) (c a : Int) : I64 (plainR T c a).1 := by
  unfold plainR
  split
  · exact md_I _ _ _ _
  · exact I64_0
theorem toldS_I (T : List Cur) (c : Nat) (a : Int) : I64 (toldS T c a).1 := by
  unfold toldS
  split
  · exact fit_I' _
  · exact I64_0
def movedW (m : Int) : List Pst → List Int → Option (List Int)
  | [], r => some r
  | p :: b, r => if p.m ≠ m then movedW m b r else if (fit (r.getD p.c.toNat 0 + p.a)).2 ≠ 0 then none else movedW m b (r.set p.c.toNat (r.getD p.c.toNat 0 + p.a))
def badC (w : Nat) (b : List Pst) : Bool := b.any fun p => decide (p.c < 0) || decide (p.c ≥ (w : Int))
def ifW (T : List Cur) (row : List Int) (m : Int) (b : List Pst) : Int × Int × Int :=
  if badC row.length b = true then (0, 0, 1) else match movedW m b row with
    | none => (0, 0, 3)
    | some r => if (netW T r).2 ≠ 0 then (0, 0, 3) else if (shW T r).2 ≠ 0 then (0, 0, 3) else ((netW T r).1, (shW T r).1, 0)
theorem movedW_len (m : Int) : ∀ (b : List Pst) (r r' : List Int), movedW m b r = some r' → r'.length = r.length
  | [], r, r', e => by cases e; rfl
  | p :: b, r, r', e => by
    rw [movedW] at e
    split at e
    · exact movedW_len m b r r' e
    split at e
    · cases e
    · rw [movedW_len m b _ r' e, List.length_set]
/-! tables with one currency turned -/
theorem curAt_set {T : List Cur} {k : Nat} {x : Cur} {j : Nat} (h : j ≠ k) : curAt (T.set k x) (j : Int) = curAt T (j : Int) := by
  unfold curAt
  rw [if_pos (by omega), if_pos (by omega), Int.toNat_natCast, List.getElem?_set_ne (fun e => h e.symm)]
theorem toldW_set {T : List Cur} {k : Nat} {x : Cur} {j : Nat} (h : j ≠ k) (b : Int) : toldW (T.set k x) j b = toldW T j b := by unfold toldW worthR; rw [curAt_set h]
theorem toldS_set {T : List Cur} {k : Nat} {x : Cur} {j : Nat} (h : j ≠ k) (b : Int) : toldS (T.set k x) j b = toldS T j b := by unfold toldS plainR; rw [curAt_set h]
structure Wo where
  T : List Cur
  B : Mx
structure Wo.Ok (S : Wo) : Prop where
  t : tabE S.T = 0
  n1 : 1 ≤ S.B.length
  n16 : S.B.length ≤ 16
  sh : shM S.B S.B.length S.T.length
  i64 : ∀ i c, I64 (rdM S.B i c)
end Go.Proofs.YtghdadniddoboaaGreat

/- Blocks of one thing: numbered, each in a place of its own, with what stands in each. -/
namespace Go.Proofs.YtghdadniddoboaaGreat
open Go Go.Sy Go.Value
set_option linter.unusedVariables false

def updF {α : Type} (f : Nat → α) (i : Nat) (v : α) : Nat → α := fun j => if j = i then v else f j
theorem updF_same {α : Type} (f : Nat → α) (i : Nat) (v : α) : updF f i v i = v := if_pos rfl
theorem updF_ne {α : Type} (f : Nat → α) {i j : Nat} (v : α) (e : j ≠ i) : updF f i v j = f j := if_neg e
structure Fam (h : Heap) (N : Nat) (b : Nat → Nat) (c : Nat → List Value) : Prop where
  at' : ∀ i, i < N → At h (b i) (c i)
  inj : ∀ i j, i < N → j < N → b i = b j → i = j
def famD (N : Nat) (b : Nat → Nat) (x : Nat) : Bool := (List.range N).any fun i => b i == x
theorem famD_i {N : Nat} {b : Nat → Nat} {i : Nat} (h : i < N) : famD N b (b i) = true := List.any_eq_true.2 ⟨i, List.mem_range.2 h, by simp⟩
theorem famD_t {N : Nat} {b : Nat → Nat} {x : Nat} (h : famD N b x = true) : ∃ i, i < N ∧ b i = x := by
  obtain ⟨i, hi, e⟩ := List.any_eq_true.1 h
  exact ⟨i, List.mem_range.1 hi, by simpa using e⟩
theorem famD_f {N : Nat} {b : Nat → Nat} {x : Nat} (h : famD N b x = false) {i : Nat} (hi : i < N) : b i ≠ x := fun e => by rw [← e, famD_i hi] at h; cases h
theorem famD_no {N : Nat} {b : Nat → Nat} {x : Nat} (h : ∀ i, i < N → b i ≠ x) : famD N b x = false := by
  cases hd : famD N b x with
  | false => rfl
  | true => obtain ⟨i, hi, e⟩ := famD_t hd; exact (h i hi e).elim
section
variable {h h' : Heap} {N : Nat} {b : Nat → Nat} {c : Nat → List Value}
theorem Fam.mv (F : Fam h N b c) (k : ∀ x xs, famD N b x = true → At h x xs → At h' x xs) : Fam h' N b c := ⟨fun i hi => k _ _ (famD_i hi) (F.at' i hi), F.inj⟩
theorem Fam.le (F : Fam h N b c) (l : h.le h') : Fam h' N b c := F.mv fun x xs _ a => a.le l
theorem Fam.at (F : Fam h N b c) {x : Nat} (e : famD N b x = true) : ∃ xs, At h x xs := by
  obtain ⟨i, hi, rfl⟩ := famD_t e
  exact ⟨_, F.at' i hi⟩
theorem Fam.fresh (F : Fam h N b c) {x : Nat} (e : h x = none) : famD N b x = false := famD_no fun i hi e2 => (F.at' i hi).ne e e2
theorem Fam.set (F : Fam h N b c) {i o : Nat} {ws : List Value} (hi : i < N) : Fam (h.setN (b i) o ws) N b (updF c i (setL (c i) o ws)) := by
  refine ⟨fun j hj => ?_, F.inj⟩
  by_cases e : j = i
  · subst e
    rw [updF_same]; exact (F.at' j hj).set
  · rw [updF_ne _ _ e]; exact (F.at' j hj).set_ne fun e2 => e (F.inj j i hj hi e2)
theorem Fam.swap (F : Fam h N b c) {i r : Nat} {xs : List Value} (hr : famD N b r = false) (a : At h r xs) : Fam h N (updF b i r) (updF c i xs) := by
  refine ⟨fun j hj => ?_, fun j k hj hk e => ?_⟩
  · by_cases e : j = i
    · subst e
      rw [updF_same, updF_same]; exact a
    · rw [updF_ne _ _ e, updF_ne _ _ e]; exact F.at' j hj
  · by_cases e1 : j = i
    · by_cases e2 : k = i
      · omega
      · rw [e1, updF_same, updF_ne _ _ e2] at e; exact (famD_f hr hk e.symm).elim
    · by_cases e2 : k = i
      · rw [e2, updF_same, updF_ne _ _ e1] at e; exact (famD_f hr hj e).elim
      · rw [updF_ne _ _ e1, updF_ne _ _ e2] at e; exact F.inj j k hj hk e
theorem Fam.more (F : Fam h N b c) {r : Nat} {xs : List Value} (hr : famD N b r = false) (a : At h r xs) : Fam h (N + 1) (updF b N r) (updF c N xs) := by
  refine ⟨fun j hj => ?_, fun j k hj hk e => ?_⟩
  · by_cases e : j = N
    · subst e
      rw [updF_same, updF_same]; exact a
    · rw [updF_ne _ _ e, updF_ne _ _ e]; exact F.at' j (by omega)
  · by_cases e1 : j = N
    · by_cases e2 : k = N
      · omega
      · rw [e1, updF_same, updF_ne _ _ e2] at e; exact (famD_f hr (by omega) e.symm).elim
    · by_cases e2 : k = N
      · rw [e2, updF_same, updF_ne _ _ e1] at e; exact (famD_f hr (by omega) e).elim
      · rw [updF_ne _ _ e1, updF_ne _ _ e2] at e; exact F.inj j k (by omega) (by omega) e
theorem Fam.congr {c' : Nat → List Value} (F : Fam h N b c) (e : ∀ i, i < N → c i = c' i) : Fam h N b c' := ⟨fun i hi => by rw [← e i hi]; exact F.at' i hi, F.inj⟩
theorem Fam.nil (h : Heap) (b : Nat → Nat) (c : Nat → List Value) : Fam h 0 b c := ⟨fun i hi => absurd hi (by omega), fun i j hi => absurd hi (by omega)⟩
theorem famD_swap {i r x : Nat} (h : famD N (updF b i r) x = true) : x = r ∨ famD N b x = true := by
  obtain ⟨j, hj, e⟩ := famD_t h
  by_cases e1 : j = i
  · subst e1
    rw [updF_same] at e; exact .inl e.symm
  · rw [updF_ne _ _ e1] at e; exact .inr (by rw [← e]; exact famD_i hj)
theorem famD_more {r x : Nat} (h : famD (N + 1) (updF b N r) x = true) : x = r ∨ famD N b x = true := by
  obtain ⟨j, hj, e⟩ := famD_t h
  by_cases e1 : j = N
  · subst e1
    rw [updF_same] at e; exact .inl e.symm
  · rw [updF_ne _ _ e1] at e; exact .inr (by rw [← e]; exact famD_i (by omega))
end
end Go.Proofs.YtghdadniddoboaaGreat

/- Worths in the program: sums of what is told, what a balance is worth, and an account. -/
namespace Go.Proofs.YtghdadniddoboaaGreat
open Go Go.Sy Go.Value
set_option linter.unusedVariables false
set_option linter.unusedSimpArgs false

def tdV1 (x : Td) : List Value := [.int .i64 x.1, .int .i64 x.2]
theorem tdV1_len (x : Td) : (tdV1 x).length = 2 := rfl
abbrev Tds (h : Heap) (p : Option Addr) (l : List Td) := Arr tdV1 h p l
theorem tx {h : Heap} {p : Option Addr} {l : List Td} {N : Nat} (C : Tds h p l) (hn : l.length = N) {j : Nat} {i : Int} (hi : i = (j : Int)) {x : Td} (hx : l[j]? = some x) {Q : Int → Int → Prop} (kk : Q x.1 x.2) :
    0 ≤ i ∧ i < (N : Int) ∧ withAddr p fun b o => ∃ n, h.cell b (o + i.toNat * 2) = some (.int .i64 n) ∧ ∃ n1, h.cell b (o + i.toNat * 2 + 1) = some (.int .i64 n1) ∧ Q n n1 := by
  subst hi
  exact ax (w := 2) tdV1_len C hn rfl hx (by decide) fun b o _ g => ⟨_, g 0 (by decide), _, g 1 (by decide), kk⟩
theorem fit_03 (x : Int) : (fit x).2 = 0 ∨ (fit x).2 = 3 := by unfold fit; split <;> simp
section
variable {h0 h : Heap} {K : Value → Heap → Prop} {p : Option Addr} {l : List Td} {n c : Nat}
theorem wchain_loop (C : Tds h0 p l) (hn : l.length = n) (hs : n ≤ 1000000) (hI : ∀ x ∈ l, I64 x.1) (k : ∀ h', h0.le h' → K (agg #[.int .i64 (chainT 0 l).1, .int .i64 (chainT 0 l).2]) h') {t2 sum : Nat} (ne : t2 ≠ sum) (z1 : h0 t2 = none) (z2 : h0 sum = none) :
    ∀ (m j : Nat) (h : Heap) (s : Int), m + j = n → h0.le h → At h t2 [.int .i64 0, .int .i64 0] → At h sum [.int .i64 s, .int .i64 0] → I64 s → chainT s (l.drop j) = chainT 0 l → L_worth_chain_0 t2 sum p n c (n : Int) (j : Int) h K := by
  intro m
  induction m with
  | zero =>
    intro j h s hj lh A2 As hsI e
    refine L_worth_chain_0r _ _ _ _ _ _ _ _ _ ?_
    unfold L_worth_chain_0T
    rw [List.drop_eq_nil_of_le (by omega), chainT] at e
    rw [← e] at k
    exact Br.no (by simp; omega) ⟨_, As.cell rfl, _, As.cell rfl, A2.canSt (by decide), _, (A2.set (o := 0) (ws := [.int .i64 s, .int .i64 0])).cell rfl, _, (A2.set (o := 0) (ws := [.int .i64 s, .int .i64 0])).cell rfl, Ret.mk (k _ (le_setN lh z1))⟩
  | succ m ih =>
    intro j h s hj lh A2 As hsI e
    refine L_worth_chain_0r _ _ _ _ _ _ _ _ _ ?_
    unfold L_worth_chain_0T
    have hx : l[j]? = some l[j] := List.getElem?_eq_getElem (by omega)
    have hm : l[j] ∈ l := List.getElem_mem _
    rw [List.drop_eq_getElem_cons (by omega : j < l.length), chainT] at e
    generalize l[j] = x at *
    refine Br.yes (by simp; omega) (tx (C.le lh) hn rfl hx (newB_cp (vs := [.int .i64 x.1, .int .i64 x.2]) rfl fun r h1 hr l1 Ar cs => ⟨cs, _, Ar.cell rfl, ?_⟩))
    have n2 := A2.ne hr
    have ns := As.ne hr
    have B2 := A2.le l1
    have Bs := As.le l1
    have lh1 := Heap.le_trans lh l1
    generalize h1.setN r 0 [.int .i64 x.1, .int .i64 x.2] = H at *
    by_cases e0 : x.2 ≠ 0
    · rw [if_pos e0] at e
      rw [← e] at k
      exact Br.yes (by simpa using e0) ⟨B2.canSt (by decide), _, (B2.set (o := 0) (ws := [.int .i64 0, .int .i64 3])).cell rfl, _, (B2.set (o := 0) (ws := [.int .i64 0, .int .i64 3])).cell rfl, Ret.mk (k _ (le_setN lh1 z1))⟩
    rw [if_neg e0] at e
    refine Br.no (by simpa using e0) ⟨_, Bs.cell rfl, _, Ar.cell rfl, S_Add hsI (hI x hm) _ _ ⟨_, _, rfl, ?_⟩⟩
    by_cases e1 : (fit (s + x.1)).2 ≠ 0
    · rw [if_pos e1] at e
      rw [← e] at k
      have e3 : (fit (s + x.1)).2 = 3 := (fit_03 _).resolve_left e1
      rw [e3]
      exact Br.yes rfl ⟨B2.canSt (by decide), _, (B2.set (o := 0) (ws := [.int .i64 0, .int .i64 3])).cell rfl, _, (B2.set (o := 0) (ws := [.int .i64 0, .int .i64 3])).cell rfl, Ret.mk (k _ (le_setN lh1 z1))⟩
    · rw [if_neg e1] at e
      have hI1 := fit_in e1
      rw [fit_ok hI1]
      refine Br.no rfl ⟨Bs.canSt (by simp), ?_⟩
      rw [w1 (by omega)]
      exact ih (j + 1) _ (s + x.1) (by omega) (le_setN lh1 z2) (B2.set_ne ne) (Bs.set (o := 0) (ws := [.int .i64 (s + x.1)])) hI1 e
theorem S_chain (C : Tds h p l) (hn : l.length = n) (hs : n ≤ 1000000) (hI : ∀ x ∈ l, I64 x.1) (k : ∀ h', h.le h' → K (agg #[.int .i64 (chainT 0 l).1, .int .i64 (chainT 0 l).2]) h') : CallA Tryz.prog fn_worth_chain [slice p n c] h K := by
  refine F_worth_chain _ _ _ _ _ ?_
  unfold F_worth_chainT
  exact newB_at fun r h1 hr l1 A1 => newB_at fun r1 h2 hr1 l2 A2 => wchain_loop C hn hs hI k (A1.ne hr1) hr (none_of_le l1 hr1) n 0 h2 0 rfl (Heap.le_trans l1 l2) (A1.le l2) A2 I64_0 rfl
end
section
variable {h0 h : Heap} {K : Value → Heap → Prop} {w : Nat} {T : List Cur} {a : Option Addr} {n c : Nat} {ws : List Value}
theorem S_Wone (C : Curs h a T) (hn : T.length = n) (ok : T.all inbB = true) (Aw : At h w (.slice a n c :: ws)) {cur : Nat} {bal : Int} {ci : Int} (hc : ci = (cur : Int)) (hb : I64 bal)
    (k : ∀ h', h.le h' → K (tuple #[agg #[.int .i64 (toldW T cur bal).1, .int .i64 (toldW T cur bal).2], agg #[.int .i64 (toldS T cur bal).1, .int .i64 (toldS T cur bal).2]]) h') :
    CallA Tryz.prog fn_pworth_Worths_one [pointer (some ⟨w, 0, none⟩), int .i64 ci, int .i64 bal] h K := by
  subst hc
  refine F_pworth_Worths_one _ _ _ _ _ ?_
  unfold F_pworth_Worths_oneT
  refine newB_at fun r h1 hr l1 A1 => newB_at fun r1 h2 hr1 l2 A2 => ?_
  have l12 := Heap.le_trans l1 l2
  have z1 := none_of_le l1 hr1
  have ne := A1.ne hr1
  have nw := Aw.ne hr
  have nw1 := Aw.ne z1
  have Aw2 := Aw.le l12
  have C2 := C.le l12
  refine withAddr_intro rfl ⟨_, _, _, Aw2.cell rfl, S_Worth C2 hn ok hb ⟨_, _, rfl, (A1.le l2).canSt (by decide), ?_⟩⟩
  have B1 : At (h2.setN r 0 [.int .i64 (worthR T (cur : Int) bal).1, .int .i64 (worthR T (cur : Int) bal).2]) r [.int .i64 (worthR T (cur : Int) bal).1, .int .i64 (worthR T (cur : Int) bal).2] := (A1.le l2).set (o := 0) (ws := [.int .i64 (worthR T (cur : Int) bal).1, .int .i64 (worthR T (cur : Int) bal).2])
  have B2 := A2.set_ne (o := 0) (ws := [.int .i64 (worthR T (cur : Int) bal).1, .int .i64 (worthR T (cur : Int) bal).2]) (b' := r) (fun e => ne e.symm)
  have l3 : h.le (h2.setN r 0 [.int .i64 (worthR T (cur : Int) bal).1, .int .i64 (worthR T (cur : Int) bal).2]) := le_setN l12 hr
  have fin : ∀ (h4 : Heap) (a1 a2 b1 b2 : Int), h.le h4 → At h4 r [.int .i64 a1, .int .i64 a2] → At h4 r1 [.int .i64 b1, .int .i64 b2] → At (h4.setN r 0 [.int .i64 a1, .int .i64 a2]) r1 [.int .i64 b1, .int .i64 b2] ∧ At ((h4.setN r 0 [.int .i64 a1, .int .i64 a2]).setN r1 0 [.int .i64 b1, .int .i64 b2]) r [.int .i64 a1, .int .i64 a2] ∧ At ((h4.setN r 0 [.int .i64 a1, .int .i64 a2]).setN r1 0 [.int .i64 b1, .int .i64 b2]) r1 [.int .i64 b1, .int .i64 b2] ∧ h.le ((h4.setN r 0 [.int .i64 a1, .int .i64 a2]).setN r1 0 [.int .i64 b1, .int .i64 b2]) ∧ Keeps [r1] h4 (h4.setN r 0 [.int .i64 a1, .int .i64 a2]) :=
    fun h4 a1 a2 b1 b2 lh X Y => by
      have Y1 := Y.set_ne (o := 0) (ws := [.int .i64 a1, .int .i64 a2]) (b' := r) (fun e => ne e.symm)
      have X1 : At _ r [.int .i64 a1, .int .i64 a2] := X.set (o := 0) (ws := [.int .i64 a1, .int .i64 a2])
      refine ⟨Y1, X1.set_ne ne, Y1.set (o := 0) (ws := [.int .i64 b1, .int .i64 b2]), le_setN (le_setN lh hr) z1, fun b hb x hx => ?_⟩
      rw [List.mem_singleton] at hb
      subst hb
      rw [setN_other (fun e => ne e.symm)]; exact hx
  generalize h2.setN r 0 [.int .i64 (worthR T (cur : Int) bal).1, .int .i64 (worthR T (cur : Int) bal).2] = h3 at *
  unfold toldW toldS at k
  refine Br.dec (fun g => ?_) fun g => ?_
  · rw [if_pos g] at k
    refine withAddr_intro rfl ⟨_, _, _, (Aw.le l3).cell rfl, S_Plain (C.le l3) hn ok hb ⟨_, _, rfl, S_Sub I64_0 (plainR_I _ _ _) _ _ ⟨_, _, rfl, B2.canSt (by decide), ?_⟩⟩⟩
    have hif : (if (fit (0 - (plainR T (cur : Int) bal).1)).2 > (plainR T (cur : Int) bal).2 then (fit (0 - (plainR T (cur : Int) bal).1)).2 else (plainR T (cur : Int) bal).2) = (if (plainR T (cur : Int) bal).2 < (fit (0 - (plainR T (cur : Int) bal).1)).2 then (fit (0 - (plainR T (cur : Int) bal).1)).2 else (plainR T (cur : Int) bal).2) := rfl
    rw [hif]
    dsimp only at k
    generalize (if (plainR T (cur : Int) bal).2 < (fit (0 - (plainR T (cur : Int) bal).1)).2 then (fit (0 - (plainR T (cur : Int) bal).1)).2 else (plainR T (cur : Int) bal).2) = e2 at *
    generalize (fit (0 - (plainR T (cur : Int) bal).1)).1 = s2 at *
    have D1 := B1.set_ne (o := 0) (ws := [.int .i64 s2, .int .i64 e2]) ne
    have D2 : At _ r1 [.int .i64 s2, .int .i64 e2] := B2.set (o := 0) (ws := [.int .i64 s2, .int .i64 e2])
    obtain ⟨f1, f2, f3, f4, f5⟩ := fin _ _ _ _ _ (le_setN l3 z1) D1 D2
    exact ⟨_, D1.cell rfl, _, D1.cell rfl, _, D2.cell rfl, _, D2.cell rfl, D1.canSt (by simp), .inr f5, f1.canSt (by simp), _, f2.cell rfl, _, f2.cell rfl, _, f3.cell rfl, _, f3.cell rfl, Ret.mk (k _ f4)⟩
  · rw [if_neg g] at k
    obtain ⟨f1, f2, f3, f4, f5⟩ := fin _ _ _ _ _ l3 B1 B2
    exact ⟨_, B1.cell rfl, _, B1.cell rfl, _, B2.cell rfl, _, B2.cell rfl, B1.canSt (by simp), .inr f5, f1.canSt (by simp), _, f2.cell rfl, _, f2.cell rfl, _, f3.cell rfl, _, f3.cell rfl, Ret.mk (k _ f4)⟩
structure AcI (h0 h : Heap) (t4 b : Nat) (p q1 q2 : Option Addr) (n cp c1 c2 j : Nat) (l1 l2 : List Td) : Prop where
  base : h0.le h
  z4 : h0 t4 = none
  zb : h0 b = none
  ne : t4 ≠ b
  a4 : At h t4 [slice none 0 0, slice none 0 0, slice none 0 0, int .i64 0, int .i64 0, int .i64 0, int .i64 0]
  ab : At h b [slice p n cp, slice q1 j c1, slice q2 j c2, int .i64 0, int .i64 0, int .i64 0, int .i64 0]
  o1 : OwnL h0 h [int .i64 0, int .i64 0] q1 c1 (l1.flatMap tdV1)
  o2 : OwnL h0 h [int .i64 0, int .i64 0] q2 c2 (l2.flatMap tdV1)
  n14 : q1 ≠ some ⟨t4, 0, none⟩
  n1b : q1 ≠ some ⟨b, 0, none⟩
  n24 : q2 ≠ some ⟨t4, 0, none⟩
  n2b : q2 ≠ some ⟨b, 0, none⟩
  n12 : ∀ x, q1 = some ⟨x, 0, none⟩ → q2 ≠ some ⟨x, 0, none⟩
theorem wtake_snoc {row : List Int} {j : Nat} (h : j < row.length) : row.take (j + 1) = row.take j ++ [row[j]] := by rw [List.take_add_one, List.getElem?_eq_getElem h]; rfl
theorem acc_loop {p : Option Addr} {row : List Int} {rn cp : Nat} (C : Curs h0 a T) (hn : T.length = n) (ok : T.all inbB = true) (Aw : At h0 w (.slice a n c :: ws)) (I : Ints .i64 h0 p row) (hr : row.length = rn) (hs : rn ≤ 1000000) (hI : ∀ x ∈ row, I64 x)
    (k : ∀ h' q1 q2 c1 c2, h0.le h' → OwnL h0 h' [int .i64 0, int .i64 0] q1 c1 ((rowF (toldW T) 0 row).flatMap tdV1) → OwnL h0 h' [int .i64 0, int .i64 0] q2 c2 ((rowF (toldS T) 0 row).flatMap tdV1) → (∀ x, q1 = some ⟨x, 0, none⟩ → q2 ≠ some ⟨x, 0, none⟩) →
      K (agg #[slice p rn cp, slice q1 rn c1, slice q2 rn c2, int .i64 (netW T row).1, int .i64 (netW T row).2, int .i64 (shW T row).1, int .i64 (shW T row).2]) h') {t4 b : Nat} :
    ∀ (m j : Nat) (h : Heap) (q1 q2 : Option Addr) (c1 c2 : Nat), m + j = rn → AcI h0 h t4 b p q1 q2 rn cp c1 c2 j (rowF (toldW T) 0 (row.take j)) (rowF (toldS T) 0 (row.take j)) → L_pworth_Worths_account_0 (some ⟨w, 0, none⟩) t4 b p rn cp (rn : Int) (j : Int) h K := by
  intro m
  induction m with
  | zero =>
    intro j h q1 q2 c1 c2 hj I
    refine L_pworth_Worths_account_0r _ _ _ _ _ _ _ _ _ _ ?_
    unfold L_pworth_Worths_account_0T
    obtain rfl : j = rn := by omega
    rw [List.take_of_length_le (by omega)] at I
    have hw1 : (rowF (toldW T) 0 row).length = j := by rw [rowF_len]; exact hr
    have hw2 : (rowF (toldS T) 0 row).length = j := by rw [rowF_len]; exact hr
    have i1 : ∀ x ∈ rowF (toldW T) 0 row, I64 x.1 := fun x hx => by
      obtain ⟨i, hi, e⟩ := List.mem_iff_getElem.1 hx
      have := rowF_get (toldW T) row 0 i (by rw [rowF_len] at hi; exact hi)
      rw [List.getElem?_eq_getElem hi, e] at this
      cases this
      exact worthR_I _ _ _
    have i2 : ∀ x ∈ rowF (toldS T) 0 row, I64 x.1 := fun x hx => by
      obtain ⟨i, hi, e⟩ := List.mem_iff_getElem.1 hx
      have := rowF_get (toldS T) row 0 i (by rw [rowF_len] at hi; exact hi)
      rw [List.getElem?_eq_getElem hi, e] at this
      cases this
      exact toldS_I _ _ _
    refine Br.no (by simp) ⟨_, _, _, I.ab.cell rfl, _, _, _, I.ab.cell rfl, S_chain (l := rowF (toldW T) 0 row) I.o1.rd hw1 hs i1 fun h1 l1 => ⟨_, _, rfl, .inl l1, S_chain (l := rowF (toldS T) 0 row) (I.o2.le l1).rd hw2 hs i2 fun h2 l2 => ⟨_, _, rfl, ?_⟩⟩⟩
    have l12 := Heap.le_trans l1 l2
    have Ab := I.ab.le l12
    have A4 := I.a4.le l12
    have O1 := I.o1.le l12
    have O2 := I.o2.le l12
    have lb := Heap.le_trans I.base l12
    have ne4 := I.ne
    have zb := I.zb
    have z4 := I.z4
    have n1b := I.n1b
    have n2b := I.n2b
    have n14 := I.n14
    have n24 := I.n24
    have n12 := I.n12
    have Ab1 : At _ b [slice p j cp, slice q1 j c1, slice q2 j c2, int .i64 (chainT 0 (rowF (toldW T) 0 row)).1, int .i64 (chainT 0 (rowF (toldW T) 0 row)).2, int .i64 0, int .i64 0] := Ab.set (o := 3) (ws := [int .i64 (chainT 0 (rowF (toldW T) 0 row)).1, int .i64 (chainT 0 (rowF (toldW T) 0 row)).2])
    have Ab2 : At _ b [slice p j cp, slice q1 j c1, slice q2 j c2, int .i64 (chainT 0 (rowF (toldW T) 0 row)).1, int .i64 (chainT 0 (rowF (toldW T) 0 row)).2, int .i64 (chainT 0 (rowF (toldS T) 0 row)).1, int .i64 (chainT 0 (rowF (toldS T) 0 row)).2] := Ab1.set (o := 5) (ws := [int .i64 (chainT 0 (rowF (toldS T) 0 row)).1, int .i64 (chainT 0 (rowF (toldS T) 0 row)).2])
    have B4 := (A4.set_ne (o := 3) (ws := [int .i64 (chainT 0 (rowF (toldW T) 0 row)).1, int .i64 (chainT 0 (rowF (toldW T) 0 row)).2]) ne4).set_ne (o := 5) (ws := [int .i64 (chainT 0 (rowF (toldS T) 0 row)).1, int .i64 (chainT 0 (rowF (toldS T) 0 row)).2]) ne4
    have O1' := (O1.set_ne (o := 3) (ws := [int .i64 (chainT 0 (rowF (toldW T) 0 row)).1, int .i64 (chainT 0 (rowF (toldW T) 0 row)).2]) n1b).set_ne (o := 5) (ws := [int .i64 (chainT 0 (rowF (toldS T) 0 row)).1, int .i64 (chainT 0 (rowF (toldS T) 0 row)).2]) n1b
    have O2' := (O2.set_ne (o := 3) (ws := [int .i64 (chainT 0 (rowF (toldW T) 0 row)).1, int .i64 (chainT 0 (rowF (toldW T) 0 row)).2]) n2b).set_ne (o := 5) (ws := [int .i64 (chainT 0 (rowF (toldS T) 0 row)).1, int .i64 (chainT 0 (rowF (toldS T) 0 row)).2]) n2b
    have l9 := le_setN (o := 5) (ws := [int .i64 (chainT 0 (rowF (toldS T) 0 row)).1, int .i64 (chainT 0 (rowF (toldS T) 0 row)).2]) (le_setN (o := 3) (ws := [int .i64 (chainT 0 (rowF (toldW T) 0 row)).1, int .i64 (chainT 0 (rowF (toldW T) 0 row)).2]) lb zb) zb
    unfold netW shW at k
    refine ⟨Ab.canSt (by simp), Ab1.canSt (by simp), ?_⟩
    generalize (h2.setN b 3 [int .i64 (chainT 0 (rowF (toldW T) 0 row)).1, int .i64 (chainT 0 (rowF (toldW T) 0 row)).2]).setN b 5 [int .i64 (chainT 0 (rowF (toldS T) 0 row)).1, int .i64 (chainT 0 (rowF (toldS T) 0 row)).2] = H at *
    generalize chainT 0 (rowF (toldW T) 0 row) = x1 at *
    generalize chainT 0 (rowF (toldS T) 0 row) = x2 at *
    have B5 : At _ t4 [slice p j cp, slice q1 j c1, slice q2 j c2, int .i64 x1.1, int .i64 x1.2, int .i64 x2.1, int .i64 x2.2] := B4.set (o := 0) (ws := [slice p j cp, slice q1 j c1, slice q2 j c2, int .i64 x1.1, int .i64 x1.2, int .i64 x2.1, int .i64 x2.2])
    exact ⟨_, _, _, Ab2.cell rfl, _, _, _, Ab2.cell rfl, _, _, _, Ab2.cell rfl, _, Ab2.cell rfl, _, Ab2.cell rfl, _, Ab2.cell rfl, _, Ab2.cell rfl, B4.canSt (by simp), _, _, _, B5.cell rfl, _, _, _, B5.cell rfl, _, _, _, B5.cell rfl, _, B5.cell rfl, _, B5.cell rfl, _, B5.cell rfl, _, B5.cell rfl,
      Ret.mk (k _ q1 q2 c1 c2 (le_setN l9 z4) (O1'.set_ne n14) (O2'.set_ne n24) n12)⟩
  | succ m ih =>
    intro j h q1 q2 c1 c2 hj J
    refine L_pworth_Worths_account_0r _ _ _ _ _ _ _ _ _ _ ?_
    unfold L_pworth_Worths_account_0T
    have hjr : j < row.length := by omega
    have hx : row[j]? = some row[j] := List.getElem?_eq_getElem hjr
    have hm : row[j] ∈ row := List.getElem_mem _
    have e1 : (rowF (toldW T) 0 (row.take (j + 1))).flatMap tdV1 = (rowF (toldW T) 0 (row.take j)).flatMap tdV1 ++ tdV1 (toldW T j row[j]) := by
      rw [wtake_snoc hjr, rowF_snoc, List.flatMap_append, List.length_take, Nat.min_eq_left (by omega), Nat.zero_add]; simp
    have e2 : (rowF (toldS T) 0 (row.take (j + 1))).flatMap tdV1 = (rowF (toldS T) 0 (row.take j)).flatMap tdV1 ++ tdV1 (toldS T j row[j]) := by
      rw [wtake_snoc hjr, rowF_snoc, List.flatMap_append, List.length_take, Nat.min_eq_left (by omega), Nat.zero_add]; simp
    have f1 : ((rowF (toldW T) 0 (row.take j)).flatMap tdV1).length = j * 2 := by rw [arr_len tdV1_len, rowF_len, List.length_take, Nat.min_eq_left (by omega)]
    have f2 : ((rowF (toldS T) 0 (row.take j)).flatMap tdV1).length = j * 2 := by rw [arr_len tdV1_len, rowF_len, List.length_take, Nat.min_eq_left (by omega)]
    generalize row[j] = bal at *
    refine Br.yes (by simp; omega) (ix (I.le J.base) hr rfl hx (S_Wone (cur := j) (C.le J.base) hn ok (Aw.le J.base) rfl (hI _ hm) fun h1 l1 => ⟨_, _, _, _, rfl, newB_at fun r h2 z2 l2 A2 => newB_at fun r1 h3 z3 l3 A3 => ⟨(A2.le l3).canSt (by decide), ?_⟩⟩))
    generalize toldW T j bal = W at *
    generalize toldS T j bal = S at *
    have nrr := A2.ne z3
    have z3' := none_of_le l2 z3
    have B2 : At _ r [int .i64 W.1, int .i64 W.2] := (A2.le l3).set (o := 0) (ws := [int .i64 W.1, int .i64 W.2])
    have B3 := A3.set_ne (o := 0) (ws := [int .i64 W.1, int .i64 W.2]) (b' := r) (fun e => nrr e.symm)
    have C2 := B2.set_ne (o := 0) (ws := [int .i64 S.1, int .i64 S.2]) nrr
    have C3 : At _ r1 [int .i64 S.1, int .i64 S.2] := B3.set (o := 0) (ws := [int .i64 S.1, int .i64 S.2])
    have lH := Heap.le_trans l1 (le_setN (o := 0) (ws := [int .i64 S.1, int .i64 S.2]) (le_setN (o := 0) (ws := [int .i64 W.1, int .i64 W.2]) (Heap.le_trans l2 l3) z2) z3')
    refine ⟨B3.canSt (by simp), ?_⟩
    generalize (h3.setN r 0 [int .i64 W.1, int .i64 W.2]).setN r1 0 [int .i64 S.1, int .i64 S.2] = H at *
    have zr1 := none_of_le l1 z3'
    have nq1r := J.o1.fresh zr1
    have nbr := J.ab.ne zr1
    have Ab := J.ab.le lH
    have A4 := J.a4.le lH
    refine ⟨_, _, _, Ab.cell rfl, _, C2.cell rfl, _, C2.cell rfl, push1 (J.o1.le lH) (by decide) (Heap.le_trans J.base lH) (by omega) rfl rfl f1 fun s h4 q1' c1' h5 zs l4 l5 P1 keep how => ?_⟩
    have Ab5 := keepAt keep (Ab.le l4) J.n1b
    have A45 := keepAt keep (A4.le l4) J.n14
    have D5 := keepAt keep (C3.le l4) nq1r
    have n1b' := push_ne how (Ab.le l4) J.n1b
    have n14' := push_ne how (A4.le l4) J.n14
    have o2' := (J.o2.le lH).le l4
    have n12' : ∀ x, q1' = some ⟨x, 0, none⟩ → q2 ≠ some ⟨x, 0, none⟩ := fun x e => by
      rcases how with rfl | ⟨s, e3, hs⟩
      · exact J.n12 x e
      · rw [e3] at e; cases e; exact o2'.fresh hs
    have P2 := (o2'.mv fun x xs e A => keepAt keep A fun e4 => J.n12 x e4 e).set_ne (o := 1) (ws := [slice q1' (j + 1) c1']) J.n2b
    have Ab6 : At _ b [slice p rn cp, slice q1' (j + 1) c1', slice q2 j c2, int .i64 0, int .i64 0, int .i64 0, int .i64 0] := Ab5.set (o := 1) (ws := [slice q1' (j + 1) c1'])
    have A46 := A45.set_ne (o := 1) (ws := [slice q1' (j + 1) c1']) J.ne
    have D6 := D5.set_ne (o := 1) (ws := [slice q1' (j + 1) c1']) (b' := b) (fun e => nbr e.symm)
    have P1' := P1.set_ne (o := 1) (ws := [slice q1' (j + 1) c1']) n1b'
    have l6 := le_setN (o := 1) (ws := [slice q1' (j + 1) c1']) l5 J.zb
    refine ⟨Ab5.canSt (by simp), ?_⟩
    generalize h5.setN b 1 [slice q1' (j + 1) c1'] = h6 at *
    refine ⟨_, _, _, Ab6.cell rfl, _, D6.cell rfl, _, D6.cell rfl, push1 P2 (by decide) l6 (by omega) rfl rfl f2 fun s2 h7 q2' c2' h8 zs2 l7 l8 P3 keep2 how2 => ?_⟩
    have Ab8 := keepAt keep2 (Ab6.le l7) J.n2b
    have n2b' := push_ne how2 (Ab6.le l7) J.n2b
    have n24' := push_ne how2 (A46.le l7) J.n24
    refine ⟨Ab8.canSt (by simp), ?_⟩
    have oo1 : OwnL h0 (h8.setN b 2 [slice q2' (j + 1) c2']) [int .i64 0, int .i64 0] q1' c1' ((rowF (toldW T) 0 (row.take (j + 1))).flatMap tdV1) := by
      rw [e1]; exact ((P1'.le l7).mv fun x xs e A => keepAt keep2 A (n12' x e)).set_ne n1b'
    have oo2 : OwnL h0 (h8.setN b 2 [slice q2' (j + 1) c2']) [int .i64 0, int .i64 0] q2' c2' ((rowF (toldS T) 0 (row.take (j + 1))).flatMap tdV1) := by
      rw [e2]; exact P3.set_ne n2b'
    have nn12 : ∀ x, q1' = some ⟨x, 0, none⟩ → q2' ≠ some ⟨x, 0, none⟩ := fun x e e4 => by
      rcases how2 with rfl | ⟨s, e3, hs⟩
      · exact n12' x e e4
      · rw [e3] at e4; cases e4; exact (P1'.le l7).fresh hs e
    rw [w1 (by omega)]
    exact ih (j + 1) _ q1' q2' c1' c2' (by omega) { base := le_setN l8 J.zb, z4 := J.z4, zb := J.zb, ne := J.ne, a4 := (keepAt keep2 (A46.le l7) J.n24).set_ne J.ne, ab := Ab8.set (o := 2) (ws := [slice q2' (j + 1) c2']), o1 := oo1, o2 := oo2, n14 := n14', n1b := n1b', n24 := n24', n2b := n2b', n12 := nn12 }
theorem S_account {p : Option Addr} {row : List Int} {rn cp : Nat} (C : Curs h a T) (hn : T.length = n) (ok : T.all inbB = true) (Aw : At h w (.slice a n c :: ws)) (I : Ints .i64 h p row) (hr : row.length = rn) (hs : rn ≤ 1000000) (hI : ∀ x ∈ row, I64 x)
    (k : ∀ h' q1 q2 c1 c2, h.le h' → OwnL h h' [int .i64 0, int .i64 0] q1 c1 ((rowF (toldW T) 0 row).flatMap tdV1) → OwnL h h' [int .i64 0, int .i64 0] q2 c2 ((rowF (toldS T) 0 row).flatMap tdV1) → (∀ x, q1 = some ⟨x, 0, none⟩ → q2 ≠ some ⟨x, 0, none⟩) →
      K (agg #[slice p rn cp, slice q1 rn c1, slice q2 rn c2, int .i64 (netW T row).1, int .i64 (netW T row).2, int .i64 (shW T row).1, int .i64 (shW T row).2]) h') :
    CallA Tryz.prog fn_pworth_Worths_account [pointer (some ⟨w, 0, none⟩), slice p rn cp] h K := by
  refine F_pworth_Worths_account _ _ _ _ _ _ ?_
  unfold F_pworth_Worths_accountT
  refine newB_at fun r h1 hr1 l1 A1 => newB_cp (vs := [slice p rn cp, slice none 0 0, slice none 0 0, int .i64 0, int .i64 0, int .i64 0, int .i64 0]) rfl fun r2 h2 hr2 l2 A2 cs => ⟨cs, ?_⟩
  exact acc_loop C hn ok Aw I hr hs hI k rn 0 _ none none 0 0 rfl { base := Heap.le_trans l1 l2, z4 := hr1, zb := none_of_le l1 hr2, ne := A1.ne hr2, a4 := A1.le l2, ab := A2, o1 := OwnL.nil _ _ _, o2 := OwnL.nil _ _ _, n14 := nofun, n1b := nofun, n24 := nofun, n2b := nofun, n12 := nofun }
end
end Go.Proofs.YtghdadniddoboaaGreat
