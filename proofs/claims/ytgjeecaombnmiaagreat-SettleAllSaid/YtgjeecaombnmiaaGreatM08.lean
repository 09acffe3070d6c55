import Derived.Test.YtgjeecaombnmiaaGreatM07
import Derived.Test.YtgjeecaombnmiaaGreatM06
import Derived.Test.YtgjeecaombnmiaaGreatM03
import Derived.Test.YtgjeecaombnmiaaGreatM02
/- The laws TableTells, TableWorth and TableBack. -/
namespace Go.Proofs.YtgjeecaombnmiaaGreat
open Go Go.Sy Go.Value
set_option linter.unusedVariables false
set_option linter.unusedSimpArgs false

def qV4 : Sh := .sl (.two .str (.two (.int .i64) (.two (.int .i64) .nil)))
theorem qW4 {h : Heap} {p : Option Addr} {n c : Nat} (H : qV4.Has h [.slice p n c]) : n ≤ 9223372036854775807 ∧ ∃ l : List Cur, l.length = n ∧ Curs h p l ∧ ∀ x ∈ l, I64 x.rate ∧ I64 x.cut := by
  obtain ⟨h1, h2, L, hL, hA, hR⟩ := Sh.Has.list H
  refine ⟨by omega, ?_⟩
  have : ∀ L : List (List Value), (∀ vs ∈ L, vs.length = (Sh.two .str (.two (.int .i64) (.two (.int .i64) .nil))).n ∧ (Sh.two .str (.two (.int .i64) (.two (.int .i64) .nil))).Has h vs) →
      ∃ l : List Cur, l.length = L.length ∧ L.flatten = qFU l ∧ ∀ x ∈ l, I64 x.rate ∧ I64 x.cut := by
    intro L
    induction L with
    | nil => exact fun _ => ⟨[], rfl, rfl, fun _ hn => (by cases hn)⟩
    | cons a L ih =>
      intro hA
      obtain ⟨l, e1, e2, e3⟩ := ih (fun vs hv => hA vs (List.mem_cons_of_mem _ hv))
      obtain ⟨_, _, ea, _, ⟨s, rfl, _⟩, _, _, rfl, _, ⟨r, rfl, wr⟩, _, _, rfl, _, ⟨t, rfl, wt⟩, rfl⟩ := (hA a (List.mem_cons_self ..)).2
      subst ea
      refine ⟨⟨s, r, t⟩ :: l, by simp [e1], by rw [List.flatten_cons, e2]; rfl, fun x hx => ?_⟩
      rcases List.mem_cons.1 hx with rfl | hx
      · exact ⟨I64.of_wf wr, I64.of_wf wt⟩
      · exact e3 x hx
  obtain ⟨l, e1, e2, e3⟩ := this L hA
  exact ⟨l, by rw [e1, hL], by unfold Curs; rw [← e2]; exact hR, e3⟩
section
variable {K : Value → Heap → Prop} {h h0 : Heap} {p : Option Addr} {l : List Cur} {n c : Nat}
theorem qMp (h : qCV l = 0) : l.all qGl = true := by
  obtain ⟨_, _, _, _, h5⟩ := qCq h
  match l, h5 with
  | [], _ => rfl
  | x :: r, h5 =>
    rw [qOI, Bool.and_eq_true, qN6] at h5
    rw [List.all_cons, qUh h5.1, h5.2]; rfl
end
end Go.Proofs.YtgjeecaombnmiaaGreat

/- Tables of whole numbers: rows, columns, what is written; and all rows in a row. -/
namespace Go.Proofs.YtgjeecaombnmiaaGreat
open Go Go.Sy Go.Value
set_option linter.unusedVariables false
set_option linter.unusedSimpArgs false

abbrev Mx := List (List Int)
def rdM (M : Mx) (i c : Nat) : Int := (M.getD i []).getD c 0
def wrM (M : Mx) (i c : Nat) (v : Int) : Mx := M.set i ((M.getD i []).set c v)
theorem qJD {x : Int} (h : ¬ (fit x).2 ≠ 0) : I64 x := Classical.byContradiction fun hx => h (by rw [qGk hx]; decide)
/-! reading and writing -/
def shM (M : Mx) (n w : Nat) : Prop := M.length = n ∧ ∀ r ∈ M, r.length = w
theorem shM.row {M : Mx} {n w i : Nat} (s : shM M n w) (h : i < n) : (M.getD i []).length = w := by
  rw [List.getD_eq_getElem?_getD, List.getElem?_eq_getElem (by rw [s.1]; exact h)]
  exact s.2 _ (List.getElem_mem _)
theorem shM.wr {M : Mx} {n w i c : Nat} {v : Int} (s : shM M n w) (h : i < n) : shM (wrM M i c v) n w := by
  refine ⟨by unfold wrM; rw [List.length_set]; exact s.1, fun r hr => ?_⟩
  unfold wrM at hr
  rcases List.mem_or_eq_of_mem_set hr with e | e
  · exact s.2 r e
  · rw [e, List.length_set]; exact s.row h
theorem qE2 {M : Mx} {n w i c : Nat} {v : Int} (s : shM M n w) (h : i < n) (hc : c < w) (j d : Nat) : rdM (wrM M i c v) j d = if j = i ∧ d = c then v else rdM M j d := by
  unfold rdM wrM
  have hr := s.row h
  have hl : i < M.length := by rw [s.1]; exact h
  by_cases hj : j = i
  · subst hj
    have e1 : (M.set j ((M.getD j []).set c v)).getD j [] = (M.getD j []).set c v := by
      rw [List.getD_eq_getElem?_getD, List.getElem?_set_self hl]; rfl
    rw [e1]
    by_cases hd : d = c
    · subst hd
      rw [if_pos ⟨rfl, rfl⟩, List.getD_eq_getElem?_getD, List.getElem?_set_self (by omega)]; rfl
    · rw [if_neg (fun x => hd x.2), List.getD_eq_getElem?_getD, List.getElem?_set_ne (fun x => hd x.symm), ← List.getD_eq_getElem?_getD]
  · rw [if_neg (fun x => hj x.1)]
    have e1 : (M.set i ((M.getD i []).set c v)).getD j [] = M.getD j [] := by
      rw [List.getD_eq_getElem?_getD, List.getElem?_set_ne (fun x => hj x.symm), ← List.getD_eq_getElem?_getD]
    rw [e1]
def qCu (M : Mx) (c : Nat) : List Int := M.map fun r => r.getD c 0
theorem qHn (M : Mx) (c i : Nat) (h : i < M.length) : (qCu M c)[i]? = some (rdM M i c) := by
  have e : M.getD i [] = M[i] := by rw [List.getD_eq_getElem?_getD, List.getElem?_eq_getElem h]; rfl
  unfold qCu rdM
  rw [List.getElem?_map, List.getElem?_eq_getElem h, e]; rfl
theorem qRq : ∀ (l : List Int) (i : Nat) (v : Int), i < l.length → q5 (l.set i v) = q5 l - l.getD i 0 + v
  | [], _, _, h => by simp at h
  | a :: l, 0, v, _ => by simp [q5]; omega
  | a :: l, i + 1, v, h => by
    have := qRq l i v (by simpa using h)
    simp only [List.set_cons_succ, q5, List.getD_cons_succ]
    omega
theorem qUW {M : Mx} {n w i c : Nat} {v : Int} (s : shM M n w) (h : i < n) (hc : c < w) (d : Nat) : q5 (qCu (wrM M i c v) d) = if d = c then q5 (qCu M d) - rdM M i d + v else q5 (qCu M d) := by
  have hl : i < M.length := by rw [s.1]; exact h
  have e : qCu (wrM M i c v) d = (qCu M d).set i (if d = c then v else rdM M i d) := by
    refine List.ext_getElem? fun j => ?_
    by_cases hj : j < M.length
    · rw [qHn _ _ _ (by unfold wrM; rw [List.length_set]; exact hj), qE2 s h hc]
      by_cases hji : j = i
      · subst hji
        rw [List.getElem?_set_self (by unfold qCu; rw [List.length_map]; exact hj)]
        by_cases hd : d = c
        · rw [if_pos ⟨rfl, hd⟩, if_pos hd]
        · rw [if_neg (fun x => hd x.2), if_neg hd]
      · rw [if_neg (fun x => hji x.1), List.getElem?_set_ne (fun x => hji x.symm), qHn _ _ _ hj]
    · rw [List.getElem?_eq_none (by unfold qCu wrM; rw [List.length_map, List.length_set]; omega), List.getElem?_eq_none (by rw [List.length_set]; unfold qCu; rw [List.length_map]; omega)]
  rw [e, qRq _ _ _ (by unfold qCu; rw [List.length_map]; exact hl)]
  have g : (qCu M d).getD i 0 = rdM M i d := by rw [List.getD_eq_getElem?_getD, qHn _ _ _ hl]; rfl
  rw [g]
  split <;> omega
/-! all rows in a row -/
theorem qE3 {w : Nat} : ∀ {M : Mx}, (∀ r ∈ M, r.length = w) → M.flatten.length = M.length * w
  | [], _ => by simp
  | r :: M, h => by
    rw [List.flatten_cons, List.length_append, h r (List.mem_cons_self ..), qE3 (M := M) (fun x hx => h x (List.mem_cons_of_mem _ hx)), List.length_cons, Nat.succ_mul]
    omega
theorem qK5 {w : Nat} : ∀ {M : Mx}, (∀ r ∈ M, r.length = w) → ∀ {i c : Nat}, i < M.length → c < w → M.flatten[i * w + c]? = some (rdM M i c)
  | [], _, _, _, hi, _ => by simp at hi
  | r :: M, h, 0, c, _, hc => by
    have hr := h r (List.mem_cons_self ..)
    rw [List.flatten_cons, Nat.zero_mul, Nat.zero_add, List.getElem?_append_left (by omega)]
    unfold rdM
    rw [List.getD_cons_zero, List.getD_eq_getElem?_getD, List.getElem?_eq_getElem (by omega)]; rfl
  | r :: M, h, i + 1, c, hi, hc => by
    have hr := h r (List.mem_cons_self ..)
    have := qK5 (M := M) (fun x hx => h x (List.mem_cons_of_mem _ hx)) (i := i) (c := c) (by simpa using hi) hc
    rw [List.flatten_cons, List.getElem?_append_right (by rw [hr, Nat.succ_mul]; omega), hr, Nat.succ_mul, show i * w + w + c - w = i * w + c by omega, this]
    rfl
theorem qNi {w : Nat} {v : Int} : ∀ {M : Mx}, (∀ r ∈ M, r.length = w) → ∀ {i c : Nat}, i < M.length → c < w → (wrM M i c v).flatten = M.flatten.set (i * w + c) v
  | [], _, _, _, hi, _ => by simp at hi
  | r :: M, h, 0, c, _, hc => by
    have hr := h r (List.mem_cons_self ..)
    show ((r.set c v) :: M).flatten = _
    rw [List.flatten_cons, List.flatten_cons, Nat.zero_mul, Nat.zero_add, List.set_append_left _ _ (by omega)]
  | r :: M, h, i + 1, c, hi, hc => by
    have hr := h r (List.mem_cons_self ..)
    have := qNi (v := v) (M := M) (fun x hx => h x (List.mem_cons_of_mem _ hx)) (i := i) (c := c) (by simpa using hi) hc
    show (r :: wrM M i c v).flatten = _
    rw [List.flatten_cons, List.flatten_cons, this, List.set_append_right _ _ (by rw [hr, Nat.succ_mul]; omega), hr, Nat.succ_mul, show i * w + w + c - w = i * w + c by omega]
end Go.Proofs.YtgjeecaombnmiaaGreat

/- A ledger, in plain words: what each operation answers and leaves; of each currency the balances are together the nostro; a batch and what takes it off. -/
namespace Go.Proofs.YtgjeecaombnmiaaGreat
open Go Go.Sy Go.Value
set_option linter.unusedVariables false
set_option linter.unusedSimpArgs false

structure Lg where
  M : Mx
  N : List Int
  cur : Nat
structure Pst where
  m : Int
  c : Int
  a : Int
structure Lg.Sz (S : Lg) : Prop where
  n1 : 1 ≤ S.M.length
  n16 : S.M.length ≤ 16
  c1 : 1 ≤ S.cur
  c8 : S.cur ≤ 8
  sh : shM S.M S.M.length 8
  N8 : S.N.length = 8
  i64 : ∀ i c, I64 (rdM S.M i c)
  n64 : ∀ c, I64 (S.N.getD c 0)
structure Lg.Ok (S : Lg) : Prop extends S.Sz where
  z : ∀ i c, S.cur ≤ c → rdM S.M i c = 0
  zN : ∀ c, S.cur ≤ c → S.N.getD c 0 = 0
  sum : ∀ c, q5 (qCu S.M c) = S.N.getD c 0
  pos : ∀ c, 0 ≤ S.N.getD c 0
def qAz (n c : Nat) : Lg := ⟨List.replicate n (List.replicate 8 0), List.replicate 8 0, c⟩
def qC5 (S : Lg) (m c : Int) : Bool := decide (0 ≤ m ∧ m < (S.M.length : Int) ∧ 0 ≤ c ∧ c < (S.cur : Int))
theorem qLv {S : Lg} {m c : Int} (h : qC5 S m c = true) : ∃ i j : Nat, m = (i : Int) ∧ c = (j : Int) ∧ i < S.M.length ∧ j < S.cur := by
  unfold qC5 at h
  have := of_decide_eq_true h
  exact ⟨m.toNat, c.toNat, by omega, by omega, by omega, by omega⟩
def qEq (S : Lg) (m c : Int) : Int := if qC5 S m c = true then rdM S.M m.toNat c.toNat else 0
def wrG (S : Lg) (i c : Nat) (v : Int) : Lg := ⟨wrM S.M i c v, S.N, S.cur⟩
def wnG (S : Lg) (c : Nat) (v : Int) : Lg := ⟨S.M, S.N.set c v, S.cur⟩
def inG (S : Lg) (m c a : Int) : Int × Lg :=
  if qC5 S m c = false then (1, S) else if a < 1 then (1, S)
  else if (fit (rdM S.M m.toNat c.toNat + a)).2 ≠ 0 then (3, S) else if (fit (S.N.getD c.toNat 0 + a)).2 ≠ 0 then (3, S)
  else (0, wnG (wrG S m.toNat c.toNat (rdM S.M m.toNat c.toNat + a)) c.toNat (S.N.getD c.toNat 0 + a))
def qBU (b : List Pst) (c : Int) : List Int := (b.filter fun p => decide (p.c = c)).map (·.a)
def qGe (S : Lg) (b : List Pst) : Bool := (List.range S.cur).all fun c => decide (q5 (qBU b (c : Int)) = 0)
def qAK : List Pst → Mx → Int × Mx
  | [], M => (0, M)
  | p :: r, M => if (fit (rdM M p.m.toNat p.c.toNat + p.a)).2 ≠ 0 then (3, M) else qAK r (wrM M p.m.toNat p.c.toNat (rdM M p.m.toNat p.c.toNat + p.a))
def qAj (S : Lg) (b : List Pst) : Int × Lg :=
  if b.any (fun p => !qC5 S p.m p.c) = true then (1, S) else if qGe S b = false then (12, S)
  else if (qAK b S.M).1 ≠ 0 then ((qAK b S.M).1, S) else (0, ⟨(qAK b S.M).2, S.N, S.cur⟩)
theorem qS3 {x : Int} (h : ¬ (fit x).2 ≠ 0) : (fit x).1 = x := by rw [qDb (qJD h)]
theorem qSh {x : Int} (h : (fit x).2 ≠ 0) : (fit x).2 = 3 := by
  unfold fit at *
  split
  · rename_i g; rw [if_pos g] at h; exact (h rfl).elim
  · rfl
theorem qGc : I64 0 := ⟨by decide, by decide⟩
theorem qQ1 (l : List Int) (i j : Nat) (v : Int) (h : i < l.length) : (l.set i v).getD j 0 = if j = i then v else l.getD j 0 := by
  by_cases e : j = i
  · subst e
    rw [if_pos rfl, List.getD_eq_getElem?_getD, List.getElem?_set_self h]; rfl
  · rw [if_neg e, List.getD_eq_getElem?_getD, List.getElem?_set_ne (fun x => e x.symm), ← List.getD_eq_getElem?_getD]
theorem qR2 {n c : Nat} (h1 : 1 ≤ n) (h2 : n ≤ 16) (h3 : 1 ≤ c) (h4 : c ≤ 8) : (qAz n c).Ok := by
  have sh : shM (List.replicate n (List.replicate 8 (0 : Int))) n 8 := ⟨by simp, fun r hr => by rw [List.eq_of_mem_replicate hr]; simp⟩
  have r0 : ∀ i d, rdM (List.replicate n (List.replicate 8 (0 : Int))) i d = 0 := fun i d => by
    unfold rdM
    rw [List.getD_eq_getElem?_getD (l := List.replicate n _), List.getElem?_replicate]
    split
    · show (List.replicate 8 (0 : Int)).getD d 0 = 0
      rw [List.getD_eq_getElem?_getD, List.getElem?_replicate]
      split <;> rfl
    · rfl
  have n0 : ∀ d, (List.replicate 8 (0 : Int)).getD d 0 = 0 := fun d => by
    rw [List.getD_eq_getElem?_getD, List.getElem?_replicate]
    split <;> rfl
  have s0 : ∀ (n d : Nat), q5 (qCu (List.replicate n (List.replicate 8 (0 : Int))) d) = 0 := fun n d => by
    induction n with
    | zero => rfl
    | succ n ih =>
      rw [List.replicate_succ]
      unfold qCu at *
      rw [List.map_cons, q5, ih, n0 d]; rfl
  refine { n1 := by simp [qAz]; omega, n16 := by simp [qAz]; omega, c1 := h3, c8 := h4, sh := by simp only [qAz, List.length_replicate]; exact sh, N8 := by simp [qAz], i64 := fun i d => ?_, n64 := fun d => ?_, z := fun i d _ => r0 i d, zN := fun d _ => n0 d, sum := fun d => ?_, pos := fun d => ?_ }
  · show I64 (rdM (List.replicate n (List.replicate 8 (0 : Int))) i d)
    rw [r0]; exact qGc
  · show I64 ((List.replicate 8 (0 : Int)).getD d 0)
    rw [n0]; exact qGc
  · show q5 (qCu (List.replicate n (List.replicate 8 (0 : Int))) d) = (List.replicate 8 (0 : Int)).getD d 0
    rw [s0, n0]
  · show 0 ≤ (List.replicate 8 (0 : Int)).getD d 0
    rw [n0]; exact Int.le_refl 0
theorem Lg.Ok.both {S : Lg} (o : S.Ok) {i c : Nat} {d : Int} (hi : i < S.M.length) (hc : c < S.cur) (h1 : I64 (rdM S.M i c + d)) (h2 : I64 (S.N.getD c 0 + d)) (h3 : 0 ≤ S.N.getD c 0 + d) :
    (wnG (wrG S i c (rdM S.M i c + d)) c (S.N.getD c 0 + d)).Ok := by
  have hc8 : c < 8 := by have := o.c8; omega
  have e1 : ∀ j d', rdM (wrM S.M i c (rdM S.M i c + d)) j d' = if j = i ∧ d' = c then rdM S.M i c + d else rdM S.M j d' := fun j d' => qE2 o.sh hi hc8 j d'
  have e2 : ∀ d', (S.N.set c (S.N.getD c 0 + d)).getD d' 0 = if d' = c then S.N.getD c 0 + d else S.N.getD d' 0 := fun d' => qQ1 _ _ _ _ (by rw [o.N8]; exact hc8)
  have hl : (wrM S.M i c (rdM S.M i c + d)).length = S.M.length := (o.sh.wr hi).1
  refine { n1 := by show 1 ≤ (wrM S.M i c _).length; rw [hl]; exact o.n1, n16 := by show (wrM S.M i c _).length ≤ 16; rw [hl]; exact o.n16, c1 := o.c1, c8 := o.c8, sh := by show shM (wrM S.M i c _) (wrM S.M i c _).length 8; rw [hl]; exact o.sh.wr hi, N8 := by show (S.N.set c _).length = 8; rw [List.length_set]; exact o.N8, i64 := fun j d' => ?_, n64 := fun d' => ?_, z := fun j d' h => ?_, zN := fun d' h => ?_, sum := fun d' => ?_, pos := fun d' => ?_ }
  · show I64 (rdM (wrM S.M i c _) j d')
    rw [e1]; split
    · exact h1
    · exact o.i64 j d'
  · show I64 ((S.N.set c _).getD d' 0)
    rw [e2]; split
    · exact h2
    · exact o.n64 d'
  · show rdM (wrM S.M i c _) j d' = 0
    have h : S.cur ≤ d' := h
    rw [e1, if_neg (by omega)]
    exact o.z j d' h
  · show (S.N.set c _).getD d' 0 = 0
    have h : S.cur ≤ d' := h
    rw [e2, if_neg (by omega)]
    exact o.zN d' h
  · show q5 (qCu (wrM S.M i c _) d') = (S.N.set c _).getD d' 0
    rw [e2, qUW o.sh hi hc8 d']
    have := o.sum d'
    split
    · rename_i e; subst e; omega
    · exact this
  · show 0 ≤ (S.N.set c _).getD d' 0
    rw [e2]; split
    · exact h3
    · exact o.pos d'
theorem qUM {S : Lg} (o : S.Ok) (m c a : Int) : (inG S m c a).2.Ok := by
  unfold inG
  split
  · exact o
  split
  · exact o
  split
  · exact o
  split
  · exact o
  rename_i h1 h2 h3 h4
  obtain ⟨i, j, rfl, rfl, hi, hj⟩ := qLv (by simpa using h1)
  simp only [Int.toNat_natCast] at h3 h4 ⊢
  have := o.pos j
  exact o.both hi hj (qJD h3) (qJD h4) (by omega)
theorem qS6 (p : Pst) (b : List Pst) (c : Int) : q5 (qBU (p :: b) c) = (if p.c = c then p.a else 0) + q5 (qBU b c) := by
  unfold qBU
  rw [List.filter_cons]
  by_cases h : p.c = c
  · rw [if_pos h, decide_eq_true h, if_pos rfl, List.map_cons, q5]
  · rw [if_neg h, decide_eq_false h, if_neg (by decide)]; omega
theorem qQV {n w : Nat} : ∀ (b : List Pst) {M : Mx}, shM M n w → (∀ i c, I64 (rdM M i c)) → (∀ p ∈ b, 0 ≤ p.m ∧ p.m < (n : Int) ∧ 0 ≤ p.c ∧ p.c < (w : Int)) → (qAK b M).1 = 0 →
    shM (qAK b M).2 n w ∧ (∀ i c, I64 (rdM (qAK b M).2 i c)) ∧ (∀ c : Nat, q5 (qCu (qAK b M).2 c) = q5 (qCu M c) + q5 (qBU b (c : Int))) ∧ (∀ i c : Nat, (∀ p ∈ b, p.c ≠ (c : Int)) → rdM (qAK b M).2 i c = rdM M i c)
  | [], M, s, hi, _, _ => ⟨s, hi, fun c => by show _ = _ + q5 []; rw [show q5 [] = 0 from rfl]; exact (Int.add_zero _).symm, fun _ _ _ => rfl⟩
  | p :: r, M, s, hi, hb, e => by
    have hp := hb p (List.mem_cons_self ..)
    rw [qAK] at e ⊢
    split at e
    · cases e
    · rename_i h
      rw [if_neg h]
      have hm : p.m.toNat < n := by omega
      have hc : p.c.toNat < w := by omega
      have key := qQV r (s.wr (c := p.c.toNat) (v := rdM M p.m.toNat p.c.toNat + p.a) hm) (fun i c => by
        rw [qE2 s hm hc]; split
        · exact qJD h
        · exact hi i c) (fun q hq => hb q (List.mem_cons_of_mem _ hq)) e
      obtain ⟨k1, k2, k3, k4⟩ := key
      refine ⟨k1, k2, fun c => ?_, fun i c hn => ?_⟩
      · rw [k3 c, qUW s hm hc, qS6]
        by_cases hcc : c = p.c.toNat
        · subst hcc
          rw [if_pos rfl, if_pos (by omega)]; omega
        · rw [if_neg hcc, if_neg (by omega)]; omega
      · rw [k4 i c (fun q hq => hn q (List.mem_cons_of_mem _ hq)), qE2 s hm hc, if_neg]
        have := hn p (List.mem_cons_self ..)
        omega
theorem qR0 {S : Lg} {b : List Pst} (h : ¬ b.any (fun p => !qC5 S p.m p.c) = true) : ∀ p ∈ b, qC5 S p.m p.c = true := fun p hp => by
  have h : b.any (fun p => !qC5 S p.m p.c) = false := by simpa using h
  rw [List.any_eq_false] at h
  have := h p hp
  simpa using this
theorem qTv {S : Lg} {b : List Pst} (h8 : S.cur ≤ 8) (h : ∀ p ∈ b, qC5 S p.m p.c = true) : ∀ p ∈ b, 0 ≤ p.m ∧ p.m < (S.M.length : Int) ∧ 0 ≤ p.c ∧ p.c < ((8 : Nat) : Int) := fun p hp => by
  have := of_decide_eq_true (h p hp)
  omega
theorem qQQ {S : Lg} (o : S.Ok) (b : List Pst) : (qAj S b).2.Ok := by
  unfold qAj
  split
  · exact o
  split
  · exact o
  split
  · exact o
  rename_i h1 h2 h3
  have hh := qR0 h1
  obtain ⟨k1, k2, k3, k4⟩ := qQV b o.sh o.i64 (qTv o.c8 hh) (by simpa using h3)
  have hl := k1.1
  have ev : ∀ c, c < S.cur → q5 (qBU b (c : Int)) = 0 := fun c hc => by
    have h2 : qGe S b = true := by simpa using h2
    unfold qGe at h2
    rw [List.all_eq_true] at h2
    exact of_decide_eq_true (h2 c (List.mem_range.2 hc))
  have far : ∀ c : Nat, S.cur ≤ c → ∀ p ∈ b, p.c ≠ (c : Int) := fun c hc p hp => by
    have := of_decide_eq_true (hh p hp)
    omega
  refine { n1 := by show 1 ≤ (qAK b S.M).2.length; rw [hl]; exact o.n1, n16 := by show (qAK b S.M).2.length ≤ 16; rw [hl]; exact o.n16, c1 := o.c1, c8 := o.c8, sh := by show shM (qAK b S.M).2 (qAK b S.M).2.length 8; rw [hl]; exact k1, N8 := o.N8, i64 := k2, n64 := o.n64, z := fun i c hc => ?_, zN := o.zN, sum := fun c => ?_, pos := o.pos }
  · show rdM (qAK b S.M).2 i c = 0
    rw [k4 i c (far c hc)]; exact o.z i c hc
  · show q5 (qCu (qAK b S.M).2 c) = S.N.getD c 0
    rw [k3 c, o.sum c]
    by_cases hc : c < S.cur
    · rw [ev c hc]; omega
    · have : qBU b (c : Int) = [] := by
        unfold qBU
        rw [List.map_eq_nil_iff, List.filter_eq_nil_iff]
        intro p hp
        have := far c (by omega) p hp
        simpa using this
      rw [this]; exact Int.add_zero _
theorem qWu {S : Lg} {m c a : Int} : (inG S m c a).1 ≠ 0 → (inG S m c a).2 = S := by
  unfold inG
  repeat' split
  all_goals first
    | (intro _; rfl)
    | (intro h; exact (h rfl).elim)
/-! a batch, and what takes it off -/
end Go.Proofs.YtgjeecaombnmiaaGreat

/- What accounts are worth, in plain words. -/
namespace Go.Proofs.YtgjeecaombnmiaaGreat
open Go Go.Sy Go.Value
set_option linter.unusedVariables false
set_option linter.unusedSimpArgs false

abbrev Td := Int × Int
def qAC (T : List Cur) (c : Nat) (b : Int) : Td := qCa T (c : Int) b
def qAN (T : List Cur) (c : Nat) (b : Int) : Td := if b < 0 then ((fit (0 - (qBa T (c : Int) b).1)).1, if (qBa T (c : Int) b).2 < (fit (0 - (qBa T (c : Int) b).1)).2 then (fit (0 - (qBa T (c : Int) b).1)).2 else (qBa T (c : Int) b).2) else (0, 0)
def qm (f : Nat → Int → Td) : Nat → List Int → List Td
  | _, [] => []
  | c, b :: r => f c b :: qm f (c + 1) r
def qk : Int → List Td → Td
  | s, [] => (s, 0)
  | s, x :: r => if x.2 ≠ 0 then (0, 3) else if (fit (s + x.1)).2 ≠ 0 then (0, 3) else qk (s + x.1) r
def qBo (T : List Cur) (row : List Int) : Td := qk 0 (qm (qAC T) 0 row)
def shW (T : List Cur) (row : List Int) : Td := qk 0 (qm (qAN T) 0 row)
theorem qDs (f : Nat → Int → Td) : ∀ (row : List Int) (c : Nat), (qm f c row).length = row.length
  | [], _ => rfl
  | b :: r, c => by rw [qm, List.length_cons, qDs f r, List.length_cons]
theorem qNY (f : Nat → Int → Td) : ∀ (row : List Int) (c j : Nat), j < row.length → (qm f c row)[j]? = some (f (c + j) (row.getD j 0))
  | [], _, _, h => by simp at h
  | b :: r, c, 0, _ => rfl
  | b :: r, c, j + 1, h => by
    rw [qm, List.getElem?_cons_succ, qNY f r (c + 1) j (by simpa using h), List.getD_cons_succ, show c + 1 + j = c + (j + 1) by omega]
theorem qMO (f : Nat → Int → Td) : ∀ (row : List Int) (c : Nat) (b : Int), qm f c (row ++ [b]) = qm f c row ++ [f (c + row.length) b]
  | [], c, b => rfl
  | a :: r, c, b => by rw [List.cons_append, qm, qMO f r, qm, List.cons_append, List.length_cons, show c + 1 + r.length = c + (r.length + 1) by omega]
theorem qYL (a b c : Int) (up : Bool) : I64 (md a b c up).1 := by
  unfold md
  split
  · exact qGc
  · unfold fit; split
    · assumption
    · exact qGc
theorem qX7 (a : Int) : I64 (fit a).1 := by
  unfold fit
  split
  · assumption
  · exact qGc
theorem qVU (T : List Cur) (c a : Int) : I64 (qCa T c a).1 := by
  unfold qCa
  split
  · exact qYL _ _ _ _
  · exact qGc
theorem qVG (T : List Cur) (c a : Int) : I64 (qBa T c a).1 := by
  unfold qBa
  split
  · exact qYL _ _ _ _
  · exact qGc
theorem qWm (T : List Cur) (c : Nat) (a : Int) : I64 (qAN T c a).1 := by
  unfold qAN
  split
  · exact qX7 _
  · exact qGc
def qBL (m : Int) : List Pst → List Int → Option (List Int)
  | [], r => some r
  | p :: b, r => if p.m ≠ m then qBL m b r else if (fit (r.getD p.c.toNat 0 + p.a)).2 ≠ 0 then none else qBL m b (r.set p.c.toNat (r.getD p.c.toNat 0 + p.a))
def qEa (w : Nat) (b : List Pst) : Bool := b.any fun p => decide (p.c < 0) || decide (p.c ≥ (w : Int))
def ifW (T : List Cur) (row : List Int) (m : Int) (b : List Pst) : Int × Int × Int :=
  if qEa row.length b = true then (0, 0, 1) else match qBL m b row with
    | none => (0, 0, 3)
    | some r => if (qBo T r).2 ≠ 0 then (0, 0, 3) else if (shW T r).2 ≠ 0 then (0, 0, 3) else ((qBo T r).1, (shW T r).1, 0)
/-! tables with one currency turned -/
structure Wo where
  T : List Cur
  B : Mx
structure Wo.Ok (S : Wo) : Prop where
  t : qCV S.T = 0
  n1 : 1 ≤ S.B.length
  n16 : S.B.length ≤ 16
  sh : shM S.B S.B.length S.T.length
  i64 : ∀ i c, I64 (rdM S.B i c)
end Go.Proofs.YtgjeecaombnmiaaGreat

/- Blocks of one thing: numbered, each in a place of its own, with what stands in each. -/
namespace Go.Proofs.YtgjeecaombnmiaaGreat
open Go Go.Sy Go.Value
set_option linter.unusedVariables false

def qAh {α : Type} (f : Nat → α) (i : Nat) (v : α) : Nat → α := fun j => if j = i then v else f j
theorem qa {α : Type} (f : Nat → α) (i : Nat) (v : α) : qAh f i v i = v := if_pos rfl
theorem qN {α : Type} (f : Nat → α) {i j : Nat} (v : α) (e : j ≠ i) : qAh f i v j = f j := if_neg e
structure Fam (h : Heap) (N : Nat) (b : Nat → Nat) (c : Nat → List Value) : Prop where
  at' : ∀ i, i < N → At h (b i) (c i)
  inj : ∀ i j, i < N → j < N → b i = b j → i = j
def qDR (N : Nat) (b : Nat → Nat) (x : Nat) : Bool := (List.range N).any fun i => b i == x
theorem qKU {N : Nat} {b : Nat → Nat} {i : Nat} (h : i < N) : qDR N b (b i) = true := List.any_eq_true.2 ⟨i, List.mem_range.2 h, by simp⟩
theorem qHY {N : Nat} {b : Nat → Nat} {x : Nat} (h : qDR N b x = true) : ∃ i, i < N ∧ b i = x := by
  obtain ⟨i, hi, e⟩ := List.any_eq_true.1 h
  exact ⟨i, List.mem_range.1 hi, by simpa using e⟩
theorem qOY {N : Nat} {b : Nat → Nat} {x : Nat} (h : qDR N b x = false) {i : Nat} (hi : i < N) : b i ≠ x := fun e => by rw [← e, qKU hi] at h; cases h
theorem qOc {N : Nat} {b : Nat → Nat} {x : Nat} (h : ∀ i, i < N → b i ≠ x) : qDR N b x = false := by
  cases hd : qDR N b x with
  | false => rfl
  | true => obtain ⟨i, hi, e⟩ := qHY hd; exact (h i hi e).elim
section
variable {h h' : Heap} {N : Nat} {b : Nat → Nat} {c : Nat → List Value}
theorem Fam.mv (F : Fam h N b c) (k : ∀ x xs, qDR N b x = true → At h x xs → At h' x xs) : Fam h' N b c := ⟨fun i hi => k _ _ (qKU hi) (F.at' i hi), F.inj⟩
theorem Fam.le (F : Fam h N b c) (l : h.le h') : Fam h' N b c := F.mv fun x xs _ a => a.le l
theorem Fam.at (F : Fam h N b c) {x : Nat} (e : qDR N b x = true) : ∃ xs, At h x xs := by
  obtain ⟨i, hi, rfl⟩ := qHY e
  exact ⟨_, F.at' i hi⟩
theorem Fam.fresh (F : Fam h N b c) {x : Nat} (e : h x = none) : qDR N b x = false := qOc fun i hi e2 => (F.at' i hi).ne e e2
theorem Fam.set (F : Fam h N b c) {i o : Nat} {ws : List Value} (hi : i < N) : Fam (h.setN (b i) o ws) N b (qAh c i (qh (c i) o ws)) := by
  refine ⟨fun j hj => ?_, F.inj⟩
  by_cases e : j = i
  · subst e
    rw [qa]; exact (F.at' j hj).set
  · rw [qN _ _ e]; exact (F.at' j hj).set_ne fun e2 => e (F.inj j i hj hi e2)
theorem Fam.swap (F : Fam h N b c) {i r : Nat} {xs : List Value} (hr : qDR N b r = false) (a : At h r xs) : Fam h N (qAh b i r) (qAh c i xs) := by
  refine ⟨fun j hj => ?_, fun j k hj hk e => ?_⟩
  · by_cases e : j = i
    · subst e
      rw [qa, qa]; exact a
    · rw [qN _ _ e, qN _ _ e]; exact F.at' j hj
  · by_cases e1 : j = i
    · by_cases e2 : k = i
      · omega
      · rw [e1, qa, qN _ _ e2] at e; exact (qOY hr hk e.symm).elim
    · by_cases e2 : k = i
      · rw [e2, qa, qN _ _ e1] at e; exact (qOY hr hj e).elim
      · rw [qN _ _ e1, qN _ _ e2] at e; exact F.inj j k hj hk e
theorem Fam.more (F : Fam h N b c) {r : Nat} {xs : List Value} (hr : qDR N b r = false) (a : At h r xs) : Fam h (N + 1) (qAh b N r) (qAh c N xs) := by
  refine ⟨fun j hj => ?_, fun j k hj hk e => ?_⟩
  · by_cases e : j = N
    · subst e
      rw [qa, qa]; exact a
    · rw [qN _ _ e, qN _ _ e]; exact F.at' j (by omega)
  · by_cases e1 : j = N
    · by_cases e2 : k = N
      · omega
      · rw [e1, qa, qN _ _ e2] at e; exact (qOY hr (by omega) e.symm).elim
    · by_cases e2 : k = N
      · rw [e2, qa, qN _ _ e1] at e; exact (qOY hr (by omega) e).elim
      · rw [qN _ _ e1, qN _ _ e2] at e; exact F.inj j k (by omega) (by omega) e
theorem Fam.congr {c' : Nat → List Value} (F : Fam h N b c) (e : ∀ i, i < N → c i = c' i) : Fam h N b c' := ⟨fun i hi => by rw [← e i hi]; exact F.at' i hi, F.inj⟩
theorem Fam.nil (h : Heap) (b : Nat → Nat) (c : Nat → List Value) : Fam h 0 b c := ⟨fun i hi => absurd hi (by omega), fun i j hi => absurd hi (by omega)⟩
theorem qMQ {i r x : Nat} (h : qDR N (qAh b i r) x = true) : x = r ∨ qDR N b x = true := by
  obtain ⟨j, hj, e⟩ := qHY h
  by_cases e1 : j = i
  · subst e1
    rw [qa] at e; exact .inl e.symm
  · rw [qN _ _ e1] at e; exact .inr (by rw [← e]; exact qKU hj)
theorem qL1 {r x : Nat} (h : qDR (N + 1) (qAh b N r) x = true) : x = r ∨ qDR N b x = true := by
  obtain ⟨j, hj, e⟩ := qHY h
  by_cases e1 : j = N
  · subst e1
    rw [qa] at e; exact .inl e.symm
  · rw [qN _ _ e1] at e; exact .inr (by rw [← e]; exact qKU (by omega))
end
end Go.Proofs.YtgjeecaombnmiaaGreat

/- Worths in the program: sums of what is told, what a balance is worth, and an account. -/
namespace Go.Proofs.YtgjeecaombnmiaaGreat
open Go Go.Sy Go.Value
set_option linter.unusedVariables false
set_option linter.unusedSimpArgs false

def qBg (x : Td) : List Value := [.int .i64 x.1, .int .i64 x.2]
theorem qJP (x : Td) : (qBg x).length = 2 := rfl
abbrev Tds (h : Heap) (p : Option Addr) (l : List Td) := Arr qBg h p l
theorem tx {h : Heap} {p : Option Addr} {l : List Td} {N : Nat} (C : Tds h p l) (hn : l.length = N) {j : Nat} {i : Int} (hi : i = (j : Int)) {x : Td} (hx : l[j]? = some x) {Q : Int → Int → Prop} (kk : Q x.1 x.2) :
    0 ≤ i ∧ i < (N : Int) ∧ qA p fun b o => ∃ n, h.cell b (o + i.toNat * 2) = some (.int .i64 n) ∧ ∃ n1, h.cell b (o + i.toNat * 2 + 1) = some (.int .i64 n1) ∧ Q n n1 := by
  subst hi
  exact ax (w := 2) qJP C hn rfl hx (by decide) fun b o _ g => ⟨_, g 0 (by decide), _, g 1 (by decide), kk⟩
theorem qYF (x : Int) : (fit x).2 = 0 ∨ (fit x).2 = 3 := by unfold fit; split <;> simp
section
variable {h0 h : Heap} {K : Value → Heap → Prop} {p : Option Addr} {l : List Td} {n c : Nat}
theorem qRQ (C : Tds h0 p l) (hn : l.length = n) (hs : n ≤ 1000000) (hI : ∀ x ∈ l, I64 x.1) (k : ∀ h', h0.le h' → K (agg #[.int .i64 (qk 0 l).1, .int .i64 (qk 0 l).2]) h') {t2 sum : Nat} (ne : t2 ≠ sum) (z1 : h0 t2 = none) (z2 : h0 sum = none) :
    ∀ (m j : Nat) (h : Heap) (s : Int), m + j = n → h0.le h → At h t2 [.int .i64 0, .int .i64 0] → At h sum [.int .i64 s, .int .i64 0] → I64 s → qk s (l.drop j) = qk 0 l → qFe t2 sum p n c (n : Int) (j : Int) h K := by
  intro m
  induction m with
  | zero =>
    intro j h s hj lh A2 As hsI e
    refine qJH _ _ _ _ _ _ _ _ _ ?_
    unfold qGp
    rw [List.drop_eq_nil_of_le (by omega), qk] at e
    rw [← e] at k
    exact Br.no (by simp; omega) ⟨_, As.cell rfl, _, As.cell rfl, A2.canSt (by decide), _, (A2.set (o := 0) (ws := [.int .i64 s, .int .i64 0])).cell rfl, _, (A2.set (o := 0) (ws := [.int .i64 s, .int .i64 0])).cell rfl, Ret.mk (k _ (qS lh z1))⟩
  | succ m ih =>
    intro j h s hj lh A2 As hsI e
    refine qJH _ _ _ _ _ _ _ _ _ ?_
    unfold qGp
    have hx : l[j]? = some l[j] := List.getElem?_eq_getElem (by omega)
    have hm : l[j] ∈ l := List.getElem_mem _
    rw [List.drop_eq_getElem_cons (by omega : j < l.length), qk] at e
    generalize l[j] = x at *
    refine Br.yes (by simp; omega) (tx (C.le lh) hn rfl hx (qEE (vs := [.int .i64 x.1, .int .i64 x.2]) rfl fun r h1 hr l1 Ar cs => ⟨cs, _, Ar.cell rfl, ?_⟩))
    have n2 := A2.ne hr
    have ns := As.ne hr
    have B2 := A2.le l1
    have Bs := As.le l1
    have lh1 := Heap.le_trans lh l1
    generalize h1.setN r 0 [.int .i64 x.1, .int .i64 x.2] = H at *
    by_cases e0 : x.2 ≠ 0
    · rw [if_pos e0] at e
      rw [← e] at k
      exact Br.yes (by simpa using e0) ⟨B2.canSt (by decide), _, (B2.set (o := 0) (ws := [.int .i64 0, .int .i64 3])).cell rfl, _, (B2.set (o := 0) (ws := [.int .i64 0, .int .i64 3])).cell rfl, Ret.mk (k _ (qS lh1 z1))⟩
    rw [if_neg e0] at e
    refine Br.no (by simpa using e0) ⟨_, Bs.cell rfl, _, Ar.cell rfl, qMw hsI (hI x hm) _ _ ⟨_, _, rfl, ?_⟩⟩
    by_cases e1 : (fit (s + x.1)).2 ≠ 0
    · rw [if_pos e1] at e
      rw [← e] at k
      have e3 : (fit (s + x.1)).2 = 3 := (qYF _).resolve_left e1
      rw [e3]
      exact Br.yes rfl ⟨B2.canSt (by decide), _, (B2.set (o := 0) (ws := [.int .i64 0, .int .i64 3])).cell rfl, _, (B2.set (o := 0) (ws := [.int .i64 0, .int .i64 3])).cell rfl, Ret.mk (k _ (qS lh1 z1))⟩
    · rw [if_neg e1] at e
      have hI1 := qJD e1
      rw [qDb hI1]
      refine Br.no rfl ⟨Bs.canSt (by simp), ?_⟩
      rw [w1 (by omega)]
      exact ih (j + 1) _ (s + x.1) (by omega) (qS lh1 z2) (B2.set_ne ne) (Bs.set (o := 0) (ws := [.int .i64 (s + x.1)])) hI1 e
theorem qSF (C : Tds h p l) (hn : l.length = n) (hs : n ≤ 1000000) (hI : ∀ x ∈ l, I64 x.1) (k : ∀ h', h.le h' → K (agg #[.int .i64 (qk 0 l).1, .int .i64 (qk 0 l).2]) h') : CallA Tryz.prog qF2 [slice p n c] h K := by
  refine qPl _ _ _ _ _ ?_
  unfold qKP
  exact ql fun r h1 hr l1 A1 => ql fun r1 h2 hr1 l2 A2 => qRQ C hn hs hI k (A1.ne hr1) hr (qJ l1 hr1) n 0 h2 0 rfl (Heap.le_trans l1 l2) (A1.le l2) A2 qGc rfl
end
section
variable {h0 h : Heap} {K : Value → Heap → Prop} {w : Nat} {T : List Cur} {a : Option Addr} {n c : Nat} {ws : List Value}
theorem qYa (C : Curs h a T) (hn : T.length = n) (ok : T.all qGl = true) (Aw : At h w (.slice a n c :: ws)) {cur : Nat} {bal : Int} {ci : Int} (hc : ci = (cur : Int)) (hb : I64 bal)
    (k : ∀ h', h.le h' → K (tuple #[agg #[.int .i64 (qAC T cur bal).1, .int .i64 (qAC T cur bal).2], agg #[.int .i64 (qAN T cur bal).1, .int .i64 (qAN T cur bal).2]]) h') :
    CallA Tryz.prog qFC [pointer (some ⟨w, 0, none⟩), int .i64 ci, int .i64 bal] h K := by
  subst hc
  refine qLd _ _ _ _ _ ?_
  unfold qHK
  refine ql fun r h1 hr l1 A1 => ql fun r1 h2 hr1 l2 A2 => ?_
  have l12 := Heap.le_trans l1 l2
  have z1 := qJ l1 hr1
  have ne := A1.ne hr1
  have nw := Aw.ne hr
  have nw1 := Aw.ne z1
  have Aw2 := Aw.le l12
  have C2 := C.le l12
  refine qB rfl ⟨_, _, _, Aw2.cell rfl, qW3 C2 hn ok hb ⟨_, _, rfl, (A1.le l2).canSt (by decide), ?_⟩⟩
  have B1 : At (h2.setN r 0 [.int .i64 (qCa T (cur : Int) bal).1, .int .i64 (qCa T (cur : Int) bal).2]) r [.int .i64 (qCa T (cur : Int) bal).1, .int .i64 (qCa T (cur : Int) bal).2] := (A1.le l2).set (o := 0) (ws := [.int .i64 (qCa T (cur : Int) bal).1, .int .i64 (qCa T (cur : Int) bal).2])
  have B2 := A2.set_ne (o := 0) (ws := [.int .i64 (qCa T (cur : Int) bal).1, .int .i64 (qCa T (cur : Int) bal).2]) (b' := r) (fun e => ne e.symm)
  have l3 : h.le (h2.setN r 0 [.int .i64 (qCa T (cur : Int) bal).1, .int .i64 (qCa T (cur : Int) bal).2]) := qS l12 hr
  have fin : ∀ (h4 : Heap) (a1 a2 b1 b2 : Int), h.le h4 → At h4 r [.int .i64 a1, .int .i64 a2] → At h4 r1 [.int .i64 b1, .int .i64 b2] → At (h4.setN r 0 [.int .i64 a1, .int .i64 a2]) r1 [.int .i64 b1, .int .i64 b2] ∧ At ((h4.setN r 0 [.int .i64 a1, .int .i64 a2]).setN r1 0 [.int .i64 b1, .int .i64 b2]) r [.int .i64 a1, .int .i64 a2] ∧ At ((h4.setN r 0 [.int .i64 a1, .int .i64 a2]).setN r1 0 [.int .i64 b1, .int .i64 b2]) r1 [.int .i64 b1, .int .i64 b2] ∧ h.le ((h4.setN r 0 [.int .i64 a1, .int .i64 a2]).setN r1 0 [.int .i64 b1, .int .i64 b2]) ∧ qFf [r1] h4 (h4.setN r 0 [.int .i64 a1, .int .i64 a2]) :=
    fun h4 a1 a2 b1 b2 lh X Y => by
      have Y1 := Y.set_ne (o := 0) (ws := [.int .i64 a1, .int .i64 a2]) (b' := r) (fun e => ne e.symm)
      have X1 : At _ r [.int .i64 a1, .int .i64 a2] := X.set (o := 0) (ws := [.int .i64 a1, .int .i64 a2])
      refine ⟨Y1, X1.set_ne ne, Y1.set (o := 0) (ws := [.int .i64 b1, .int .i64 b2]), qS (qS lh hr) z1, fun b hb x hx => ?_⟩
      rw [List.mem_singleton] at hb
      subst hb
      rw [q3 (fun e => ne e.symm)]; exact hx
  generalize h2.setN r 0 [.int .i64 (qCa T (cur : Int) bal).1, .int .i64 (qCa T (cur : Int) bal).2] = h3 at *
  unfold qAC qAN at k
  refine Br.dec (fun g => ?_) fun g => ?_
  · rw [if_pos g] at k
    refine qB rfl ⟨_, _, _, (Aw.le l3).cell rfl, qWg (C.le l3) hn ok hb ⟨_, _, rfl, qYn qGc (qVG _ _ _) _ _ ⟨_, _, rfl, B2.canSt (by decide), ?_⟩⟩⟩
    have hif : (if (fit (0 - (qBa T (cur : Int) bal).1)).2 > (qBa T (cur : Int) bal).2 then (fit (0 - (qBa T (cur : Int) bal).1)).2 else (qBa T (cur : Int) bal).2) = (if (qBa T (cur : Int) bal).2 < (fit (0 - (qBa T (cur : Int) bal).1)).2 then (fit (0 - (qBa T (cur : Int) bal).1)).2 else (qBa T (cur : Int) bal).2) := rfl
    rw [hif]
    dsimp only at k
    generalize (if (qBa T (cur : Int) bal).2 < (fit (0 - (qBa T (cur : Int) bal).1)).2 then (fit (0 - (qBa T (cur : Int) bal).1)).2 else (qBa T (cur : Int) bal).2) = e2 at *
    generalize (fit (0 - (qBa T (cur : Int) bal).1)).1 = s2 at *
    have D1 := B1.set_ne (o := 0) (ws := [.int .i64 s2, .int .i64 e2]) ne
    have D2 : At _ r1 [.int .i64 s2, .int .i64 e2] := B2.set (o := 0) (ws := [.int .i64 s2, .int .i64 e2])
    obtain ⟨f1, f2, f3, f4, f5⟩ := fin _ _ _ _ _ (qS l3 z1) D1 D2
    exact ⟨_, D1.cell rfl, _, D1.cell rfl, _, D2.cell rfl, _, D2.cell rfl, D1.canSt (by simp), .inr f5, f1.canSt (by simp), _, f2.cell rfl, _, f2.cell rfl, _, f3.cell rfl, _, f3.cell rfl, Ret.mk (k _ f4)⟩
  · rw [if_neg g] at k
    obtain ⟨f1, f2, f3, f4, f5⟩ := fin _ _ _ _ _ l3 B1 B2
    exact ⟨_, B1.cell rfl, _, B1.cell rfl, _, B2.cell rfl, _, B2.cell rfl, B1.canSt (by simp), .inr f5, f1.canSt (by simp), _, f2.cell rfl, _, f2.cell rfl, _, f3.cell rfl, _, f3.cell rfl, Ret.mk (k _ f4)⟩
structure AcI (h0 h : Heap) (t4 b : Nat) (p q1 q2 : Option Addr) (n cp c1 c2 j : Nat) (l1 l2 : List Td) : Prop where
  base : h0.le h
  z4 : h0 t4 = none
  zb : h0 b = none
  ne : t4 ≠ b
  a4 : At h t4 [slice none 0 0, slice none 0 0, slice none 0 0, int .i64 0, int .i64 0, int .i64 0, int .i64 0]
  ab : At h b [slice p n cp, slice q1 j c1, slice q2 j c2, int .i64 0, int .i64 0, int .i64 0, int .i64 0]
  o1 : OwnL h0 h [int .i64 0, int .i64 0] q1 c1 (l1.flatMap qBg)
  o2 : OwnL h0 h [int .i64 0, int .i64 0] q2 c2 (l2.flatMap qBg)
  n14 : q1 ≠ some ⟨t4, 0, none⟩
  n1b : q1 ≠ some ⟨b, 0, none⟩
  n24 : q2 ≠ some ⟨t4, 0, none⟩
  n2b : q2 ≠ some ⟨b, 0, none⟩
  n12 : ∀ x, q1 = some ⟨x, 0, none⟩ → q2 ≠ some ⟨x, 0, none⟩
theorem qOP {row : List Int} {j : Nat} (h : j < row.length) : row.take (j + 1) = row.take j ++ [row[j]] := by rw [List.take_add_one, List.getElem?_eq_getElem h]; rfl
theorem qVg {p : Option Addr} {row : List Int} {rn cp : Nat} (C : Curs h0 a T) (hn : T.length = n) (ok : T.all qGl = true) (Aw : At h0 w (.slice a n c :: ws)) (I : Ints .i64 h0 p row) (hr : row.length = rn) (hs : rn ≤ 1000000) (hI : ∀ x ∈ row, I64 x)
    (k : ∀ h' q1 q2 c1 c2, h0.le h' → OwnL h0 h' [int .i64 0, int .i64 0] q1 c1 ((qm (qAC T) 0 row).flatMap qBg) → OwnL h0 h' [int .i64 0, int .i64 0] q2 c2 ((qm (qAN T) 0 row).flatMap qBg) → (∀ x, q1 = some ⟨x, 0, none⟩ → q2 ≠ some ⟨x, 0, none⟩) →
      K (agg #[slice p rn cp, slice q1 rn c1, slice q2 rn c2, int .i64 (qBo T row).1, int .i64 (qBo T row).2, int .i64 (shW T row).1, int .i64 (shW T row).2]) h') {t4 b : Nat} :
    ∀ (m j : Nat) (h : Heap) (q1 q2 : Option Addr) (c1 c2 : Nat), m + j = rn → AcI h0 h t4 b p q1 q2 rn cp c1 c2 j (qm (qAC T) 0 (row.take j)) (qm (qAN T) 0 (row.take j)) → qCK (some ⟨w, 0, none⟩) t4 b p rn cp (rn : Int) (j : Int) h K := by
  intro m
  induction m with
  | zero =>
    intro j h q1 q2 c1 c2 hj I
    refine qFK _ _ _ _ _ _ _ _ _ _ ?_
    unfold qDW
    obtain rfl : j = rn := by omega
    rw [List.take_of_length_le (by omega)] at I
    have hw1 : (qm (qAC T) 0 row).length = j := by rw [qDs]; exact hr
    have hw2 : (qm (qAN T) 0 row).length = j := by rw [qDs]; exact hr
    have i1 : ∀ x ∈ qm (qAC T) 0 row, I64 x.1 := fun x hx => by
      obtain ⟨i, hi, e⟩ := List.mem_iff_getElem.1 hx
      have := qNY (qAC T) row 0 i (by rw [qDs] at hi; exact hi)
      rw [List.getElem?_eq_getElem hi, e] at this
      cases this
      exact qVU _ _ _
    have i2 : ∀ x ∈ qm (qAN T) 0 row, I64 x.1 := fun x hx => by
      obtain ⟨i, hi, e⟩ := List.mem_iff_getElem.1 hx
      have := qNY (qAN T) row 0 i (by rw [qDs] at hi; exact hi)
      rw [List.getElem?_eq_getElem hi, e] at this
      cases this
      exact qWm _ _ _
    refine Br.no (by simp) ⟨_, _, _, I.ab.cell rfl, _, _, _, I.ab.cell rfl, qSF (l := qm (qAC T) 0 row) I.o1.rd hw1 hs i1 fun h1 l1 => ⟨_, _, rfl, .inl l1, qSF (l := qm (qAN T) 0 row) (I.o2.le l1).rd hw2 hs i2 fun h2 l2 => ⟨_, _, rfl, ?_⟩⟩⟩
    have l12 := Heap.le_trans l1 l2
    have Ab := I.ab.le l12
    have A4 := I.a4.le l12
    have O1 := I.o1.le l12
    have O2 := I.o2.le l12
    have lb := Heap.le_trans I.base l12
    have ne4 := I.ne
    have zb := I.zb
    have z4 := I.z4
    have n1b := I.n1b
    have n2b := I.n2b
    have n14 := I.n14
    have n24 := I.n24
    have n12 := I.n12
    have Ab1 : At _ b [slice p j cp, slice q1 j c1, slice q2 j c2, int .i64 (qk 0 (qm (qAC T) 0 row)).1, int .i64 (qk 0 (qm (qAC T) 0 row)).2, int .i64 0, int .i64 0] := Ab.set (o := 3) (ws := [int .i64 (qk 0 (qm (qAC T) 0 row)).1, int .i64 (qk 0 (qm (qAC T) 0 row)).2])
    have Ab2 : At _ b [slice p j cp, slice q1 j c1, slice q2 j c2, int .i64 (qk 0 (qm (qAC T) 0 row)).1, int .i64 (qk 0 (qm (qAC T) 0 row)).2, int .i64 (qk 0 (qm (qAN T) 0 row)).1, int .i64 (qk 0 (qm (qAN T) 0 row)).2] := Ab1.set (o := 5) (ws := [int .i64 (qk 0 (qm (qAN T) 0 row)).1, int .i64 (qk 0 (qm (qAN T) 0 row)).2])
    have B4 := (A4.set_ne (o := 3) (ws := [int .i64 (qk 0 (qm (qAC T) 0 row)).1, int .i64 (qk 0 (qm (qAC T) 0 row)).2]) ne4).set_ne (o := 5) (ws := [int .i64 (qk 0 (qm (qAN T) 0 row)).1, int .i64 (qk 0 (qm (qAN T) 0 row)).2]) ne4
    have O1' := (O1.set_ne (o := 3) (ws := [int .i64 (qk 0 (qm (qAC T) 0 row)).1, int .i64 (qk 0 (qm (qAC T) 0 row)).2]) n1b).set_ne (o := 5) (ws := [int .i64 (qk 0 (qm (qAN T) 0 row)).1, int .i64 (qk 0 (qm (qAN T) 0 row)).2]) n1b
    have O2' := (O2.set_ne (o := 3) (ws := [int .i64 (qk 0 (qm (qAC T) 0 row)).1, int .i64 (qk 0 (qm (qAC T) 0 row)).2]) n2b).set_ne (o := 5) (ws := [int .i64 (qk 0 (qm (qAN T) 0 row)).1, int .i64 (qk 0 (qm (qAN T) 0 row)).2]) n2b
    have l9 := qS (o := 5) (ws := [int .i64 (qk 0 (qm (qAN T) 0 row)).1, int .i64 (qk 0 (qm (qAN T) 0 row)).2]) (qS (o := 3) (ws := [int .i64 (qk 0 (qm (qAC T) 0 row)).1, int .i64 (qk 0 (qm (qAC T) 0 row)).2]) lb zb) zb
    unfold qBo shW at k
    refine ⟨Ab.canSt (by simp), Ab1.canSt (by simp), ?_⟩
    generalize (h2.setN b 3 [int .i64 (qk 0 (qm (qAC T) 0 row)).1, int .i64 (qk 0 (qm (qAC T) 0 row)).2]).setN b 5 [int .i64 (qk 0 (qm (qAN T) 0 row)).1, int .i64 (qk 0 (qm (qAN T) 0 row)).2] = H at *
    generalize qk 0 (qm (qAC T) 0 row) = x1 at *
    generalize qk 0 (qm (qAN T) 0 row) = x2 at *
    have B5 : At _ t4 [slice p j cp, slice q1 j c1, slice q2 j c2, int .i64 x1.1, int .i64 x1.2, int .i64 x2.1, int .i64 x2.2] := B4.set (o := 0) (ws := [slice p j cp, slice q1 j c1, slice q2 j c2, int .i64 x1.1, int .i64 x1.2, int .i64 x2.1, int .i64 x2.2])
    exact ⟨_, _, _, Ab2.cell rfl, _, _, _, Ab2.cell rfl, _, _, _, Ab2.cell rfl, _, Ab2.cell rfl, _, Ab2.cell rfl, _, Ab2.cell rfl, _, Ab2.cell rfl, B4.canSt (by simp), _, _, _, B5.cell rfl, _, _, _, B5.cell rfl, _, _, _, B5.cell rfl, _, B5.cell rfl, _, B5.cell rfl, _, B5.cell rfl, _, B5.cell rfl,
      Ret.mk (k _ q1 q2 c1 c2 (qS l9 z4) (O1'.set_ne n14) (O2'.set_ne n24) n12)⟩
  | succ m ih =>
    intro j h q1 q2 c1 c2 hj J
    refine qFK _ _ _ _ _ _ _ _ _ _ ?_
    unfold qDW
    have hjr : j < row.length := by omega
    have hx : row[j]? = some row[j] := List.getElem?_eq_getElem hjr
    have hm : row[j] ∈ row := List.getElem_mem _
    have e1 : (qm (qAC T) 0 (row.take (j + 1))).flatMap qBg = (qm (qAC T) 0 (row.take j)).flatMap qBg ++ qBg (qAC T j row[j]) := by
      rw [qOP hjr, qMO, List.flatMap_append, List.length_take, Nat.min_eq_left (by omega), Nat.zero_add]; simp
    have e2 : (qm (qAN T) 0 (row.take (j + 1))).flatMap qBg = (qm (qAN T) 0 (row.take j)).flatMap qBg ++ qBg (qAN T j row[j]) := by
      rw [qOP hjr, qMO, List.flatMap_append, List.length_take, Nat.min_eq_left (by omega), Nat.zero_add]; simp
    have f1 : ((qm (qAC T) 0 (row.take j)).flatMap qBg).length = j * 2 := by rw [qBh qJP, qDs, List.length_take, Nat.min_eq_left (by omega)]
    have f2 : ((qm (qAN T) 0 (row.take j)).flatMap qBg).length = j * 2 := by rw [qBh qJP, qDs, List.length_take, Nat.min_eq_left (by omega)]
    generalize row[j] = bal at *
    refine Br.yes (by simp; omega) (ix (I.le J.base) hr rfl hx (qYa (cur := j) (C.le J.base) hn ok (Aw.le J.base) rfl (hI _ hm) fun h1 l1 => ⟨_, _, _, _, rfl, ql fun r h2 z2 l2 A2 => ql fun r1 h3 z3 l3 A3 => ⟨(A2.le l3).canSt (by decide), ?_⟩⟩))
    generalize qAC T j bal = W at *
    generalize qAN T j bal = S at *
    have nrr := A2.ne z3
    have z3' := qJ l2 z3
    have B2 : At _ r [int .i64 W.1, int .i64 W.2] := (A2.le l3).set (o := 0) (ws := [int .i64 W.1, int .i64 W.2])
    have B3 := A3.set_ne (o := 0) (ws := [int .i64 W.1, int .i64 W.2]) (b' := r) (fun e => nrr e.symm)
    have C2 := B2.set_ne (o := 0) (ws := [int .i64 S.1, int .i64 S.2]) nrr
    have C3 : At _ r1 [int .i64 S.1, int .i64 S.2] := B3.set (o := 0) (ws := [int .i64 S.1, int .i64 S.2])
    have lH := Heap.le_trans l1 (qS (o := 0) (ws := [int .i64 S.1, int .i64 S.2]) (qS (o := 0) (ws := [int .i64 W.1, int .i64 W.2]) (Heap.le_trans l2 l3) z2) z3')
    refine ⟨B3.canSt (by simp), ?_⟩
    generalize (h3.setN r 0 [int .i64 W.1, int .i64 W.2]).setN r1 0 [int .i64 S.1, int .i64 S.2] = H at *
    have zr1 := qJ l1 z3'
    have nq1r := J.o1.fresh zr1
    have nbr := J.ab.ne zr1
    have Ab := J.ab.le lH
    have A4 := J.a4.le lH
    refine ⟨_, _, _, Ab.cell rfl, _, C2.cell rfl, _, C2.cell rfl, qJw (J.o1.le lH) (by decide) (Heap.le_trans J.base lH) (by omega) rfl rfl f1 fun s h4 q1' c1' h5 zs l4 l5 P1 keep how => ?_⟩
    have Ab5 := qEH keep (Ab.le l4) J.n1b
    have A45 := qEH keep (A4.le l4) J.n14
    have D5 := qEH keep (C3.le l4) nq1r
    have n1b' := qF8 how (Ab.le l4) J.n1b
    have n14' := qF8 how (A4.le l4) J.n14
    have o2' := (J.o2.le lH).le l4
    have n12' : ∀ x, q1' = some ⟨x, 0, none⟩ → q2 ≠ some ⟨x, 0, none⟩ := fun x e => by
      rcases how with rfl | ⟨s, e3, hs⟩
      · exact J.n12 x e
      · rw [e3] at e; cases e; exact o2'.fresh hs
    have P2 := (o2'.mv fun x xs e A => qEH keep A fun e4 => J.n12 x e4 e).set_ne (o := 1) (ws := [slice q1' (j + 1) c1']) J.n2b
    have Ab6 : At _ b [slice p rn cp, slice q1' (j + 1) c1', slice q2 j c2, int .i64 0, int .i64 0, int .i64 0, int .i64 0] := Ab5.set (o := 1) (ws := [slice q1' (j + 1) c1'])
    have A46 := A45.set_ne (o := 1) (ws := [slice q1' (j + 1) c1']) J.ne
    have D6 := D5.set_ne (o := 1) (ws := [slice q1' (j + 1) c1']) (b' := b) (fun e => nbr e.symm)
    have P1' := P1.set_ne (o := 1) (ws := [slice q1' (j + 1) c1']) n1b'
    have l6 := qS (o := 1) (ws := [slice q1' (j + 1) c1']) l5 J.zb
    refine ⟨Ab5.canSt (by simp), ?_⟩
    generalize h5.setN b 1 [slice q1' (j + 1) c1'] = h6 at *
    refine ⟨_, _, _, Ab6.cell rfl, _, D6.cell rfl, _, D6.cell rfl, qJw P2 (by decide) l6 (by omega) rfl rfl f2 fun s2 h7 q2' c2' h8 zs2 l7 l8 P3 keep2 how2 => ?_⟩
    have Ab8 := qEH keep2 (Ab6.le l7) J.n2b
    have n2b' := qF8 how2 (Ab6.le l7) J.n2b
    have n24' := qF8 how2 (A46.le l7) J.n24
    refine ⟨Ab8.canSt (by simp), ?_⟩
    have oo1 : OwnL h0 (h8.setN b 2 [slice q2' (j + 1) c2']) [int .i64 0, int .i64 0] q1' c1' ((qm (qAC T) 0 (row.take (j + 1))).flatMap qBg) := by
      rw [e1]; exact ((P1'.le l7).mv fun x xs e A => qEH keep2 A (n12' x e)).set_ne n1b'
    have oo2 : OwnL h0 (h8.setN b 2 [slice q2' (j + 1) c2']) [int .i64 0, int .i64 0] q2' c2' ((qm (qAN T) 0 (row.take (j + 1))).flatMap qBg) := by
      rw [e2]; exact P3.set_ne n2b'
    have nn12 : ∀ x, q1' = some ⟨x, 0, none⟩ → q2' ≠ some ⟨x, 0, none⟩ := fun x e e4 => by
      rcases how2 with rfl | ⟨s, e3, hs⟩
      · exact n12' x e e4
      · rw [e3] at e4; cases e4; exact (P1'.le l7).fresh hs e
    rw [w1 (by omega)]
    exact ih (j + 1) _ q1' q2' c1' c2' (by omega) { base := qS l8 J.zb, z4 := J.z4, zb := J.zb, ne := J.ne, a4 := (qEH keep2 (A46.le l7) J.n24).set_ne J.ne, ab := Ab8.set (o := 2) (ws := [slice q2' (j + 1) c2']), o1 := oo1, o2 := oo2, n14 := n14', n1b := n1b', n24 := n24', n2b := n2b', n12 := nn12 }
theorem qPh {p : Option Addr} {row : List Int} {rn cp : Nat} (C : Curs h a T) (hn : T.length = n) (ok : T.all qGl = true) (Aw : At h w (.slice a n c :: ws)) (I : Ints .i64 h p row) (hr : row.length = rn) (hs : rn ≤ 1000000) (hI : ∀ x ∈ row, I64 x)
    (k : ∀ h' q1 q2 c1 c2, h.le h' → OwnL h h' [int .i64 0, int .i64 0] q1 c1 ((qm (qAC T) 0 row).flatMap qBg) → OwnL h h' [int .i64 0, int .i64 0] q2 c2 ((qm (qAN T) 0 row).flatMap qBg) → (∀ x, q1 = some ⟨x, 0, none⟩ → q2 ≠ some ⟨x, 0, none⟩) →
      K (agg #[slice p rn cp, slice q1 rn c1, slice q2 rn c2, int .i64 (qBo T row).1, int .i64 (qBo T row).2, int .i64 (shW T row).1, int .i64 (shW T row).2]) h') :
    CallA Tryz.prog qCY [pointer (some ⟨w, 0, none⟩), slice p rn cp] h K := by
  refine qJZ _ _ _ _ _ _ ?_
  unfold qFr
  refine ql fun r h1 hr1 l1 A1 => qEE (vs := [slice p rn cp, slice none 0 0, slice none 0 0, int .i64 0, int .i64 0, int .i64 0, int .i64 0]) rfl fun r2 h2 hr2 l2 A2 cs => ⟨cs, ?_⟩
  exact qVg C hn ok Aw I hr hs hI k rn 0 _ none none 0 0 rfl { base := Heap.le_trans l1 l2, z4 := hr1, zb := qJ l1 hr2, ne := A1.ne hr2, a4 := A1.le l2, ab := A2, o1 := OwnL.nil _ _ _, o2 := OwnL.nil _ _ _, n14 := nofun, n1b := nofun, n24 := nofun, n2b := nofun, n12 := nofun }
end
end Go.Proofs.YtgjeecaombnmiaaGreat

/- A ledger in memory: its row of nostros, and all balances in a row. -/
namespace Go.Proofs.YtgjeecaombnmiaaGreat
open Go Go.Sy Go.Value
set_option linter.unusedVariables false
set_option linter.unusedSimpArgs false

def qIg (B C : Nat) (S : Lg) : List Value := .slice (some ⟨B, 0, none⟩) S.M.length C :: (qK .i64 S.N ++ [.int .i64 (S.cur : Int)])
structure LedAt (h : Heap) (p B C : Nat) (sp : List Value) (S : Lg) : Prop where
  ap : At h p (qIg B C S)
  ab : At h B (qK .i64 S.M.flatten ++ sp)
  ne : p ≠ B
  sz : S.Sz
theorem Lg.Sz.wr {S : Lg} (o : S.Sz) {i c : Nat} {v : Int} (hi : i < S.M.length) (hc : c < 8) (hv : I64 v) : (wrG S i c v).Sz := by
  have hl : (wrM S.M i c v).length = S.M.length := (o.sh.wr hi).1
  refine { n1 := by show 1 ≤ (wrM S.M i c _).length; rw [hl]; exact o.n1, n16 := by show (wrM S.M i c _).length ≤ 16; rw [hl]; exact o.n16, c1 := o.c1, c8 := o.c8, sh := by show shM (wrM S.M i c _) (wrM S.M i c _).length 8; rw [hl]; exact o.sh.wr hi, N8 := o.N8, i64 := fun j d => ?_, n64 := o.n64 }
  show I64 (rdM (wrM S.M i c v) j d)
  rw [qE2 o.sh hi hc]; split
  · exact hv
  · exact o.i64 j d
theorem Lg.Sz.wn {S : Lg} (o : S.Sz) {c : Nat} {v : Int} (hc : c < 8) (hv : I64 v) : (wnG S c v).Sz := by
  refine { o with N8 := by show (S.N.set c v).length = 8; rw [List.length_set]; exact o.N8, n64 := fun d => ?_ }
  show I64 ((S.N.set c v).getD d 0)
  rw [qQ1 _ _ _ _ (by rw [o.N8]; exact hc)]; split
  · exact hv
  · exact o.n64 d
section
variable {h : Heap} {p B C : Nat} {sp : List Value} {S : Lg}
theorem LedAt.le {h' : Heap} (A : LedAt h p B C sp S) (l : h.le h') : LedAt h' p B C sp S := ⟨A.ap.le l, A.ab.le l, A.ne, A.sz⟩
theorem LedAt.rows (A : LedAt h p B C sp S) : h.cell p 0 = some (.slice (some ⟨B, 0, none⟩) S.M.length C) := A.ap.cell rfl
theorem LedAt.cur (A : LedAt h p B C sp S) : h.cell p 9 = some (.int .i64 (S.cur : Int)) := A.ap.cell (by
  show (qK .i64 S.N ++ [.int .i64 (S.cur : Int)])[8]? = _
  rw [List.getElem?_append_right (by rw [qL, A.sz.N8]; omega), qL, A.sz.N8]; rfl)
theorem LedAt.nos (A : LedAt h p B C sp S) {c : Nat} (hc : c < 8) : h.cell p (0 + 1 + c) = some (.int .i64 (S.N.getD c 0)) := A.ap.cell (by
  rw [Nat.zero_add, Nat.add_comm]
  show (qK .i64 S.N ++ [.int .i64 (S.cur : Int)])[c]? = _
  have hN := A.sz.N8
  rw [List.getElem?_append_left (by rw [qL]; omega), qBt, List.getElem?_map, List.getElem?_eq_getElem (by omega), List.getD_eq_getElem?_getD, List.getElem?_eq_getElem (by omega)]; rfl)
theorem LedAt.el (A : LedAt h p B C sp S) {i c : Nat} (hi : i < S.M.length) (hc : c < 8) : h.cell B (0 + i * 8 + c) = some (.int .i64 (rdM S.M i c)) := A.ab.cell (by
  have hl := qE3 A.sz.sh.2
  have : i * 8 + c < S.M.length * 8 := by omega
  rw [Nat.zero_add, List.getElem?_append_left (by rw [qL, hl]; exact this), qBt, List.getElem?_map, qK5 A.sz.sh.2 hi hc]; rfl)
theorem LedAt.stR (A : LedAt h p B C sp S) {i c : Nat} (hi : i < S.M.length) (hc : c < 8) : h.canSt B (0 + i * 8 + c) 1 := A.ab.canSt (by
  rw [List.length_append, qL, qE3 A.sz.sh.2]; omega)
theorem LedAt.stN (A : LedAt h p B C sp S) {c : Nat} (hc : c < 8) : h.canSt p (0 + 1 + c) 1 := A.ap.canSt (by
  unfold qIg
  simp only [List.length_cons, List.length_append, qL, A.sz.N8, List.length_nil]; omega)
theorem qHM {l : List Int} {sp : List Value} {c : Nat} {v : Int} (h : c < l.length) : qh (qK .i64 l ++ sp) c [.int .i64 v] = qK .i64 (l.set c v) ++ sp := by
  rw [qh, qh, qBR, List.set_append_left _ _ (by rw [qL]; omega), qBt, qBt, List.map_set]
theorem LedAt.wrR (A : LedAt h p B C sp S) {i c : Nat} {v : Int} (hi : i < S.M.length) (hc : c < 8) (hv : I64 v) : LedAt (h.setN B (0 + i * 8 + c) [.int .i64 v]) p B C sp (wrG S i c v) := by
  have hl := qE3 A.sz.sh.2
  refine ⟨?_, ?_, A.ne, A.sz.wr hi hc hv⟩
  · have := A.ap.set_ne (o := 0 + i * 8 + c) (ws := [.int .i64 v]) A.ne
    unfold qIg at this ⊢
    rw [show (wrG S i c v).M.length = S.M.length from (A.sz.sh.wr hi).1]
    exact this
  · have := A.ab.set (o := 0 + i * 8 + c) (ws := [.int .i64 v])
    rw [Nat.zero_add, qHM (by omega), ← qNi A.sz.sh.2 hi hc] at this
    rw [Nat.zero_add]
    exact this
theorem LedAt.wrN (A : LedAt h p B C sp S) {c : Nat} {v : Int} (hc : c < 8) (hv : I64 v) : LedAt (h.setN p (0 + 1 + c) [.int .i64 v]) p B C sp (wnG S c v) := by
  refine ⟨?_, A.ab.set_ne (fun e => A.ne e.symm), A.ne, A.sz.wn hc hv⟩
  have := A.ap.set (o := 0 + 1 + c) (ws := [.int .i64 v])
  unfold qIg at this ⊢
  rw [Nat.zero_add, Nat.add_comm 1 c] at *
  have e : ∀ (a : Value) (l : List Value), qh (a :: l) (c + 1) [.int .i64 v] = a :: qh l c [.int .i64 v] := fun a l => rfl
  rw [e, qHM (by rw [A.sz.N8]; exact hc)] at this
  exact this
theorem LedAt.get (A : LedAt h p B C sp S) {i c : Nat} (hi : i < S.M.length) (hc : c < 8) {Q : Int → Prop} (kk : Q (rdM S.M i c)) :
    qA (some ⟨p, 0, none⟩) fun b o => ∃ a n m, h.cell b o = some (.slice a n m) ∧ 0 ≤ (i : Int) ∧ (i : Int) < (n : Int) ∧
      qA a fun b o => Br (decide (0 ≤ (c : Int))) (Br (decide ((c : Int) < 8)) (∃ n, h.cell b (o + (i : Int).toNat * 8 + (c : Int).toNat) = some (.int .i64 n) ∧ Q n) False) False :=
  qB rfl ⟨_, _, _, A.rows, by omega, by omega, qB rfl (Br.yes (decide_eq_true (by omega)) (Br.yes (decide_eq_true (by omega)) ⟨_, A.el hi hc, kk⟩))⟩
theorem LedAt.getN (A : LedAt h p B C sp S) {c : Nat} (hc : c < 8) {Q : Int → Prop} (kk : Q (S.N.getD c 0)) :
    qA (some ⟨p, 0, none⟩) fun b o => Br (decide (0 ≤ (c : Int))) (Br (decide ((c : Int) < 8)) (∃ n, h.cell b (o + 1 + (c : Int).toNat) = some (.int .i64 n) ∧ Q n) False) False :=
  qB rfl (Br.yes (decide_eq_true (by omega)) (Br.yes (decide_eq_true (by omega)) ⟨_, A.nos hc, kk⟩))
end
/-! postings in memory -/
def poV : List Pst → List Value
  | [] => []
  | x :: r => .int .i64 x.m :: .int .i64 x.c :: .int .i64 x.a :: poV r
theorem qHT : ∀ l, (poV l).length = l.length * 3
  | [] => rfl
  | x :: l => by simp only [poV, List.length_cons, qHT l]; omega
theorem qSJ : ∀ (l : List Pst) (j : Nat) (x : Pst), l[j]? = some x → (poV l)[j * 3]? = some (.int .i64 x.m) ∧ (poV l)[j * 3 + 1]? = some (.int .i64 x.c) ∧ (poV l)[j * 3 + 2]? = some (.int .i64 x.a)
  | [], j, x, h => by simp at h
  | y :: l, 0, x, h => by
    simp at h
    subst h
    exact ⟨rfl, rfl, rfl⟩
  | y :: l, j + 1, x, h => by
    have := qSJ l j x (by simpa using h)
    have e : ∀ i, (poV (y :: l))[(j + 1) * 3 + i]? = (poV l)[j * 3 + i]? := fun i => by
      rw [show (j + 1) * 3 + i = j * 3 + i + 1 + 1 + 1 from by omega]
      simp only [poV, List.getElem?_cons_succ]
    exact ⟨(e 0).trans this.1, (e 1).trans this.2.1, (e 2).trans this.2.2⟩
def Pos (h : Heap) (p : Option Addr) (l : List Pst) : Prop := rdL h p (poV l)
theorem px {h : Heap} {p : Option Addr} {l : List Pst} {N : Nat} (C : Pos h p l) (hn : l.length = N) {j : Nat} {i : Int} (hi : i = (j : Int)) {x : Pst} (hx : l[j]? = some x) {Q : Int → Int → Int → Prop} (kk : Q x.m x.c x.a) :
    0 ≤ i ∧ i < (N : Int) ∧ qA p fun b o => ∃ n, h.cell b (o + i.toNat * 3) = some (.int .i64 n) ∧ ∃ n1, h.cell b (o + i.toNat * 3 + 1) = some (.int .i64 n1) ∧ ∃ n2, h.cell b (o + i.toNat * 3 + 2) = some (.int .i64 n2) ∧ Q n n1 n2 := by
  subst hi hn
  have hj : j < l.length := (List.getElem?_eq_some_iff.1 hx).1
  obtain ⟨g0, g1, g2⟩ := qSJ l j x hx
  rcases C with e | ⟨b, o, e, r⟩
  · have := congrArg List.length e
    rw [qHT, List.length_nil] at this
    omega
  · rw [Int.toNat_natCast]
    refine ⟨by omega, by omega, qB e ⟨_, ?_, _, ?_, _, ?_, kk⟩⟩
    · rw [r _ (by rw [qHT]; omega), g0]
    · rw [Nat.add_assoc, r _ (by rw [qHT]; omega), g1]
    · rw [Nat.add_assoc, r _ (by rw [qHT]; omega), g2]
def qSZ : Sh := .two (.int .i64) (.two (.int .i64) (.two (.int .i64) .nil))
theorem qXd {h : Heap} {p : Option Addr} {n c : Nat} (H : (Sh.sl qSZ).Has h [.slice p n c]) : n ≤ c ∧ c ≤ 9223372036854775807 ∧ ∃ L : List Pst, L.length = n ∧ Pos h p L ∧ ∀ x ∈ L, I64 x.m ∧ I64 x.c ∧ I64 x.a := by
  obtain ⟨h1, h2, L, hL, hA, hR⟩ := Sh.Has.list H
  refine ⟨h1, h2, ?_⟩
  have : ∀ L : List (List Value), (∀ vs ∈ L, vs.length = qSZ.n ∧ qSZ.Has h vs) → ∃ l : List Pst, l.length = L.length ∧ L.flatten = poV l ∧ ∀ x ∈ l, I64 x.m ∧ I64 x.c ∧ I64 x.a := by
    intro L
    induction L with
    | nil => exact fun _ => ⟨[], rfl, rfl, fun _ hn => (by cases hn)⟩
    | cons a L ih =>
      intro hA
      obtain ⟨l, e1, e2, e3⟩ := ih (fun vs hv => hA vs (List.mem_cons_of_mem _ hv))
      have ha := (hA a (List.mem_cons_self ..)).2
      obtain ⟨a1, r1, rfl, _, ⟨n1, rfl, w1⟩, a2, r2, rfl, _, ⟨n2, rfl, w2⟩, a3, r3, rfl, _, ⟨n3, rfl, w3⟩, hnil⟩ := ha
      have hnil : r3 = [] := hnil
      subst hnil
      refine ⟨⟨n1, n2, n3⟩ :: l, by simp [e1], ?_, fun x hx => ?_⟩
      · rw [List.flatten_cons, e2]; rfl
      · rcases List.mem_cons.1 hx with rfl | hx
        · exact ⟨I64.of_wf w1, I64.of_wf w2, I64.of_wf w3⟩
        · exact e3 x hx
  obtain ⟨l, e1, e2, e3⟩ := this L hA
  exact ⟨l, by rw [e1, hL], by unfold Pos; rw [← e2]; exact hR, e3⟩
end Go.Proofs.YtgjeecaombnmiaaGreat
