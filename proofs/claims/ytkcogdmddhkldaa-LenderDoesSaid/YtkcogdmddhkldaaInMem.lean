/- Nets and proposals in memory: as they are handed over, and as one's own, that are written. -/
import Derived.Test.YtkcogdmddhkldaaInPure
import Derived.Test.YtkcogdmddhkldaaFwOwn
namespace Go.Proofs.Ytkcogdmddhkldaa
open Go Go.Sy Go.Value
set_option linter.unusedVariables false
set_option linter.unusedSimpArgs false

structure NRow where
  p : Option Addr
  c : Nat
  l : List Int
def netV : List NRow → List Value
  | [] => []
  | x :: r => .slice x.p x.l.length x.c :: netV r
theorem netV_map : ∀ L, netV L = L.map fun x => Value.slice x.p x.l.length x.c
  | [] => rfl
  | x :: r => by rw [netV, netV_map r]; rfl
theorem netV_length (L : List NRow) : (netV L).length = L.length := by rw [netV_map]; simp
def Nets (h : Heap) (p : Option Addr) (L : List NRow) : Prop := rdL h p (netV L) ∧ ∀ x ∈ L, Ints .i64 h x.p x.l
theorem Nets.le {h h' : Heap} {p : Option Addr} {L : List NRow} (x : Nets h p L) (l : h.le h') : Nets h' p L := ⟨rdL_le l x.1, fun y hy => (x.2 y hy).le l⟩
def mxOf (L : List NRow) : Mx := L.map (·.l)
theorem nx {h : Heap} {p : Option Addr} {L : List NRow} {N : Nat} (X : Nets h p L) (hn : L.length = N) {j : Nat} {i : Int} (hi : i = (j : Int)) {x : NRow} (hx : L[j]? = some x) {Q : Option Addr → Nat → Nat → Prop} (kk : Q x.p x.l.length x.c) :
    0 ≤ i ∧ i < (N : Int) ∧ withAddr p fun b o => ∃ a n m, h.cell b (o + i.toNat) = some (.slice a n m) ∧ Q a n m := by
  subst hi hn
  have hj : j < L.length := (List.getElem?_eq_some_iff.1 hx).1
  rcases X.1 with e | ⟨b, o, e, r⟩
  · have := congrArg List.length e
    rw [netV_length, List.length_nil] at this
    omega
  · refine ⟨by omega, by omega, withAddr_intro e ⟨_, _, _, ?_, kk⟩⟩
    rw [Int.toNat_natCast, r j (by rw [netV_length]; exact hj), netV_map, List.getElem?_map, hx]; rfl
def netSh : Sh := .sl (.sl (.int .i64))
theorem nets_of {h : Heap} {p : Option Addr} {n c : Nat} (H : netSh.Has h [.slice p n c]) : n ≤ 9223372036854775807 ∧ ∃ L : List NRow, L.length = n ∧ Nets h p L ∧ (∀ x ∈ L, ∀ v ∈ x.l, I64 v) ∧ ∀ x ∈ L, x.l.length ≤ 9223372036854775807 := by
  obtain ⟨h1, h2, L, hL, hA, hR⟩ := Sh.Has.list H
  refine ⟨by omega, ?_⟩
  have : ∀ L : List (List Value), (∀ vs ∈ L, vs.length = (Sh.sl (.int .i64)).n ∧ (Sh.sl (.int .i64)).Has h vs) → ∃ l : List NRow, l.length = L.length ∧ L.flatten = netV l ∧ (∀ x ∈ l, Ints .i64 h x.p x.l) ∧ (∀ x ∈ l, ∀ v ∈ x.l, I64 v) ∧ ∀ x ∈ l, x.l.length ≤ 9223372036854775807 := by
    intro L
    induction L with
    | nil => exact fun _ => ⟨[], rfl, rfl, fun _ hn => (by cases hn), fun _ hn => (by cases hn), fun _ hn => (by cases hn)⟩
    | cons a L ih =>
      intro hA
      obtain ⟨l, e1, e2, e3, e4, e5⟩ := ih (fun vs hv => hA vs (List.mem_cons_of_mem _ hv))
      have ha := (hA a (List.mem_cons_self ..)).2
      have ha2 := ha
      obtain ⟨q, m, cp, rfl, _⟩ := ha2
      obtain ⟨b1, b2, ints, hi, I, hw⟩ := ha.ints
      refine ⟨⟨q, cp, ints⟩ :: l, by simp [e1], ?_, fun x hx => ?_, fun x hx => ?_, fun x hx => ?_⟩
      · rw [List.flatten_cons, e2, netV, hi]; rfl
      · rcases List.mem_cons.1 hx with rfl | hx
        · exact I
        · exact e3 x hx
      · rcases List.mem_cons.1 hx with rfl | hx
        · exact fun v hv => I64.of_wf (hw v hv)
        · exact e4 x hx
      · rcases List.mem_cons.1 hx with rfl | hx
        · dsimp only; omega
        · exact e5 x hx
  obtain ⟨l, e1, e2, e3, e4, e5⟩ := this L hA
  exact ⟨l, by rw [e1, hL], ⟨by rw [← e2]; exact hR, e3⟩, e4, e5⟩
/-- proposals in memory -/
def swV : List Swp → List Value
  | [] => []
  | x :: r => .int .i64 (x.fr : Int) :: .int .i64 (x.to : Int) :: .int .i64 (x.cur : Int) :: .int .i64 x.amount :: .int .i64 x.base :: swV r
theorem swV_length : ∀ l, (swV l).length = l.length * 5
  | [] => rfl
  | x :: l => by simp only [swV, List.length_cons, swV_length l]; omega
theorem swV_append : ∀ l m, swV (l ++ m) = swV l ++ swV m
  | [], m => rfl
  | x :: l, m => by simp only [List.cons_append, swV, swV_append l m]
theorem allCells_sw : ∀ l, allCells (swV l) = true
  | [] => rfl
  | x :: l => allCells_sw l
theorem swV_get : ∀ (l : List Swp) (j : Nat) (x : Swp), l[j]? = some x → (swV l)[j * 5]? = some (.int .i64 (x.fr : Int)) ∧ (swV l)[j * 5 + 1]? = some (.int .i64 (x.to : Int)) ∧ (swV l)[j * 5 + 2]? = some (.int .i64 (x.cur : Int)) ∧
    (swV l)[j * 5 + 3]? = some (.int .i64 x.amount) ∧ (swV l)[j * 5 + 4]? = some (.int .i64 x.base)
  | [], j, x, h => by simp at h
  | y :: l, 0, x, h => by
    simp at h
    subst h
    exact ⟨rfl, rfl, rfl, rfl, rfl⟩
  | y :: l, j + 1, x, h => by
    have := swV_get l j x (by simpa using h)
    have e : ∀ i, (swV (y :: l))[(j + 1) * 5 + i]? = (swV l)[j * 5 + i]? := fun i => by
      rw [show (j + 1) * 5 + i = j * 5 + i + 1 + 1 + 1 + 1 + 1 from by omega]
      simp only [swV, List.getElem?_cons_succ]
    exact ⟨(e 0).trans this.1, (e 1).trans this.2.1, (e 2).trans this.2.2.1, (e 3).trans this.2.2.2.1, (e 4).trans this.2.2.2.2⟩
def Sws (h : Heap) (p : Option Addr) (l : List Swp) : Prop := rdL h p (swV l)
theorem sx {h : Heap} {p : Option Addr} {l : List Swp} {N : Nat} (C : Sws h p l) (hn : l.length = N) {j : Nat} {i : Int} (hi : i = (j : Int)) {x : Swp} (hx : l[j]? = some x) {Q : Int → Int → Int → Int → Int → Prop} (kk : Q x.fr x.to x.cur x.amount x.base) :
    0 ≤ i ∧ i < (N : Int) ∧ withAddr p fun b o => ∃ n, h.cell b (o + i.toNat * 5) = some (.int .i64 n) ∧ ∃ n1, h.cell b (o + i.toNat * 5 + 1) = some (.int .i64 n1) ∧ ∃ n2, h.cell b (o + i.toNat * 5 + 2) = some (.int .i64 n2) ∧
      ∃ n3, h.cell b (o + i.toNat * 5 + 3) = some (.int .i64 n3) ∧ ∃ n4, h.cell b (o + i.toNat * 5 + 4) = some (.int .i64 n4) ∧ Q n n1 n2 n3 n4 := by
  subst hi hn
  have hj : j < l.length := (List.getElem?_eq_some_iff.1 hx).1
  obtain ⟨g0, g1, g2, g3, g4⟩ := swV_get l j x hx
  rcases C with e | ⟨b, o, e, r⟩
  · have := congrArg List.length e
    rw [swV_length, List.length_nil] at this
    omega
  · rw [Int.toNat_natCast]
    refine ⟨by omega, by omega, withAddr_intro e ⟨_, ?_, _, ?_, _, ?_, _, ?_, _, ?_, kk⟩⟩
    · rw [r _ (by rw [swV_length]; omega), g0]
    · rw [Nat.add_assoc, r _ (by rw [swV_length]; omega), g1]
    · rw [Nat.add_assoc, r _ (by rw [swV_length]; omega), g2]
    · rw [Nat.add_assoc, r _ (by rw [swV_length]; omega), g3]
    · rw [Nat.add_assoc, r _ (by rw [swV_length]; omega), g4]
/-- nets of one's own: each row in a block of its own -/
structure NetS (L : Lay) (n w : Nat) (R : Nat → Nat) (SP : Nat → List Value) (M : Mx) : Prop where
  sh : shM M n w
  row : ∀ i, i < n → L (R i) = some (intsV .i64 (M.getD i []) ++ SP i)
  inj : ∀ i j, i < n → j < n → R i = R j → i = j
theorem NetS.keep {L L' : Lay} {n w : Nat} {R : Nat → Nat} {SP : Nat → List Value} {M : Mx} (s : NetS L n w R SP M) (k : ∀ i, i < n → L' (R i) = L (R i)) : NetS L' n w R SP M :=
  ⟨s.sh, fun i hi => by rw [k i hi]; exact s.row i hi, s.inj⟩
theorem setL_ints {l : List Int} {sp : List Value} {c : Nat} {v : Int} (h : c < l.length) : setL (intsV .i64 l ++ sp) c [.int .i64 v] = intsV .i64 (l.set c v) ++ sp := by
  rw [setL, setL, setT_eq, List.set_append_left _ _ (by rw [intsV_length]; omega), intsV_map, intsV_map, List.map_set]
theorem NetS.wr {L : Lay} {n w : Nat} {R : Nat → Nat} {SP : Nat → List Value} {M : Mx} (s : NetS L n w R SP M) {i c : Nat} {v : Int} (hi : i < n) (hc : c < w) :
    NetS (L.upd (R i) (setL (intsV .i64 (M.getD i []) ++ SP i) c [.int .i64 v])) n w R SP (wrM M i c v) := by
  refine ⟨s.sh.wr hi, fun j hj => ?_, s.inj⟩
  have hl : i < M.length := by rw [s.sh.1]; exact hi
  rw [setL_ints (by rw [s.sh.row hi]; exact hc)]
  by_cases e : j = i
  · subst e
    rw [Lay.upd_same]
    unfold wrM
    rw [show (M.set j ((M.getD j []).set c v)).getD j [] = (M.getD j []).set c v from by rw [List.getD_eq_getElem?_getD, List.getElem?_set_self hl]; rfl]
  · rw [Lay.upd_ne _ _ (fun x => e (s.inj j i hj hi x)), s.row j hj]
    unfold wrM
    rw [show (M.set i ((M.getD i []).set c v)).getD j [] = M.getD j [] from by rw [List.getD_eq_getElem?_getD, List.getElem?_set_ne (fun x => e x.symm), ← List.getD_eq_getElem?_getD]]
def zSl : List Value := [.slice none 0 0]
def zSw : List Value := [.int .i64 0, .int .i64 0, .int .i64 0, .int .i64 0, .int .i64 0]
/-- nets and proposals, all of one's own -/
structure MatS (h0 h : Heap) (L : Lay) (np : Option Addr) (nc n w : Nat) (R : Nat → Nat) (SP : Nat → List Value) (C : Nat → Nat) (cells : List Value) (M : Mx) (lp : Option Addr) (lc : Nat) (sw : List Swp) : Prop where
  own : Own h0 h L
  len : cells.length = n
  cl : ∀ i, i < n → cells[i]? = some (.slice (some ⟨R i, 0, none⟩) w (C i))
  net : Lst L zSl np nc cells
  rows : NetS L n w R SP M
  sl : Lst L zSw lp lc (swV sw)
  dn : ∀ i, i < n → np ≠ some ⟨R i, 0, none⟩
  dl : ∀ i, i < n → lp ≠ some ⟨R i, 0, none⟩
  nl : ∀ r, np = some ⟨r, 0, none⟩ → lp ≠ some ⟨r, 0, none⟩
section
variable {h0 h : Heap} {L : Lay} {np lp : Option Addr} {nc n w lc : Nat} {R C : Nat → Nat} {SP : Nat → List Value} {cells : List Value} {M : Mx} {sw : List Swp}
theorem MatS.le {h' : Heap} (s : MatS h0 h L np nc n w R SP C cells M lp lc sw) (l : h.le h') : MatS h0 h' L np nc n w R SP C cells M lp lc sw := { s with own := s.own.le l }
/-- where a row lies -/
theorem MatS.rowAt (s : MatS h0 h L np nc n w R SP C cells M lp lc sw) {i : Nat} (hi : i < n) {Q : Option Addr → Nat → Nat → Prop} (kk : Q (some ⟨R i, 0, none⟩) w (C i)) :
    0 ≤ (i : Int) ∧ (i : Int) < (n : Int) ∧ withAddr np fun b o => ∃ a n m, h.cell b (o + (i : Int).toNat) = some (.slice a n m) ∧ Q a n m := by
  have hc := s.cl i hi
  rcases s.net.rd s.own with e | ⟨b, o, e, r⟩
  · rw [e] at hc; simp at hc
  · refine ⟨by omega, by omega, withAddr_intro e ⟨_, _, _, ?_, kk⟩⟩
    rw [Int.toNat_natCast, r i (by rw [s.len]; exact hi), hc]
theorem MatS.cellAt (s : MatS h0 h L np nc n w R SP C cells M lp lc sw) {i c : Nat} (hi : i < n) (hc : c < w) : h.cell (R i) c = some (.int .i64 (rdM M i c)) := by
  refine s.own.cell (s.rows.row i hi) ?_
  have hl := s.rows.sh.row hi
  rw [List.getElem?_append_left (by rw [intsV_length]; omega), intsV_map, List.getElem?_map, List.getElem?_eq_getElem (by omega)]
  unfold rdM
  simp only [Option.map_some]
  congr 2
  rw [List.getD_eq_getElem?_getD (l := M.getD i []), List.getElem?_eq_getElem (by omega)]; rfl
theorem MatS.get (s : MatS h0 h L np nc n w R SP C cells M lp lc sw) {i c : Nat} (hi : i < n) (hc : c < w) {Q : Int → Prop} (kk : Q (rdM M i c)) :
    0 ≤ (c : Int) ∧ (c : Int) < (w : Int) ∧ withAddr (some ⟨R i, 0, none⟩) fun b o => ∃ n, h.cell b (o + (c : Int).toNat) = some (.int .i64 n) ∧ Q n :=
  ⟨by omega, by omega, withAddr_intro rfl ⟨_, by rw [Nat.zero_add, Int.toNat_natCast]; exact s.cellAt hi hc, kk⟩⟩
theorem MatS.get0 (s : MatS h0 h L np nc n w R SP C cells M lp lc sw) {i : Nat} (hi : i < n) (hc : 0 < w) {Q : Int → Prop} (kk : Q (rdM M i 0)) :
    (0 : Int) ≤ 0 ∧ (0 : Int) < (w : Int) ∧ withAddr (some ⟨R i, 0, none⟩) fun b o => ∃ n, h.cell b o = some (.int .i64 n) ∧ Q n :=
  ⟨by omega, by omega, withAddr_intro rfl ⟨_, s.cellAt hi hc, kk⟩⟩
theorem MatS.canSt (s : MatS h0 h L np nc n w R SP C cells M lp lc sw) {i c : Nat} (hi : i < n) (hc : c < w) : h.canSt (R i) c 1 :=
  s.own.canSt (s.rows.row i hi) (by rw [List.length_append, intsV_length, s.rows.sh.row hi]; omega)
theorem MatS.wr (s : MatS h0 h L np nc n w R SP C cells M lp lc sw) {i c : Nat} {v : Int} (hi : i < n) (hc : c < w) :
    ∃ L', MatS h0 (h.setN (R i) c [.int .i64 v]) L' np nc n w R SP C cells (wrM M i c v) lp lc sw ∧ ∀ b, (∀ i, i < n → b ≠ R i) → L' b = L b := by
  refine ⟨_, ⟨s.own.set (s.rows.row i hi), s.len, s.cl, s.net.keep fun r e => Lay.upd_ne _ _ (fun x => s.dn i hi (by rw [e, x])), s.rows.wr hi hc, s.sl.keep fun r e => Lay.upd_ne _ _ (fun x => s.dl i hi (by rw [e, x])), s.dn, s.dl, s.nl⟩, fun b hb => Lay.upd_ne _ _ (hb i hi)⟩
/-- one proposal more -/
theorem MatS.push (s : MatS h0 h L np nc n w R SP C cells M lp lc sw) {t : TypeId} {a : Option Addr} {x : Swp} (ra : rdL h a (swV [x])) (hl : sw.length < 1000000) {J : Option Addr → Nat → Heap → Prop}
    (k : ∀ lp' lc' h' L', MatS h0 h' L' np nc n w R SP C cells M lp' lc' (sw ++ [x]) → (∀ b us, L b = some us → lp ≠ some ⟨b, 0, none⟩ → L' b = some us ∧ lp' ≠ some ⟨b, 0, none⟩) → J lp' lc' h') : AppA zSw t h lp sw.length lc 1 a J := by
  refine s.sl.push s.own (by decide) (by omega) (by rw [swV_length]; rfl) ra (allCells_sw _) (by rw [swV_length]; rfl) fun p' c' h' L' o' x' keep how => ?_
  rw [← swV_append] at x'
  have stay : ∀ b us, L b = some us → lp ≠ some ⟨b, 0, none⟩ → L' b = some us ∧ p' ≠ some ⟨b, 0, none⟩ := fun b us e e2 => by
    refine ⟨keep b us e e2, fun e3 => ?_⟩
    rcases how with rfl | ⟨r, e4, e5⟩
    · exact e2 e3
    · rw [e4] at e3; cases e3; rw [e] at e5; cases e5
  refine k p' c' h' L' ⟨o', s.len, s.cl, ?_, s.rows.keep fun i hi => ?_, x', s.dn, fun i hi => (stay _ _ (s.rows.row i hi) (s.dl i hi)).2, fun r e => ?_⟩ stay
  · rcases s.net with q | ⟨r, sp', e, hr, k2⟩
    · exact .inl q
    · exact .inr ⟨r, sp', e, (stay r _ hr (s.nl r e)).1, k2⟩
  · rw [s.rows.row i hi]; exact (stay _ _ (s.rows.row i hi) (s.dl i hi)).1
  · rcases s.net with ⟨_, q, _⟩ | ⟨r', sp', e', hr, k2⟩
    · rw [q] at e; cases e
    · rw [e'] at e; cases e
      exact (stay r _ hr (s.nl r e')).2
/-- as it is handed over -/
theorem MatS.nets (s : MatS h0 h L np nc n w R SP C cells M lp lc sw) : ∃ NL : List NRow, NL.length = n ∧ mxOf NL = M ∧ Nets h np NL ∧ Sws h lp sw := by
  have hM := s.rows.sh.1
  refine ⟨(List.range n).map fun i => ⟨some ⟨R i, 0, none⟩, C i, M.getD i []⟩, by simp, ?_, ⟨?_, fun x hx => ?_⟩, s.sl.rd s.own⟩
  · unfold mxOf
    rw [List.map_map]
    refine List.ext_getElem? fun i => ?_
    rw [List.getElem?_map]
    by_cases hi : i < n
    · rw [List.getElem?_range hi]
      simp only [Option.map_some, Function.comp]
      rw [List.getD_eq_getElem?_getD, List.getElem?_eq_getElem (by omega)]; rfl
    · rw [List.getElem?_eq_none (by simp; omega), List.getElem?_eq_none (by omega)]; rfl
  · have e : netV ((List.range n).map fun i => (⟨some ⟨R i, 0, none⟩, C i, M.getD i []⟩ : NRow)) = cells := by
      rw [netV_map, List.map_map]
      refine List.ext_getElem? fun i => ?_
      rw [List.getElem?_map]
      by_cases hi : i < n
      · rw [List.getElem?_range hi, s.cl i hi]
        simp only [Option.map_some, Function.comp]
        rw [s.rows.sh.row hi]
      · rw [List.getElem?_eq_none (by simp; omega), List.getElem?_eq_none (by rw [s.len]; omega)]; rfl
    rw [e]
    exact s.net.rd s.own
  · obtain ⟨i, hi, rfl⟩ := List.mem_map.1 hx
    rw [List.mem_range] at hi
    exact (s.own.has _ _ (s.rows.row i hi)).toRd
end
end Go.Proofs.Ytkcogdmddhkldaa
