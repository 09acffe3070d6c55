/- A ledger in memory: its row of nostros, and all balances in a row. -/
import Derived.Test.YtkcogdmddhkldaaLedPure
import Derived.Test.YtkcogdmddhkldaaGen
import Derived.Test.YtkcogdmddhkldaaEqLed
import Derived.Test.YtkcogdmddhkldaaFwOwn
namespace Go.Proofs.Ytkcogdmddhkldaa
open Go Go.Sy Go.Value
set_option linter.unusedVariables false
set_option linter.unusedSimpArgs false

def ledV (B C : Nat) (S : Lg) : List Value := .slice (some ⟨B, 0, none⟩) S.M.length C :: (intsV .i64 S.N ++ [.int .i64 (S.cur : Int)])
structure LedAt (h : Heap) (p B C : Nat) (sp : List Value) (S : Lg) : Prop where
  ap : At h p (ledV B C S)
  ab : At h B (intsV .i64 S.M.flatten ++ sp)
  ne : p ≠ B
  sz : S.Sz
theorem Lg.Sz.wr {S : Lg} (o : S.Sz) {i c : Nat} {v : Int} (hi : i < S.M.length) (hc : c < 8) (hv : I64 v) : (wrG S i c v).Sz := by
  have hl : (wrM S.M i c v).length = S.M.length := (o.sh.wr hi).1
  refine { n1 := by show 1 ≤ (wrM S.M i c _).length; rw [hl]; exact o.n1, n16 := by show (wrM S.M i c _).length ≤ 16; rw [hl]; exact o.n16, c1 := o.c1, c8 := o.c8, sh := by show shM (wrM S.M i c _) (wrM S.M i c _).length 8; rw [hl]; exact o.sh.wr hi, N8 := o.N8, i64 := fun j d => ?_, n64 := o.n64 }
  show I64 (rdM (wrM S.M i c v) j d)
  rw [rd_wr o.sh hi hc]; split
  · exact hv
  · exact o.i64 j d
theorem Lg.Sz.wn {S : Lg} (o : S.Sz) {c : Nat} {v : Int} (hc : c < 8) (hv : I64 v) : (wnG S c v).Sz := by
  refine { o with N8 := by show (S.N.set c v).length = 8; rw [List.length_set]; exact o.N8, n64 := fun d => ?_ }
  show I64 ((S.N.set c v).getD d 0)
  rw [getD_set _ _ _ _ (by rw [o.N8]; exact hc)]; split
  · exact hv
  · exact o.n64 d
section
variable {h : Heap} {p B C : Nat} {sp : List Value} {S : Lg}
theorem LedAt.le {h' : Heap} (A : LedAt h p B C sp S) (l : h.le h') : LedAt h' p B C sp S := ⟨A.ap.le l, A.ab.le l, A.ne, A.sz⟩
theorem LedAt.rows (A : LedAt h p B C sp S) : h.cell p 0 = some (.slice (some ⟨B, 0, none⟩) S.M.length C) := A.ap.cell rfl
theorem LedAt.cur (A : LedAt h p B C sp S) : h.cell p 9 = some (.int .i64 (S.cur : Int)) := A.ap.cell (by
  show (intsV .i64 S.N ++ [.int .i64 (S.cur : Int)])[8]? = _
  rw [List.getElem?_append_right (by rw [intsV_length, A.sz.N8]; omega), intsV_length, A.sz.N8]; rfl)
theorem LedAt.nos (A : LedAt h p B C sp S) {c : Nat} (hc : c < 8) : h.cell p (0 + 1 + c) = some (.int .i64 (S.N.getD c 0)) := A.ap.cell (by
  rw [Nat.zero_add, Nat.add_comm]
  show (intsV .i64 S.N ++ [.int .i64 (S.cur : Int)])[c]? = _
  have hN := A.sz.N8
  rw [List.getElem?_append_left (by rw [intsV_length]; omega), intsV_map, List.getElem?_map, List.getElem?_eq_getElem (by omega), List.getD_eq_getElem?_getD, List.getElem?_eq_getElem (by omega)]; rfl)
theorem LedAt.el (A : LedAt h p B C sp S) {i c : Nat} (hi : i < S.M.length) (hc : c < 8) : h.cell B (0 + i * 8 + c) = some (.int .i64 (rdM S.M i c)) := A.ab.cell (by
  have hl := flat_len A.sz.sh.2
  have : i * 8 + c < S.M.length * 8 := by omega
  rw [Nat.zero_add, List.getElem?_append_left (by rw [intsV_length, hl]; exact this), intsV_map, List.getElem?_map, flat_get A.sz.sh.2 hi hc]; rfl)
theorem LedAt.stR (A : LedAt h p B C sp S) {i c : Nat} (hi : i < S.M.length) (hc : c < 8) : h.canSt B (0 + i * 8 + c) 1 := A.ab.canSt (by
  rw [List.length_append, intsV_length, flat_len A.sz.sh.2]; omega)
theorem LedAt.stN (A : LedAt h p B C sp S) {c : Nat} (hc : c < 8) : h.canSt p (0 + 1 + c) 1 := A.ap.canSt (by
  unfold ledV
  simp only [List.length_cons, List.length_append, intsV_length, A.sz.N8, List.length_nil]; omega)
theorem setL_ints1 {l : List Int} {sp : List Value} {c : Nat} {v : Int} (h : c < l.length) : setL (intsV .i64 l ++ sp) c [.int .i64 v] = intsV .i64 (l.set c v) ++ sp := by
  rw [setL, setL, setT_eq, List.set_append_left _ _ (by rw [intsV_length]; omega), intsV_map, intsV_map, List.map_set]
theorem LedAt.wrR (A : LedAt h p B C sp S) {i c : Nat} {v : Int} (hi : i < S.M.length) (hc : c < 8) (hv : I64 v) : LedAt (h.setN B (0 + i * 8 + c) [.int .i64 v]) p B C sp (wrG S i c v) := by
  have hl := flat_len A.sz.sh.2
  refine ⟨?_, ?_, A.ne, A.sz.wr hi hc hv⟩
  · have := A.ap.set_ne (o := 0 + i * 8 + c) (ws := [.int .i64 v]) A.ne
    unfold ledV at this ⊢
    rw [show (wrG S i c v).M.length = S.M.length from (A.sz.sh.wr hi).1]
    exact this
  · have := A.ab.set (o := 0 + i * 8 + c) (ws := [.int .i64 v])
    rw [Nat.zero_add, setL_ints1 (by omega), ← flat_set A.sz.sh.2 hi hc] at this
    rw [Nat.zero_add]
    exact this
theorem LedAt.wrN (A : LedAt h p B C sp S) {c : Nat} {v : Int} (hc : c < 8) (hv : I64 v) : LedAt (h.setN p (0 + 1 + c) [.int .i64 v]) p B C sp (wnG S c v) := by
  refine ⟨?_, A.ab.set_ne (fun e => A.ne e.symm), A.ne, A.sz.wn hc hv⟩
  have := A.ap.set (o := 0 + 1 + c) (ws := [.int .i64 v])
  unfold ledV at this ⊢
  rw [Nat.zero_add, Nat.add_comm 1 c] at *
  have e : ∀ (a : Value) (l : List Value), setL (a :: l) (c + 1) [.int .i64 v] = a :: setL l c [.int .i64 v] := fun a l => rfl
  rw [e, setL_ints1 (by rw [A.sz.N8]; exact hc)] at this
  exact this
/-- reading a balance -/
theorem LedAt.get (A : LedAt h p B C sp S) {i c : Nat} (hi : i < S.M.length) (hc : c < 8) {Q : Int → Prop} (kk : Q (rdM S.M i c)) :
    withAddr (some ⟨p, 0, none⟩) fun b o => ∃ a n m, h.cell b o = some (.slice a n m) ∧ 0 ≤ (i : Int) ∧ (i : Int) < (n : Int) ∧
      withAddr a fun b o => Br (decide (0 ≤ (c : Int))) (Br (decide ((c : Int) < 8)) (∃ n, h.cell b (o + (i : Int).toNat * 8 + (c : Int).toNat) = some (.int .i64 n) ∧ Q n) False) False :=
  withAddr_intro rfl ⟨_, _, _, A.rows, by omega, by omega, withAddr_intro rfl (Br.yes (decide_eq_true (by omega)) (Br.yes (decide_eq_true (by omega)) ⟨_, A.el hi hc, kk⟩))⟩
/-- reading a nostro -/
theorem LedAt.getN (A : LedAt h p B C sp S) {c : Nat} (hc : c < 8) {Q : Int → Prop} (kk : Q (S.N.getD c 0)) :
    withAddr (some ⟨p, 0, none⟩) fun b o => Br (decide (0 ≤ (c : Int))) (Br (decide ((c : Int) < 8)) (∃ n, h.cell b (o + 1 + (c : Int).toNat) = some (.int .i64 n) ∧ Q n) False) False :=
  withAddr_intro rfl (Br.yes (decide_eq_true (by omega)) (Br.yes (decide_eq_true (by omega)) ⟨_, A.nos hc, kk⟩))
/-- writing a nostro -/
theorem LedAt.setNo (A : LedAt h p B C sp S) {c : Nat} (hc : c < 8) {v : Int} {R : Heap → Prop} (kk : R (h.setN p (0 + 1 + c) [.int .i64 v])) :
    withAddr (some ⟨p, 0, none⟩) fun b o => Br (decide (0 ≤ (c : Int))) (Br (decide ((c : Int) < 8)) (h.canSt b (o + 1 + (c : Int).toNat) 1 ∧ R (h.setN b (o + 1 + (c : Int).toNat) [.int .i64 v])) False) False :=
  withAddr_intro rfl (Br.yes (decide_eq_true (by omega)) (Br.yes (decide_eq_true (by omega)) ⟨A.stN hc, kk⟩))
end
/-! postings in memory -/
def poV : List Pst → List Value
  | [] => []
  | x :: r => .int .i64 x.m :: .int .i64 x.c :: .int .i64 x.a :: poV r
theorem poV_length : ∀ l, (poV l).length = l.length * 3
  | [] => rfl
  | x :: l => by simp only [poV, List.length_cons, poV_length l]; omega
theorem poV_append : ∀ l m, poV (l ++ m) = poV l ++ poV m
  | [], m => rfl
  | x :: l, m => by simp only [List.cons_append, poV, poV_append l m]
theorem allCells_po : ∀ l, allCells (poV l) = true
  | [] => rfl
  | x :: l => allCells_po l
theorem poV_get : ∀ (l : List Pst) (j : Nat) (x : Pst), l[j]? = some x → (poV l)[j * 3]? = some (.int .i64 x.m) ∧ (poV l)[j * 3 + 1]? = some (.int .i64 x.c) ∧ (poV l)[j * 3 + 2]? = some (.int .i64 x.a)
  | [], j, x, h => by simp at h
  | y :: l, 0, x, h => by
    simp at h
    subst h
    exact ⟨rfl, rfl, rfl⟩
  | y :: l, j + 1, x, h => by
    have := poV_get l j x (by simpa using h)
    have e : ∀ i, (poV (y :: l))[(j + 1) * 3 + i]? = (poV l)[j * 3 + i]? := fun i => by
      rw [show (j + 1) * 3 + i = j * 3 + i + 1 + 1 + 1 from by omega]
      simp only [poV, List.getElem?_cons_succ]
    exact ⟨(e 0).trans this.1, (e 1).trans this.2.1, (e 2).trans this.2.2⟩
def Pos (h : Heap) (p : Option Addr) (l : List Pst) : Prop := rdL h p (poV l)
theorem px {h : Heap} {p : Option Addr} {l : List Pst} {N : Nat} (C : Pos h p l) (hn : l.length = N) {j : Nat} {i : Int} (hi : i = (j : Int)) {x : Pst} (hx : l[j]? = some x) {Q : Int → Int → Int → Prop} (kk : Q x.m x.c x.a) :
    0 ≤ i ∧ i < (N : Int) ∧ withAddr p fun b o => ∃ n, h.cell b (o + i.toNat * 3) = some (.int .i64 n) ∧ ∃ n1, h.cell b (o + i.toNat * 3 + 1) = some (.int .i64 n1) ∧ ∃ n2, h.cell b (o + i.toNat * 3 + 2) = some (.int .i64 n2) ∧ Q n n1 n2 := by
  subst hi hn
  have hj : j < l.length := (List.getElem?_eq_some_iff.1 hx).1
  obtain ⟨g0, g1, g2⟩ := poV_get l j x hx
  rcases C with e | ⟨b, o, e, r⟩
  · have := congrArg List.length e
    rw [poV_length, List.length_nil] at this
    omega
  · rw [Int.toNat_natCast]
    refine ⟨by omega, by omega, withAddr_intro e ⟨_, ?_, _, ?_, _, ?_, kk⟩⟩
    · rw [r _ (by rw [poV_length]; omega), g0]
    · rw [Nat.add_assoc, r _ (by rw [poV_length]; omega), g1]
    · rw [Nat.add_assoc, r _ (by rw [poV_length]; omega), g2]
def poSh : Sh := .two (.int .i64) (.two (.int .i64) (.two (.int .i64) .nil))
theorem pos_of {h : Heap} {p : Option Addr} {n c : Nat} (H : (Sh.sl poSh).Has h [.slice p n c]) : n ≤ c ∧ c ≤ 9223372036854775807 ∧ ∃ L : List Pst, L.length = n ∧ Pos h p L ∧ ∀ x ∈ L, I64 x.m ∧ I64 x.c ∧ I64 x.a := by
  obtain ⟨h1, h2, L, hL, hA, hR⟩ := Sh.Has.list H
  refine ⟨h1, h2, ?_⟩
  have : ∀ L : List (List Value), (∀ vs ∈ L, vs.length = poSh.n ∧ poSh.Has h vs) → ∃ l : List Pst, l.length = L.length ∧ L.flatten = poV l ∧ ∀ x ∈ l, I64 x.m ∧ I64 x.c ∧ I64 x.a := by
    intro L
    induction L with
    | nil => exact fun _ => ⟨[], rfl, rfl, fun _ hn => (by cases hn)⟩
    | cons a L ih =>
      intro hA
      obtain ⟨l, e1, e2, e3⟩ := ih (fun vs hv => hA vs (List.mem_cons_of_mem _ hv))
      have ha := (hA a (List.mem_cons_self ..)).2
      obtain ⟨a1, r1, rfl, _, ⟨n1, rfl, w1⟩, a2, r2, rfl, _, ⟨n2, rfl, w2⟩, a3, r3, rfl, _, ⟨n3, rfl, w3⟩, hnil⟩ := ha
      have hnil : r3 = [] := hnil
      subst hnil
      refine ⟨⟨n1, n2, n3⟩ :: l, by simp [e1], ?_, fun x hx => ?_⟩
      · rw [List.flatten_cons, e2]; rfl
      · rcases List.mem_cons.1 hx with rfl | hx
        · exact ⟨I64.of_wf w1, I64.of_wf w2, I64.of_wf w3⟩
        · exact e3 x hx
  obtain ⟨l, e1, e2, e3⟩ := this L hA
  exact ⟨l, by rw [e1, hL], by unfold Pos; rw [← e2]; exact hR, e3⟩
end Go.Proofs.Ytkcogdmddhkldaa
