import Derived.Test.YtghdadniddoboaaGreatM11
import Derived.Test.YtghdadniddoboaaGreatM07
import Derived.Test.YtghdadniddoboaaGreatM04
import Derived.Test.YtghdadniddoboaaGreatM02
import Derived.Test.YtghdadniddoboaaGreatM08
import Derived.Test.YtghdadniddoboaaGreatM05
/- A ledger in memory: its row of nostros, and all balances in a row. -/
namespace Go.Proofs.YtghdadniddoboaaGreat
open Go Go.Sy Go.Value
set_option linter.unusedVariables false
set_option linter.unusedSimpArgs false

def ledV (B C : Nat) (S : Lg) : List Value := .slice (some ⟨B, 0, none⟩) S.M.length C :: (intsV .i64 S.N ++ [.int .i64 (S.cur : Int)])
structure LedAt (h : Heap) (p B C : Nat) (sp : List Value) (S : Lg) : Prop where
  ap : At h p (ledV B C S)
  ab : At h B (intsV .i64 S.M.flatten ++ sp)
  ne : p ≠ B
  sz : S.Sz
theorem Lg.Sz.wr {S : Lg} (o : S.Sz) {i c : Nat} {v : Int} (hi : i < S.M.length) (hc : c < 8) (hv : I64 v) : (wrG S i c v).Sz := by
  have hl : (wrM S.M i c v).length = S.M.length := (o.sh.wr hi).1
  refine { n1 := by show 1 ≤ (wrM S.M i c _).length; rw [hl]; exact o.n1, n16 := by show (wrM S.M i c _).length ≤ 16; rw [hl]; exact o.n16, c1 := o.c1, c8 := o.c8, sh := by show shM (wrM S.M i c _) (wrM S.M i c _).length 8; rw [hl]; exact o.sh.wr hi, N8 := o.N8, i64 := fun j d => ?_, n64 := o.n64 }
  show I64 (rdM (wrM S.M i c v) j d)
  rw [rd_wr o.sh hi hc]; split
  · exact hv
  · exact o.i64 j d
theorem Lg.Sz.wn {S : Lg} (o : S.Sz) {c : Nat} {v : Int} (hc : c < 8) (hv : I64 v) : (wnG S c v).Sz := by
  refine { o with N8 := by show (S.N.set c v).length = 8; rw [List.length_set]; exact o.N8, n64 := fun d => ?_ }
  show I64 ((S.N.set c v).getD d 0)
  rw [getD_set _ _ _ _ (by rw [o.N8]; exact hc)]; split
  · exact hv
  · exact o.n64 d
section
variable {h : Heap} {p B C : Nat} {sp : List Value} {S : Lg}
theorem LedAt.le {h' : Heap} (A : LedAt h p B C sp S) (l : h.le h') : LedAt h' p B C sp S := ⟨A.ap.le l, A.ab.le l, A.ne, A.sz⟩
theorem LedAt.rows (A : LedAt h p B C sp S) : h.cell p 0 = some (.slice (some ⟨B, 0, none⟩) S.M.length C) := A.ap.cell rfl
theorem LedAt.cur (A : LedAt h p B C sp S) : h.cell p 9 = some (.int .i64 (S.cur : Int)) := A.ap.cell (by
  show (intsV .i64 S.N ++ [.int .i64 (S.cur : Int)])[8]? = _
  rw [List.getElem?_append_right (by rw [intsV_length, A.sz.N8]; omega), intsV_length, A.sz.N8]; rfl)
theorem LedAt.nos (A : LedAt h p B C sp S) {c : Nat} (hc : c < 8) : h.cell p (0 + 1 + c) = some (.int .i64 (S.N.getD c 0)) := A.ap.cell (by
  rw [Nat.zero_add, Nat.add_comm]
  show (intsV .i64 S.N ++ [.int .i64 (S.cur : Int)])[c]? = _
  have hN := A.sz.N8
  rw [List.getElem?_append_left (by rw [intsV_length]; omega), intsV_map, List.getElem?_map, List.getElem?_eq_getElem (by omega), List.getD_eq_getElem?_getD, List.getElem?_eq_getElem (by omega)]; rfl)
theorem LedAt.el (A : LedAt h p B C sp S) {i c : Nat} (hi : i < S.M.length) (hc : c < 8) : h.cell B (0 + i * 8 + c) = some (.int .i64 (rdM S.M i c)) := A.ab.cell (by
  have hl := flat_len A.sz.sh.2
  have : i * 8 + c < S.M.length * 8 := by omega
  rw [Nat.zero_add, List.getElem?_append_left (by rw [intsV_length, hl]; exact this), intsV_map, List.getElem?_map, flat_get A.sz.sh.2 hi hc]; rfl)
theorem LedAt.stR (A : LedAt h p B C sp S) {i c : Nat} (hi : i < S.M.length) (hc : c < 8) : h.canSt B (0 + i * 8 + c) 1 := A.ab.canSt (by
  rw [List.length_append, intsV_length, flat_len A.sz.sh.2]; omega)
theorem LedAt.stN (A : LedAt h p B C sp S) {c : Nat} (hc : c < 8) : h.canSt p (0 + 1 + c) 1 := A.ap.canSt (by
  unfold ledV
  simp only [List.length_cons, List.length_append, intsV_length, A.sz.N8, List.length_nil]; omega)
theorem setL_ints1 {l : List Int} {sp : List Value} {c : Nat} {v : Int} (h : c < l.length) : setL (intsV .i64 l ++ sp) c [.int .i64 v] = intsV .i64 (l.set c v) ++ sp := by
  rw [setL, setL, setT_eq, List.set_append_left _ _ (by rw [intsV_length]; omega), intsV_map, intsV_map, List.map_set]
theorem LedAt.wrR (A : LedAt h p B C sp S) {i c : Nat} {v : Int} (hi : i < S.M.length) (hc : c < 8) (hv : I64 v) : LedAt (h.setN B (0 + i * 8 + c) [.int .i64 v]) p B C sp (wrG S i c v) := by
  have hl := flat_len A.sz.sh.2
  refine ⟨?_, ?_, A.ne, A.sz.wr hi hc hv⟩
  · have := A.ap.set_ne (o := 0 + i * 8 + c) (ws := [.int .i64 v]) A.ne
    unfold ledV at this ⊢
    rw [show (wrG S i c v).M.length = S.M.length from (A.sz.sh.wr hi).1]
    exact this
  · have := A.ab.set (o := 0 + i * 8 + c) (ws := [.int .i64 v])
    rw [Nat.zero_add, setL_ints1 (by omega), ← flat_set A.sz.sh.2 hi hc] at this
    rw [Nat.zero_add]
    exact this
theorem LedAt.wrN (A : LedAt h p B C sp S) {c : Nat} {v : Int} (hc : c < 8) (hv : I64 v) : LedAt (h.setN p (0 + 1 + c) [.int .i64 v]) p B C sp (wnG S c v) := by
  refine ⟨?_, A.ab.set_ne (fun e => A.ne e.symm), A.ne, A.sz.wn hc hv⟩
  have := A.ap.set (o := 0 + 1 + c) (ws := [.int .i64 v])
  unfold ledV at this ⊢
  rw [Nat.zero_add, Nat.add_comm 1 c] at *
  have e : ∀ (a : Value) (l : List Value), setL (a :: l) (c + 1) [.int .i64 v] = a :: setL l c [.int .i64 v] := fun a l => rfl
  rw [e, setL_ints1 (by rw [A.sz.N8]; exact hc)] at this
  exact this
theorem LedAt.get (A : LedAt h p B C sp S) {i c : Nat} (hi : i < S.M.length) (hc : c < 8) {Q : Int → Prop} (kk : Q (rdM S.M i c)) :
    withAddr (some ⟨p, 0, none⟩) fun b o => ∃ a n m, h.cell b o = some (.slice a n m) ∧ 0 ≤ (i : Int) ∧ (i : Int) < (n : Int) ∧
      withAddr a fun b o => Br (decide (0 ≤ (c : Int))) (Br (decide ((c : Int) < 8)) (∃ n, h.cell b (o + (i : Int).toNat * 8 + (c : Int).toNat) = some (.int .i64 n) ∧ Q n) False) False :=
  withAddr_intro rfl ⟨_, _, _, A.rows, by omega, by omega, withAddr_intro rfl (Br.yes (decide_eq_true (by omega)) (Br.yes (decide_eq_true (by omega)) ⟨_, A.el hi hc, kk⟩))⟩
theorem LedAt.getN (A : LedAt h p B C sp S) {c : Nat} (hc : c < 8) {Q : Int → Prop} (kk : Q (S.N.getD c 0)) :
    withAddr (some ⟨p, 0, none⟩) fun b o => Br (decide (0 ≤ (c : Int))) (Br (decide ((c : Int) < 8)) (∃ n, h.cell b (o + 1 + (c : Int).toNat) = some (.int .i64 n) ∧ Q n) False) False :=
  withAddr_intro rfl (Br.yes (decide_eq_true (by omega)) (Br.yes (decide_eq_true (by omega)) ⟨_, A.nos hc, kk⟩))
end
/-! postings in memory -/
def poV : List Pst → List Value
  | [] => []
  | x :: r => .int .i64 x.m :: .int .i64 x.c :: .int .i64 x.a :: poV r
theorem poV_length : ∀ l, (poV l).length = l.length * 3
  | [] => rfl
  | x :: l => by simp only [poV, List.length_cons, poV_length l]; omega
theorem poV_get : ∀ (l : List Pst) (j : Nat) (x : Pst), l[j]? = some x → (poV l)[j * 3]? = some (.int .i64 x.m) ∧ (poV l)[j * 3 + 1]? = some (.int .i64 x.c) ∧ (poV l)[j * 3 + 2]? = some (.int .i64 x.a)
  | [], j, x, h => by simp at h
  | y :: l, 0, x, h => by
    simp at h
    subst h
    exact ⟨rfl, rfl, rfl⟩
  | y :: l, j + 1, x, h => by
    have := poV_get l j x (by simpa using h)
    have e : ∀ i, (poV (y :: l))[(j + 1) * 3 + i]? = (poV l)[j * 3 + i]? := fun i => by
      rw [show (j + 1) * 3 + i = j * 3 + i + 1 + 1 + 1 from by omega]
      simp only [poV, List.getElem?_cons_succ]
    exact ⟨(e 0).trans this.1, (e 1).trans this.2.1, (e 2).trans this.2.2⟩
def Pos (h : Heap) (p : Option Addr) (l : List Pst) : Prop := rdL h p (poV l)
theorem px {h : Heap} {p : Option Addr} {l : List Pst} {N : Nat} (C : Pos h p l) (hn : l.length = N) {j : Nat} {i : Int} (hi : i = (j : Int)) {x : Pst} (hx : l[j]? = some x) {Q : Int → Int → Int → Prop} (kk : Q x.m x.c x.a) :
    0 ≤ i ∧ i < (N : Int) ∧ withAddr p fun b o => ∃ n, h.cell b (o + i.toNat * 3) = some (.int .i64 n) ∧ ∃ n1, h.cell b (o + i.toNat * 3 + 1) = some (.int .i64 n1) ∧ ∃ n2, h.cell b (o + i.toNat * 3 + 2) = some (.int .i64 n2) ∧ Q n n1 n2 := by
  subst hi hn
  have hj : j < l.length := (List.getElem?_eq_some_iff.1 hx).1
  obtain ⟨g0, g1, g2⟩ := poV_get l j x hx
  rcases C with e | ⟨b, o, e, r⟩
  · have := congrArg List.length e
    rw [poV_length, List.length_nil] at this
    omega
  · rw [Int.toNat_natCast]
    refine ⟨by omega, by omega, withAddr_intro e ⟨_, ?_, _, ?_, _, ?_, kk⟩⟩
    · rw [r _ (by rw [poV_length]; omega), g0]
    · rw [Nat.add_assoc, r _ (by rw [poV_length]; omega), g1]
    · rw [Nat.add_assoc, r _ (by rw [poV_length]; omega), g2]
def poSh : Sh := .two (.int .i64) (.two (.int .i64) (.two (.int .i64) .nil))
theorem pos_of {h : Heap} {p : Option Addr} {n c : Nat} (H : (Sh.sl poSh).Has h [.slice p n c]) : n ≤ c ∧ c ≤ 9223372036854775807 ∧ ∃ L : List Pst, L.length = n ∧ Pos h p L ∧ ∀ x ∈ L, I64 x.m ∧ I64 x.c ∧ I64 x.a := by
  obtain ⟨h1, h2, L, hL, hA, hR⟩ := Sh.Has.list H
  refine ⟨h1, h2, ?_⟩
  have : ∀ L : List (List Value), (∀ vs ∈ L, vs.length = poSh.n ∧ poSh.Has h vs) → ∃ l : List Pst, l.length = L.length ∧ L.flatten = poV l ∧ ∀ x ∈ l, I64 x.m ∧ I64 x.c ∧ I64 x.a := by
    intro L
    induction L with
    | nil => exact fun _ => ⟨[], rfl, rfl, fun _ hn => (by cases hn)⟩
    | cons a L ih =>
      intro hA
      obtain ⟨l, e1, e2, e3⟩ := ih (fun vs hv => hA vs (List.mem_cons_of_mem _ hv))
      have ha := (hA a (List.mem_cons_self ..)).2
      obtain ⟨a1, r1, rfl, _, ⟨n1, rfl, w1⟩, a2, r2, rfl, _, ⟨n2, rfl, w2⟩, a3, r3, rfl, _, ⟨n3, rfl, w3⟩, hnil⟩ := ha
      have hnil : r3 = [] := hnil
      subst hnil
      refine ⟨⟨n1, n2, n3⟩ :: l, by simp [e1], ?_, fun x hx => ?_⟩
      · rw [List.flatten_cons, e2]; rfl
      · rcases List.mem_cons.1 hx with rfl | hx
        · exact ⟨I64.of_wf w1, I64.of_wf w2, I64.of_wf w3⟩
        · exact e3 x hx
  obtain ⟨l, e1, e2, e3⟩ := this L hA
  exact ⟨l, by rw [e1, hL], by unfold Pos; rw [← e2]; exact hR, e3⟩
end Go.Proofs.YtghdadniddoboaaGreat

/- The ledger's operations: what each answers, and what stands in memory then. -/
namespace Go.Proofs.YtghdadniddoboaaGreat
open Go Go.Sy Go.Value
set_option linter.unusedVariables false
set_option linter.unusedSimpArgs false
section
variable {h0 h : Heap} {K : Value → Heap → Prop} {p B C : Nat} {sp : List Value} {S : Lg}
theorem S_lhas (A : LedAt h p B C sp S) {m c : Int} (k : K (.bool (hasB S m c)) h) : CallA Tryz.prog fn_pledger_Ledger_has [pointer (some ⟨p, 0, none⟩), .int .i64 m, .int .i64 c] h K := by
  refine F_pledger_Ledger_has _ _ _ _ _ ?_
  unfold F_pledger_Ledger_hasT
  unfold hasB at k
  refine Br.dec (fun h1 => withAddr_intro rfl ⟨_, _, _, A.rows, Br.dec (fun h2 => Br.dec (fun h3 => withAddr_intro rfl ⟨_, A.cur, Ret.mk ?_⟩) fun h3 => Ret.mk ?_) fun h2 => Ret.mk ?_⟩) fun h1 => Ret.mk ?_
  · have e : decide (0 ≤ m ∧ m < (S.M.length : Int) ∧ 0 ≤ c ∧ c < (S.cur : Int)) = decide (c < (S.cur : Int)) := decide_eq_decide.2 ⟨fun x => x.2.2.2, fun x => ⟨h1, h2, h3, x⟩⟩
    rw [e] at k; exact k
  · rw [decide_eq_false (fun x => h3 x.2.2.1)] at k; exact k
  · rw [decide_eq_false (fun x => h2 x.2.1)] at k; exact k
  · rw [decide_eq_false (fun x => h1 x.1)] at k; exact k
theorem S_lGet (A : LedAt h p B C sp S) {m c : Int} (k : K (.int .i64 (getG S m c)) h) : CallA Tryz.prog fn_pledger_Ledger_Get [pointer (some ⟨p, 0, none⟩), .int .i64 m, .int .i64 c] h K := by
  refine F_pledger_Ledger_Get _ _ _ _ _ ?_
  unfold F_pledger_Ledger_GetT
  refine S_lhas A ⟨_, rfl, ?_⟩
  unfold getG at k
  cases hb : hasB S m c with
  | false => rw [hb, if_neg (by decide)] at k; exact Br.yes rfl (Ret.mk k)
  | true =>
    rw [hb, if_pos rfl] at k
    obtain ⟨i, j, rfl, rfl, hi, hj⟩ := hasB_t hb
    have := A.sz.c8
    exact Br.no rfl (A.get hi (by omega) (Ret.mk k))
theorem S_lNostro (A : LedAt h p B C sp S) {c : Int} (k : K (.int .i64 (nosG S c)) h) : CallA Tryz.prog fn_pledger_Ledger_Nostro [pointer (some ⟨p, 0, none⟩), .int .i64 c] h K := by
  refine F_pledger_Ledger_Nostro _ _ _ _ ?_
  unfold F_pledger_Ledger_NostroT
  refine S_lhas A ⟨_, rfl, ?_⟩
  unfold nosG at k
  cases hb : hasB S 0 c with
  | false => rw [hb, if_neg (by decide)] at k; exact Br.yes rfl (Ret.mk k)
  | true =>
    rw [hb, if_pos rfl] at k
    obtain ⟨i, j, e, rfl, hi, hj⟩ := hasB_t hb
    have := A.sz.c8
    exact Br.no rfl (A.getN (by omega) (Ret.mk k))
theorem S_lSize (A : LedAt h p B C sp S) (k : K (tuple #[.int .i64 (S.M.length : Int), .int .i64 (S.cur : Int)]) h) : CallA Tryz.prog fn_pledger_Ledger_Size [pointer (some ⟨p, 0, none⟩)] h K := by
  refine F_pledger_Ledger_Size _ _ _ ?_
  unfold F_pledger_Ledger_SizeT
  exact withAddr_intro rfl ⟨_, _, _, A.rows, withAddr_intro rfl ⟨_, A.cur, Ret.mk k⟩⟩
theorem repL_zeros8 (n : Nat) : repL n [Value.int .i64 0, .int .i64 0, .int .i64 0, .int .i64 0, .int .i64 0, .int .i64 0, .int .i64 0, .int .i64 0] = intsV .i64 (List.replicate n (List.replicate 8 (0 : Int))).flatten := by
  induction n with
  | zero => rfl
  | succ n ih => rw [List.replicate_succ, List.flatten_cons, intsV_append, ← ih]; rfl
theorem S_lNew {m c : Int} (k1 : ¬ (1 ≤ m ∧ m ≤ 16 ∧ 1 ≤ c ∧ c ≤ 8) → K (tuple #[.pointer none, .int .i64 1]) h)
    (k2 : ∀ n w : Nat, m = (n : Int) → c = (w : Int) → 1 ≤ n → n ≤ 16 → 1 ≤ w → w ≤ 8 → ∀ h' p B C sp, h.le h' → LedAt h' p B C sp (newG n w) → h p = none → h B = none → K (tuple #[.pointer (some ⟨p, 0, none⟩), .int .i64 0]) h') :
    CallA Tryz.prog fn_ledger_New [.int .i64 m, .int .i64 c] h K := by
  refine F_ledger_New _ _ _ _ ?_
  unfold F_ledger_NewT
  refine Br.dec (fun h1 => Ret.mk (k1 (by omega))) fun h1 => Br.dec (fun h2 => Ret.mk (k1 (by omega))) fun h2 => Br.dec (fun h3 => Ret.mk (k1 (by omega))) fun h3 => Br.dec (fun h4 => Ret.mk (k1 (by omega))) fun h4 => ?_
  obtain ⟨n, rfl⟩ : ∃ n : Nat, m = n := ⟨m.toNat, by omega⟩
  obtain ⟨w, rfl⟩ : ∃ w : Nat, c = w := ⟨c.toNat, by omega⟩
  refine ⟨by omega, by omega, by omega, by omega, fun r hr r2 hr2 => ?_⟩
  rw [Int.toNat_natCast] at hr2 ⊢
  have hne : r ≠ r2 := fun e => by rw [← e] at hr2; unfold Heap.ins at hr2; rw [if_pos rfl] at hr2; cases hr2
  refine Ret.mk (k2 n w rfl rfl (by omega) (by omega) (by omega) (by omega) _ r2 r n [] (le_ins2 (le_ins hr) hr2) ⟨?_, ?_, fun e => hne e.symm, (newG_ok (by omega) (by omega) (by omega) (by omega)).toSz⟩ (none_of_le (le_ins hr) hr2) hr)
  · have := At.new (h.ins r (.cells (repL n [Value.int .i64 0, .int .i64 0, .int .i64 0, .int .i64 0, .int .i64 0, .int .i64 0, .int .i64 0, .int .i64 0]).toArray 69 (0, 0))) r2 (ledV r n (newG n w)) 71
    unfold ledV newG at this ⊢
    rw [List.length_replicate] at this ⊢
    exact this
  · have := (At.new h r (repL n [Value.int .i64 0, .int .i64 0, .int .i64 0, .int .i64 0, .int .i64 0, .int .i64 0, .int .i64 0, .int .i64 0]) 69).ins (x := .cells [slice (some ⟨r, 0, none⟩) n n, .int .i64 0, .int .i64 0, .int .i64 0, .int .i64 0, .int .i64 0, .int .i64 0, .int .i64 0, .int .i64 0, .int .i64 (w : Int)].toArray 71 (0, 0)) hr2
    rw [List.append_nil, show (newG n w).M.flatten = (List.replicate n (List.replicate 8 (0 : Int))).flatten from rfl, ← repL_zeros8]
    exact this
theorem fit_I (a : Int) : I64 (fit a).1 := by
  unfold fit I64
  split
  · assumption
  · decide
theorem br8 {c : Nat} (hc : c < 8) {X : Prop} (k : X) : Br (decide (0 ≤ (c : Int))) (Br (decide ((c : Int) < 8)) X False) False := Br.yes (decide_eq_true (by omega)) (Br.yes (decide_eq_true (by omega)) k)
theorem S_lIn (l0 : h0.le h) (np : h0 p = none) (nB : h0 B = none) (A : LedAt h p B C sp S) {m c a : Int} (ha : I64 a)
    (k : ∀ h', h0.le h' → LedAt h' p B C sp (inG S m c a).2 → K (.int .i64 (inG S m c a).1) h') : CallA Tryz.prog fn_pledger_Ledger_In [pointer (some ⟨p, 0, none⟩), .int .i64 m, .int .i64 c, .int .i64 a] h K := by
  refine F_pledger_Ledger_In _ _ _ _ _ _ ?_
  unfold F_pledger_Ledger_InT
  refine S_lhas A ⟨_, rfl, ?_⟩
  unfold inG at k
  by_cases hb : hasB S m c = false
  · rw [if_pos hb] at k
    rw [hb]
    exact Br.yes rfl (Ret.mk (k h l0 A))
  rw [if_neg hb] at k
  have hb : hasB S m c = true := by simpa using hb
  rw [hb]
  obtain ⟨i, j, rfl, rfl, hi, hj⟩ := hasB_t hb
  have h8 := A.sz.c8
  have hj8 : j < 8 := by omega
  refine Br.no rfl (Br.dec (fun h2 => ?_) fun h2 => ?_)
  · rw [if_pos h2] at k
    exact Ret.mk (k h l0 A)
  rw [if_neg h2] at k
  refine A.get hi hj8 (S_Add (A.sz.i64 i j) ha h _ ⟨_, _, rfl, A.getN hj8 (S_Add (A.sz.n64 j) ha h _ ⟨_, _, rfl, ?_⟩)⟩)
  simp only [Int.toNat_natCast] at k ⊢
  by_cases h3 : (fit (rdM S.M i j + a)).2 ≠ 0
  · rw [if_pos h3] at k
    exact Br.yes (by simpa using h3) (Ret.mk (k h l0 A))
  rw [if_neg h3] at k
  by_cases h4 : (fit (S.N.getD j 0 + a)).2 ≠ 0
  · rw [if_pos h4] at k
    exact Br.no (by simpa using h3) (Br.yes (by simpa using h4) (Ret.mk (k h l0 A)))
  rw [if_neg h4, ← fit_e h3, ← fit_e h4] at k
  have A1 := A.wrR (v := (fit (rdM S.M i j + a)).1) hi hj8 (fit_I _)
  have A2 := A1.wrN (v := (fit (S.N.getD j 0 + a)).1) hj8 (fit_I _)
  exact Br.no (by simpa using h3) (Br.no (by simpa using h4) (withAddr_intro rfl ⟨_, _, _, A.rows, by omega, by omega, withAddr_intro rfl (Br.yes (decide_eq_true (by omega)) (Br.yes (decide_eq_true (by omega)) (withAddr_intro rfl ⟨A.stR hi hj8,
    Br.yes (decide_eq_true (by omega)) (Br.yes (decide_eq_true (by omega)) ⟨A1.stN hj8, Ret.mk (k _ (le_setN (le_setN l0 nB) np) A2)⟩)⟩)))⟩))
theorem S_lOut (l0 : h0.le h) (np : h0 p = none) (nB : h0 B = none) (A : LedAt h p B C sp S) {m c a : Int} (ha : I64 a)
    (k : ∀ h', h0.le h' → LedAt h' p B C sp (outG S m c a).2 → K (.int .i64 (outG S m c a).1) h') : CallA Tryz.prog fn_pledger_Ledger_Out [pointer (some ⟨p, 0, none⟩), .int .i64 m, .int .i64 c, .int .i64 a] h K := by
  refine F_pledger_Ledger_Out _ _ _ _ _ _ ?_
  unfold F_pledger_Ledger_OutT
  refine S_lhas A ⟨_, rfl, ?_⟩
  unfold outG at k
  by_cases hb : hasB S m c = false
  · rw [if_pos hb] at k
    rw [hb]
    exact Br.yes rfl (Ret.mk (k h l0 A))
  rw [if_neg hb] at k
  have hb : hasB S m c = true := by simpa using hb
  rw [hb]
  obtain ⟨i, j, rfl, rfl, hi, hj⟩ := hasB_t hb
  have h8 := A.sz.c8
  have hj8 : j < 8 := by omega
  refine Br.no rfl (Br.dec (fun h2 => ?_) fun h2 => ?_)
  · rw [if_pos h2] at k
    exact Ret.mk (k h l0 A)
  rw [if_neg h2] at k
  simp only [Int.toNat_natCast] at k
  have g1 := A.sz.i64 i j
  have g2 := A.sz.n64 j
  unfold I64 at g1 g2 ha
  refine A.get hi hj8 (Br.dec (fun h3 => ?_) fun h3 => ?_)
  · rw [if_pos h3] at k
    exact Ret.mk (k h l0 A)
  rw [if_neg h3] at k
  refine A.getN hj8 (Br.dec (fun h4 => ?_) fun h4 => ?_)
  · rw [if_pos h4] at k
    exact Ret.mk (k h l0 A)
  rw [if_neg h4] at k
  have e1 : IntKind.wrap IntKind.i64 (rdM S.M i j - a) = rdM S.M i j - a := wrap_i64_id (by omega) (by omega)
  have e2 : IntKind.wrap IntKind.i64 (S.N.getD j 0 - a) = S.N.getD j 0 - a := wrap_i64_id (by omega) (by omega)
  rw [← e1, ← e2] at k
  have A1 := A.wrR (v := IntKind.wrap IntKind.i64 (rdM S.M i j - a)) hi hj8 (by rw [e1]; unfold I64; omega)
  have A2 := A1.wrN (v := IntKind.wrap IntKind.i64 (S.N.getD j 0 - a)) hj8 (by rw [e2]; unfold I64; omega)
  exact withAddr_intro rfl ⟨_, _, _, A.rows, by omega, by omega, withAddr_intro rfl (br8 hj8 ⟨_, A.el hi hj8, by omega, by omega, withAddr_intro rfl (br8 hj8 ⟨A.stR hi hj8, withAddr_intro rfl (br8 hj8 ⟨_, A1.nos hj8, withAddr_intro rfl (br8 hj8 ⟨A1.stN hj8, Ret.mk (k _ (le_setN (le_setN l0 nB) np) A2)⟩)⟩)⟩)⟩)⟩
theorem S_lSwap (l0 : h0.le h) (np : h0 p = none) (nB : h0 B = none) (A : LedAt h p B C sp S) {m get give got given : Int} (ha : I64 got) (hb : I64 given)
    (k : ∀ h', h0.le h' → LedAt h' p B C sp (swapG S m get give got given).2 → K (.int .i64 (swapG S m get give got given).1) h') :
    CallA Tryz.prog fn_pledger_Ledger_Swap [pointer (some ⟨p, 0, none⟩), .int .i64 m, .int .i64 get, .int .i64 give, .int .i64 got, .int .i64 given] h K := by
  refine F_pledger_Ledger_Swap _ _ _ _ _ _ _ _ ?_
  unfold F_pledger_Ledger_SwapT
  unfold swapG at k
  refine S_lhas A ⟨_, rfl, ?_⟩
  by_cases h1 : hasB S m get = false
  · rw [if_pos h1] at k
    rw [h1]
    exact Br.yes rfl (Ret.mk (k h l0 A))
  rw [if_neg h1] at k
  have h1 : hasB S m get = true := by simpa using h1
  rw [h1]
  refine Br.no rfl (S_lhas A ⟨_, rfl, ?_⟩)
  by_cases h2 : hasB S m give = false
  · rw [if_pos h2] at k
    rw [h2]
    exact Br.yes rfl (Ret.mk (k h l0 A))
  rw [if_neg h2] at k
  have h2 : hasB S m give = true := by simpa using h2
  rw [h2]
  by_cases h3 : get = give
  · rw [if_pos h3] at k
    exact Br.no rfl (Br.yes (by simpa using h3) (Ret.mk (k h l0 A)))
  rw [if_neg h3] at k
  refine Br.no rfl (Br.no (by simpa using h3) (Br.dec (fun h4 => ?_) fun h4 => ?_))
  · rw [if_pos h4] at k
    exact Ret.mk (k h l0 A)
  rw [if_neg h4] at k
  refine Br.dec (fun h5 => ?_) fun h5 => ?_
  · rw [if_pos h5] at k
    exact Ret.mk (k h l0 A)
  rw [if_neg h5] at k
  obtain ⟨i, j, rfl, rfl, hi, hj⟩ := hasB_t h1
  obtain ⟨i', v, e, rfl, _, hv⟩ := hasB_t h2
  have h8 := A.sz.c8
  have hj8 : j < 8 := by omega
  have hv8 : v < 8 := by omega
  have hne : v ≠ j := fun e => h3 (by rw [e])
  simp only [Int.toNat_natCast] at k
  refine A.getN hv8 (Br.dec (fun h6 => ?_) fun h6 => ?_)
  · rw [if_pos h6] at k
    exact Ret.mk (k h l0 A)
  rw [if_neg h6] at k
  refine A.get hi hj8 (S_Add (A.sz.i64 i j) ha h _ ⟨_, _, rfl, A.getN hj8 (S_Add (A.sz.n64 j) ha h _ ⟨_, _, rfl, A.get hi hv8 (S_Sub (A.sz.i64 i v) hb h _ ⟨_, _, rfl, ?_⟩)⟩)⟩)
  by_cases h7 : (fit (rdM S.M i j + got)).2 ≠ 0
  · rw [if_pos h7] at k
    exact Br.yes (by simpa using h7) (Ret.mk (k h l0 A))
  rw [if_neg h7] at k
  by_cases h9 : (fit (S.N.getD j 0 + got)).2 ≠ 0
  · rw [if_pos h9] at k
    exact Br.no (by simpa using h7) (Br.yes (by simpa using h9) (Ret.mk (k h l0 A)))
  rw [if_neg h9] at k
  by_cases h10 : (fit (rdM S.M i v - given)).2 ≠ 0
  · rw [if_pos h10] at k
    exact Br.no (by simpa using h7) (Br.no (by simpa using h9) (Br.yes (by simpa using h10) (Ret.mk (k h l0 A))))
  have g2 := A.sz.n64 v
  unfold I64 at g2 hb
  have e2 : IntKind.wrap IntKind.i64 (S.N.getD v 0 - given) = S.N.getD v 0 - given := wrap_i64_id (by omega) (by omega)
  rw [if_neg h10, ← fit_e h7, ← fit_e h9, ← fit_e h10, ← e2] at k
  have A1 := A.wrR (v := (fit (rdM S.M i j + got)).1) hi hj8 (fit_I _)
  have A2 := A1.wrN (v := (fit (S.N.getD j 0 + got)).1) hj8 (fit_I _)
  have hl : (wnG (wrG S i j (fit (rdM S.M i j + got)).1) j (fit (S.N.getD j 0 + got)).1).M.length = S.M.length := (A.sz.sh.wr hi).1
  have A3 := A2.wrR (i := i) (c := v) (v := (fit (rdM S.M i v - given)).1) (by rw [hl]; exact hi) hv8 (fit_I _)
  have A4 := A3.wrN (c := v) (v := IntKind.wrap IntKind.i64 (S.N.getD v 0 - given)) hv8 (by rw [e2]; unfold I64; omega)
  have hnos := A3.nos hv8
  have e3 : (wrG (wnG (wrG S i j (fit (rdM S.M i j + got)).1) j (fit (S.N.getD j 0 + got)).1) i v (fit (rdM S.M i v - given)).1).N.getD v 0 = S.N.getD v 0 := by
    show (S.N.set j _).getD v 0 = _
    rw [getD_set _ _ _ _ (by rw [A.sz.N8]; exact hj8), if_neg hne]
  rw [e3] at hnos
  refine Br.no (by simpa using h7) (Br.no (by simpa using h9) (Br.no (by simpa using h10) ?_))
  exact withAddr_intro rfl ⟨_, _, _, A.rows, withAddr_intro rfl ⟨_, _, _, A.rows, by omega, by omega, withAddr_intro rfl (br8 hj8 (withAddr_intro rfl ⟨by omega, by omega, withAddr_intro rfl ⟨A.stR hi hj8, br8 hj8 ⟨A1.stN hj8, br8 hv8 ⟨A2.stR (by rw [hl]; exact hi) hv8,
    withAddr_intro rfl (br8 hv8 ⟨_, hnos, withAddr_intro rfl (br8 hv8 ⟨A3.stN hv8, Ret.mk (k _ (le_setN (le_setN (le_setN (le_setN l0 nB) np) nB) np) A4)⟩)⟩)⟩⟩⟩⟩))⟩⟩
end
end Go.Proofs.YtghdadniddoboaaGreat

/- A member's balances, taken anew. -/
namespace Go.Proofs.YtghdadniddoboaaGreat
open Go Go.Sy Go.Value
set_option linter.unusedVariables false
set_option linter.unusedSimpArgs false

def rowG (S : Lg) (m : Int) (j : Nat) : List Int := (List.range j).map fun c : Nat => getG S m (c : Int)
theorem rowG_len (S : Lg) (m : Int) (j : Nat) : (rowG S m j).length = j := by unfold rowG; rw [List.length_map, List.length_range]
theorem rowG_succ (S : Lg) (m : Int) (j : Nat) : rowG S m (j + 1) = rowG S m j ++ [getG S m (j : Int)] := by unfold rowG; rw [List.range_succ, List.map_append]; rfl
theorem getG_I {S : Lg} (o : S.Sz) (m c : Int) : I64 (getG S m c) := by
  unfold getG
  split
  · exact o.i64 _ _
  · exact I64_0
theorem rowG_I {S : Lg} (o : S.Sz) (m : Int) (j : Nat) : ∀ x ∈ rowG S m j, I64 x := fun x hx => by
  unfold rowG at hx
  obtain ⟨c, _, rfl⟩ := List.mem_map.1 hx
  exact getG_I o _ _
theorem own_blk {h0 h : Heap} {z : List Value} {p : Option Addr} {c : Nat} {vs : List Value} (x : OwnL h0 h z p c vs) (hv : vs ≠ []) : ∃ r sp, p = some ⟨r, 0, none⟩ ∧ h0 r = none ∧ At h r (vs ++ sp) := by
  rcases x with ⟨e, _⟩ | ⟨r, sp, e, e0, a, _⟩
  · exact (hv e).elim
  · exact ⟨r, sp, e, e0, a⟩
section
variable {h : Heap} {K : Value → Heap → Prop} {w lp A nm cA : Nat} {T : List Cur} {a : Option Addr} {n c : Nat}
theorem S_Whas {nm' : Nat} {A' : Option Addr} (Aw : At h w [slice a n c, .pointer (some ⟨lp, 0, none⟩), slice A' nm' cA]) {m : Int} (k : K (.bool (decide (0 ≤ m ∧ m < (nm' : Int)))) h) : CallA Tryz.prog fn_pworth_Worths_has [pointer (some ⟨w, 0, none⟩), int .i64 m] h K := by
  refine F_pworth_Worths_has _ _ _ _ ?_
  unfold F_pworth_Worths_hasT
  refine Br.dec (fun g => withAddr_intro rfl ⟨_, _, _, Aw.cell rfl, Ret.mk ?_⟩) fun g => Ret.mk ?_
  · have : decide (0 ≤ m ∧ m < (nm' : Int)) = decide (m < (nm' : Int)) := decide_eq_decide.2 ⟨fun x => x.2, fun x => ⟨by omega, x⟩⟩
    rw [← this]; exact k
  · rw [decide_eq_false (by omega)] at k; exact k
variable {B C : Nat} {sp : List Value} {S : Lg}
theorem S_MovedR (CT : Curs h a T) (hn : T.length = n) (n1 : 1 ≤ n) (n8 : n ≤ 8) (ok : T.all inbB = true) (Aw : At h w [slice a n c, .pointer (some ⟨lp, 0, none⟩), slice (some ⟨A, 0, none⟩) nm cA]) {xs : List Value} (AA : At h A xs) (hx : nm * 7 ≤ xs.length) (LA : LedAt h lp B C sp S) {m : Nat} {mi : Int} (hm : mi = (m : Int)) (hmn : m < nm)
    (k : ∀ h1 r0 r1 r2 c0 c1 c2 s0 s1 s2, h.le h1 → h r0 = none → h r1 = none → h r2 = none → r0 ≠ r1 → r0 ≠ r2 → r1 ≠ r2 → At h1 r0 (intsV .i64 (rowG S (m : Int) n) ++ s0) → At h1 r1 ((rowF (toldW T) 0 (rowG S (m : Int) n)).flatMap tdV1 ++ s1) → At h1 r2 ((rowF (toldS T) 0 (rowG S (m : Int) n)).flatMap tdV1 ++ s2) →
      K (tuple #[]) (h1.setN A (m * 7) [slice (some ⟨r0, 0, none⟩) n c0, slice (some ⟨r1, 0, none⟩) n c1, slice (some ⟨r2, 0, none⟩) n c2, int .i64 (netW T (rowG S (m : Int) n)).1, int .i64 (netW T (rowG S (m : Int) n)).2, int .i64 (shW T (rowG S (m : Int) n)).1, int .i64 (shW T (rowG S (m : Int) n)).2])) :
    CallA Tryz.prog fn_pworth_Worths_Moved [pointer (some ⟨w, 0, none⟩), int .i64 mi] h K := by
  subst hm
  refine F_pworth_Worths_Moved _ _ _ _ ?_
  unfold F_pworth_Worths_MovedT
  refine S_Whas Aw ⟨_, rfl, Br.no (by rw [decide_eq_true (by omega)]; rfl) (withAddr_intro rfl ⟨_, _, _, Aw.cell rfl, ?_⟩)⟩
  have loop : ∀ (d j : Nat) (g : Heap) (q : Option Addr) (cq : Nat), d + j = n → h.le g → OwnL h g [int .i64 0] q cq (intsV .i64 (rowG S (m : Int) j)) → L_pworth_Worths_Moved_0 (some ⟨w, 0, none⟩) (m : Int) q j cq (n : Int) (j : Int) g K := by
    intro d
    induction d with
    | zero =>
      intro j g q cq hj lg own
      refine L_pworth_Worths_Moved_0r _ _ _ _ _ _ _ _ _ ?_
      unfold L_pworth_Worths_Moved_0T
      obtain rfl : j = n := by omega
      have Aw' := Aw.le lg
      have hl := rowG_len S (m : Int) j
      refine Br.no (by simp) (withAddr_intro rfl ⟨_, _, _, Aw'.cell rfl, S_account (CT.le lg) hn ok Aw' own.rd hl (by omega) (rowG_I LA.sz _ _) fun h1 q1 q2 c1 c2 l1 o1 o2 n12 => ⟨_, _, _, _, _, _, _, _, _, _, _, _, _, rfl, .inl l1, by omega, by omega, withAddr_intro rfl ?_⟩⟩)
      have AA1 := AA.le (Heap.le_trans lg l1)
      have hne : ∀ {α : Type} {x : List α}, 1 ≤ x.length → x ≠ [] := fun hx e => by rw [e] at hx; simp at hx
      obtain ⟨r0, s0, rfl, z0, A0⟩ := own_blk own (hne (by rw [intsV_length, hl]; exact n1))
      obtain ⟨r1, s1, rfl, z1, A1⟩ := own_blk o1 (hne (by rw [arr_len tdV1_len, rowF_len, hl]; omega))
      obtain ⟨r2, s2, rfl, z2, A2⟩ := own_blk o2 (hne (by rw [arr_len tdV1_len, rowF_len, hl]; omega))
      rw [Int.toNat_natCast, Nat.zero_add]
      exact ⟨AA1.canSt (by omega), Ret.mk (k h1 r0 r1 r2 _ _ _ s0 s1 s2 (Heap.le_trans lg l1) z0 (none_of_le lg z1) (none_of_le lg z2) (A0.ne z1) (A0.ne z2) (fun e => n12 r1 rfl (by rw [e])) (A0.le l1) A1 A2)⟩
    | succ d ih =>
      intro j g q cq hj lg own
      refine L_pworth_Worths_Moved_0r _ _ _ _ _ _ _ _ _ ?_
      unfold L_pworth_Worths_Moved_0T
      refine Br.yes (by simp; omega) (withAddr_intro rfl ⟨_, (Aw.le lg).cell rfl, S_lGet (LA.le lg) ⟨_, rfl, push1 own (by decide) lg (by omega) rfl rfl (by rw [intsV_length, rowG_len]; simp) fun r h1 q' cq' h2 hr l1 l2 own' _ _ => ?_⟩⟩)
      rw [w1 (by omega)]
      refine ih (j + 1) h2 q' cq' (by omega) l2 ?_
      rw [rowG_succ, intsV_append]
      exact own'
  exact loop n 0 h none 0 rfl h.le_refl (OwnL.nil _ _ _)
end
end Go.Proofs.YtghdadniddoboaaGreat

/- Worths in memory: numbered blocks. -/
namespace Go.Proofs.YtghdadniddoboaaGreat
open Go Go.Sy Go.Value
set_option linter.unusedVariables false
set_option linter.unusedSimpArgs false

/-! rows of one width, one behind the other -/
theorem flat_len' {g : Nat → List Value} {w : Nat} (hg : ∀ i, (g i).length = w) (n : Nat) : ((List.range n).flatMap g).length = n * w := by rw [arr_len hg, List.length_range]
theorem setL_skip : ∀ (ws xs ys : List Value) (o : Nat), setL (xs ++ ys) (xs.length + o) ws = xs ++ setL ys o ws
  | [], xs, ys, o => rfl
  | v :: ws, xs, ys, o => by
    rw [setL, setL, setT_eq, setT_eq, List.set_append_right _ _ (by omega), Nat.add_sub_cancel_left, show xs.length + o + 1 = xs.length + (o + 1) by omega, setL_skip ws]
theorem setL_left : ∀ (ws xs ys : List Value) (o : Nat), o + ws.length ≤ xs.length → setL (xs ++ ys) o ws = setL xs o ws ++ ys
  | [], xs, ys, o, _ => rfl
  | v :: ws, xs, ys, o, h => by
    rw [List.length_cons] at h
    rw [setL, setL, setT_eq, setT_eq, List.set_append_left _ _ (by omega), setL_left ws _ _ _ (by rw [List.length_set]; omega)]
theorem setL_rows {g : Nat → List Value} {w : Nat} (hg : ∀ i, (g i).length = w) {ws : List Value} {o : Nat} (ho : o + ws.length ≤ w) : ∀ (n j : Nat) (sp : List Value), j < n → setL ((List.range n).flatMap g ++ sp) (j * w + o) ws = (List.range n).flatMap (updF g j (setL (g j) o ws)) ++ sp
  | 0, j, sp, h => by omega
  | n + 1, j, sp, h => by
    rw [List.range_succ, List.flatMap_append, List.flatMap_append, List.append_assoc, List.append_assoc]
    by_cases e : j = n
    · subst e
      have e1 : (List.range j).flatMap (updF g j (setL (g j) o ws)) = (List.range j).flatMap g := by
        unfold List.flatMap
        congr 1
        exact List.map_congr_left fun i hi => updF_ne _ _ (by have := List.mem_range.1 hi; omega)
      rw [e1]
      conv => lhs; rw [← flat_len' hg j]
      rw [setL_skip]
      simp only [List.flatMap_cons, List.flatMap_nil, List.append_nil, updF_same]
      rw [setL_left _ _ _ _ (by rw [hg]; exact ho)]
    · rw [setL_rows hg ho n j _ (by omega)]
      simp only [List.flatMap_cons, List.flatMap_nil, List.append_nil]
      rw [updF_ne _ _ (fun e2 => e e2.symm)]
/-! accounts -/
structure Ac where
  row : List Int
  wl : List Td
  sl : List Td
  nt : Td
  sh : Td
def acOf (T : List Cur) (row : List Int) : Ac := ⟨row, rowF (toldW T) 0 row, rowF (toldS T) 0 row, netW T row, shW T row⟩
structure WoF where
  b : Nat → Nat
  q : Nat → Nat
  sp : Nat → List Value
  lp : Nat
def zero7 : List Value := [slice none 0 0, slice none 0 0, slice none 0 0, int .i64 0, int .i64 0, int .i64 0, int .i64 0]
def acV (f : WoF) (w : Nat) (L : Nat → Ac) (i : Nat) : List Value := [slice (some ⟨f.b (3 + 3 * i), 0, none⟩) w (f.q (3 + 3 * i)), slice (some ⟨f.b (4 + 3 * i), 0, none⟩) w (f.q (4 + 3 * i)), slice (some ⟨f.b (5 + 3 * i), 0, none⟩) w (f.q (5 + 3 * i)), int .i64 (L i).nt.1, int .i64 (L i).nt.2, int .i64 (L i).sh.1, int .i64 (L i).sh.2]
def acR (f : WoF) (w : Nat) (L : Nat → Ac) (d i : Nat) : List Value := if i < d then acV f w L i else zero7
theorem acR_len (f : WoF) (w : Nat) (L : Nat → Ac) (d i : Nat) : (acR f w L d i).length = 7 := by unfold acR; split <;> rfl
def woC (f : WoF) (T : List Cur) (n d : Nat) (L : Nat → Ac) (x : Nat) : List Value :=
  if x = 0 then [slice (some ⟨f.b 2, 0, none⟩) T.length (f.q 2), .pointer (some ⟨f.lp, 0, none⟩), slice (some ⟨f.b 1, 0, none⟩) n (f.q 1)]
  else if x = 1 then (List.range n).flatMap (acR f T.length L d) ++ f.sp 1
  else if x = 2 then curV T ++ f.sp 2
  else if x % 3 = 0 then intsV .i64 (L (x / 3 - 1)).row ++ f.sp x
  else if x % 3 = 1 then (L (x / 3 - 1)).wl.flatMap tdV1 ++ f.sp x else (L (x / 3 - 1)).sl.flatMap tdV1 ++ f.sp x
section
variable (f : WoF) (T : List Cur) (n d : Nat) (L : Nat → Ac) (i : Nat)
theorem woC_0 : woC f T n d L 0 = [slice (some ⟨f.b 2, 0, none⟩) T.length (f.q 2), .pointer (some ⟨f.lp, 0, none⟩), slice (some ⟨f.b 1, 0, none⟩) n (f.q 1)] := rfl
theorem woC_1 : woC f T n d L 1 = (List.range n).flatMap (acR f T.length L d) ++ f.sp 1 := rfl
theorem woC_2 : woC f T n d L 2 = curV T ++ f.sp 2 := rfl
theorem woC_B : woC f T n d L (3 + 3 * i) = intsV .i64 (L i).row ++ f.sp (3 + 3 * i) := by
  unfold woC; rw [if_neg (by omega), if_neg (by omega), if_neg (by omega), if_pos (by omega), show (3 + 3 * i) / 3 - 1 = i by omega]
theorem woC_W : woC f T n d L (4 + 3 * i) = (L i).wl.flatMap tdV1 ++ f.sp (4 + 3 * i) := by
  unfold woC; rw [if_neg (by omega), if_neg (by omega), if_neg (by omega), if_neg (by omega), if_pos (by omega), show (4 + 3 * i) / 3 - 1 = i by omega]
theorem woC_H : woC f T n d L (5 + 3 * i) = (L i).sl.flatMap tdV1 ++ f.sp (5 + 3 * i) := by
  unfold woC; rw [if_neg (by omega), if_neg (by omega), if_neg (by omega), if_neg (by omega), if_neg (by omega), show (5 + 3 * i) / 3 - 1 = i by omega]
end
theorem kinds {x : Nat} : x = 0 ∨ x = 1 ∨ x = 2 ∨ ∃ i, x = 3 + 3 * i ∨ x = 4 + 3 * i ∨ x = 5 + 3 * i := by
  by_cases h : x < 3
  · omega
  · exact .inr (.inr (.inr ⟨x / 3 - 1, by omega⟩))
structure WoX (h : Heap) (f : WoF) (T : List Cur) (n d : Nat) (L : Nat → Ac) : Prop where
  fam : Fam h (3 + 3 * d) f.b (woC f T n d L)
  dn : d ≤ n
  ln : ∀ i, i < d → (L i).row.length = T.length ∧ (L i).wl.length = T.length ∧ (L i).sl.length = T.length
section
variable {h h' : Heap} {f : WoF} {T : List Cur} {n d : Nat} {L : Nat → Ac}
theorem WoX.le (X : WoX h f T n d L) (l : h.le h') : WoX h' f T n d L := { X with fam := X.fam.le l }
theorem WoX.w (X : WoX h f T n d L) : At h (f.b 0) [slice (some ⟨f.b 2, 0, none⟩) T.length (f.q 2), .pointer (some ⟨f.lp, 0, none⟩), slice (some ⟨f.b 1, 0, none⟩) n (f.q 1)] := X.fam.at' 0 (by omega)
theorem WoX.a (X : WoX h f T n d L) : At h (f.b 1) ((List.range n).flatMap (acR f T.length L d) ++ f.sp 1) := X.fam.at' 1 (by omega)
theorem WoX.t (X : WoX h f T n d L) : Curs h (some ⟨f.b 2, 0, none⟩) T := (X.fam.at' 2 (by omega) : At h (f.b 2) (curV T ++ f.sp 2)).toRd
theorem WoX.row (X : WoX h f T n d L) {i : Nat} (hi : i < d) : At h (f.b (3 + 3 * i)) (intsV .i64 (L i).row ++ f.sp (3 + 3 * i)) := by rw [← woC_B f T n d L]; exact X.fam.at' _ (by omega)
theorem WoX.wl (X : WoX h f T n d L) {i : Nat} (hi : i < d) : At h (f.b (4 + 3 * i)) ((L i).wl.flatMap tdV1 ++ f.sp (4 + 3 * i)) := by rw [← woC_W f T n d L]; exact X.fam.at' _ (by omega)
theorem WoX.sl (X : WoX h f T n d L) {i : Nat} (hi : i < d) : At h (f.b (5 + 3 * i)) ((L i).sl.flatMap tdV1 ++ f.sp (5 + 3 * i)) := by rw [← woC_H f T n d L]; exact X.fam.at' _ (by omega)
theorem WoX.ac (X : WoX h f T n d L) {i o : Nat} (hi : i < d) (ho : o < 7) : h.cell (f.b 1) (i * 7 + o) = (acV f T.length L i)[o]? := by
  have hn := X.dn
  have e := arr_get (enc := acR f T.length L d) (w := 7) (acR_len f T.length L d) (List.range n) i o i (List.getElem?_range (by omega)) ho
  have e2 : acR f T.length L d i = acV f T.length L i := if_pos hi
  rw [e2] at e
  have hv : o < (acV f T.length L i).length := ho
  rw [List.getElem?_eq_getElem hv] at e ⊢
  refine X.a.cell ?_
  rw [List.getElem?_append_left (by rw [flat_len' (acR_len f T.length L d)]; omega)]
  exact e
end
/-! three blocks anew -/
def b3 {α : Type} (f : Nat → α) (m : Nat) (x y z : α) : Nat → α := updF (updF (updF f (3 + 3 * m) x) (4 + 3 * m) y) (5 + 3 * m) z
section
variable {α : Type} (f : Nat → α) (m : Nat) (x y z : α)
theorem b3_B : b3 f m x y z (3 + 3 * m) = x := by unfold b3; rw [updF_ne _ _ (by omega), updF_ne _ _ (by omega), updF_same]
theorem b3_W : b3 f m x y z (4 + 3 * m) = y := by unfold b3; rw [updF_ne _ _ (by omega), updF_same]
theorem b3_H : b3 f m x y z (5 + 3 * m) = z := by unfold b3; rw [updF_same]
theorem b3_ne {k : Nat} (h1 : k ≠ 3 + 3 * m) (h2 : k ≠ 4 + 3 * m) (h3 : k ≠ 5 + 3 * m) : b3 f m x y z k = f k := by unfold b3; rw [updF_ne _ _ h3, updF_ne _ _ h2, updF_ne _ _ h1]
end
theorem fam_b3 {h h1 : Heap} {N m : Nat} {b : Nat → Nat} {c : Nat → List Value} (F : Fam h N b c) {r0 r1 r2 : Nat} {x0 x1 x2 : List Value} (l : h.le h1) (z0 : h r0 = none) (z1 : h r1 = none) (z2 : h r2 = none) (n01 : r0 ≠ r1) (n02 : r0 ≠ r2) (n12 : r1 ≠ r2)
    (A0 : At h1 r0 x0) (A1 : At h1 r1 x1) (A2 : At h1 r2 x2) : Fam h1 N (b3 b m r0 r1 r2) (b3 c m x0 x1 x2) := by
  have f0 := F.fresh z0
  have f1 := F.fresh z1
  have f2 := F.fresh z2
  have g1 : famD N (updF b (3 + 3 * m) r0) r1 = false := by
    cases e : famD N (updF b (3 + 3 * m) r0) r1 with
    | false => rfl
    | true =>
      rcases famD_swap e with e | e
      · exact (n01 e.symm).elim
      · rw [f1] at e; cases e
  have g2 : famD N (updF (updF b (3 + 3 * m) r0) (4 + 3 * m) r1) r2 = false := by
    cases e : famD N (updF (updF b (3 + 3 * m) r0) (4 + 3 * m) r1) r2 with
    | false => rfl
    | true =>
      rcases famD_swap e with e | e
      · exact (n12 e.symm).elim
      · rcases famD_swap e with e | e
        · exact (n02 e.symm).elim
        · rw [f2] at e; cases e
  exact (((F.le l).swap f0 A0).swap g1 A1).swap g2 A2
theorem fam_m3 {h h1 : Heap} {m : Nat} {b : Nat → Nat} {c : Nat → List Value} (F : Fam h (3 + 3 * m) b c) {r0 r1 r2 : Nat} {x0 x1 x2 : List Value} (l : h.le h1) (z0 : h r0 = none) (z1 : h r1 = none) (z2 : h r2 = none) (n01 : r0 ≠ r1) (n02 : r0 ≠ r2) (n12 : r1 ≠ r2)
    (A0 : At h1 r0 x0) (A1 : At h1 r1 x1) (A2 : At h1 r2 x2) : Fam h1 (3 + 3 * (m + 1)) (b3 b m r0 r1 r2) (b3 c m x0 x1 x2) := by
  have f0 := F.fresh z0
  have f1 := F.fresh z1
  have f2 := F.fresh z2
  have g1 : famD (3 + 3 * m + 1) (updF b (3 + 3 * m) r0) r1 = false := by
    cases e : famD (3 + 3 * m + 1) (updF b (3 + 3 * m) r0) r1 with
    | false => rfl
    | true =>
      rcases famD_more e with e | e
      · exact (n01 e.symm).elim
      · rw [f1] at e; cases e
  have g2 : famD (3 + 3 * m + 1 + 1) (updF (updF b (3 + 3 * m) r0) (3 + 3 * m + 1) r1) r2 = false := by
    cases e : famD (3 + 3 * m + 1 + 1) (updF (updF b (3 + 3 * m) r0) (3 + 3 * m + 1) r1) r2 with
    | false => rfl
    | true =>
      rcases famD_more e with e | e
      · exact (n12 e.symm).elim
      · rcases famD_more e with e | e
        · exact (n02 e.symm).elim
        · rw [f2] at e; cases e
  have := (((F.le l).more f0 A0).more g1 A1).more g2 A2
  rw [show 3 + 3 * m + 1 + 1 + 1 = 3 + 3 * (m + 1) by omega, show 3 + 3 * m + 1 + 1 = 5 + 3 * m by omega, show 3 + 3 * m + 1 = 4 + 3 * m by omega] at this
  exact this
def WoF.b3 (f : WoF) (m r0 r1 r2 c0 c1 c2 : Nat) (s0 s1 s2 : List Value) : WoF := ⟨Proofs.YtghdadniddoboaaGreat.b3 f.b m r0 r1 r2, Proofs.YtghdadniddoboaaGreat.b3 f.q m c0 c1 c2, Proofs.YtghdadniddoboaaGreat.b3 f.sp m s0 s1 s2, f.lp⟩
theorem woC_b3 {f : WoF} {T : List Cur} {n d d' m : Nat} {L : Nat → Ac} {a : Ac} {r0 r1 r2 c0 c1 c2 : Nat} {s0 s1 s2 : List Value} (hm : m < n) (hd : ∀ i, i < d' ↔ i = m ∨ i < d) {i : Nat} (hi : i < 3 + 3 * d') :
    updF (b3 (woC f T n d L) m (intsV .i64 a.row ++ s0) (a.wl.flatMap tdV1 ++ s1) (a.sl.flatMap tdV1 ++ s2)) 1 (setL (b3 (woC f T n d L) m (intsV .i64 a.row ++ s0) (a.wl.flatMap tdV1 ++ s1) (a.sl.flatMap tdV1 ++ s2) 1) (m * 7)
      [slice (some ⟨r0, 0, none⟩) T.length c0, slice (some ⟨r1, 0, none⟩) T.length c1, slice (some ⟨r2, 0, none⟩) T.length c2, int .i64 a.nt.1, int .i64 a.nt.2, int .i64 a.sh.1, int .i64 a.sh.2]) i
    = woC (f.b3 m r0 r1 r2 c0 c1 c2 s0 s1 s2) T n d' (updF L m a) i := by
  rw [b3_ne _ _ _ _ _ (k := 1) (by omega) (by omega) (by omega), woC_1]
  rcases kinds (x := i) with rfl | rfl | rfl | ⟨j, hj⟩
  · rw [updF_ne _ _ (by decide), b3_ne _ _ _ _ _ (by omega) (by omega) (by omega), woC_0, woC_0]
    unfold WoF.b3
    dsimp only
    rw [b3_ne _ _ _ _ _ (k := 2) (by omega) (by omega) (by omega), b3_ne _ _ _ _ _ (k := 2) (by omega) (by omega) (by omega), b3_ne _ _ _ _ _ (k := 1) (by omega) (by omega) (by omega), b3_ne _ _ _ _ _ (k := 1) (by omega) (by omega) (by omega)]
  · rw [updF_same, woC_1]
    have e1 := setL_rows (acR_len f T.length L d) (ws := [slice (some ⟨r0, 0, none⟩) T.length c0, slice (some ⟨r1, 0, none⟩) T.length c1, slice (some ⟨r2, 0, none⟩) T.length c2, int .i64 a.nt.1, int .i64 a.nt.2, int .i64 a.sh.1, int .i64 a.sh.2]) (o := 0) (by simp) n m (f.sp 1) hm
    rw [Nat.add_zero] at e1
    rw [e1]
    unfold WoF.b3
    dsimp only
    rw [b3_ne _ _ _ _ _ (k := 1) (by omega) (by omega) (by omega)]
    congr 1
    unfold List.flatMap
    congr 1
    refine List.map_congr_left fun k hk => ?_
    by_cases e : k = m
    · subst e
      rw [updF_same]
      unfold acR
      rw [if_pos (c := k < d') ((hd k).2 (.inl rfl))]
      have e3 : setL (if k < d then acV f T.length L k else zero7) 0 [slice (some ⟨r0, 0, none⟩) T.length c0, slice (some ⟨r1, 0, none⟩) T.length c1, slice (some ⟨r2, 0, none⟩) T.length c2, int .i64 a.nt.1, int .i64 a.nt.2, int .i64 a.sh.1, int .i64 a.sh.2] = [slice (some ⟨r0, 0, none⟩) T.length c0, slice (some ⟨r1, 0, none⟩) T.length c1, slice (some ⟨r2, 0, none⟩) T.length c2, int .i64 a.nt.1, int .i64 a.nt.2, int .i64 a.sh.1, int .i64 a.sh.2] := by split <;> rfl
      rw [e3]
      unfold acV
      dsimp only
      rw [b3_B, b3_B, b3_W, b3_W, b3_H, b3_H, updF_same]
    · rw [updF_ne _ _ e]
      unfold acR
      have hdk : k < d ↔ k < d' := ⟨fun x => (hd k).2 (.inr x), fun x => ((hd k).1 x).resolve_left e⟩
      by_cases hk : k < d
      · rw [if_pos hk, if_pos (hdk.1 hk)]
        unfold acV
        dsimp only
        rw [b3_ne _ _ _ _ _ (by omega) (by omega) (by omega), b3_ne _ _ _ _ _ (by omega) (by omega) (by omega), b3_ne _ _ _ _ _ (by omega) (by omega) (by omega), b3_ne _ _ _ _ _ (by omega) (by omega) (by omega), b3_ne _ _ _ _ _ (by omega) (by omega) (by omega), b3_ne _ _ _ _ _ (by omega) (by omega) (by omega), updF_ne _ _ e]
      · rw [if_neg hk, if_neg (fun x => hk (hdk.2 x))]
  · rw [updF_ne _ _ (by decide), b3_ne _ _ _ _ _ (by omega) (by omega) (by omega), woC_2, woC_2]
    unfold WoF.b3
    dsimp only
    rw [b3_ne _ _ _ _ _ (k := 2) (by omega) (by omega) (by omega)]
  · by_cases e : j = m
    · subst e
      rcases hj with rfl | rfl | rfl
      · rw [updF_ne _ _ (by omega), b3_B, woC_B, updF_same]
        unfold WoF.b3
        dsimp only
        rw [b3_B]
      · rw [updF_ne _ _ (by omega), b3_W, woC_W, updF_same]
        unfold WoF.b3
        dsimp only
        rw [b3_W]
      · rw [updF_ne _ _ (by omega), b3_H, woC_H, updF_same]
        unfold WoF.b3
        dsimp only
        rw [b3_H]
    · rcases hj with rfl | rfl | rfl
      · rw [updF_ne _ _ (by omega), b3_ne _ _ _ _ _ (by omega) (by omega) (by omega), woC_B, woC_B, updF_ne _ _ e]
        unfold WoF.b3
        dsimp only
        rw [b3_ne _ _ _ _ _ (by omega) (by omega) (by omega)]
      · rw [updF_ne _ _ (by omega), b3_ne _ _ _ _ _ (by omega) (by omega) (by omega), woC_W, woC_W, updF_ne _ _ e]
        unfold WoF.b3
        dsimp only
        rw [b3_ne _ _ _ _ _ (by omega) (by omega) (by omega)]
      · rw [updF_ne _ _ (by omega), b3_ne _ _ _ _ _ (by omega) (by omega) (by omega), woC_H, woC_H, updF_ne _ _ e]
        unfold WoF.b3
        dsimp only
        rw [b3_ne _ _ _ _ _ (by omega) (by omega) (by omega)]
end Go.Proofs.YtghdadniddoboaaGreat

/- Worths are made; a member's balances are taken anew. -/
namespace Go.Proofs.YtghdadniddoboaaGreat
open Go Go.Sy Go.Value
set_option linter.unusedVariables false
set_option linter.unusedSimpArgs false

theorem acOf_ln (T : List Cur) (S : Lg) (m : Int) : (acOf T (rowG S m T.length)).row.length = T.length ∧ (acOf T (rowG S m T.length)).wl.length = T.length ∧ (acOf T (rowG S m T.length)).sl.length = T.length := by
  unfold acOf
  dsimp only
  rw [rowF_len, rowF_len, rowG_len]
  exact ⟨rfl, rfl, rfl⟩
theorem WoX.step {h0 h h1 : Heap} {f : WoF} {T : List Cur} {n d d' m : Nat} {L : Nat → Ac} (X : WoX h f T n d L) (l0 : h0.le h) (fr : ∀ i, i < 3 + 3 * d → h0 (f.b i) = none) {a : Ac} (hm : m < n) (hd : (m < d ∧ d' = d) ∨ (m = d ∧ d' = d + 1)) (ha : a.row.length = T.length ∧ a.wl.length = T.length ∧ a.sl.length = T.length)
    {r0 r1 r2 : Nat} (c0 c1 c2 : Nat) {s0 s1 s2 : List Value} (l1 : h.le h1) (z0 : h r0 = none) (z1 : h r1 = none) (z2 : h r2 = none) (n01 : r0 ≠ r1) (n02 : r0 ≠ r2) (n12 : r1 ≠ r2) (A0 : At h1 r0 (intsV .i64 a.row ++ s0)) (A1 : At h1 r1 (a.wl.flatMap tdV1 ++ s1)) (A2 : At h1 r2 (a.sl.flatMap tdV1 ++ s2)) :
    h0.le (h1.setN (f.b 1) (m * 7) [slice (some ⟨r0, 0, none⟩) T.length c0, slice (some ⟨r1, 0, none⟩) T.length c1, slice (some ⟨r2, 0, none⟩) T.length c2, int .i64 a.nt.1, int .i64 a.nt.2, int .i64 a.sh.1, int .i64 a.sh.2]) ∧
    WoX (h1.setN (f.b 1) (m * 7) [slice (some ⟨r0, 0, none⟩) T.length c0, slice (some ⟨r1, 0, none⟩) T.length c1, slice (some ⟨r2, 0, none⟩) T.length c2, int .i64 a.nt.1, int .i64 a.nt.2, int .i64 a.sh.1, int .i64 a.sh.2]) (f.b3 m r0 r1 r2 c0 c1 c2 s0 s1 s2) T n d' (updF L m a) ∧
    (∀ i, i < 3 + 3 * d' → h0 ((f.b3 m r0 r1 r2 c0 c1 c2 s0 s1 s2).b i) = none) ∧ (f.b3 m r0 r1 r2 c0 c1 c2 s0 s1 s2).b 0 = f.b 0 := by
  have hdn := X.dn
  have hd' : ∀ i, i < d' ↔ i = m ∨ i < d := fun i => by omega
  have F : Fam h1 (3 + 3 * d') (Proofs.YtghdadniddoboaaGreat.b3 f.b m r0 r1 r2) (Proofs.YtghdadniddoboaaGreat.b3 (woC f T n d L) m (intsV .i64 a.row ++ s0) (a.wl.flatMap tdV1 ++ s1) (a.sl.flatMap tdV1 ++ s2)) := by
    rcases hd with ⟨h1, rfl⟩ | ⟨rfl, rfl⟩
    · exact fam_b3 X.fam l1 z0 z1 z2 n01 n02 n12 A0 A1 A2
    · exact fam_m3 X.fam l1 z0 z1 z2 n01 n02 n12 A0 A1 A2
  have e1 : Proofs.YtghdadniddoboaaGreat.b3 f.b m r0 r1 r2 1 = f.b 1 := b3_ne _ _ _ _ _ (by omega) (by omega) (by omega)
  have F2 := F.set (i := 1) (o := m * 7) (ws := [slice (some ⟨r0, 0, none⟩) T.length c0, slice (some ⟨r1, 0, none⟩) T.length c1, slice (some ⟨r2, 0, none⟩) T.length c2, int .i64 a.nt.1, int .i64 a.nt.2, int .i64 a.sh.1, int .i64 a.sh.2]) (by omega)
  rw [e1] at F2
  refine ⟨le_setN (Heap.le_trans l0 l1) (fr 1 (by omega)), ⟨F2.congr fun i hi => woC_b3 hm hd' hi, by omega, fun i hi => ?_⟩, fun i hi => ?_, b3_ne _ _ _ _ _ (by omega) (by omega) (by omega)⟩
  · by_cases e : i = m
    · subst e; rw [updF_same]; exact ha
    · rw [updF_ne _ _ e]; exact X.ln i (by have := (hd' i).1 hi; omega)
  · show h0 (Proofs.YtghdadniddoboaaGreat.b3 f.b m r0 r1 r2 i) = none
    by_cases e1 : i = 3 + 3 * m
    · subst e1; rw [b3_B]; exact none_of_le l0 z0
    by_cases e2 : i = 4 + 3 * m
    · subst e2; rw [b3_W]; exact none_of_le l0 z1
    by_cases e3 : i = 5 + 3 * m
    · subst e3; rw [b3_H]; exact none_of_le l0 z2
    rw [b3_ne _ _ _ _ _ e1 e2 e3]
    exact fr i (by omega)
def accG (T : List Cur) (S : Lg) (i : Nat) : Ac := acOf T (rowG S (i : Int) T.length)
theorem accG_upd (T : List Cur) (S : Lg) (m : Nat) : updF (accG T S) m (acOf T (rowG S (m : Int) T.length)) = accG T S := by
  funext i
  by_cases e : i = m
  · subst e; rw [updF_same]; rfl
  · rw [updF_ne _ _ e]
theorem repL_rows (f : WoF) (w : Nat) (L : Nat → Ac) : ∀ n, repL n zero7 = (List.range n).flatMap (acR f w L 0)
  | 0 => rfl
  | n + 1 => by
    rw [repL, repL_rows f w L n]
    have e : ∀ n, (List.range n).flatMap (acR f w L 0) = (List.replicate n zero7).flatten := fun n => by
      unfold List.flatMap
      congr 1
      refine List.ext_getElem (by simp) fun i h1 h2 => ?_
      simp [acR]
    rw [e, e]; rfl
section
variable {h : Heap} {K : Value → Heap → Prop} {T : List Cur} {tp : Option Addr} {tn tc lp B C : Nat} {sp : List Value} {S : Lg}
theorem new_lp {h0 : Heap} (hT : tabE T = 0) (LA : LedAt h0 lp B C sp S) (k3 : ∀ h' f, h0.le h' → WoX h' f T S.M.length S.M.length (accG T S) → f.lp = lp → (∀ i, i < 3 + 3 * S.M.length → h0 (f.b i) = none) → K (tuple #[.pointer (some ⟨f.b 0, 0, none⟩), .int .i64 0]) h') :
    ∀ (m j : Nat) (h : Heap) (f : WoF), m + j = S.M.length → h0.le h → WoX h f T S.M.length j (accG T S) → f.lp = lp → (∀ i, i < 3 + 3 * j → h0 (f.b i) = none) → L_worth_New_0 (f.b 0) (S.M.length : Int) (j : Int) h K := by
  have n16 := LA.sz.n16
  obtain ⟨t1, t8, _⟩ := tab_parts hT
  intro m
  induction m with
  | zero =>
    intro j h f hj l0 X ef fr
    refine L_worth_New_0r _ _ _ _ _ ?_
    unfold L_worth_New_0T
    obtain rfl : j = S.M.length := by omega
    exact Br.no (by simp) (Ret.mk (k3 h f l0 X ef fr))
  | succ m ih =>
    intro j h f hj l0 X ef fr
    refine L_worth_New_0r _ _ _ _ _ ?_
    unfold L_worth_New_0T
    refine Br.yes (by simp; omega) (S_MovedR X.t rfl t1 t8 (all_inb hT) X.w X.a (by rw [List.length_append, flat_len' (acR_len _ _ _ _)]; omega) (by rw [ef]; exact LA.le l0) (m := j) rfl (by omega) fun h1 r0 r1 r2 c0 c1 c2 s0 s1 s2 l1 z0 z1 z2 n01 n02 n12 A0 A1 A2 => ⟨rfl, ?_⟩)
    rw [w1 (by omega)]
    obtain ⟨g1, g2, g3, g4⟩ := X.step (a := acOf T (rowG S (j : Int) T.length)) l0 fr (m := j) (d' := j + 1) (by omega) (.inr ⟨rfl, rfl⟩) (acOf_ln T S j) c0 c1 c2 l1 z0 z1 z2 n01 n02 n12 A0 A1 A2
    rw [accG_upd] at g2
    rw [← g4]
    exact ih (j + 1) _ _ (by omega) g1 g2 ef g3
theorem S_wNew (CT : Curs h tp T) (hn : T.length = tn) (hs : tn ≤ 1000000) (LA : LedAt h lp B C sp S)
    (k1 : tabE T ≠ 0 → ∀ h', h.le h' → K (tuple #[.pointer none, .int .i64 (tabE T)]) h')
    (k2 : tabE T = 0 → S.cur ≠ tn → ∀ h', h.le h' → K (tuple #[.pointer none, .int .i64 1]) h')
    (k3 : tabE T = 0 → S.cur = tn → ∀ h' f, h.le h' → WoX h' f T S.M.length S.M.length (accG T S) → f.lp = lp → (∀ i, i < 3 + 3 * S.M.length → h (f.b i) = none) → K (tuple #[.pointer (some ⟨f.b 0, 0, none⟩), .int .i64 0]) h') :
    CallA Tryz.prog fn_worth_New [slice tp tn tc, .pointer (some ⟨lp, 0, none⟩)] h K := by
  have n16 := LA.sz.n16
  have n1 := LA.sz.n1
  refine F_worth_New _ _ _ _ _ _ ?_
  unfold F_worth_NewT
  refine S_Check CT hn fun h1 l1 => ⟨_, rfl, ?_⟩
  by_cases hT : tabE T ≠ 0
  · exact Br.yes (by simpa using hT) (Ret.mk (k1 hT h1 l1))
  have hT : tabE T = 0 := Classical.byContradiction hT
  rw [hT]
  refine Br.no rfl (Br.no rfl (S_lSize (LA.le l1) ⟨_, _, rfl, ?_⟩))
  by_cases hc : S.cur ≠ tn
  · exact Br.yes (by simpa using fun e => hc (by omega)) (Ret.mk (k2 hT hc h1 l1))
  have hc : S.cur = tn := Classical.byContradiction hc
  refine Br.no (by rw [hc]; simp) ⟨by omega, by omega, by omega, by omega, S_CloneC (CT.le l1) hn hs fun p' c' h2 l2 own => ⟨_, _, _, rfl, by omega, by omega, by omega, by omega, newB_at fun A h3 zA l3 AA => newB_at fun w h4 zw l4 Aw => ?_⟩⟩
  obtain ⟨t1, t8, _⟩ := tab_parts hT
  obtain ⟨tb, sq, rfl, zt, At'⟩ := own_blk own (fun e => by have := curV_length T; rw [e] at this; simp at this; omega)
  rw [Int.toNat_natCast] at AA Aw
  have l12 := Heap.le_trans l1 l2
  have l13 := Heap.le_trans l12 l3
  have l14 := Heap.le_trans l13 l4
  refine new_lp hT LA (k3 hT hc) S.M.length 0 h4 ⟨fun i => if i = 0 then w else if i = 1 then A else tb, fun i => if i = 1 then S.M.length else c', fun i => if i = 1 then [] else sq, lp⟩ rfl l14 ⟨⟨fun i hi => ?_, fun i j hi hj e => ?_⟩, by omega, fun i hi => absurd hi (by omega)⟩ rfl fun i hi => ?_
  · rcases (by omega : i = 0 ∨ i = 1 ∨ i = 2) with rfl | rfl | rfl
    · rw [woC_0]; subst hn; exact Aw
    · rw [woC_1, ← repL_rows]
      show At h4 A (repL S.M.length zero7 ++ [])
      rw [List.append_nil]
      exact AA.le l4
    · exact At'.le (Heap.le_trans l3 l4)
  · have e1 : w ≠ A := fun e => AA.ne zw e.symm
    have e2 : tb ≠ w := (At'.le l3).ne zw
    have e3 : tb ≠ A := At'.ne zA
    rcases (by omega : i = 0 ∨ i = 1 ∨ i = 2) with rfl | rfl | rfl <;> rcases (by omega : j = 0 ∨ j = 1 ∨ j = 2) with rfl | rfl | rfl <;> simp at e <;> first | rfl | (exact absurd e (by first | exact e1 | exact e2 | exact e3 | exact fun x => e1 x.symm | exact fun x => e2 x.symm | exact fun x => e3 x.symm))
  · rcases (by omega : i = 0 ∨ i = 1 ∨ i = 2) with rfl | rfl | rfl
    · exact none_of_le l13 zw
    · exact none_of_le l12 zA
    · exact none_of_le l1 zt
theorem S_wMoved {h0 : Heap} {f : WoF} {n : Nat} {L : Nat → Ac} (l0 : h0.le h) (fr : ∀ i, i < 3 + 3 * n → h0 (f.b i) = none) (hT : tabE T = 0) (X : WoX h f T n n L) (LA : LedAt h f.lp B C sp S) {m : Int}
    (k : ∀ h' f', h0.le h' → f'.b 0 = f.b 0 → f'.lp = f.lp → (∀ i, i < 3 + 3 * n → h0 (f'.b i) = none) → WoX h' f' T n n (if 0 ≤ m ∧ m < (n : Int) then updF L m.toNat (acOf T (rowG S m T.length)) else L) → K (tuple #[]) h') :
    CallA Tryz.prog fn_pworth_Worths_Moved [pointer (some ⟨f.b 0, 0, none⟩), int .i64 m] h K := by
  obtain ⟨t1, t8, _⟩ := tab_parts hT
  by_cases hm : 0 ≤ m ∧ m < (n : Int)
  · obtain ⟨i, rfl⟩ : ∃ i : Nat, m = i := ⟨m.toNat, by omega⟩
    rw [if_pos hm, Int.toNat_natCast] at k
    refine S_MovedR X.t rfl t1 t8 (all_inb hT) X.w X.a (by rw [List.length_append, flat_len' (acR_len _ _ _ _)]; omega) LA (m := i) rfl (by omega) fun h1 r0 r1 r2 c0 c1 c2 s0 s1 s2 l1 z0 z1 z2 n01 n02 n12 A0 A1 A2 => ?_
    obtain ⟨g1, g2, g3, g4⟩ := X.step (a := acOf T (rowG S (i : Int) T.length)) l0 fr (m := i) (d' := n) (by omega) (.inl ⟨by omega, rfl⟩) (acOf_ln T S i) c0 c1 c2 l1 z0 z1 z2 n01 n02 n12 A0 A1 A2
    exact k _ _ g1 g4 rfl g3 g2
  · rw [if_neg hm] at k
    refine F_pworth_Worths_Moved _ _ _ _ ?_
    unfold F_pworth_Worths_MovedT
    exact S_Whas X.w ⟨_, rfl, Br.yes (by rw [decide_eq_false hm]; rfl) (Ret.mk (k h f l0 rfl rfl fr X))⟩
theorem S_wTable {f : WoF} {n : Nat} {L : Nat → Ac} (X : WoX h f T n n L) (hs : T.length ≤ 1000000) (k : ∀ p' c' h', h.le h' → OwnL h h' [string { data := #[] }, .int .i64 0, .int .i64 0] p' c' (curV T) → K (slice p' T.length c') h') :
    CallA Tryz.prog fn_pworth_Worths_Table [pointer (some ⟨f.b 0, 0, none⟩)] h K := by
  refine F_pworth_Worths_Table _ _ _ ?_
  unfold F_pworth_Worths_TableT
  exact withAddr_intro rfl ⟨_, _, _, X.w.cell rfl, S_CloneC X.t rfl hs fun p' c' h' l' own => ⟨_, _, _, rfl, Ret.mk (k p' c' h' l' own)⟩⟩
end
end Go.Proofs.YtghdadniddoboaaGreat
