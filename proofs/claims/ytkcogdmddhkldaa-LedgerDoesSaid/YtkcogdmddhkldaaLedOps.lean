/- Operations on a ledger, as they are handed over, and done. -/
import Derived.Test.YtkcogdmddhkldaaLedPost
import Derived.Test.YtkcogdmddhkldaaLedRead
import Derived.Test.YtkcogdmddhkldaaEqLedLaw
namespace Go.Proofs.Ytkcogdmddhkldaa
open Go Go.Sy Go.Value
set_option linter.unusedVariables false
set_option linter.unusedSimpArgs false

structure OpR where
  d : Int
  m : Int
  c : Int
  g : Int
  a : Int
  gv : Int
  p : Option Addr
  cp : Nat
  b : List Pst
def opV1 (x : OpR) : List Value := [.int .i64 x.d, .int .i64 x.m, .int .i64 x.c, .int .i64 x.g, .int .i64 x.a, .int .i64 x.gv, .slice x.p x.b.length x.cp]
def opsV : List OpR → List Value
  | [] => []
  | x :: r => .int .i64 x.d :: .int .i64 x.m :: .int .i64 x.c :: .int .i64 x.g :: .int .i64 x.a :: .int .i64 x.gv :: .slice x.p x.b.length x.cp :: opsV r
theorem opsV_length : ∀ l, (opsV l).length = l.length * 7
  | [] => rfl
  | x :: l => by simp only [opsV, List.length_cons, opsV_length l]; omega
theorem opsV_get : ∀ (l : List OpR) (j : Nat) (x : OpR), l[j]? = some x → ∀ i, i < 7 → (opsV l)[j * 7 + i]? = (opV1 x)[i]?
  | [], j, x, h, _, _ => by simp at h
  | y :: l, 0, x, h, i, hi => by
    simp at h
    subst h
    rw [Nat.zero_mul, Nat.zero_add]
    match i, hi with
    | 0, _ => rfl
    | 1, _ => rfl
    | 2, _ => rfl
    | 3, _ => rfl
    | 4, _ => rfl
    | 5, _ => rfl
    | 6, _ => rfl
  | y :: l, j + 1, x, h, i, hi => by
    have := opsV_get l j x (by simpa using h) i hi
    rw [show (j + 1) * 7 + i = j * 7 + i + 1 + 1 + 1 + 1 + 1 + 1 + 1 from by omega]
    simp only [opsV, List.getElem?_cons_succ]
    exact this
structure OpI (x : OpR) : Prop where
  d : I64 x.d
  m : I64 x.m
  c : I64 x.c
  g : I64 x.g
  a : I64 x.a
  gv : I64 x.gv
  b : ∀ y ∈ x.b, I64 y.m ∧ I64 y.c ∧ I64 y.a
def Ops (h : Heap) (p : Option Addr) (l : List OpR) : Prop := rdL h p (opsV l) ∧ ∀ x ∈ l, Pos h x.p x.b
theorem Ops.le {h h' : Heap} {p : Option Addr} {l : List OpR} (x : Ops h p l) (e : h.le h') : Ops h' p l := ⟨rdL_le e x.1, fun y hy => rdL_le e (x.2 y hy)⟩
theorem ox {h : Heap} {p : Option Addr} {l : List OpR} {N : Nat} (C : Ops h p l) (hn : l.length = N) {j : Nat} {i : Int} (hi : i = (j : Int)) {x : OpR} (hx : l[j]? = some x) {Q : Int → Int → Int → Int → Int → Int → Option Addr → Nat → Nat → Prop} (kk : Q x.d x.m x.c x.g x.a x.gv x.p x.b.length x.cp) :
    0 ≤ i ∧ i < (N : Int) ∧ withAddr p fun b o => ∃ n, h.cell b (o + i.toNat * 7) = some (.int .i64 n) ∧ ∃ n1, h.cell b (o + i.toNat * 7 + 1) = some (.int .i64 n1) ∧ ∃ n2, h.cell b (o + i.toNat * 7 + 2) = some (.int .i64 n2) ∧
      ∃ n3, h.cell b (o + i.toNat * 7 + 3) = some (.int .i64 n3) ∧ ∃ n4, h.cell b (o + i.toNat * 7 + 4) = some (.int .i64 n4) ∧ ∃ n5, h.cell b (o + i.toNat * 7 + 5) = some (.int .i64 n5) ∧ ∃ a n6 m, h.cell b (o + i.toNat * 7 + 6) = some (.slice a n6 m) ∧ Q n n1 n2 n3 n4 n5 a n6 m := by
  subst hi hn
  have hj : j < l.length := (List.getElem?_eq_some_iff.1 hx).1
  have g := opsV_get l j x hx
  rcases C.1 with e | ⟨b, o, e, r⟩
  · have := congrArg List.length e
    rw [opsV_length, List.length_nil] at this
    omega
  · rw [Int.toNat_natCast]
    have r7 : ∀ i, i < 7 → h.cell b (o + j * 7 + i) = (opV1 x)[i]? := fun i hi => by rw [Nat.add_assoc, r _ (by rw [opsV_length]; omega), g i hi]
    exact ⟨by omega, by omega, withAddr_intro e ⟨_, r7 0 (by omega), _, r7 1 (by omega), _, r7 2 (by omega), _, r7 3 (by omega), _, r7 4 (by omega), _, r7 5 (by omega), _, _, _, r7 6 (by omega), kk⟩⟩
theorem ox6 {h : Heap} {p : Option Addr} {l : List OpR} {N : Nat} (C : Ops h p l) (hn : l.length = N) {j : Nat} {i : Int} (hi : i = (j : Int)) {x : OpR} (hx : l[j]? = some x) {Q : Option Addr → Nat → Nat → Prop} (kk : Q x.p x.b.length x.cp) :
    0 ≤ i ∧ i < (N : Int) ∧ withAddr p fun b o => ∃ a n6 m, h.cell b (o + i.toNat * 7 + 6) = some (.slice a n6 m) ∧ Q a n6 m := by
  have := ox C hn hi hx (Q := fun _ _ _ _ _ _ a n m => Q a n m) kk
  obtain ⟨h1, h2, h3⟩ := this
  refine ⟨h1, h2, ?_⟩
  obtain ⟨b, o, e, _, _, _, _, _, _, _, _, _, _, _, _, r⟩ := withAddr_elim h3
  exact withAddr_intro e r
def opSt : Sh := .two (.int .i64) (.two (.int .i64) (.two (.int .i64) (.two (.int .i64) (.two (.int .i64) (.two (.int .i64) (.two (.sl poSh) .nil))))))
theorem op_of {h : Heap} {vs : List Value} (H : opSt.Has h vs) : ∃ x : OpR, vs = opV1 x ∧ Pos h x.p x.b ∧ OpI x ∧ x.b.length ≤ 9223372036854775807 := by
  obtain ⟨_, _, rfl, _, ⟨n1, rfl, w1⟩, _, _, rfl, _, ⟨n2, rfl, w2⟩, _, _, rfl, _, ⟨n3, rfl, w3⟩, _, _, rfl, _, ⟨n4, rfl, w4⟩, _, _, rfl, _, ⟨n5, rfl, w5⟩, _, _, rfl, _, ⟨n6, rfl, w6⟩, _, _, rfl, _, hsl, hnil⟩ := H
  cases hnil
  have hsl2 := hsl
  obtain ⟨q, n, c, rfl, _⟩ := hsl2
  obtain ⟨h1, h2, L, hL, hP, hI⟩ := pos_of hsl
  subst hL
  exact ⟨⟨n1, n2, n3, n4, n5, n6, q, c, L⟩, rfl, hP, ⟨I64.of_wf w1, I64.of_wf w2, I64.of_wf w3, I64.of_wf w4, I64.of_wf w5, I64.of_wf w6, hI⟩, by dsimp only; omega⟩
def opsSh : Sh := .sl opSt
theorem ops_of {h : Heap} {p : Option Addr} {n c : Nat} (H : opsSh.Has h [.slice p n c]) : n ≤ 9223372036854775807 ∧ ∃ L : List OpR, L.length = n ∧ Ops h p L ∧ (∀ x ∈ L, OpI x) ∧ ∀ x ∈ L, x.b.length ≤ 9223372036854775807 := by
  obtain ⟨h1, h2, L, hL, hA, hR⟩ := Sh.Has.list H
  refine ⟨by omega, ?_⟩
  have : ∀ L : List (List Value), (∀ vs ∈ L, vs.length = opSt.n ∧ opSt.Has h vs) → ∃ l : List OpR, l.length = L.length ∧ L.flatten = opsV l ∧ (∀ x ∈ l, Pos h x.p x.b) ∧ (∀ x ∈ l, OpI x) ∧ ∀ x ∈ l, x.b.length ≤ 9223372036854775807 := by
    intro L
    induction L with
    | nil => exact fun _ => ⟨[], rfl, rfl, fun _ hn => (by cases hn), fun _ hn => (by cases hn), fun _ hn => (by cases hn)⟩
    | cons a L ih =>
      intro hA
      obtain ⟨l, e1, e2, e3, e4, e5⟩ := ih (fun vs hv => hA vs (List.mem_cons_of_mem _ hv))
      obtain ⟨x, rfl, hP, hI, hb⟩ := op_of (hA a (List.mem_cons_self ..)).2
      refine ⟨x :: l, by simp [e1], ?_, fun y hy => ?_, fun y hy => ?_, fun y hy => ?_⟩
      · rw [List.flatten_cons, e2]; rfl
      · rcases List.mem_cons.1 hy with rfl | hy
        · exact hP
        · exact e3 y hy
      · rcases List.mem_cons.1 hy with rfl | hy
        · exact hI
        · exact e4 y hy
      · rcases List.mem_cons.1 hy with rfl | hy
        · exact hb
        · exact e5 y hy
  obtain ⟨l, e1, e2, e3, e4, e5⟩ := this L hA
  exact ⟨l, by rw [e1, hL], ⟨by rw [← e2]; exact hR, e3⟩, e4, e5⟩
def doG (S : Lg) (x : OpR) : Int × Lg := if x.d = 0 then inG S x.m x.c x.a else if x.d = 1 then outG S x.m x.c x.a else if x.d = 3 then swapG S x.m x.c x.g x.a x.gv else postG S x.b
theorem doG_ok {S : Lg} (o : S.Ok) (x : OpR) : (doG S x).2.Ok := by
  unfold doG
  split
  · exact inG_ok o _ _ _
  split
  · exact outG_ok o _ _ _
  split
  · exact swapG_ok o _ _ _ _ _
  · exact postG_ok o _
theorem doG_err {S : Lg} {x : OpR} : (doG S x).1 ≠ 0 → (doG S x).2 = S := by
  unfold doG
  split
  · exact inG_err
  split
  · exact outG_err
  split
  · exact swapG_err
  · exact postG_err
theorem wrM_len (M : Mx) (i c : Nat) (v : Int) : (wrM M i c v).length = M.length := by unfold wrM; rw [List.length_set]
theorem addsM_len : ∀ (b : List Pst) (M : Mx), (addsM b M).2.length = M.length
  | [], M => rfl
  | p :: r, M => by
    rw [addsM]
    split
    · rfl
    · rw [addsM_len r, wrM_len]
def szB (S T : Lg) : Prop := T.M.length = S.M.length ∧ T.cur = S.cur
theorem inG_sz (S : Lg) (m c a : Int) : szB S (inG S m c a).2 := by
  unfold inG
  repeat' split
  all_goals first
    | exact ⟨rfl, rfl⟩
    | (exact ⟨by simp only [wnG, wrG, wrM_len], rfl⟩)
theorem outG_sz (S : Lg) (m c a : Int) : szB S (outG S m c a).2 := by
  unfold outG
  repeat' split
  all_goals first
    | exact ⟨rfl, rfl⟩
    | (exact ⟨by simp only [wnG, wrG, wrM_len], rfl⟩)
theorem swapG_sz (S : Lg) (m g v x y : Int) : szB S (swapG S m g v x y).2 := by
  unfold swapG
  repeat' split
  all_goals first
    | exact ⟨rfl, rfl⟩
    | (exact ⟨by simp only [wnG, wrG, wrM_len], rfl⟩)
theorem postG_sz (S : Lg) (b : List Pst) : szB S (postG S b).2 := by
  unfold postG
  repeat' split
  all_goals first
    | exact ⟨rfl, rfl⟩
    | (exact ⟨by simp only [addsM_len], rfl⟩)
theorem doG_sz (S : Lg) (x : OpR) : szB S (doG S x).2 := by
  unfold doG
  split
  · exact inG_sz S _ _ _
  split
  · exact outG_sz S _ _ _
  split
  · exact swapG_sz S _ _ _ _ _
  · exact postG_sz S _
section
variable {h0 h : Heap} {K : Value → Heap → Prop} {p B C : Nat} {sp : List Value} {S : Lg}
theorem S_do (l0 : h0.le h) (np : h0 p = none) (nB : h0 B = none) (A : LedAt h p B C sp S) {x : OpR} (hx : Pos h0 x.p x.b) (hI : OpI x) (hb : x.b.length ≤ 1000)
    (k : ∀ h' B' C' sp', h0.le h' → LedAt h' p B' C' sp' (doG S x).2 → h0 B' = none → K (.int .i64 (doG S x).1) h') :
    CallA Try.prog fn_law08_do [pointer (some ⟨p, 0, none⟩), .agg (opV1 x).toArray] h K := by
  refine F_law08_do _ _ _ _ _ _ _ _ _ _ _ _ ?_
  unfold F_law08_doT
  intro r hr
  have Ax := At.new h r [.int .i64 x.d, .int .i64 x.m, .int .i64 x.c, .int .i64 x.g, .int .i64 x.a, .int .i64 x.gv, slice x.p x.b.length x.cp] 90
  have l1 : h.le (h.ins r (.cells [.int .i64 x.d, .int .i64 x.m, .int .i64 x.c, .int .i64 x.g, .int .i64 x.a, .int .i64 x.gv, slice x.p x.b.length x.cp].toArray 90 (0, 0))) := le_ins hr
  generalize h.ins r (.cells [.int .i64 x.d, .int .i64 x.m, .int .i64 x.c, .int .i64 x.g, .int .i64 x.a, .int .i64 x.gv, slice x.p x.b.length x.cp].toArray 90 (0, 0)) = h1 at *
  have A1 := A.le l1
  have l01 := Heap.le_trans l0 l1
  unfold doG at k
  refine ⟨_, Ax.cell rfl, Br.intro (fun e => ?_) fun e => ?_⟩
  · have e : x.d = 0 := by simpa using e
    rw [if_pos e] at k
    exact ⟨_, Ax.cell rfl, _, Ax.cell rfl, _, Ax.cell rfl, S_lIn l01 np nB A1 hI.a fun h' l' A' => ⟨_, rfl, Ret.mk (k h' _ _ _ l' A' nB)⟩⟩
  have e : x.d ≠ 0 := by simpa using e
  rw [if_neg e] at k
  refine Br.intro (fun e => ?_) fun e => ?_
  · have e : x.d = 1 := by simpa using e
    rw [if_pos e] at k
    exact ⟨_, Ax.cell rfl, _, Ax.cell rfl, _, Ax.cell rfl, S_lOut l01 np nB A1 hI.a fun h' l' A' => ⟨_, rfl, Ret.mk (k h' _ _ _ l' A' nB)⟩⟩
  have e : x.d ≠ 1 := by simpa using e
  rw [if_neg e] at k
  refine Br.intro (fun e => ?_) fun e => ?_
  · have e : x.d = 3 := by simpa using e
    rw [if_pos e] at k
    exact ⟨_, Ax.cell rfl, _, Ax.cell rfl, _, Ax.cell rfl, _, Ax.cell rfl, _, Ax.cell rfl, S_lSwap l01 np nB A1 hI.a hI.gv fun h' l' A' => ⟨_, rfl, Ret.mk (k h' _ _ _ l' A' nB)⟩⟩
  have e : x.d ≠ 3 := by simpa using e
  rw [if_neg e] at k
  exact ⟨_, _, _, Ax.cell rfl, S_lPost l01 np nB A1 hx rfl hb hI.b fun h' B' C' sp' l' A' n' => ⟨_, rfl, Ret.mk (k h' B' C' sp' l' A' n')⟩⟩
theorem large08_loop {q : Option Addr} {l : List OpR} {n c : Nat} (X : Ops h q l) (hn : l.length = n) (hs : n ≤ 9223372036854775807) (k : ∀ b : Bool, (b = false → n ≤ 40 ∧ ∀ x ∈ l, x.b.length ≤ 30) → K (.bool b) h) :
    ∀ (m j : Nat), m + j = n → (∀ x ∈ l.take j, x.b.length ≤ 30) → L_law08_large_0 q n c (n : Int) (j : Int) h K := by
  intro m
  induction m with
  | zero =>
    intro j hj ha
    refine L_law08_large_0r _ _ _ _ _ _ _ ?_
    unfold L_law08_large_0T
    rw [List.take_of_length_le (by omega)] at ha
    exact Br.no (by simp; omega) (Ret.mk (k _ fun e => ⟨by simp at e; omega, ha⟩))
  | succ m ih =>
    intro j hj ha
    refine L_law08_large_0r _ _ _ _ _ _ _ ?_
    unfold L_law08_large_0T
    have hx : l[j]? = some l[j] := List.getElem?_eq_getElem (by omega)
    have w1 : IntKind.wrap .i64 ((j : Int) + 1) = ((j + 1 : Nat) : Int) := by rw [wrap_i64_id (by omega) (by omega)]; omega
    refine Br.yes (by simp; omega) (ox6 X hn rfl hx (Br.dec (fun _ => Ret.mk (k true fun e => by cases e)) fun g => ?_))
    rw [w1]
    refine ih (j + 1) (by omega) fun x hx2 => ?_
    rw [List.take_add_one, hx] at hx2
    rcases List.mem_append.1 hx2 with h2 | h2
    · exact ha x h2
    · simp at h2; subst h2; omega
theorem S_large08 {q : Option Addr} {l : List OpR} {n c : Nat} (X : Ops h q l) (hn : l.length = n) (hs : n ≤ 9223372036854775807) (k : ∀ b : Bool, (b = false → n ≤ 40 ∧ ∀ x ∈ l, x.b.length ≤ 30) → K (.bool b) h) :
    CallA Try.prog fn_law08_large [slice q n c] h K := by
  refine F_law08_large _ _ _ _ _ ?_
  unfold F_law08_largeT
  exact large08_loop X hn hs k n 0 (by omega) (fun x hx => by simp at hx)
end
theorem S_lReadX {h : Heap} {K : Value → Heap → Prop} (k : K (tuple #[.pointer none, .int .i64 2]) h) : CallA Try.prog fn_ledger_Read [.string { data := #[120] }] h K := by
  refine F_ledger_Read _ _ _ ?_
  unfold F_ledger_ReadT
  exact Br.yes (by decide) (Ret.mk k)
theorem S_law08_awake {h : Heap} {K : Value → Heap → Prop} (k : ∀ h', h.le h' → K (.bool true) h') : CallA Try.prog fn_law08_awake [] h K := by
  refine F_law08_awake _ _ ?_
  unfold F_law08_awakeT
  refine S_lNew (fun e => absurd e (by decide)) fun n w en ew _ _ _ _ h1 p B C sp l1 A1 np nB => ⟨_, _, rfl, ?_⟩
  have en : n = 2 := by omega
  have ew : w = 2 := by omega
  subst en ew
  refine S_lNew (fun _ => ⟨_, _, rfl, Br.no rfl ?_⟩) fun n w en ew h1 _ _ _ => by omega
  have i50 : I64 50 := ⟨by decide, by decide⟩
  have o1 : (newG 2 2).Ok := newG_ok (by omega) (by omega) (by omega) (by omega)
  refine S_lIn l1 np nB A1 i50 fun h2 l2 A2 => ⟨_, rfl, fun r hr => ?_⟩
  have o2 := inG_ok o1 0 1 50
  have nr := none_of_le l2 hr
  have P1 : Pos (h.ins r (.cells [.int .i64 0, .int .i64 1, .int .i64 (-20), .int .i64 1, .int .i64 1, .int .i64 20].toArray 102 (0, 0))) (some ⟨r, 0, none⟩) [⟨0, 1, -20⟩, ⟨1, 1, 20⟩] := rdL_new _ _ _ _ _
  have l3 := ins_le_ins (r := r) (x := .cells [.int .i64 0, .int .i64 1, .int .i64 (-20), .int .i64 1, .int .i64 1, .int .i64 20].toArray 102 (0, 0)) l2
  have l3' : h2.le (h2.ins r (.cells [.int .i64 0, .int .i64 1, .int .i64 (-20), .int .i64 1, .int .i64 1, .int .i64 20].toArray 102 (0, 0))) := le_ins hr
  have hg : h.le (h.ins r (.cells [.int .i64 0, .int .i64 1, .int .i64 (-20), .int .i64 1, .int .i64 1, .int .i64 20].toArray 102 (0, 0))) := le_ins nr
  have A3 := A2.le l3'
  have np3 : (h.ins r (.cells [.int .i64 0, .int .i64 1, .int .i64 (-20), .int .i64 1, .int .i64 1, .int .i64 20].toArray 102 (0, 0))) p = none := by
    unfold Heap.ins; rw [if_neg (A2.ap.ne hr)]; exact np
  have nB3 : (h.ins r (.cells [.int .i64 0, .int .i64 1, .int .i64 (-20), .int .i64 1, .int .i64 1, .int .i64 20].toArray 102 (0, 0))) B = none := by
    unfold Heap.ins; rw [if_neg (A2.ab.ne hr)]; exact nB
  generalize h2.ins r (.cells [.int .i64 0, .int .i64 1, .int .i64 (-20), .int .i64 1, .int .i64 1, .int .i64 20].toArray 102 (0, 0)) = h3 at *
  generalize h.ins r (.cells [.int .i64 0, .int .i64 1, .int .i64 (-20), .int .i64 1, .int .i64 1, .int .i64 20].toArray 102 (0, 0)) = g3 at *
  have ip : ∀ a : Int, -100 ≤ a → a ≤ 100 → I64 a := fun a h1 h2 => by unfold I64; omega
  refine S_lPost l3 np3 nB3 A3 P1 rfl (by decide) (fun x hx => ?_) fun h4 B4 C4 sp4 l4 A4 n4 => ⟨_, rfl, fun r2 hr2 => ?_⟩
  · rcases List.mem_cons.1 hx with rfl | hx
    · exact ⟨ip _ (by decide) (by decide), ip _ (by decide) (by decide), ip _ (by decide) (by decide)⟩
    · rw [List.mem_singleton] at hx; subst hx
      exact ⟨ip _ (by decide) (by decide), ip _ (by decide) (by decide), ip _ (by decide) (by decide)⟩
  have o4 := postG_ok o2 [⟨0, 1, -20⟩, ⟨1, 1, 20⟩]
  have P2 : Pos (g3.ins r2 (.cells [.int .i64 0, .int .i64 1, .int .i64 (-20)].toArray 102 (0, 0))) (some ⟨r2, 0, none⟩) [⟨0, 1, -20⟩] := rdL_new _ _ _ _ _
  have l5 := ins_le_ins (r := r2) (x := .cells [.int .i64 0, .int .i64 1, .int .i64 (-20)].toArray 102 (0, 0)) l4
  have l5' : h4.le (h4.ins r2 (.cells [.int .i64 0, .int .i64 1, .int .i64 (-20)].toArray 102 (0, 0))) := le_ins hr2
  have hg5 : g3.le (g3.ins r2 (.cells [.int .i64 0, .int .i64 1, .int .i64 (-20)].toArray 102 (0, 0))) := le_ins (none_of_le l4 hr2)
  have A5 := A4.le l5'
  have np5 : (g3.ins r2 (.cells [.int .i64 0, .int .i64 1, .int .i64 (-20)].toArray 102 (0, 0))) p = none := by
    unfold Heap.ins; rw [if_neg (A4.ap.ne hr2)]; exact np3
  have nB5 : (g3.ins r2 (.cells [.int .i64 0, .int .i64 1, .int .i64 (-20)].toArray 102 (0, 0))) B4 = none := by
    unfold Heap.ins; rw [if_neg (A4.ab.ne hr2)]; exact n4
  generalize h4.ins r2 (.cells [.int .i64 0, .int .i64 1, .int .i64 (-20)].toArray 102 (0, 0)) = h5 at *
  generalize g3.ins r2 (.cells [.int .i64 0, .int .i64 1, .int .i64 (-20)].toArray 102 (0, 0)) = g5 at *
  refine S_lPost l5 np5 nB5 A5 P2 rfl (by decide) (fun x hx => ?_) fun h6 B6 C6 sp6 l6 A6 n6 => ⟨_, rfl, ?_⟩
  · rw [List.mem_singleton] at hx; subst hx
    exact ⟨ip _ (by decide) (by decide), ip _ (by decide) (by decide), ip _ (by decide) (by decide)⟩
  have o6 := postG_ok o4 [⟨0, 1, -20⟩]
  refine S_lOut l6 np5 n6 A6 (ip _ (by decide) (by decide)) fun h7 l7 A7 => ⟨_, rfl, ?_⟩
  have o7 := outG_ok o6 1 1 21
  refine S_lOut l7 np5 n6 A7 (ip _ (by decide) (by decide)) fun h8 l8 A8 => ⟨_, rfl, ?_⟩
  have o8 := outG_ok o7 1 1 5
  have e0 : (inG (newG 2 2) 0 1 50).1 = 0 := by kernel_rfl
  have e1 : (postG (inG (newG 2 2) 0 1 50).2 [⟨0, 1, -20⟩, ⟨1, 1, 20⟩]).1 = 0 := by kernel_rfl
  have e2 : (postG (postG (inG (newG 2 2) 0 1 50).2 [⟨0, 1, -20⟩, ⟨1, 1, 20⟩]).2 [⟨0, 1, -20⟩]).1 = 12 := by kernel_rfl
  have e3 : (outG (postG (postG (inG (newG 2 2) 0 1 50).2 [⟨0, 1, -20⟩, ⟨1, 1, 20⟩]).2 [⟨0, 1, -20⟩]).2 1 1 21).1 = 10 := by kernel_rfl
  have e4 : (outG (outG (postG (postG (inG (newG 2 2) 0 1 50).2 [⟨0, 1, -20⟩, ⟨1, 1, 20⟩]).2 [⟨0, 1, -20⟩]).2 1 1 21).2 1 1 5).1 = 0 := by kernel_rfl
  have eS : (outG (outG (postG (postG (inG (newG 2 2) 0 1 50).2 [⟨0, 1, -20⟩, ⟨1, 1, 20⟩]).2 [⟨0, 1, -20⟩]).2 1 1 21).2 1 1 5).2 = ⟨[[0, 30, 0, 0, 0, 0, 0, 0], [0, 15, 0, 0, 0, 0, 0, 0]], [0, 45, 0, 0, 0, 0, 0, 0], 2⟩ := by kernel_rfl
  rw [e0, e1, e2, e3, e4]
  rw [eS] at A8 o8
  have lg : h.le g5 := Heap.le_trans hg hg5
  refine S_lSize A8 ⟨_, _, rfl, S_lText A8 fun h9 l9 => ⟨_, rfl, S_lRead o8 fun h10 p2 B2 C2 sp2 l10 A10 np2 nB2 => ⟨_, _, rfl, S_lReadX ⟨_, _, rfl, ?_⟩⟩⟩⟩
  have l89 := Heap.le_trans l9 l10
  have A8' := A8.le l89
  refine Br.yes rfl (Br.yes rfl (Br.yes rfl (Br.yes rfl (Br.yes rfl (Br.yes rfl (Br.yes rfl ?_))))))
  refine S_lGet A8' ⟨_, rfl, Br.yes (by kernel_rfl) ?_⟩
  refine S_lGet A8' ⟨_, rfl, Br.yes (by kernel_rfl) ?_⟩
  refine S_lNostro A8' ⟨_, rfl, Br.yes (by kernel_rfl) (Br.yes (by decide) (Br.yes (by decide) (Br.yes rfl ?_)))⟩
  refine S_lGet A10 ⟨_, rfl, Br.yes (by kernel_rfl) (Br.yes rfl (Ret.mk ?_))⟩
  exact k h10 (Heap.le_trans (Heap.le_trans lg l8) l89)
end Go.Proofs.Ytkcogdmddhkldaa
