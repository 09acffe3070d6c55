import Derived.Test.YtgjeecaombnmiaaGreatM16
/- Where all that must be paid is there, a pass settles all: plainly. -/
namespace Go.Proofs.YtgjeecaombnmiaaGreat
open Go Go.Sy Go.Value
set_option linter.unusedVariables false
set_option linter.unusedSimpArgs false

/-! ### balances that are neither below nothing nor great -/
def UU : Int := 1000000000000
def inU (x : Int) : Prop := 0 ≤ x ∧ x ≤ UU
theorem qXt {a k : Int} (ha : inU a) (hk : 0 ≤ k ∧ k ≤ 1000000000000) : (md a k 100000000 false).2 = 0 ∧ 0 ≤ (md a k 100000000 false).1 ∧ (md a k 100000000 false).1 ≤ 10000000000000000 := by
  obtain ⟨h1, h2⟩ := ha
  unfold UU at h2
  have h3 : 0 ≤ a * k := Int.mul_nonneg h1 hk.1
  have h4 : a * k ≤ 1000000000000 * 1000000000000 := Int.mul_le_mul h2 hk.2 hk.1 (by decide)
  have e : md a k 100000000 false = fit (a * k / 100000000) := by
    unfold md dv
    rw [if_neg (by omega)]; rfl
  rw [e, qDb (by unfold I64; omega)]
  dsimp only
  omega
theorem qV1 {T : List Cur} (ht : qCV T = 0) {c : Nat} (hc : c < T.length) {b : Int} (hb : inU b) : (qAC T c b).2 = 0 ∧ 0 ≤ (qAC T c b).1 ∧ (qAC T c b).1 ≤ 10000000000000000 := by
  obtain ⟨j, x, ej, hj, e⟩ := qKv (l := T) (cur := (c : Int)) rfl ⟨by omega, by omega⟩
  obtain ⟨r1, r2, c1, c2⟩ := qXI ht e
  unfold qAC qCa
  rw [e]
  have ep : qGB x b = 10000 - x.cut := by
    unfold qGB
    rw [if_neg (by have := hb.1; omega)]
  dsimp only
  rw [ep]
  refine qXt hb ⟨Int.mul_nonneg (by omega) (by omega), ?_⟩
  have : x.rate * (10000 - x.cut) ≤ 100000000 * 10000 := Int.mul_le_mul r2 (by omega) (by omega) (by decide)
  omega
theorem qR7 {T : List Cur} (ht : qCV T = 0) : ∀ (r : List Int) (c : Nat) (s : Int), c + r.length ≤ T.length → (∀ b ∈ r, inU b) → 0 ≤ s → s + r.length * 10000000000000000 ≤ 9000000000000000000 → (qk s (qm (qAC T) c r)).2 = 0 ∧ 0 ≤ (qk s (qm (qAC T) c r)).1
  | [], c, s, _, _, h, _ => ⟨rfl, h⟩
  | b :: r, c, s, hc, hr, h, hs => by
    rw [List.length_cons] at hc hs
    obtain ⟨t1, t2, t3⟩ := qV1 ht (c := c) (by omega) (hr b (List.mem_cons_self ..))
    rw [qm, qk, if_neg (fun g => g t1), qDb (by unfold I64; omega), if_neg (fun g => g rfl)]
    exact qR7 ht r (c + 1) _ (by omega) (fun x hx => hr x (List.mem_cons_of_mem _ hx)) (by omega) (by omega)
theorem qUC {T : List Cur} : ∀ (r : List Int) (c : Nat), (∀ b ∈ r, inU b) → qk 0 (qm (qAN T) c r) = (0, 0)
  | [], c, _ => rfl
  | b :: r, c, hr => by
    have hb := (hr b (List.mem_cons_self ..)).1
    have e : qAN T c b = (0, 0) := by unfold qAN; rw [if_neg (by omega)]
    rw [qm, qk, e, if_neg (fun g => g rfl)]
    dsimp only
    rw [if_neg (by decide)]
    exact qUC r (c + 1) fun x hx => hr x (List.mem_cons_of_mem _ hx)
theorem qRJ {T : List Cur} (ht : qCV T = 0) {r : List Int} (hl : r.length = T.length) (hr : ∀ b ∈ r, inU b) : (qBo T r).2 = 0 ∧ 0 ≤ (qBo T r).1 ∧ shW T r = (0, 0) := by
  have h8 := (qCq ht).2.1
  obtain ⟨a, b⟩ := qR7 ht r 0 0 (by omega) hr (by decide) (by omega)
  exact ⟨a, b, qUC r 0 hr⟩
theorem qQH {T : List Cur} (ht : qCV T = 0) {l : Lm} (hls : ∀ y ∈ l.sh, 0 ≤ y) (hla : 0 ≤ l.all) {r : List Int} (hl : r.length = T.length) (hr : ∀ b ∈ r, inU b) : qM0 T l r = 0 := by
  obtain ⟨h1, h2, h3⟩ := qRJ ht hl hr
  unfold qM0
  rw [if_neg (fun g => g h1), h3, if_neg (fun g => g rfl), if_neg (by omega), if_neg, if_neg (by dsimp only; omega)]
  · rfl
  · unfold qMS
    rw [Bool.not_eq_true, List.any_eq_false]
    intro c hc
    have hc := List.mem_range.1 hc
    have e : r.getD c 0 = r[c] := by rw [List.getD_eq_getElem?_getD, List.getElem?_eq_getElem hc]; rfl
    have g1 := (hr r[c] (List.getElem_mem _)).1
    have g2 : 0 ≤ l.sh.getD c 0 := by
      rw [List.getD_eq_getElem?_getD]
      cases h : l.sh[c]? with
      | none => exact Int.le_refl _
      | some y => exact hls y (List.mem_of_getElem? h)
    rw [e]
    exact fun g => by
      have := of_decide_eq_true g
      omega
structure Gu.Fine (u : Gu) : Prop where
  ok : u.Ok
  fl : ∀ m, u.fl.getD m false = false
  b : ∀ m c, inU (rdM u.S.M m c)
theorem qSe {M : Mx} (h : ∀ m c, inU (rdM M m c)) (m w : Nat) : ∀ b ∈ qE4 M m w, inU b := fun b hb => by
  unfold qE4 at hb
  obtain ⟨c, _, rfl⟩ := List.mem_map.1 hb
  exact h m c
theorem qWB : ∀ (l : List Int), (∀ b ∈ l, b ≤ UU) → q5 l ≤ l.length * UU
  | [], _ => by simp [q5]
  | a :: l, h => by
    have h1 := qWB l fun b hb => h b (List.mem_cons_of_mem _ hb)
    have h2 := h a (List.mem_cons_self ..)
    rw [q5, List.length_cons]
    unfold UU at *
    omega
section
variable {u : Gu}
theorem Gu.Fine.lim (F : u.Fine) (m : Nat) : (∀ y ∈ (u.lim m).sh, 0 ≤ y) ∧ 0 ≤ (u.lim m).all := by
  unfold Gu.lim
  rw [List.getD_eq_getElem?_getD]
  cases h : u.L[m]? with
  | none => exact ⟨fun y hy => (by cases hy), Int.le_refl _⟩
  | some l =>
    obtain ⟨_, h2, h3, _⟩ := F.ok.sh l (List.mem_of_getElem? h)
    exact ⟨fun y hy => (h2 y hy).1, h3⟩
theorem Gu.Fine.N (F : u.Fine) (c : Nat) : u.S.N.getD c 0 ≤ 16 * UU := by
  rw [← F.ok.o.sum c]
  have h1 := qWB (qCu u.S.M c) fun b hb => by
    obtain ⟨i, hi⟩ := List.getElem?_of_mem hb
    have hl : i < u.S.M.length := by
      have := (List.getElem?_eq_some_iff.1 hi).1
      unfold qCu at this
      rwa [List.length_map] at this
    rw [qHn _ _ _ hl] at hi
    cases hi
    exact (F.b i c).2
  have h2 : (qCu u.S.M c).length = u.S.M.length := by unfold qCu; rw [List.length_map]
  have := F.ok.o.n16
  rw [h2] at h1
  unfold UU at *
  omega
theorem Gu.Fine.sh (F : u.Fine) : shM u.S.M u.S.M.length 8 := F.ok.o.sh
theorem Gu.Fine.in_ (F : u.Fine) {m c : Nat} {a : Int} (hm : m < u.fl.length) (hc : c < u.T.length) (ha : 1 ≤ a) (hs : rdM u.S.M m c + a ≤ UU) :
    (rIn u m c a).1 = 0 ∧ (rIn u m c a).2.Fine ∧ (rIn u m c a).2.S.M = wrM u.S.M m c (rdM u.S.M m c + a) ∧ (rIn u m c a).2.fl.length = u.fl.length ∧ (rIn u m c a).2.T = u.T := by
  have ok := F.ok
  have hM : m < u.S.M.length := by rw [← ok.ef]; exact hm
  have hcur : c < u.S.cur := by rw [ok.ec]; exact hc
  have h8 := ok.o.c8
  have hb := F.b m c
  have hb1 := hb.1
  have hN := F.N c
  have hp := ok.o.pos c
  have hU : UU = 1000000000000 := rfl
  have sh := F.sh
  have nU : ∀ i d, inU (rdM (wrM u.S.M m c (rdM u.S.M m c + a)) i d) := fun i d => by
    rw [qE2 sh hM (by omega)]
    split
    · exact ⟨by have := hb.1; omega, hs⟩
    · exact F.b i d
  have hrow : u.row m = qE4 u.S.M m u.T.length := by unfold Gu.row; exact qMc hM (by rw [ok.ec]; exact Nat.le_refl _)
  have hif : (ifW u.T (u.row m) (m : Int) [⟨(m : Int), (c : Int), a⟩]).2.2 = 0 := by
    unfold ifW
    have hl : (u.row m).length = u.T.length := by rw [hrow, qEy]
    rw [if_neg]
    · rw [qBL, if_neg (fun g => g rfl), qBL]
      rw [hrow, Int.toNat_natCast, qP5 _ _ hc, qDb (show I64 (rdM u.S.M m c + a) by unfold I64; omega), if_neg (fun g => g rfl)]
      have e := qSD (m := m) (v := rdM u.S.M m c + a) sh hM hc (w := u.T.length) (by have := (qCq ok.tab).2.1; omega)
      rw [if_pos rfl] at e
      rw [← e]
      obtain ⟨g1, _, g3⟩ := qRJ ok.tab (r := qE4 (wrM u.S.M m c (rdM u.S.M m c + a)) m u.T.length) (qEy _ _ _) (qSe nU _ _)
      dsimp only
      rw [if_neg (fun g => g g1), g3, if_neg (fun g => g rfl)]
    · unfold qEa
      rw [hl]
      simp
      omega
  have hin : inG u.S (m : Int) (c : Int) a = (0, wnG (wrG u.S m c (rdM u.S.M m c + a)) c (u.S.N.getD c 0 + a)) := by
    unfold inG
    rw [if_neg (by unfold qC5; rw [decide_eq_true (by omega)]; decide), if_neg (by omega), Int.toNat_natCast, Int.toNat_natCast, qDb (by unfold I64; have := hb.1; omega), if_neg (fun g => g rfl), qDb (by unfold I64; omega), if_neg (fun g => g rfl)]
  have e : rIn u (m : Int) (c : Int) a = (0, (u.setS (inG u.S (m : Int) (c : Int) a).2).setF m false) := by
    unfold rIn
    rw [if_neg (by omega), Int.toNat_natCast, if_neg (fun g => g hif), if_neg (by rw [hin]; exact fun g => g rfl), F.fl m, Bool.false_and]
  have okI := qUM ok.o (m : Int) (c : Int) a
  rw [e]
  rw [hin] at okI ⊢
  dsimp only at okI ⊢
  have lW : (wrM u.S.M m c (rdM u.S.M m c + a)).length = u.S.M.length := (sh.wr hM).1
  refine ⟨rfl, ⟨(ok.setS okI ⟨lW, rfl⟩).setF m false, fun i => ?_, nU⟩, rfl, ?_, rfl⟩
  · show (u.fl.set m false).getD i false = false
    rw [List.getD_eq_getElem?_getD, List.getElem?_set]
    have := F.fl i
    rw [List.getD_eq_getElem?_getD] at this
    split
    · first | rfl | (split <;> rfl) | simp [hm]
    · exact this
  · show (u.fl.set m false).length = _
    rw [List.length_set]
end
end Go.Proofs.YtgjeecaombnmiaaGreat

/- Where all that must be paid is there, a pass settles all: the legs, and the pass. -/
namespace Go.Proofs.YtgjeecaombnmiaaGreat
open Go Go.Sy Go.Value
set_option linter.unusedVariables false
set_option linter.unusedSimpArgs false

def tkD (d : Dl) (m c : Nat) : Int := (if d.a = (m : Int) ∧ d.sc = (c : Int) then d.sell else 0) + (if d.b = (m : Int) ∧ d.bc = (c : Int) then d.buy else 0)
def gvD (d : Dl) (m c : Nat) : Int := (if d.b = (m : Int) ∧ d.sc = (c : Int) then d.sell else 0) + (if d.a = (m : Int) ∧ d.bc = (c : Int) then d.buy else 0)
structure DealB (d : Dl) (n w : Nat) : Prop where
  a : 0 ≤ d.a ∧ d.a < (n : Int)
  b : 0 ≤ d.b ∧ d.b < (n : Int)
  ab : d.a ≠ d.b
  sc : 0 ≤ d.sc ∧ d.sc < (w : Int)
  bc : 0 ≤ d.bc ∧ d.bc < (w : Int)
  cc : d.sc ≠ d.bc
  s : 1 ≤ d.sell ∧ d.sell ≤ 1073741824
  y : 1 ≤ d.buy ∧ d.buy ≤ 1073741824
theorem qX0 {n w : Nat} {M : Mx} {a b sc bc : Nat} {x y : Int} (sh : shM M n 8) (ha : a < n) (hb : b < n) (hab : a ≠ b) (hs : sc < w) (hc : bc < w) (hcc : sc ≠ bc) (hw : w ≤ 8) (hx : 0 ≤ x) (hy : 0 ≤ y) (hM : ∀ m c, inU (rdM M m c)) (h1 : x ≤ rdM M a sc) (h2 : y ≤ rdM M b bc) (h3 : rdM M b sc + x ≤ UU) (h4 : rdM M a bc + y ≤ UU) :
    ∃ M', qAK [⟨(a : Int), (sc : Int), -x⟩, ⟨(b : Int), (sc : Int), x⟩, ⟨(b : Int), (bc : Int), -y⟩, ⟨(a : Int), (bc : Int), y⟩] M = (0, M') ∧ shM M' n 8 ∧
      ∀ m c, rdM M' m c = if m = a ∧ c = bc then rdM M a bc + y else if m = b ∧ c = bc then rdM M b bc - y else if m = b ∧ c = sc then rdM M b sc + x else if m = a ∧ c = sc then rdM M a sc - x else rdM M m c := by
  have U : UU = 1000000000000 := rfl
  have u1 := hM a sc
  have u2 := hM b bc
  have u3 := hM b sc
  have u4 := hM a bc
  unfold inU at u1 u2 u3 u4
  have s1 := sh.wr (c := sc) (v := rdM M a sc + -x) ha
  have r1 : ∀ m c, rdM (wrM M a sc (rdM M a sc + -x)) m c = if m = a ∧ c = sc then rdM M a sc + -x else rdM M m c := fun m c => qE2 sh ha (by omega) m c
  have e1 : rdM (wrM M a sc (rdM M a sc + -x)) b sc = rdM M b sc := by rw [r1, if_neg (fun g => hab g.1.symm)]
  have s2 := s1.wr (c := sc) (v := rdM M b sc + x) hb
  have r2 : ∀ m c, rdM (wrM (wrM M a sc (rdM M a sc + -x)) b sc (rdM M b sc + x)) m c = if m = b ∧ c = sc then rdM M b sc + x else if m = a ∧ c = sc then rdM M a sc + -x else rdM M m c := fun m c => by rw [qE2 s1 hb (by omega), r1]
  have e2 : rdM (wrM (wrM M a sc (rdM M a sc + -x)) b sc (rdM M b sc + x)) b bc = rdM M b bc := by rw [r2, if_neg (fun g => hcc g.2.symm), if_neg (fun g => hcc g.2.symm)]
  have s3 := s2.wr (c := bc) (v := rdM M b bc + -y) hb
  have r3 : ∀ m c, rdM (wrM (wrM (wrM M a sc (rdM M a sc + -x)) b sc (rdM M b sc + x)) b bc (rdM M b bc + -y)) m c = if m = b ∧ c = bc then rdM M b bc + -y else if m = b ∧ c = sc then rdM M b sc + x else if m = a ∧ c = sc then rdM M a sc + -x else rdM M m c := fun m c => by rw [qE2 s2 hb (by omega), r2]
  have e3 : rdM (wrM (wrM (wrM M a sc (rdM M a sc + -x)) b sc (rdM M b sc + x)) b bc (rdM M b bc + -y)) a bc = rdM M a bc := by rw [r3, if_neg (fun g => hab g.1), if_neg (fun g => hab g.1), if_neg (fun g => hcc g.2.symm)]
  have fx : ∀ v : Int, -9223372036854775808 ≤ v → v ≤ 9223372036854775807 → ¬ (fit v).2 ≠ 0 := fun v g1 g2 => by rw [qDb ⟨g1, g2⟩]; exact fun g => g rfl
  refine ⟨wrM (wrM (wrM (wrM M a sc (rdM M a sc + -x)) b sc (rdM M b sc + x)) b bc (rdM M b bc + -y)) a bc (rdM M a bc + y), ?_, s3.wr ha, fun m c => ?_⟩
  · rw [qAK]
    dsimp only
    rw [Int.toNat_natCast, Int.toNat_natCast, if_neg (fx _ (by omega) (by omega)), qAK]
    dsimp only
    rw [Int.toNat_natCast, Int.toNat_natCast, e1, if_neg (fx _ (by omega) (by omega)), qAK]
    dsimp only
    rw [Int.toNat_natCast, Int.toNat_natCast, e2, if_neg (fx _ (by omega) (by omega)), qAK]
    dsimp only
    rw [Int.toNat_natCast, Int.toNat_natCast, e3, if_neg (fx _ (by omega) (by omega)), qAK]
  · rw [qE2 s3 ha (by omega), r3]
    rfl
section
variable {u : Gu}
theorem Gu.Fine.book (F : u.Fine) {d : Dl} (B : DealB d u.fl.length u.T.length) (ht : ∀ m c, tkD d m c ≤ rdM u.S.M m c) (hg : ∀ m c, rdM u.S.M m c + gvD d m c ≤ UU) (hp : (qAj u.S (qBs d)) = if (qAK (qBs d) u.S.M).1 ≠ 0 then ((qAK (qBs d) u.S.M).1, u.S) else (0, ⟨(qAK (qBs d) u.S.M).2, u.S.N, u.S.cur⟩)) :
    (qCL u (qBs d)).1 = 0 ∧ (qCL u (qBs d)).2.Fine ∧ ∀ m c, rdM (qCL u (qBs d)).2.S.M m c = rdM u.S.M m c - tkD d m c + gvD d m c := by
  have ok := F.ok
  obtain ⟨da, db, dab, dsc, dbc, dcc, ds, dy⟩ := B
  obtain ⟨id, a', b', sc', bc', x, y⟩ := d
  dsimp only at da db dab dsc dbc dcc ds dy
  obtain ⟨a, rfl⟩ := Int.eq_ofNat_of_zero_le da.1
  obtain ⟨b, rfl⟩ := Int.eq_ofNat_of_zero_le db.1
  obtain ⟨sc, rfl⟩ := Int.eq_ofNat_of_zero_le dsc.1
  obtain ⟨bc, rfl⟩ := Int.eq_ofNat_of_zero_le dbc.1
  have hab : a ≠ b := fun e => dab (by rw [e])
  have hcc : sc ≠ bc := fun e => dcc (by rw [e])
  have tk : ∀ m c, tkD ⟨id, (a : Int), (b : Int), (sc : Int), (bc : Int), x, y⟩ m c = (if m = a ∧ c = sc then x else 0) + (if m = b ∧ c = bc then y else 0) := fun m c => by
    unfold tkD
    dsimp only
    have e1 : ((a : Int) = (m : Int) ∧ (sc : Int) = (c : Int)) = (m = a ∧ c = sc) := by apply propext; omega
    have e2 : ((b : Int) = (m : Int) ∧ (bc : Int) = (c : Int)) = (m = b ∧ c = bc) := by apply propext; omega
    simp only [e1, e2]
  have gv : ∀ m c, gvD ⟨id, (a : Int), (b : Int), (sc : Int), (bc : Int), x, y⟩ m c = (if m = b ∧ c = sc then x else 0) + (if m = a ∧ c = bc then y else 0) := fun m c => by
    unfold gvD
    dsimp only
    have e1 : ((b : Int) = (m : Int) ∧ (sc : Int) = (c : Int)) = (m = b ∧ c = sc) := by apply propext; omega
    have e2 : ((a : Int) = (m : Int) ∧ (bc : Int) = (c : Int)) = (m = a ∧ c = bc) := by apply propext; omega
    simp only [e1, e2]
  have t1 := ht a sc
  rw [tk, if_pos ⟨rfl, rfl⟩, if_neg (fun g => hab g.1)] at t1
  have t2 := ht b bc
  rw [tk, if_neg (fun g => hab g.1.symm), if_pos ⟨rfl, rfl⟩] at t2
  have t3 := hg b sc
  rw [gv, if_pos ⟨rfl, rfl⟩, if_neg (fun g => hcc g.2)] at t3
  have t4 := hg a bc
  rw [gv, if_neg (fun g => hab g.1), if_pos ⟨rfl, rfl⟩] at t4
  have hw : u.T.length ≤ 8 := (qCq ok.tab).2.1
  have hM : u.fl.length = u.S.M.length := ok.ef
  obtain ⟨M', eM, sM, rM⟩ := qX0 (n := u.fl.length) (w := u.T.length) (M := u.S.M) (a := a) (b := b) (sc := sc) (bc := bc) (x := x) (y := y) (by rw [hM]; exact F.sh) (by omega) (by omega) hab (by omega) (by omega) hcc hw (by omega) (by omega) F.b (by omega) (by omega) (by omega) (by omega)
  have rr : ∀ m c, rdM M' m c = rdM u.S.M m c - tkD ⟨id, (a : Int), (b : Int), (sc : Int), (bc : Int), x, y⟩ m c + gvD ⟨id, (a : Int), (b : Int), (sc : Int), (bc : Int), x, y⟩ m c := fun m c => by
    rw [tk, gv, rM]
    by_cases g1 : m = a
    · subst g1
      by_cases g2 : c = bc
      · subst g2; simp [hab, Ne.symm hcc]
      · by_cases g3 : c = sc
        · subst g3; simp [hab, hcc]
        · simp [g2, g3]
    · by_cases g4 : m = b
      · subst g4
        by_cases g2 : c = bc
        · subst g2; simp [Ne.symm hab, Ne.symm hcc]
        · by_cases g3 : c = sc
          · subst g3; simp [Ne.symm hab, hcc]
          · simp [g2, g3]
      · simp [g1, g4]
  have nU : ∀ m c, inU (rdM M' m c) := fun m c => by
    have h1 := ht m c
    have h2 := hg m c
    have h3 := F.b m c
    rw [rr]
    have p1 : 0 ≤ tkD ⟨id, (a : Int), (b : Int), (sc : Int), (bc : Int), x, y⟩ m c := by rw [tk]; split <;> split <;> omega
    have p2 : 0 ≤ gvD ⟨id, (a : Int), (b : Int), (sc : Int), (bc : Int), x, y⟩ m c := by rw [gv]; split <;> split <;> omega
    exact ⟨by omega, by omega⟩
  have el : qBs ⟨id, (a : Int), (b : Int), (sc : Int), (bc : Int), x, y⟩ = [⟨(a : Int), (sc : Int), -x⟩, ⟨(b : Int), (sc : Int), x⟩, ⟨(b : Int), (bc : Int), -y⟩, ⟨(a : Int), (bc : Int), y⟩] := rfl
  rw [el] at hp ⊢
  rw [eM, if_neg (fun g => g rfl)] at hp
  have okP := qQQ ok.o [⟨(a : Int), (sc : Int), -x⟩, ⟨(b : Int), (sc : Int), x⟩, ⟨(b : Int), (bc : Int), -y⟩, ⟨(a : Int), (bc : Int), y⟩]
  rw [hp] at okP
  have fa : ∀ m : Nat, m < u.fl.length → u.fails (m : Int) [⟨(a : Int), (sc : Int), -x⟩, ⟨(b : Int), (sc : Int), x⟩, ⟨(b : Int), (bc : Int), -y⟩, ⟨(a : Int), (bc : Int), y⟩] = 0 := fun m hm => by
    unfold Gu.fails
    rw [if_pos ⟨by omega, by omega⟩, Int.toNat_natCast]
    have hrow : u.row m = qE4 u.S.M m u.T.length := by unfold Gu.row; exact qMc (by omega) (by rw [ok.ec]; exact Nat.le_refl _)
    have mv := qK8 hw (n := u.fl.length) hm [⟨(a : Int), (sc : Int), -x⟩, ⟨(b : Int), (sc : Int), x⟩, ⟨(b : Int), (bc : Int), -y⟩, ⟨(a : Int), (bc : Int), y⟩] (M := u.S.M) (by rw [hM]; exact F.sh) (fun p hp => by
      simp only [List.mem_cons, List.not_mem_nil, or_false] at hp
      rcases hp with rfl | rfl | rfl | rfl <;> (dsimp only; omega)) (by rw [eM])
    rw [eM] at mv
    unfold qNw
    rw [hrow, mv, qEy, if_neg]
    · exact qQH ok.tab (F.lim m).1 (F.lim m).2 (qEy _ _ _) (qSe nU _ _)
    · unfold qEa
      simp
      omega
  have e : qCL u [⟨(a : Int), (sc : Int), -x⟩, ⟨(b : Int), (sc : Int), x⟩, ⟨(b : Int), (bc : Int), -y⟩, ⟨(a : Int), (bc : Int), y⟩] = (0, u.setS ⟨M', u.S.N, u.S.cur⟩) := by
    unfold qCL
    rw [hp, if_neg (fun g => g rfl), if_neg]
    rw [Bool.not_eq_true, List.any_eq_false]
    intro p hp
    simp only [List.mem_cons, List.not_mem_nil, or_false] at hp
    rcases hp with rfl | rfl | rfl | rfl <;> (dsimp only; rw [F.fl, fa _ (by omega)]; decide)
  rw [e]
  refine ⟨rfl, ⟨ok.setS okP ⟨?_, rfl⟩, F.fl, nU⟩, rr⟩
  show M'.length = u.S.M.length
  rw [sM.1, hM]
end
end Go.Proofs.YtgjeecaombnmiaaGreat

/- Where all that must be paid is there, a pass settles all: the pass. -/
namespace Go.Proofs.YtgjeecaombnmiaaGreat
open Go Go.Sy Go.Value
set_option linter.unusedVariables false
set_option linter.unusedSimpArgs false

def need (D : Int → Dl) : List Int → Nat → Nat → Int
  | [], _, _ => 0
  | id :: l, m, c => tkD (D id) m c + need D l m c
theorem qWI {d : Dl} {n w : Nat} (B : DealB d n w) (m c : Nat) : (0 ≤ tkD d m c ∧ tkD d m c ≤ 2147483648) ∧ 0 ≤ gvD d m c ∧ gvD d m c ≤ 2147483648 := by
  have h1 := B.s
  have h2 := B.y
  unfold tkD gvD
  refine ⟨?_, ?_⟩ <;> (split <;> split <;> omega)
theorem qM1 {D : Int → Dl} {n w : Nat} : ∀ (l : List Int), (∀ id ∈ l, DealB (D id) n w) → ∀ m c, 0 ≤ need D l m c ∧ need D l m c ≤ l.length * 2147483648
  | [], _, m, c => ⟨Int.le_refl _, by rw [need]; simp⟩
  | id :: l, h, m, c => by
    have h1 := qM1 l (fun v hv => h v (List.mem_cons_of_mem _ hv)) m c
    have h2 := (qWI (h id (List.mem_cons_self ..)) m c).1
    rw [need, List.length_cons]
    omega
theorem qO7 (D : Int → Dl) (id : Int) (m c : Nat) : ∀ (l : List Int), need D (l ++ [id]) m c = need D l m c + tkD (D id) m c
  | [] => by show tkD _ _ _ + 0 = 0 + _; omega
  | v :: l => by rw [List.cons_append, need, need, qO7 D id m c l]; omega
theorem qQN {D : Int → Dl} {n w : Nat} : ∀ (todo : List Int) {s : Ub}, s.S.Ok → s.Fit → s.u.Fine → s.u.fl.length = n → s.u.T.length = w → todo.Nodup → (∀ id, D id = (qo s.S id).1) → (∀ id ∈ todo, (qo s.S id).2 = true ∧ qBX s.S id = 2 ∧ DealB (D id) n w) →
    (∀ m c, need D todo m c ≤ rdM s.u.S.M m c) → (∀ m c, rdM s.u.S.M m c + todo.length * 2147483648 ≤ UU) → (qi todo s).1 = todo
  | [], s, _, _, _, _, _, _, _, _, _, _ => rfl
  | id :: l, s, ok, F, Fu, en, ew, nd, hD, hk, hneed, hub => by
    rw [List.nodup_cons] at nd
    obtain ⟨k1, k2, B⟩ := hk id (List.mem_cons_self ..)
    have Bl : ∀ v ∈ l, DealB (D v) n w := fun v hv => (hk v (List.mem_cons_of_mem _ hv)).2.2
    have nl := qM1 l Bl
    have tk := qWI B
    have hp := qUY ok F Fu.ok id
    rw [← hD id] at hp
    have bk := Fu.book (d := D id) (by rw [en, ew]; exact B) (fun m c => by have := hneed m c; rw [need] at this; have := (nl m c).1; omega) (fun m c => by have := hub m c; rw [List.length_cons] at this; have := (tk m c).2; omega) hp
    have t0 : (qAv s id).1 = 0 := by
      unfold qAv
      rw [if_neg (by rw [k1]; simp), if_neg (fun g => g k2), ← hD id, if_neg (fun g => g bk.1)]
      obtain ⟨_, _, _, _, _, _, e⟩ := qLo k2
      rw [e]
    obtain ⟨_, _, _, e4⟩ := qOQ t0
    rw [qi, if_pos t0]
    have td := qVE ok id
    have es := qN5 s.u (qBs (D id))
    have e4u : (qAv s id).2.u = (qCL s.u (qBs (D id))).2 := by rw [e4, hD id]
    have ih := qQN (D := D) (n := n) (w := w) l (s := (qAv s id).2) (qT2 ok id) (F.try id) (by rw [e4u]; exact bk.2.1) (by rw [e4u, es.1]; exact en) (by rw [e4u, es.2.1]; exact ew) nd.2 (fun v => by rw [(td v).1]; exact hD v) (fun v hv => by
      obtain ⟨g1, g2, g3⟩ := hk v (List.mem_cons_of_mem _ hv)
      refine ⟨by rw [(td v).1]; exact g1, ?_, g3⟩
      rw [e4]
      dsimp only
      rw [(qH5 k2 v).2, if_neg (fun e => nd.1 (by rw [← e]; exact hv))]
      exact g2) (fun m c => by
      rw [e4u, bk.2.2 m c]
      have h1 := hneed m c
      rw [need] at h1
      have := (tk m c).2
      omega) (fun m c => by
      rw [e4u, bk.2.2 m c]
      have h1 := hub m c
      rw [List.length_cons] at h1
      have := tk m c
      omega)
    rw [ih]
theorem qXL {s : Ub} (ok : s.S.Ok) (h : (qi (qf s.S 2) s).1 = qf s.S 2) : (qDS ((qf s.S 2).length + 1) s).1 = qf s.S 2 ∧ (qDS ((qf s.S 2).length + 1) s).2.1 = (if 1 < (qf s.S 2).length then 1 else (qf s.S 2).length) + 1 := by
  rw [qDS]
  by_cases g : (qi (qf s.S 2) s).1 = []
  · rw [if_pos g]
    rw [h] at g
    rw [g]
    exact ⟨rfl, rfl⟩
  · rw [if_neg g]
    obtain ⟨ok2, e⟩ := qMy (qf s.S 2) ok
    rw [h] at e g ⊢
    have hn : qf (qi (qf s.S 2) s).2.S 2 = [] := List.length_eq_zero_iff.1 (by omega)
    have hl := List.length_pos_iff.2 g
    obtain ⟨k, hk⟩ : ∃ k, (qf s.S 2).length = k + 1 := ⟨(qf s.S 2).length - 1, by omega⟩
    have e2 : qDS ((qf s.S 2).length) (qi (qf s.S 2) s).2 = ([], 1, (qi (qf s.S 2) s).2) := by
      rw [hk, qDS, hn]
      exact if_pos rfl
    rw [e2]
    refine ⟨List.append_nil _, ?_⟩
    dsimp only
    split <;> omega
/-! ### what is there at the beginning -/
theorem qOg (n w m c : Nat) : rdM (qAz n w).M m c = 0 := by
  unfold rdM qAz
  rw [List.getD_eq_getElem?_getD (l := List.replicate n _), List.getElem?_replicate]
  split
  · show (List.replicate 8 (0 : Int)).getD c 0 = 0
    rw [List.getD_eq_getElem?_getD, List.getElem?_replicate]
    split <;> rfl
  · rfl
theorem qTj {T : List Cur} {n w : Nat} {L : List LmV} (ok : (qRI T (qAz n w) L).Ok) : (qRI T (qAz n w) L).Fine where
  ok := ok
  fl := fun m => by
    show (List.map _ (List.range _)).getD m false = false
    rw [List.getD_eq_getElem?_getD, List.getElem?_map]
    cases hm : (List.range (List.replicate (qAz n w).M.length false).length)[m]? with
    | none => rfl
    | some k =>
      obtain ⟨h1, h2⟩ := List.getElem?_eq_some_iff.1 hm
      rw [List.getElem_range] at h2
      subst h2
      rw [List.length_range, List.length_replicate] at h1
      show (Gu.fails ⟨qAz n w, T, L.map (·.l), List.replicate (qAz n w).M.length false⟩ (m : Int) [] != 0) = false
      have e : Gu.fails ⟨qAz n w, T, L.map (·.l), List.replicate (qAz n w).M.length false⟩ (m : Int) [] = 0 := by
        unfold Gu.fails
        rw [if_pos ⟨by omega, by show (m : Int) < ((List.replicate (qAz n w).M.length false).length : Int); rw [List.length_replicate]; omega⟩, Int.toNat_natCast, qSv]
        have ec : (qAz n w).cur = T.length := ok.ec
        have hrow : Gu.row ⟨qAz n w, T, L.map (·.l), List.replicate (qAz n w).M.length false⟩ m = qE4 (qAz n w).M m T.length := by unfold Gu.row; exact qMc h1 (by rw [ec]; exact Nat.le_refl _)
        rw [hrow]
        have hlim : (∀ y ∈ (Gu.lim ⟨qAz n w, T, L.map (·.l), List.replicate (qAz n w).M.length false⟩ m).sh, 0 ≤ y) ∧ 0 ≤ (Gu.lim ⟨qAz n w, T, L.map (·.l), List.replicate (qAz n w).M.length false⟩ m).all := by
          unfold Gu.lim
          rw [List.getD_eq_getElem?_getD]
          cases h : (L.map (·.l))[m]? with
          | none => exact ⟨fun y hy => (by cases hy), Int.le_refl _⟩
          | some l =>
            obtain ⟨_, g2, g3, _⟩ := ok.sh l (List.mem_of_getElem? h)
            exact ⟨fun y hy => (g2 y hy).1, g3⟩
        exact qQH ok.tab hlim.1 hlim.2 (qEy _ _ _) (qSe (fun m c => by rw [qOg]; exact ⟨Int.le_refl _, by decide⟩) _ _)
      rw [e]; rfl
  b := fun m c => by
    show inU (rdM (qAz n w).M m c)
    rw [qOg]; exact ⟨Int.le_refl _, by decide⟩
theorem Gu.Fine.pay {u : Gu} (F : u.Fine) {d : Dl} (B : DealB d u.fl.length u.T.length) (hs : ∀ m c, rdM u.S.M m c + 2147483648 ≤ UU) :
    (rIn u d.a d.sc d.sell).1 = 0 ∧ (rIn (rIn u d.a d.sc d.sell).2 d.b d.bc d.buy).1 = 0 ∧ (rIn (rIn u d.a d.sc d.sell).2 d.b d.bc d.buy).2.Fine ∧ (rIn (rIn u d.a d.sc d.sell).2 d.b d.bc d.buy).2.fl.length = u.fl.length ∧ (rIn (rIn u d.a d.sc d.sell).2 d.b d.bc d.buy).2.T = u.T ∧
      ∀ m c, rdM (rIn (rIn u d.a d.sc d.sell).2 d.b d.bc d.buy).2.S.M m c = rdM u.S.M m c + tkD d m c := by
  obtain ⟨da, db, dab, dsc, dbc, dcc, ds, dy⟩ := B
  obtain ⟨id, a', b', sc', bc', x, y⟩ := d
  dsimp only at da db dab dsc dbc dcc ds dy
  obtain ⟨a, rfl⟩ := Int.eq_ofNat_of_zero_le da.1
  obtain ⟨b, rfl⟩ := Int.eq_ofNat_of_zero_le db.1
  obtain ⟨sc, rfl⟩ := Int.eq_ofNat_of_zero_le dsc.1
  obtain ⟨bc, rfl⟩ := Int.eq_ofNat_of_zero_le dbc.1
  dsimp only
  have hab : a ≠ b := fun e => dab (by rw [e])
  have h8 := (qCq F.ok.tab).2.1
  have ef := F.ok.ef
  obtain ⟨i1, i2, i3, i4, i5⟩ := F.in_ (m := a) (c := sc) (a := x) (by omega) (by omega) ds.1 (by have := hs a sc; omega)
  have r1 : ∀ m c, rdM (rIn u (a : Int) (sc : Int) x).2.S.M m c = if m = a ∧ c = sc then rdM u.S.M a sc + x else rdM u.S.M m c := fun m c => by rw [i3]; exact qE2 F.sh (by omega) (by omega) m c
  generalize (rIn u (a : Int) (sc : Int) x).2 = v at *
  have ef2 := i2.ok.ef
  obtain ⟨j1, j2, j3, j4, j5⟩ := i2.in_ (m := b) (c := bc) (a := y) (by omega) (by rw [i5]; omega) dy.1 (by rw [r1, if_neg (fun g => hab g.1.symm)]; have := hs b bc; omega)
  refine ⟨i1, j1, j2, j4.trans i4, j5.trans i5, fun m c => ?_⟩
  rw [j3, qE2 i2.sh (by omega) (by omega), r1, r1, if_neg (c := b = a ∧ bc = sc) (fun g => hab g.1.symm)]
  unfold tkD
  dsimp only
  by_cases g1 : m = a
  · subst g1
    by_cases g2 : c = sc
    · subst g2
      have : ¬ (b : Int) = (m : Int) := fun e => hab (by omega)
      simp [hab, this]
    · have : ¬ (sc : Int) = (c : Int) := fun e => g2 (by omega)
      have : ¬ (b : Int) = (m : Int) := fun e => hab (by omega)
      simp [*]
  · have n1 : ¬ (a : Int) = (m : Int) := fun e => g1 (by omega)
    by_cases g4 : m = b
    · subst g4
      by_cases g2 : c = bc
      · subst g2; simp [g1, n1]
      · have : ¬ (bc : Int) = (c : Int) := fun e => g2 (by omega)
        simp [*]
    · have n2 : ¬ (b : Int) = (m : Int) := fun e => g4 (by omega)
      simp [g1, g4, n1, n2]
theorem qSq {x : Bnk} (h : ∀ y ∈ x.D, y.sell ≤ 1073741824 ∧ y.buy ≤ 1073741824) : ∀ n, ∀ y ∈ (qDl x n).L, y.d.sell ≤ 1073741824 ∧ y.d.buy ≤ 1073741824 := by
  have sub : ∀ (S : Bk) (d : Dl), (d.sell ≤ 1073741824 ∧ d.buy ≤ 1073741824) → (∀ y ∈ S.L, y.d.sell ≤ 1073741824 ∧ y.d.buy ≤ 1073741824) → ∀ y ∈ (qC6 S d).2.2.L, y.d.sell ≤ 1073741824 ∧ y.d.buy ≤ 1073741824 := by
    intro S d hd hS y hy
    unfold qC6 at hy
    repeat' split at hy
    all_goals first
      | exact hS y hy
      | (rcases List.mem_append.1 hy with hy | hy
         · exact hS y hy
         · rw [List.mem_singleton] at hy; subst hy; exact hd)
      | (rcases List.mem_or_eq_of_mem_set hy with hy | rfl
         · exact hS y hy
         · rename_i hx _ _
           have := hS _ (List.mem_of_getElem? hx)
           exact this)
  intro n
  induction n with
  | zero => exact fun y hy => by cases hy
  | succ n ih =>
    cases hd : x.D[n]? with
    | none =>
      have : qDl x (n + 1) = qDl x n := by
        unfold qDl
        rw [List.take_add_one, hd]
        simp
      rw [this]; exact ih
    | some d =>
      have hdd := h d (List.mem_of_getElem? hd)
      rw [qL2 hd]
      exact sub _ _ ⟨hdd.2, hdd.1⟩ (sub _ _ hdd ih)
theorem qYC {s : Ub} (ok : s.S.Ok) (F : s.Fit) (hs : ∀ y ∈ s.S.L, y.d.sell ≤ 1073741824 ∧ y.d.buy ≤ 1073741824) {id : Int} (h : id ∈ qf s.S 2) : DealB (qo s.S id).1 s.u.fl.length s.u.T.length := by
  obtain ⟨x, hx, _, _, e⟩ := qR6 ok h
  have em : qo s.S id = (x.d, true) := by unfold qo; rw [e]
  have hm := ok.may x hx
  have hx2 := hs x hx
  rw [em]
  unfold qJF qKE at hm
  simp only [decide_eq_true_eq] at hm
  have f1 := F.m
  have f2 := F.c
  obtain ⟨_, _, g1, g2, g3, g4⟩ := hm
  exact ⟨by dsimp only; omega, by dsimp only; omega, by dsimp only; omega, by dsimp only; omega, by dsimp only; omega, by dsimp only; omega, by dsimp only; omega, by dsimp only; omega⟩
end Go.Proofs.YtgjeecaombnmiaaGreat
