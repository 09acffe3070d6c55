import Derived.Test.YtgjeecaombnmiaaGreatM11
import Derived.Test.YtgjeecaombnmiaaGreatM03
/- A guard's tests: what each call answers. -/
namespace Go.Proofs.YtgjeecaombnmiaaGreat
open Go Go.Sy Go.Value
set_option linter.unusedVariables false
set_option linter.unusedSimpArgs false

def orI (a b : Int) : Int := IntKind.wrap .i64 ((BitVec.toNat (BitVec.ofInt 64 a ||| BitVec.ofInt 64 b) : Nat) : Int)
theorem or2 {a : Int} (h : a = 0 ∨ a = 2) : orI a 2 = 2 := by rcases h with rfl | rfl <;> decide
def qOU (T : List Cur) (row : List Int) (m : Int) (b : List Pst) (most : Int) : Int :=
  if (ifW T row m b).2.2 ≠ 0 then 7 else if (ifW T row m b).1 < 0 then (if most < (ifW T row m b).2.1 then 5 else 1) else (if most < (ifW T row m b).2.1 then 4 else 0)
def sh2 (sh cur : List Int) : Int := if qMS sh cur = true then 2 else 0
theorem or7 {a : Int} (h : a = 0 ∨ a = 2) : orI a 7 = 7 := by rcases h with rfl | rfl <;> decide
theorem qWZ {T : List Cur} {l : Lm} {row r : List Int} {m : Int} {b : List Pst} (hb : qEa row.length b = false) (hr : qBL m b row = some r) : orI (sh2 l.sh r) (qOU T row m b l.all) = qM0 T l r := by
  have h2 : sh2 l.sh r = 0 ∨ sh2 l.sh r = 2 := by unfold sh2; split <;> simp
  have hif : ifW T row m b = if (qBo T r).2 ≠ 0 then (0, 0, 3) else if (shW T r).2 ≠ 0 then (0, 0, 3) else ((qBo T r).1, (shW T r).1, 0) := by
    unfold ifW
    rw [hb, hr]; rfl
  unfold qOU qM0
  rw [hif]
  by_cases e1 : (qBo T r).2 ≠ 0
  · rw [if_pos e1, if_pos e1, if_pos (show ((0 : Int), (0 : Int), (3 : Int)).2.2 ≠ 0 by decide)]
    exact or7 h2
  rw [if_neg e1, if_neg e1]
  by_cases e2 : (shW T r).2 ≠ 0
  · rw [if_pos e2, if_pos e2, if_pos (show ((0 : Int), (0 : Int), (3 : Int)).2.2 ≠ 0 by decide)]
    exact or7 h2
  rw [if_neg e2, if_neg e2, if_neg (fun x => x rfl)]
  dsimp only
  unfold sh2
  by_cases c1 : (qBo T r).1 < 0 <;> by_cases c2 : qMS l.sh r = true <;> by_cases c3 : l.all < (shW T r).1 <;> (first | rw [if_pos c1] | rw [if_neg c1]) <;> simp only [c1, c2, c3, if_true, if_false, Bool.false_eq_true] <;> decide
/-! numbers laid one by one -/
def qIf (f : Nat → Int) (w j : Nat) : List Int := (List.range w).map fun c => if c < j then f c else 0
theorem qLD (f : Nat → Int) (w j : Nat) : (qIf f w j).length = w := by unfold qIf; rw [List.length_map, List.length_range]
theorem qYX (f : Nat → Int) (w : Nat) : qIf f w 0 = List.replicate w 0 := by
  unfold qIf
  refine List.ext_getElem (by simp) fun i h1 h2 => ?_
  simp
theorem qU9 (f : Nat → Int) {w j : Nat} (h : j < w) : (qIf f w j).set j (f j) = qIf f w (j + 1) := by
  refine List.ext_getElem? fun i => ?_
  by_cases hi : i < w
  · have g : ∀ k, (qIf f w k)[i]? = some (if i < k then f i else 0) := fun k => by unfold qIf; rw [List.getElem?_map, List.getElem?_range hi]; rfl
    rw [g]
    by_cases e : i = j
    · subst e
      rw [List.getElem?_set_self (by rw [qLD]; exact h), if_pos (by omega)]
    · rw [List.getElem?_set_ne (fun x => e x.symm), g]
      congr 1
      by_cases e2 : i < j
      · rw [if_pos e2, if_pos (by omega)]
      · rw [if_neg e2, if_neg (by omega)]
  · rw [List.getElem?_eq_none (by rw [List.length_set, qLD]; omega), List.getElem?_eq_none (by rw [qLD]; omega)]
theorem qUy (f : Nat → Int) (w : Nat) : qIf f w w = (List.range w).map f := by
  unfold qIf
  refine List.map_congr_left fun c hc => ?_
  rw [if_pos (List.mem_range.1 hc)]
theorem qVH (n : Nat) : q4 n [Value.int .i64 0] = qK .i64 (List.replicate n 0) := by
  induction n with
  | zero => rfl
  | succ n ih => rw [q4, ih, List.replicate_succ]; rfl
section
variable {h0 h : Heap} {K : Value → Heap → Prop} {x : GuF} {u : Gu}
theorem qTx (G : GR h0 h x u) {m : Int} (k : K (.bool (decide (0 ≤ m ∧ m < (u.fl.length : Int)))) h) : CallA Tryz.prog qEK [pointer (some ⟨x.g, 0, none⟩), int .i64 m] h K := by
  refine qNB _ _ _ _ ?_
  unfold qIG
  refine Br.intro (fun g => qB rfl ⟨_, _, _, G.g.cell rfl, Ret.mk ?_⟩) fun g => Ret.mk ?_
  · have g : 0 ≤ m := by simpa using g
    rw [show decide (m < (u.fl.length : Int)) = decide (0 ≤ m ∧ m < (u.fl.length : Int)) from decide_eq_decide.2 ⟨fun e => ⟨g, e⟩, fun e => e.2⟩]
    exact k
  · have g : ¬ 0 ≤ m := by simpa using g
    rw [decide_eq_false (fun e => g e.1)] at k
    exact k
theorem GR.flag (G : GR h0 h x u) {m : Nat} (hm : m < u.fl.length) : h.cell x.fb (0 + m) = some (.bool (u.fl.getD m false)) := by
  rw [Nat.zero_add]
  exact G.f.cell (qWt hm)
theorem qT6 (G : GR h0 h x u) (k : K (.pointer (some ⟨x.p, 0, none⟩)) h) : CallA Tryz.prog qCC [pointer (some ⟨x.g, 0, none⟩)] h K := by
  refine qLF _ _ _ ?_
  unfold qGw
  exact qB rfl ⟨_, G.g.cell rfl, Ret.mk k⟩
theorem Gu.Ok.rowI {u : Gu} (o : u.Ok) (m : Nat) : (u.row m).length = u.T.length ∧ ∀ y ∈ u.row m, I64 y := ⟨qH2 _ _ _, qN1 o.o.toSz _ _⟩
section
variable {q : Option Addr} {b : List Pst} {bn qc : Nat}
theorem qWc (G : GD h0 h x u) {m : Nat} (hm : m < u.fl.length) (Xb : Pos h q b) (hn : b.length = bn) (hs : bn ≤ 1000000) (hb : ∀ y ∈ b, I64 y.a) {most : Int} (k : ∀ h', h.le h' → K (.int .i64 (qOU u.T (u.row m) (m : Int) b most)) h') :
    CallA Tryz.prog qFW [pointer (some ⟨x.g, 0, none⟩), int .i64 (m : Int), slice q bn qc, int .i64 most] h K := by
  refine qL6 _ _ _ _ _ _ _ _ ?_
  unfold qHh
  refine qB rfl ⟨_, G.g.cell rfl, ?_⟩
  rw [← G.ew]
  refine qWR G.ok.tab G.W.X (row := u.row m) (fun _ _ => by rw [Int.toNat_natCast]; exact congrArg (qDx u.T) (G.told m (by have := G.ok.ef; omega))) (G.ok.rowI m).1 (G.ok.rowI m).2 Xb hn hs hb fun h1 l1 => ?_
  rw [if_pos (by have := G.ok.ef; omega)]
  refine ⟨_, _, _, rfl, ?_⟩
  have kk := k h1 l1
  unfold qOU at kk
  by_cases e : (ifW u.T (u.row m) (m : Int) b).2.2 ≠ 0
  · rw [if_pos e] at kk
    exact Br.no (by simpa using e) (Ret.mk kk)
  rw [if_neg e] at kk
  refine Br.yes (by simpa using e) (Br.dec (fun g => ?_) fun g => ?_)
  · rw [if_pos g] at kk
    refine Br.dec (fun g2 => ?_) fun g2 => ?_
    · rw [if_pos (by omega)] at kk; exact Ret.mk kk
    · rw [if_neg (by omega)] at kk; exact Ret.mk kk
  · rw [if_neg g] at kk
    refine Br.dec (fun g2 => ?_) fun g2 => ?_
    · rw [if_pos (by omega)] at kk; exact Ret.mk kk
    · rw [if_neg (by omega)] at kk; exact Ret.mk kk
structure FI (h g : Heap) (r r1 : Nat) (y : LmV) (cur : List Int) : Prop where
  base : h.le g
  zr : h r = none
  z1 : h r1 = none
  ar : At g r [.slice y.a y.l.sh.length y.c, .int .i64 y.l.all]
  ab : At g r1 (qK .i64 cur ++ [])
  ne : r ≠ r1
theorem FI.le {g g' : Heap} {r r1 : Nat} {y : LmV} {cur : List Int} (I : FI h g r r1 y cur) (l : g.le g') : FI h g' r r1 y cur := { I with base := Heap.le_trans I.base l, ar := I.ar.le l, ab := I.ab.le l }
theorem FI.set {g : Heap} {r r1 : Nat} {y : LmV} {cur : List Int} (I : FI h g r r1 y cur) {c : Nat} {v : Int} (hc : c < cur.length) : FI h (g.setN r1 c [.int .i64 v]) r r1 y (cur.set c v) := by
  refine { I with base := qS I.base I.z1, ar := I.ar.set_ne I.ne, ab := ?_ }
  have := I.ab.set (o := c) (ws := [.int .i64 v])
  rw [qHM hc] at this
  exact this
section
variable {m : Nat} {y : LmV} {r r1 : Nat}
theorem qXJ (G : GD h0 h x u) (hm : m < u.fl.length) (Iy : LmI h y) (hw : y.l.sh.length = u.T.length) (hz : ∀ z ∈ y.l.sh, 0 ≤ z ∧ I64 z) (Xb : Pos h q b) (hn : b.length = bn) (hs : bn ≤ 1000000) (hb : ∀ y ∈ b, I64 y.a) {cur : List Int} (hc : cur.length = u.T.length)
    (k : ∀ h', h.le h' → K (.int .i64 (orI (sh2 y.l.sh cur) (qOU u.T (u.row m) (m : Int) b y.l.all))) h') :
    ∀ (d j : Nat) (g : Heap) (bits : Int), d + j = u.T.length → FI h g r r1 y cur → bits = (if ((List.range j).any fun c => decide (cur.getD c 0 < -(y.l.sh.getD c 0))) = true then 2 else 0) → qBQ (some ⟨x.g, 0, none⟩) (m : Int) q bn qc r bits (some ⟨r1, 0, none⟩) u.T.length u.T.length (u.T.length : Int) (j : Int) g K := by
  have t8 := (qCq G.ok.tab).2.1
  intro d
  induction d with
  | zero =>
    intro j g bits hj I e
    refine qGW _ _ _ _ _ _ _ _ _ _ _ _ _ _ ?_
    unfold qEU
    refine Br.no (by simp; omega) ⟨_, I.ar.cell rfl, qWc (G.le I.base) hm (qAV I.base Xb) hn hs hb fun h1 l1 => ⟨_, rfl, Ret.mk ?_⟩⟩
    have kk := k h1 (Heap.le_trans I.base l1)
    obtain rfl : j = u.T.length := by omega
    have e2 : bits = sh2 y.l.sh cur := by
      rw [e]; unfold sh2 qMS; rw [hc]
    rw [← e2] at kk
    exact kk
  | succ d ih =>
    intro j g bits hj I e
    refine qGW _ _ _ _ _ _ _ _ _ _ _ _ _ _ ?_
    unfold qEU
    have hx : cur[j]? = some (cur.getD j 0) := by rw [List.getD_eq_getElem?_getD, List.getElem?_eq_getElem (by omega)]; rfl
    have hy : y.l.sh[j]? = some (y.l.sh.getD j 0) := by rw [List.getD_eq_getElem?_getD, List.getElem?_eq_getElem (by omega)]; rfl
    have hz' := hz _ (List.mem_of_getElem? hy)
    have b01 : bits = 0 ∨ bits = 2 := by rw [e]; split <;> simp
    have hr : (List.range (j + 1)).any (fun c => decide (cur.getD c 0 < -(y.l.sh.getD c 0))) = (((List.range j).any fun c => decide (cur.getD c 0 < -(y.l.sh.getD c 0))) || decide (cur.getD j 0 < -(y.l.sh.getD j 0))) := by
      rw [List.range_succ, List.any_append]; simp
    refine Br.yes (by simp; omega) (ix (l := cur) I.ab.toRd hc rfl hx ⟨_, _, _, I.ar.cell rfl, ix (Iy.X.le I.base) rfl rfl hy ?_⟩)
    rw [qO (n := 0 - y.l.sh.getD j 0) (by have := hz'.2; unfold I64 at this; omega) (by omega), w1 (by omega)]
    refine Br.dec (fun g1 => ?_) fun g1 => ?_
    · refine ih (j + 1) g (orI bits 2) (by omega) I ?_
      rw [or2 b01, hr, decide_eq_true (by omega), Bool.or_true, if_pos rfl]
    · refine ih (j + 1) g bits (by omega) I ?_
      rw [hr, decide_eq_false (by omega), Bool.or_false]
      exact e
theorem qWf (G : GD h0 h x u) (Xb : Pos h q b) (hn : b.length = bn) (hs : bn ≤ 1000000) (hb : ∀ y ∈ b, I64 y.a) (hbad : ∀ y ∈ b, 0 ≤ y.c ∧ y.c < (u.T.length : Int)) {row : List Int}
    (k7 : qBL (m : Int) b row = none → ∀ h', h.le h' → K (.int .i64 7) h')
    (k : ∀ c, qBL (m : Int) b row = some c → c.length = u.T.length → ∀ g, FI h g r r1 y c → qBQ (some ⟨x.g, 0, none⟩) (m : Int) q bn qc r 0 (some ⟨r1, 0, none⟩) u.T.length u.T.length (u.T.length : Int) ((0 : Nat) : Int) g K) :
    ∀ (d j : Nat) (g : Heap) (cur : List Int), d + j = bn → FI h g r r1 y cur → cur.length = u.T.length → (∀ z ∈ cur, I64 z) → qBL (m : Int) (b.drop j) cur = qBL (m : Int) b row → qBS (some ⟨x.g, 0, none⟩) (m : Int) q bn qc r (some ⟨r1, 0, none⟩) u.T.length u.T.length q bn qc (bn : Int) (j : Int) g K := by
  intro d
  induction d with
  | zero =>
    intro j g cur hj I hc hI e
    refine qGR _ _ _ _ _ _ _ _ _ _ _ _ _ _ _ _ ?_
    unfold qEX
    rw [List.drop_eq_nil_of_le (by omega), qBL] at e
    exact Br.no (by simp; omega) (k cur e.symm hc g I)
  | succ d ih =>
    intro j g cur hj I hc hI e
    refine qGR _ _ _ _ _ _ _ _ _ _ _ _ _ _ _ _ ?_
    unfold qEX
    have hx : b[j]? = some b[j] := List.getElem?_eq_getElem (by omega)
    have hmm : b[j] ∈ b := List.getElem_mem _
    rw [List.drop_eq_getElem_cons (by omega : j < b.length), qBL] at e
    generalize b[j] = z at *
    have hza := hb z hmm
    have hzc := hbad z hmm
    refine Br.yes (by simp; omega) (px (qAV I.base Xb) hn rfl hx (qEE (vs := [int .i64 z.m, int .i64 z.c, int .i64 z.a]) rfl fun s h1 zs l1 As cs => ⟨cs, _, As.cell rfl, ?_⟩))
    generalize h1.setN s 0 [int .i64 z.m, int .i64 z.c, int .i64 z.a] = H at *
    have J := I.le l1
    by_cases hmi : z.m ≠ (m : Int)
    · rw [if_pos hmi] at e
      rw [w1 (by omega)]
      exact Br.yes (by simpa using hmi) (ih (j + 1) H cur (by omega) J hc hI e)
    rw [if_neg hmi] at e
    obtain ⟨c, hcc⟩ : ∃ c : Nat, z.c = (c : Int) := ⟨z.c.toNat, by omega⟩
    have hcl : c < cur.length := by omega
    have hg : cur[c]? = some (cur.getD c 0) := by rw [List.getD_eq_getElem?_getD, List.getElem?_eq_getElem hcl]; rfl
    have hgI : I64 (cur.getD c 0) := hI _ (List.mem_of_getElem? hg)
    rw [hcc, Int.toNat_natCast] at e
    refine Br.no (by simpa using hmi) ⟨_, As.cell rfl, by omega, by omega, qB rfl ⟨_, J.ab.cell (v := int .i64 (cur.getD c 0)) (by rw [hcc, Int.toNat_natCast, Nat.zero_add, List.getElem?_append_left (by rw [qL]; exact hcl), qBt, List.getElem?_map, hg]; rfl), _, As.cell rfl, qMw hgI hza _ _ ⟨_, _, rfl, ?_⟩⟩⟩
    by_cases e1 : (fit (cur.getD c 0 + z.a)).2 ≠ 0
    · rw [if_pos e1] at e
      rw [qSh e1]
      exact Br.yes rfl (Ret.mk (k7 e.symm H J.base))
    · rw [if_neg e1] at e
      have hf := qJD e1
      rw [qDb hf]
      refine Br.no rfl ⟨_, As.cell rfl, by omega, by omega, qB rfl ⟨J.ab.canSt (by simp only [List.length_append, qL, List.length_cons, List.length_nil]; omega), ?_⟩⟩
      rw [w1 (by omega), hcc, Int.toNat_natCast, Nat.zero_add]
      refine ih (j + 1) _ (cur.set c (cur.getD c 0 + z.a)) (by omega) (J.set hcl) (by rw [List.length_set]; exact hc) (fun v hv => ?_) e
      rcases List.mem_or_eq_of_mem_set hv with hv | rfl
      · exact hI v hv
      · exact hf
theorem qXG (Xb : Pos h q b) (hn : b.length = bn) (hs : bn ≤ 1000000) {cur : List Int} {w : Nat} {gp : Option Addr} {mi : Int}
    (k7 : qEa w b = true → ∀ h', h.le h' → K (.int .i64 7) h')
    (k : qEa w b = false → ∀ g, FI h g r r1 y cur → qBS gp mi q bn qc r (some ⟨r1, 0, none⟩) w w q bn qc (bn : Int) ((0 : Nat) : Int) g K) :
    ∀ (d j : Nat) (g : Heap), d + j = bn → FI h g r r1 y cur → qEa w (b.drop j) = qEa w b → qCF gp mi q bn qc r (some ⟨r1, 0, none⟩) w w q bn qc (bn : Int) (j : Int) g K := by
  intro d
  induction d with
  | zero =>
    intro j g hj I e
    refine qGQ _ _ _ _ _ _ _ _ _ _ _ _ _ _ _ _ ?_
    unfold qEZ
    rw [List.drop_eq_nil_of_le (by omega)] at e
    exact Br.no (by simp; omega) (k e.symm g I)
  | succ d ih =>
    intro j g hj I e
    refine qGQ _ _ _ _ _ _ _ _ _ _ _ _ _ _ _ _ ?_
    unfold qEZ
    have hx : b[j]? = some b[j] := List.getElem?_eq_getElem (by omega)
    rw [List.drop_eq_getElem_cons (by omega : j < b.length)] at e
    generalize b[j] = z at *
    have e5 : qEa w (z :: b.drop (j + 1)) = ((decide (z.c < 0) || decide (z.c ≥ (w : Int))) || qEa w (b.drop (j + 1))) := by unfold qEa; rw [List.any_cons]
    rw [e5] at e
    refine Br.yes (by simp; omega) (px (qAV I.base Xb) hn rfl hx (qEE (vs := [int .i64 z.m, int .i64 z.c, int .i64 z.a]) rfl fun s h1 zs l1 As cs => ⟨cs, _, As.cell rfl, ?_⟩))
    generalize h1.setN s 0 [int .i64 z.m, int .i64 z.c, int .i64 z.a] = H at *
    refine Br.dec (fun g1 => ?_) fun g1 => ⟨_, As.cell rfl, Br.dec (fun g2 => ?_) fun g2 => ?_⟩
    · rw [decide_eq_true g1, Bool.true_or, Bool.true_or] at e
      exact Ret.mk (k7 e.symm H (I.le l1).base)
    · rw [decide_eq_true (p := z.c ≥ (w : Int)) g2, Bool.or_true, Bool.true_or] at e
      exact Ret.mk (k7 e.symm H (I.le l1).base)
    · rw [decide_eq_false g1, decide_eq_false (p := z.c ≥ (w : Int)) g2, Bool.false_or, Bool.false_or] at e
      rw [w1 (by omega)]
      exact ih (j + 1) H (by omega) (I.le l1) e
theorem qW2 (G : GD h0 h x u) {mi : Int} (hw8 : u.T.length ≤ 8)
    (k : ∀ g, FI h g r r1 y (qAq u.S mi u.T.length) → qCF (some ⟨x.g, 0, none⟩) mi q bn qc r (some ⟨r1, 0, none⟩) u.T.length u.T.length q bn qc (bn : Int) ((0 : Nat) : Int) g K) :
    ∀ (d j : Nat) (g : Heap), d + j = u.T.length → FI h g r r1 y (qIf (fun c => qEq u.S mi (c : Int)) u.T.length j) → qDM (some ⟨x.g, 0, none⟩) mi q bn qc r (some ⟨r1, 0, none⟩) u.T.length u.T.length (u.T.length : Int) (j : Int) g K := by
  intro d
  induction d with
  | zero =>
    intro j g hj I
    refine qGX _ _ _ _ _ _ _ _ _ _ _ _ _ ?_
    unfold qEQ
    obtain rfl : j = u.T.length := by omega
    rw [qUy] at I
    exact Br.no (by simp) (k g I)
  | succ d ih =>
    intro j g hj I
    refine qGX _ _ _ _ _ _ _ _ _ _ _ _ _ ?_
    unfold qEQ
    have hl := qLD (fun c => qEq u.S mi (c : Int)) u.T.length j
    refine Br.yes (by simp; omega) (qB rfl ⟨_, (G.le I.base).g.cell rfl, qQY (G.le I.base).W.LA ⟨_, rfl, by omega, by omega, qB rfl ⟨I.ab.canSt (by simp only [List.length_append, qL, List.length_cons, List.length_nil, hl, Int.toNat_natCast]; omega), ?_⟩⟩⟩)
    rw [w1 (by omega), Int.toNat_natCast, Nat.zero_add]
    refine ih (j + 1) _ (by omega) ?_
    have := I.set (c := j) (v := qEq u.S mi (j : Int)) (by rw [hl]; omega)
    rw [qU9 (fun c => qEq u.S mi (c : Int)) (by omega)] at this
    exact this
end
theorem qNe (G : GD h0 h x u) {m : Int} (Xb : Pos h q b) (hn : b.length = bn) (hs : bn ≤ 1000000) (hb : ∀ y ∈ b, I64 y.a) (k : ∀ h', h.le h' → K (.int .i64 (u.fails m b)) h') :
    CallA Tryz.prog qCc [pointer (some ⟨x.g, 0, none⟩), int .i64 m, slice q bn qc] h K := by
  refine qLX _ _ _ _ _ _ _ ?_
  unfold qHU
  refine qTx G.toGR ⟨_, rfl, ?_⟩
  unfold Gu.fails at k
  by_cases hm : 0 ≤ m ∧ m < (u.fl.length : Int)
  · rw [if_pos hm] at k
    obtain ⟨i, rfl⟩ : ∃ i : Nat, m = i := ⟨m.toNat, by omega⟩
    rw [Int.toNat_natCast] at k
    have hi : i < u.fl.length := by omega
    obtain ⟨y, hy, ey, Iy, hw, hz, _, _⟩ := G.lm hi
    have t8 := (qCq G.ok.tab).2.1
    have hrow := G.ok.rowI i
    refine Br.no (by rw [decide_eq_true hm]; rfl) (qB rfl ⟨_, _, _, G.g.cell rfl, lx (G.al.le G.ch) rfl rfl hy (qEE (vs := [.slice y.a y.l.sh.length y.c, .int .i64 y.l.all]) rfl fun r h1 zr l1 Ar cs => ⟨cs, _, _, _, Ar.cell rfl, by omega, by omega, by omega, by omega, ql fun r1 h2 z1 l2 A1 => ?_⟩)⟩)
    generalize h1.setN r 0 [.slice y.a y.l.sh.length y.c, .int .i64 y.l.all] = H at *
    simp only [Int.toNat_natCast] at *
    rw [hw] at A1 ⊢
    rw [qVH, ← qYX (fun c => qEq u.S (i : Int) (c : Int))] at A1
    have I0 : FI h h2 r r1 y (qIf (fun c => qEq u.S (i : Int) (c : Int)) u.T.length 0) := ⟨Heap.le_trans l1 l2, zr, qJ l1 z1, Ar.le l2, by rw [List.append_nil]; exact A1, Ar.ne z1⟩
    unfold qNw at k
    rw [hrow.1] at k
    refine qW2 G t8 (fun g I => qXG Xb hn hs (fun e h' l' => ?_) (fun e g I => qWf (row := u.row i) G Xb hn hs hb (fun z hz => ?_) (fun e2 h' l' => ?_) (fun c e2 hc g I => qXJ G hi Iy hw hz Xb hn hs hb hc (fun h' l' => ?_) u.T.length 0 g 0 rfl I rfl) bn 0 g (u.row i) rfl I hrow.1 hrow.2 rfl) bn 0 g rfl I rfl) u.T.length 0 h2 rfl I0
    · rw [e, if_pos rfl] at k; exact k h' l'
    · unfold qEa at e
      rw [List.any_eq_false] at e
      have := e z hz
      simp at this
      omega
    · rw [e, if_neg (by decide), e2] at k; exact k h' l'
    · rw [e, if_neg (by decide), e2] at k
      rw [qWZ (by rw [hrow.1]; exact e) e2, ey]
      exact k h' l'
  · rw [if_neg hm] at k
    exact Br.yes (by rw [decide_eq_false hm]; rfl) (Ret.mk (k h h.le_refl))
end
end
end Go.Proofs.YtgjeecaombnmiaaGreat

/- A guard's calls: flags judged anew, pay-ins, pay-outs, other rates and haircuts, batches without a test. -/
namespace Go.Proofs.YtgjeecaombnmiaaGreat
open Go Go.Sy Go.Value
set_option linter.unusedVariables false
set_option linter.unusedSimpArgs false

def qJR {α : Type} (f g : Nat → α) (n j : Nat) : List α := (List.range n).map fun c => if c < j then f c else g c
theorem qK7 {α : Type} (f g : Nat → α) (n j : Nat) : (qJR f g n j).length = n := by unfold qJR; rw [List.length_map, List.length_range]
theorem qVS {α : Type} (f g : Nat → α) (n : Nat) : qJR f g n n = (List.range n).map f := by
  unfold qJR
  refine List.map_congr_left fun c hc => ?_
  rw [if_pos (List.mem_range.1 hc)]
theorem qU4 {α : Type} (f g : Nat → α) {n j : Nat} (h : j < n) : (qJR f g n j).set j (f j) = qJR f g n (j + 1) := by
  refine List.ext_getElem? fun i => ?_
  by_cases hi : i < n
  · have e : ∀ k, (qJR f g n k)[i]? = some (if i < k then f i else g i) := fun k => by unfold qJR; rw [List.getElem?_map, List.getElem?_range hi]; rfl
    rw [e]
    by_cases e1 : i = j
    · subst e1
      rw [List.getElem?_set_self (by rw [qK7]; exact h), if_pos (by omega)]
    · rw [List.getElem?_set_ne (fun x => e1 x.symm), e]
      congr 1
      by_cases e2 : i < j
      · rw [if_pos e2, if_pos (by omega)]
      · rw [if_neg e2, if_neg (by omega)]
  · rw [List.getElem?_eq_none (by rw [List.length_set, qK7]; omega), List.getElem?_eq_none (by rw [qK7]; omega)]
theorem qYM (f : Nat → Bool) (l : List Bool) : qJR f (fun m => l.getD m false) l.length 0 = l := by
  unfold qJR
  refine List.ext_getElem? fun i => ?_
  by_cases hi : i < l.length
  · rw [List.getElem?_map, List.getElem?_range hi, List.getElem?_eq_getElem hi]
    show some (if i < 0 then f i else l.getD i false) = _
    rw [if_neg (by omega), List.getD_eq_getElem?_getD, List.getElem?_eq_getElem hi]; rfl
  · rw [List.getElem?_eq_none (by simp; omega), List.getElem?_eq_none (by omega)]
def Gu.judF (u : Gu) (m : Nat) : Bool := u.fails (m : Int) [] != 0
def Gu.judJ (u : Gu) (j : Nat) : Gu := { u with fl := qJR u.judF (fun m => u.fl.getD m false) u.fl.length j }
def Gu.judge (u : Gu) : Gu := { u with fl := (List.range u.fl.length).map u.judF }
theorem Gu.judJ_0 (u : Gu) : u.judJ 0 = u := by unfold Gu.judJ; rw [qYM]
theorem Gu.judJ_all (u : Gu) : u.judJ u.fl.length = u.judge := by unfold Gu.judJ Gu.judge; rw [qVS]
theorem qVO {u v : Gu} (e1 : v.S = u.S) (e2 : v.T = u.T) (e3 : v.L = u.L) (e4 : v.fl.length = u.fl.length) (m : Int) (b : List Pst) : v.fails m b = u.fails m b := by
  unfold Gu.fails Gu.lim Gu.row
  rw [e1, e2, e3, e4]
theorem Gu.judJ_set (u : Gu) {j : Nat} (h : j < u.fl.length) : (u.judJ j).setF j (u.judF j) = u.judJ (j + 1) := by
  unfold Gu.setF Gu.judJ
  dsimp only
  rw [qU4 _ _ h]
def Gu.setS (u : Gu) (S : Lg) : Gu := { u with S := S }
theorem Gu.Ok.setS {u : Gu} (o : u.Ok) {S : Lg} (oS : S.Ok) (e : szB u.S S) : (u.setS S).Ok := { o := oS, ef := o.ef.trans e.1.symm, eL := o.eL.trans e.1.symm, ec := e.2.trans o.ec, tab := o.tab, sh := o.sh }
def Gu.setT (u : Gu) (T : List Cur) : Gu := { u with T := T }
theorem Gu.Ok.setT {u : Gu} (o : u.Ok) {T : List Cur} (ht : qCV T = 0) (hl : T.length = u.T.length) : (u.setT T).Ok := { o with ec := o.ec.trans hl.symm, tab := ht, sh := fun l hm => by show l.sh.length = T.length ∧ _; rw [hl]; exact o.sh l hm }
theorem Gu.Ok.judge {u : Gu} (o : u.Ok) : u.judge.Ok := { o with ef := by show (List.map _ _).length = _; rw [List.length_map, List.length_range]; exact o.ef }
section
variable {h0 h : Heap} {K : Value → Heap → Prop} {x : GuF} {u : Gu}
theorem qSR {x0 : GuF} (k : ∀ h' x', GD h0 h' x' u.judge → x0.Same x' → K (tuple #[]) h') :
    ∀ (d j : Nat) (h : Heap) (x : GuF), d + j = u.fl.length → GD h0 h x (u.judJ j) → x0.Same x → qDN (some ⟨x0.g, 0, none⟩) (u.fl.length : Int) (j : Int) h K := by
  intro d
  induction d with
  | zero =>
    intro j h x hj G sm
    refine qGV _ _ _ _ _ ?_
    unfold qET
    obtain rfl : j = u.fl.length := by omega
    rw [u.judJ_all] at G
    exact Br.no (by simp) (Ret.mk (k h x G sm))
  | succ d ih =>
    intro j h x hj G sm
    refine qGV _ _ _ _ _ ?_
    unfold qET
    have hl : (u.judJ j).fl.length = u.fl.length := qK7 _ _ _ _
    rw [← sm.g]
    refine Br.yes (by simp; omega) (qB rfl ⟨_, _, _, G.g.cell rfl, qNe G (b := []) (.inl rfl) rfl (by decide) (fun y hy => by cases hy) fun h1 l1 => ⟨_, rfl, .inl l1, by omega, by rw [hl]; omega, qB rfl ?_⟩⟩)
    have G1 := G.le l1
    refine ⟨G1.f.canSt (by rw [qOp, hl, Int.toNat_natCast]; omega), ?_⟩
    have G2 := G1.setF (i := j) (v := u.judF j) (by rw [hl]; omega)
    rw [u.judJ_set (by omega)] at G2
    rw [w1 (by have := G.n; omega), Int.toNat_natCast, Nat.zero_add, show ((u.judJ j).fails (j : Int) [] != 0) = u.judF j by unfold Gu.judF; rw [qVO (v := u.judJ j) (u := u) rfl rfl rfl hl]]
    rw [sm.g]
    exact ih (j + 1) _ _ (by omega) G2 (sm.trans ⟨rfl, rfl, rfl, rfl, rfl, rfl, rfl, fun b hb => q3 hb⟩)
theorem qUg (G : GD h0 h x u) (k : ∀ h' x', GD h0 h' x' u.judge → x.Same x' → K (tuple #[]) h') : CallA Tryz.prog qDj [pointer (some ⟨x.g, 0, none⟩)] h K := by
  refine qLZ _ _ _ ?_
  unfold qHA
  exact qB rfl ⟨_, _, _, G.g.cell rfl, qSR k u.fl.length 0 h x rfl (by rw [u.judJ_0]; exact G) (.refl x)⟩
end
section
variable {h0 h : Heap} {K : Value → Heap → Prop} {S : Lg} {p B C : Nat} {sp : List Value} {f : WoF} {T : List Cur} {N : Nat} {R : Nat → List Int}
end
theorem qXU {h : Heap} {b : Nat} {vs : List Value} (a : At h b vs) : rdL h (some ⟨b, 0, none⟩) vs := by
  rw [← List.append_nil vs] at a
  exact a.toRd
def rIn (u : Gu) (m c a : Int) : Int × Gu :=
  if ¬ (0 ≤ m ∧ m < (u.fl.length : Int) ∧ 0 ≤ c ∧ c < (u.S.cur : Int) ∧ 1 ≤ a) then (1, u)
  else if (ifW u.T (u.row m.toNat) m [⟨m, c, a⟩]).2.2 ≠ 0 then ((ifW u.T (u.row m.toNat) m [⟨m, c, a⟩]).2.2, u)
  else if (inG u.S m c a).1 ≠ 0 then ((inG u.S m c a).1, u)
  else (0, (u.setS (inG u.S m c a).2).setF m.toNat (u.fl.getD m.toNat false && ((u.setS (inG u.S m c a).2).fails m [] != 0)))
section
variable {h0 h : Heap} {K : Value → Heap → Prop} {x : GuF} {u : Gu}
theorem qYE (G : GD h0 h x u) {m c a : Int} (ha : I64 a) (k : ∀ h' x', GD h0 h' x' (rIn u m c a).2 → x.Same x' → K (.int .i64 (rIn u m c a).1) h') :
    CallA Tryz.prog qBm [pointer (some ⟨x.g, 0, none⟩), .int .i64 m, .int .i64 c, .int .i64 a] h K := by
  refine qNR _ _ _ _ _ _ ?_
  unfold qIl
  unfold rIn at k
  refine qB rfl ⟨_, G.g.cell rfl, qO1 G.W.LA ⟨_, _, rfl, qTx G.toGR ⟨_, rfl, ?_⟩⟩⟩
  by_cases hg : 0 ≤ m ∧ m < (u.fl.length : Int) ∧ 0 ≤ c ∧ c < (u.S.cur : Int) ∧ 1 ≤ a
  · rw [if_neg (fun e => e hg)] at k
    obtain ⟨i, rfl⟩ : ∃ i : Nat, m = i := ⟨m.toNat, by omega⟩
    rw [Int.toNat_natCast] at k
    have hi : i < u.fl.length := by omega
    have hiS : i < u.S.M.length := by have := G.ok.ef; omega
    refine Br.no (by rw [decide_eq_true ⟨hg.1, hg.2.1⟩]; rfl) (Br.no (by simp; omega) (Br.no (by simp; omega) (Br.no (by simp; omega) (qB rfl ⟨_, G.g.cell rfl, ql fun r h1 zr l1 Ar => ?_⟩))))
    have G1 := G.le l1
    rw [← G.ew]
    refine qWR (b := [⟨(i : Int), c, a⟩]) G.ok.tab G1.W.X (row := u.row i) (fun _ _ => by rw [Int.toNat_natCast]; exact congrArg (qDx u.T) (G.told i hiS)) (G.ok.rowI i).1 (G.ok.rowI i).2 (qXU Ar) rfl (by decide) (fun y hy => by rw [List.mem_singleton] at hy; subst hy; exact ha) fun h2 l2 => ?_
    rw [if_pos (by omega)]
    refine ⟨_, _, _, rfl, ?_⟩
    have G2 := G1.le l2
    by_cases e1 : (ifW u.T (u.row i) (i : Int) [⟨(i : Int), c, a⟩]).2.2 ≠ 0
    · rw [if_pos e1] at k
      exact Br.yes (by simpa using e1) (Ret.mk (k h2 x G2 (.refl x)))
    rw [if_neg e1] at k
    refine Br.no (by simpa using e1) (qB rfl ⟨_, G2.g.cell rfl, qYw G2.W ha fun h3 W3 => ⟨_, rfl, ?_⟩⟩)
    by_cases e2 : (inG u.S (i : Int) c a).1 ≠ 0
    · rw [if_pos e2] at k
      rw [qWu e2] at W3
      exact Br.yes (by simpa using e2) (Ret.mk (k h3 x { G2 with W := W3 } (.refl x)))
    rw [if_neg e2] at k
    have sz := qTl u.S (i : Int) c a
    have ok' := G.ok.setS (qUM G.ok.o (i : Int) c a) sz
    have eN : (u.setS (inG u.S (i : Int) c a).2).S.M.length = u.S.M.length := sz.1
    have G3 : GR h0 h3 _ (u.setS (inG u.S (i : Int) c a).2) := G2.toGR.turn (u' := u.setS (inG u.S (i : Int) c a).2) (by rw [eN]; exact W3) rfl rfl rfl ok'
    refine Br.no (by simpa using e2) (qB rfl ⟨_, G3.g.cell rfl, ?_⟩)
    show CallA Tryz.prog qAR [pointer (some ⟨x.w, 0, none⟩), int .i64 (i : Int)] h3 _
    rw [← G.ew]
    refine qP8 G3.W fun h4 f4 W4 c4 => ⟨rfl, ?_⟩
    have tl : ∀ j, j < (u.setS (inG u.S (i : Int) c a).2).S.M.length → qKz (u.setS (inG u.S (i : Int) c a).2).S (u.setS (inG u.S (i : Int) c a).2).T.length (u.setS (inG u.S (i : Int) c a).2).S.M.length x.R (i : Int) j = (u.setS (inG u.S (i : Int) c a).2).row j := fun j hj => by
      show _ = qAq (inG u.S (i : Int) c a).2 (j : Int) u.T.length
      unfold qKz
      rw [if_pos (by omega), Int.toNat_natCast]
      by_cases e : j = i
      · subst e; rw [qa]; rfl
      · rw [qN _ _ e, G.told j (by omega)]
        exact (qXH G.ok.o.toSz (by omega) _).symm
    have G4 : GD h0 h4 _ (u.setS (inG u.S (i : Int) c a).2) := { toGR := G3.turn (u' := u.setS (inG u.S (i : Int) c a).2) W4 c4 rfl rfl ok', told := tl }
    have hf : u.fl.getD i false = (u.setS (inG u.S (i : Int) c a).2).fl.getD i false := rfl
    refine qB rfl ⟨_, _, _, G4.g.cell rfl, qB rfl ⟨_, _, _, G4.g.cell rfl, by omega, hg.2.1, qB rfl ⟨_, G4.flag (m := i) hi, ?_⟩⟩⟩
    rw [← hf]
    cases hb : u.fl.getD i false with
    | true =>
      rw [hb, Bool.true_and] at k
      refine Br.yes rfl (qNe G4 (b := []) (.inl rfl) rfl (by decide) (fun y hy => by cases hy) fun h5 l5 => ⟨_, rfl, .inl l5, by omega, hg.2.1, qB rfl ?_⟩)
      have G5 := G4.le l5
      refine ⟨G5.f.canSt (by rw [qOp, Int.toNat_natCast]; show 0 + i + 1 ≤ u.fl.length; omega), Ret.mk ?_⟩
      rw [Int.toNat_natCast, Nat.zero_add]
      exact k _ _ (G5.setF (i := i) hi) ⟨rfl, rfl, rfl, rfl, rfl, rfl, rfl, fun b hb => q3 hb⟩
    | false =>
      rw [hb, Bool.false_and] at k
      refine Br.no rfl ⟨by omega, hg.2.1, qB rfl ⟨G4.f.canSt (by rw [qOp, Int.toNat_natCast]; show 0 + i + 1 ≤ u.fl.length; omega), Ret.mk ?_⟩⟩
      rw [Int.toNat_natCast, Nat.zero_add]
      exact k _ _ (G4.setF (i := i) hi) ⟨rfl, rfl, rfl, rfl, rfl, rfl, rfl, fun b hb => q3 hb⟩
  · rw [if_pos hg] at k
    have fin := k h x G (.refl x)
    refine Br.intro (fun _ => Ret.mk fin) fun g1 => Br.dec (fun _ => Ret.mk fin) fun g2 => Br.dec (fun _ => Ret.mk fin) fun g3 => Br.dec (fun _ => Ret.mk fin) fun g4 => ?_
    have : 0 ≤ m ∧ m < (u.fl.length : Int) := by
      apply Classical.byContradiction
      intro g
      rw [decide_eq_false g] at g1
      cases g1
    exact (hg (by omega)).elim
theorem qWN (G : GD h0 h x u) {m c a : Int} (ha : I64 a) (k : ∀ h' x', GD h0 h' x' (rIn u m c a).2 → x'.g = x.g → x'.p = x.p → K (.int .i64 (rIn u m c a).1) h') :
    CallA Tryz.prog qBm [pointer (some ⟨x.g, 0, none⟩), .int .i64 m, .int .i64 c, .int .i64 a] h K := qYE G ha fun h' x' G' sm => k h' x' G' sm.g sm.p
end
end Go.Proofs.YtgjeecaombnmiaaGreat

/- Ledger and worths: where they lie, and what lies elsewhere. -/
namespace Go.Proofs.YtgjeecaombnmiaaGreat
open Go Go.Sy Go.Value
set_option linter.unusedVariables false
set_option linter.unusedSimpArgs false

def LWD (p B : Nat) (f : WoF) (N x : Nat) : Bool := x == p || (x == B || qDR (3 + 3 * N) f.b x)
section
variable {h0 h : Heap} {S : Lg} {p B C : Nat} {sp : List Value} {f : WoF} {T : List Cur} {N : Nat} {R : Nat → List Int}
theorem qV5 {x : Nat} (h : LWD p B f N x = true) : x = p ∨ x = B ∨ ∃ i, i < 3 + 3 * N ∧ f.b i = x := by
  unfold LWD at h
  rw [Bool.or_eq_true, Bool.or_eq_true] at h
  rcases h with h | h | h
  · exact .inl (by simpa using h)
  · exact .inr (.inl (by simpa using h))
  · exact .inr (.inr (qHY h))
theorem qWL : LWD p B f N p = true := by unfold LWD; simp
theorem qV2 : LWD p B f N B = true := by unfold LWD; simp
theorem qV9 {i : Nat} (hi : i < 3 + 3 * N) : LWD p B f N (f.b i) = true := by unfold LWD; rw [qKU hi]; simp
theorem LW.none' (W : LW h0 h S p B C sp f T N R) {x : Nat} (hx : LWD p B f N x = true) : h0 x = none := by
  rcases qV5 hx with rfl | rfl | ⟨i, hi, rfl⟩
  · exact W.np
  · exact W.nB
  · exact W.fr i hi
theorem LW.at' (W : LW h0 h S p B C sp f T N R) {x : Nat} (hx : LWD p B f N x = true) : ∃ xs, At h x xs := by
  rcases qV5 hx with rfl | rfl | ⟨i, hi, rfl⟩
  · exact ⟨_, W.LA.ap⟩
  · exact ⟨_, W.LA.ab⟩
  · exact ⟨_, W.X.fam.at' i hi⟩
theorem LW.mv {b0 h' : Heap} (W : LW h0 h S p B C sp f T N R) (l : b0.le h') (k : ∀ x xs, LWD p B f N x = true → At h x xs → At h' x xs) (z : ∀ x, LWD p B f N x = true → b0 x = none) : LW b0 h' S p B C sp f T N R :=
  { W with LA := ⟨k _ _ qWL W.LA.ap, k _ _ qV2 W.LA.ab, W.LA.ne, W.LA.sz⟩, X := { W.X with fam := W.X.fam.mv fun x xs hx a => k x xs (by obtain ⟨i, hi, rfl⟩ := qHY hx; exact qV9 hi) a }, base := l, np := z _ qWL, nB := z _ qV2, fr := fun i hi => z _ (qV9 hi) }
theorem LW.off (W : LW h0 h S p B C sp f T N R) : LW (h.wo (LWD p B f N)) h S p B C sp f T N R := W.mv (qMl _ _) (fun _ _ _ a => a) fun _ hx => qF3 hx
theorem LW.out (W : LW h0 h S p B C sp f T N R) {x : Nat} (e : h x = none) : LWD p B f N x = false := by
  cases hd : LWD p B f N x with
  | false => rfl
  | true => obtain ⟨xs, a⟩ := W.at' hd; exact (a.ne e rfl).elim
end
theorem noD {D : Bool} (h : D = true → False) : D = false := by cases D with
  | false => rfl
  | true => exact (h rfl).elim
end Go.Proofs.YtgjeecaombnmiaaGreat

/- A guard is made. -/
namespace Go.Proofs.YtgjeecaombnmiaaGreat
open Go Go.Sy Go.Value
set_option linter.unusedVariables false
set_option linter.unusedSimpArgs false

def qOu : Int → List Int → Int
  | m, [] => m
  | m, n :: r => qOu (if n < m then n else m) r
theorem qSI : ∀ (l : List Int) (m : Int), decide (qOu m l ≥ 0) = (decide (0 ≤ m) && l.all fun y => decide (0 ≤ y))
  | [], m => by simp [qOu]
  | n :: r, m => by
    rw [qOu, qSI r, List.all_cons]
    by_cases h : n < m
    · rw [if_pos h]
      by_cases h1 : 0 ≤ n
      · rw [decide_eq_true h1, decide_eq_true (show 0 ≤ m by omega)]; simp
      · rw [decide_eq_false h1]; simp
    · rw [if_neg h]
      by_cases h1 : 0 ≤ m
      · rw [decide_eq_true h1, decide_eq_true (show 0 ≤ n by omega)]; simp
      · rw [decide_eq_false h1]; simp
def qRD (w : Nat) (l : Lm) : Bool := decide (l.sh.length = w) && (decide (0 ≤ l.all) && (decide (w = 0) || l.sh.all fun y => decide (0 ≤ y)))
section
variable {h : Heap} {K : Value → Heap → Prop}
theorem qYo {q : Option Addr} {l : List Int} {n c : Nat} (I : Ints .i64 h q l) (hn : l.length = n) (hs : n ≤ 1000000) (h1 : 1 ≤ n) (k : ∀ v : Int, decide (v ≥ 0) = (l.all fun y => decide (0 ≤ y)) → K (.int .i64 v) h) :
    CallA Tryz.prog qDk [slice q n c] h K := by
  refine qI8 _ _ _ _ _ ?_
  unfold qFZ
  have hx : l[0]? = some (l.getD 0 0) := by rw [List.getD_eq_getElem?_getD, List.getElem?_eq_getElem (by omega)]; rfl
  refine Br.no (by simp; omega) (ix0 I hn hx ?_)
  have loop : ∀ (d j : Nat) (m : Int), d + j = n → decide (qOu m (l.drop j) ≥ 0) = (l.all fun y => decide (0 ≤ y)) → qB2 q n c m (j : Int) h K := by
    intro d
    induction d with
    | zero =>
      intro j m hj e
      refine qEu _ _ _ _ _ _ _ ?_
      unfold qDK
      rw [List.drop_eq_nil_of_le (by omega)] at e
      exact Br.no (by simp; omega) (Ret.mk (k m e))
    | succ d ih =>
      intro j m hj e
      refine qEu _ _ _ _ _ _ _ ?_
      unfold qDK
      have hy : l[j]? = some l[j] := List.getElem?_eq_getElem (by omega)
      rw [List.drop_eq_getElem_cons (by omega : j < l.length), qOu] at e
      generalize l[j] = y at *
      refine Br.yes (by simp; omega) (ix I hn rfl hy ?_)
      rw [w1 (by omega)]
      exact ih (j + 1) _ (by omega) e
  refine loop (n - 1) 1 _ (by omega) ?_
  rw [qSI]
  have : l = l.getD 0 0 :: l.drop 1 := by
    cases l with
    | nil => simp at hn; omega
    | cons a r => rfl
  conv => rhs; rw [this, List.all_cons]
theorem qWv {y : LmV} (Iy : LmI h y) {w : Nat} (hs : y.l.sh.length = w → y.l.sh.length ≤ 1000000) (k : ∀ h', h.le h' → K (.bool (qRD w y.l)) h') :
    CallA Tryz.prog qJX [agg #[.slice y.a y.l.sh.length y.c, .int .i64 y.l.all], .int .i64 (w : Int)] h K := by
  refine qRj _ _ _ _ _ _ _ ?_
  unfold qLw
  unfold qRD at k
  refine ql fun r h1 zr l1 A => ⟨_, _, _, A.cell rfl, ?_⟩
  by_cases e1 : y.l.sh.length = w
  · rw [decide_eq_true e1, Bool.true_and] at k
    refine Br.yes (by rw [e1]; simp) ⟨_, A.cell rfl, ?_⟩
    by_cases e2 : 0 ≤ y.l.all
    · rw [decide_eq_true e2, Bool.true_and] at k
      refine Br.yes (by simpa using e2) ?_
      by_cases e3 : w = 0
      · rw [decide_eq_true e3, Bool.true_or] at k
        exact Br.yes (by rw [e3]; rfl) (Ret.mk (k h1 l1))
      · rw [decide_eq_false e3, Bool.false_or] at k
        refine Br.no (by simpa using e3) ⟨_, _, _, A.cell rfl, qYo (Iy.X.le l1) rfl (hs e1) (by omega) fun v ev => ⟨_, rfl, Ret.mk ?_⟩⟩
        rw [ev]
        exact k h1 l1
    · rw [decide_eq_false e2, Bool.false_and] at k
      exact Br.no (by simpa using e2) (Ret.mk (k h1 l1))
  · rw [decide_eq_false e1, Bool.false_and] at k
    exact Br.no (by simp; omega) (Ret.mk (k h1 l1))
theorem qWi {y : LmV} (Iy : LmI h y) {w c0 : Nat} (hs : y.l.sh.length = w → y.l.sh.length ≤ 1000000) (A0 : At h c0 [.int .i64 (w : Int)]) (k : ∀ h', h.le h' → K (.bool (!qRD w y.l)) h') :
    CallA Tryz.prog qB3 [agg #[.slice y.a y.l.sh.length y.c, .int .i64 y.l.all], pointer (some ⟨c0, 0, none⟩)] h K := by
  refine qQ8 _ _ _ _ _ _ _ ?_
  unfold qLQ
  exact ql fun r h1 zr l1 A => ⟨_, _, _, A.cell rfl, _, A.cell rfl, _, (A0.le l1).cell rfl, qWv (Iy.le l1) hs fun h2 l2 => ⟨_, rfl, Ret.mk (k h2 (Heap.le_trans l1 l2))⟩⟩
def qLh (w : Nat) (l : List LmV) : Bool := l.any fun y => !qRD w y.l
theorem qYH {q : Option Addr} {l : List LmV} {n c : Nat} (A : Arr lmV h q l) (hn : l.length = n) (hs : n ≤ 1000000) (hI : ∀ y ∈ l, LmI h y) {w c0 : Nat} (hsh : ∀ y ∈ l, y.l.sh.length = w → y.l.sh.length ≤ 1000000) (A0 : At h c0 [.int .i64 (w : Int)]) (k : ∀ h', h.le h' → K (.bool (qLh w l)) h') :
    CallA Tryz.prog qAw [slice q n c, func (Fn.func qB3) #[] #[pointer (some ⟨c0, 0, none⟩)]] h K := by
  refine qEs _ _ _ _ _ _ ?_
  unfold qCI
  refine qFV _ _ _ _ _ _ ?_
  unfold qCn
  have loop : ∀ (d j : Nat) (g : Heap), d + j = n → h.le g → qLh w (l.drop j) = qLh w l → qAO q n c c0 (n : Int) (j : Int) g fun v h => ∃ i : Int, v = .int .i64 i ∧ Ret h K (.bool (decide (i ≥ 0))) := by
    intro d
    induction d with
    | zero =>
      intro j g hj lg e
      refine qCP _ _ _ _ _ _ _ _ ?_
      unfold qA2
      rw [List.drop_eq_nil_of_le (by omega)] at e
      refine Br.no (by simp; omega) (Ret.mk ⟨_, rfl, Ret.mk ?_⟩)
      have kk := k g lg
      rw [← e] at kk
      exact kk
    | succ d ih =>
      intro j g hj lg e
      refine qCP _ _ _ _ _ _ _ _ ?_
      unfold qA2
      have hx : l[j]? = some l[j] := List.getElem?_eq_getElem (by omega)
      have hm : l[j] ∈ l := List.getElem_mem _
      rw [List.drop_eq_getElem_cons (by omega : j < l.length)] at e
      generalize l[j] = y at *
      unfold qLh at e
      rw [List.any_cons] at e
      refine Br.yes (by simp; omega) (lx (A.le lg) hn rfl hx (qWi ((hI y hm).le lg) (hsh y hm) (A0.le lg) fun h1 l1 => ⟨_, rfl, Br.intro (fun g1 => ?_) fun g1 => ?_⟩))
      · rw [g1, Bool.true_or] at e
        refine Ret.mk ⟨_, rfl, Ret.mk ?_⟩
        have kk := k h1 (Heap.le_trans lg l1)
        unfold qLh at kk
        rw [← e] at kk
        rw [decide_eq_true (by omega)]
        exact kk
      · rw [g1, Bool.false_or] at e
        rw [w1 (by omega)]
        exact ih (j + 1) h1 (by omega) (Heap.le_trans lg l1) e
  exact loop n 0 h rfl h.le_refl rfl
structure LB (h1 hh : Heap) (p w fb N g : Nat) (a : Option Addr) (C : Nat) (ls : List LmV) : Prop where
  base : h1.le hh
  zg : h1 g = none
  zf : h1 fb = none
  gf : g ≠ fb
  ag : At hh g [.pointer (some ⟨p, 0, none⟩), .pointer (some ⟨w, 0, none⟩), .slice a ls.length C, .slice (some ⟨fb, 0, none⟩) N N]
  af : At hh fb (boV (List.replicate N false))
  own : OwnL h1 hh [.slice none 0 0, .int .i64 0] a C (ls.flatMap lmV)
  na : a ≠ some ⟨g, 0, none⟩ ∧ a ≠ some ⟨fb, 0, none⟩
  each : ∀ y ∈ ls, ∃ b sp, y.a = some ⟨b, 0, none⟩ ∧ h1 b = none ∧ At hh b (qK .i64 y.l.sh ++ sp) ∧ b ≠ g ∧ b ≠ fb ∧ a ≠ some ⟨b, 0, none⟩ ∧ (∀ z ∈ y.l.sh, I64 z) ∧ I64 y.l.all
theorem qWx (n : Nat) : q4 n [Value.bool false] = boV (List.replicate n false) := by
  induction n with
  | zero => rfl
  | succ n ih => rw [q4, ih, List.replicate_succ]; rfl
theorem LB.le {h1 hh h' : Heap} {p w fb N g : Nat} {a : Option Addr} {C : Nat} {ls : List LmV} (I : LB h1 hh p w fb N g a C ls) (l : hh.le h') : LB h1 h' p w fb N g a C ls := by
  refine { I with base := Heap.le_trans I.base l, ag := I.ag.le l, af := I.af.le l, own := I.own.le l, each := fun y hy => ?_ }
  obtain ⟨b, sp, e1, e2, e3, e4⟩ := I.each y hy
  exact ⟨b, sp, e1, e2, e3.le l, e4⟩
theorem qYv {h : Heap} {D E : Nat → Bool} (e : ∀ x, E x = false → D x = false) : (h.wo E).le (h.wo D) := fun x o hx => by
  cases he : E x with
  | true => rw [qF3 he] at hx; cases hx
  | false =>
    rw [qJS he] at hx
    rw [qJS (e x he)]
    exact hx
theorem qUU {hb : Heap} {K : Value → Heap → Prop} {p w fb N g : Nat} {q : Option Addr} {n qc W : Nat} {l0 : List LmV} (A : Arr lmV hb q l0) (hn : l0.length = n) (hs : n ≤ 1000000) (hI : ∀ y ∈ l0, LmI hb y) (hW : ∀ y ∈ l0, y.l.sh.length = W) (w1' : 1 ≤ W) (w8 : W ≤ 1000000)
    (k : ∀ hh a C ls, LB hb hh p w fb N g a C ls → ls.map (·.l) = l0.map (·.l) → CallA Tryz.prog qDj [pointer (some ⟨g, 0, none⟩)] hh fun v h => v = tuple #[] ∧ Ret h K (tuple #[pointer (some ⟨g, 0, none⟩), .int .i64 0])) :
    ∀ (d j : Nat) (hh : Heap) (a : Option Addr) (C : Nat) (ls : List LmV), d + j = n → LB hb hh p w fb N g a C ls → ls.length = j → ls.map (·.l) = (l0.take j).map (·.l) → qHQ g q n qc (n : Int) (j : Int) hh K := by
  intro d
  induction d with
  | zero =>
    intro j hh a C ls hj I hl e
    refine qLJ _ _ _ _ _ _ _ _ ?_
    unfold qIc
    rw [List.take_of_length_le (by omega)] at e
    exact Br.no (by simp; omega) (k hh a C ls I e)
  | succ d ih =>
    intro j hh a C ls hj I hl e
    refine qLJ _ _ _ _ _ _ _ _ ?_
    unfold qIc
    have hx : l0[j]? = some l0[j] := List.getElem?_eq_getElem (by omega)
    have hm : l0[j] ∈ l0 := List.getElem_mem _
    have htk : l0.take (j + 1) = l0.take j ++ [l0[j]] := by rw [List.take_add_one, hx]; rfl
    generalize l0[j] = y at *
    have Iy := hI y hm
    have yW := hW y hm
    refine Br.yes (by simp; omega) (lx (A.le I.base) hn rfl hx (qEE (vs := [.slice y.a y.l.sh.length y.c, .int .i64 y.l.all]) rfl fun r h1 zr l1 Ar cs => ⟨cs, ?_⟩))
    generalize h1.setN r 0 [.slice y.a y.l.sh.length y.c, .int .i64 y.l.all] = H at *
    have I1 := I.le l1
    refine ⟨_, _, _, I1.ag.cell rfl, _, _, _, Ar.cell rfl, _, Ar.cell rfl, qQy (Iy.X.le I1.base) rfl (by omega) (by omega) fun b sp cb h2 l2 zb Ab => ⟨_, _, _, rfl, .inl l2, ?_⟩⟩
    have I2 := I1.le l2
    have hv : (ls.flatMap lmV).length = ls.length * [Value.slice none 0 0, .int .i64 0].length := qBh qR8 ls
    refine qJw (ws := lmV ⟨some ⟨b, 0, none⟩, cb, y.l⟩) I2.own (by decide) I2.base (by omega) rfl rfl hv fun r2 h3 a' C' h4 zr2 l3 l4 own' keep how => ?_
    have bg : b ≠ g := fun e => I1.ag.ne zb e.symm
    have bf : b ≠ fb := fun e => I1.af.ne zb e.symm
    have ab : a ≠ some ⟨b, 0, none⟩ := I1.own.fresh zb
    have I3 := I2.le l3
    have ag4 := qEH keep I3.ag I.na.1
    have a'g := qF8 how I3.ag I.na.1
    have a'f := qF8 how I3.af I.na.2
    have a'b := qF8 how (Ab.le l3) ab
    have l5 : hb.le (h4.setN g 2 [.slice a' (ls.length + 1) C']) := qS l4 I.zg
    refine ⟨ag4.canSt (by simp), ?_⟩
    rw [w1 (by omega)]
    refine ih (j + 1) _ a' C' (ls ++ [⟨some ⟨b, 0, none⟩, cb, y.l⟩]) (by omega) ⟨l5, I.zg, I.zf, I.gf, ?_, ?_, ?_, ⟨a'g, a'f⟩, fun z hz => ?_⟩ (by rw [List.length_append, List.length_singleton, hl]) (by rw [List.map_append, e, htk, List.map_append]; rfl)
    · have := ag4.set (o := 2) (ws := [.slice a' (ls.length + 1) C'])
      rw [List.length_append, List.length_singleton]
      exact this
    · exact (qEH keep I3.af I.na.2).set_ne (fun e => I.gf e.symm)
    · rw [List.flatMap_append]
      exact own'.set_ne a'g
    · rcases List.mem_append.1 hz with hz | hz
      · obtain ⟨b2, sp2, e1, e2, e3, e4, e5, e6, e7⟩ := I3.each z hz
        exact ⟨b2, sp2, e1, e2, (qEH keep e3 e6).set_ne e4, e4, e5, qF8 how e3 e6, e7⟩
      · rw [List.mem_singleton] at hz
        subst hz
        exact ⟨b, sp, rfl, qJ I1.base zb, (qEH keep (Ab.le l3) ab).set_ne bg, bg, bf, a'b, Iy.i, Iy.all⟩
def qOr (T : List Cur) (S : Lg) (l : List LmV) : Int := if qCV T ≠ 0 then qCV T else if S.cur ≠ T.length then 1 else if l.length ≠ S.M.length then 1 else if qLh S.cur l = true then 1 else 0
def qRI (T : List Cur) (S : Lg) (l : List LmV) : Gu := Gu.judge ⟨S, T, l.map (·.l), List.replicate S.M.length false⟩
def GuF.cB (x : GuF) (b : Nat) : Prop := b = x.g ∨ (∃ o, x.lp = some ⟨b, o, none⟩) ∨ ∃ y ∈ x.ls, ∃ o, y.a = some ⟨b, o, none⟩
theorem qWo {h0 h : Heap} {K : Value → Heap → Prop} {S : Lg} {T : List Cur} {tp : Option Addr} {tn tc p B C : Nat} {sp : List Value} {q : Option Addr} {l0 : List LmV} {n qc : Nat} (lh : h0.le h) (CT : Curs h tp T) (hT : T.length = tn) (hts : tn ≤ 1000000) (LA : LedAt h p B C sp S) (np : h0 p = none) (nB : h0 B = none) (oS : S.Ok)
    (A : Arr lmV h0 q l0) (hn : l0.length = n) (hs : n ≤ 1000000) (hI : ∀ y ∈ l0, LmI h0 y) (hsh : ∀ y ∈ l0, y.l.sh.length = S.cur → y.l.sh.length ≤ 1000000)
    (k1 : qOr T S l0 ≠ 0 → ∀ h', h0.le h' → LedAt h' p B C sp S → K (tuple #[pointer none, .int .i64 (qOr T S l0)]) h')
    (k2 : qOr T S l0 = 0 → ∀ h' x, GD h0 h' x (qRI T S l0) → x.p = p → (∀ b, x.cB b → h0 b = none) → K (tuple #[pointer (some ⟨x.g, 0, none⟩), .int .i64 0]) h') :
    CallA Tryz.prog qKG [slice tp tn tc, pointer (some ⟨p, 0, none⟩), slice q n qc] h K := by
  refine qTE _ _ _ _ _ _ _ _ _ ?_
  unfold qNG
  unfold qOr at k1 k2
  by_cases e1 : qCV T ≠ 0
  · rw [if_pos e1] at k1
    exact qQq CT hT hts LA (fun _ h1 l1 => ⟨_, _, rfl, Br.yes (by simpa using e1) (Ret.mk (k1 e1 h1 (Heap.le_trans lh l1) (LA.le l1)))⟩) (fun e => (e1 e).elim) (fun e => (e1 e).elim)
  rw [if_neg e1] at k1 k2
  have e1 : qCV T = 0 := Classical.byContradiction e1
  by_cases e2 : S.cur ≠ T.length
  · rw [if_pos e2] at k1
    exact qQq CT hT hts LA (fun e => (e e1).elim) (fun _ _ h1 l1 => ⟨_, _, rfl, Br.yes rfl (Ret.mk (k1 (by decide) h1 (Heap.le_trans lh l1) (LA.le l1)))⟩) (fun _ e => (e2 (by omega)).elim)
  rw [if_neg e2] at k1 k2
  have e2 : S.cur = T.length := Classical.byContradiction e2
  have n16 := oS.n16
  have c1 := oS.c1
  have c8 := oS.c8
  refine qXY lh CT hT LA np nB e1 (e2.trans hT) fun h1 f W1 => ⟨_, _, rfl, Br.no rfl (qO1 W1.LA ⟨_, _, rfl, qEE (vs := [.int .i64 (S.cur : Int)]) rfl fun r h2 zr l2 Ar cs => ⟨cs, ?_⟩⟩)⟩
  generalize h2.setN r 0 [.int .i64 (S.cur : Int)] = H at *
  have W2 := W1.le l2
  by_cases e3 : l0.length ≠ S.M.length
  · rw [if_pos e3] at k1
    exact Br.yes (by simp; omega) (Ret.mk (k1 (by decide) H W2.base W2.LA))
  rw [if_neg e3] at k1 k2
  have e3 : l0.length = S.M.length := Classical.byContradiction e3
  refine Br.no (by simp; omega) (qYH (A.le W2.base) hn hs (fun y hy => (hI y hy).le W2.base) hsh Ar fun h3 l3 => ⟨_, rfl, ?_⟩)
  have W3 := W2.le l3
  cases e4 : qLh S.cur l0 with
  | true =>
    rw [e4, if_pos rfl] at k1
    exact Br.yes rfl (Ret.mk (k1 (by decide) h3 W3.base W3.LA))
  | false =>
    rw [e4] at k2
    have fit : ∀ y ∈ l0, y.l.sh.length = S.cur ∧ 0 ≤ y.l.all ∧ ∀ z ∈ y.l.sh, 0 ≤ z := fun y hy => by
      unfold qLh at e4
      rw [List.any_eq_false] at e4
      have := e4 y hy
      unfold qRD at this
      simp only [Bool.not_eq_true', Bool.not_eq_false, Bool.and_eq_true, Bool.or_eq_true, decide_eq_true_eq, List.all_eq_true] at this
      refine ⟨this.1, this.2.1, fun z hz => ?_⟩
      rcases this.2.2 with h | h
      · omega
      · exact h z hz
    refine Br.no rfl ⟨by omega, by omega, by omega, by omega, ql fun fb h4 zf l4 Af => ql fun g h5 zg l5 Ag => ?_⟩
    rw [Int.toNat_natCast] at Ag
    rw [Int.toNat_natCast, qWx] at Af
    have gf : g ≠ fb := fun e => Af.ne zg e.symm
    refine qUU (hb := h3) (w := f.b 0) (fb := fb) (N := S.M.length) (W := S.cur) (A.le W3.base) hn hs (fun y hy => (hI y hy).le W3.base) (fun y hy => (fit y hy).1) c1 (by omega) (fun hh a C' ls I em => ?_) n 0 h5 none 0 [] rfl ⟨Heap.le_trans l4 l5, qJ l4 zg, zf, gf, Ag, Af.le l5, OwnL.nil _ _ _, ⟨fun e => (by cases e), fun e => (by cases e)⟩, fun y hy => (by cases hy)⟩ rfl rfl
    have Wh := W3.le I.base
    have out : ∀ {b : Nat}, h3 b = none → LWD p B f S.M.length b = false := fun e => W3.out e
    have E : ∀ b, (LWD p B f S.M.length b || b == fb) = false ↔ LWD p B f S.M.length b = false ∧ b ≠ fb := fun b => by rw [Bool.or_eq_false_iff]; simp
    have lc : h0.le (hh.wo fun b => LWD p B f S.M.length b || b == fb) := qJd Wh.base fun b hb => by
      rw [Bool.or_eq_true] at hb
      rcases hb with hb | hb
      · exact Wh.none' hb
      · have hb : b = fb := by simpa using hb
        rw [hb]; exact qJ W3.base zf
    have el : ls.length = S.M.length := by
      have := congrArg List.length em
      rw [List.length_map, List.length_map] at this
      omega
    have hmem : ∀ y ∈ ls, ∃ z ∈ l0, z.l = y.l := fun y hy => by
      have : y.l ∈ l0.map (·.l) := by rw [← em]; exact List.mem_map_of_mem hy
      obtain ⟨z, hz, e⟩ := List.mem_map.1 this
      exact ⟨z, hz, e⟩
    have ok : Gu.Ok ⟨S, T, l0.map (·.l), List.replicate S.M.length false⟩ := by
      refine { o := oS, ef := List.length_replicate, eL := by show (l0.map _).length = _; rw [List.length_map]; exact e3, ec := e2, tab := e1, sh := fun l hl => ?_ }
      obtain ⟨z, hz, rfl⟩ := List.mem_map.1 hl
      obtain ⟨f1, f2, f3⟩ := fit z hz
      exact ⟨f1.trans e2, fun y hy => ⟨f3 y hy, (hI z hz).i y hy⟩, f2, (hI z hz).all⟩
    have G : GD h0 hh ⟨g, f.b 0, a, C', ls, fb, S.M.length, p, B, C, sp, f, fun i => qAq S (i : Int) T.length, hh.wo fun b => LWD p B f S.M.length b || b == fb, hh.wo (LWD p B f S.M.length)⟩ ⟨S, T, l0.map (·.l), List.replicate S.M.length false⟩ := by
      refine { base := lc, ck := qYv fun b hb => ((E b).1 hb).1, nf := ?_, ag := ?_, al := ?_, il := fun y hy => ?_, el := em, af := I.af.wo (out zf), ew := rfl, W := Wh.mv (qMl _ _) (fun _ _ _ a => a) (fun b hb => qF3 hb), ok := ok, told := fun i _ => rfl }
      · exact qF3 (D := fun b => LWD p B f S.M.length b || b == fb) (by simp)
      · show At _ g [_, _, _, .slice (some ⟨fb, 0, none⟩) (List.replicate S.M.length false).length S.M.length]
        rw [List.length_replicate]
        exact I.ag.wo ((E g).2 ⟨out I.zg, gf⟩)
      · refine qPy I.own.rd fun b o e => (E b).2 ?_
        rcases I.own with ⟨_, e5, _⟩ | ⟨r5, sp5, e5, z5, _⟩
        · rw [e5] at e; cases e
        · rw [e5] at e
          cases e
          exact ⟨out z5, fun e6 => I.na.2 (by rw [e5, e6])⟩
      · obtain ⟨b, spb, c1', c2', c3', c4', c5', c6', c7', c8'⟩ := I.each y hy
        refine ⟨?_, c7', c8'⟩
        rw [c1']
        exact (c3'.wo ((E b).2 ⟨out c2', c5'⟩)).toRd
    have J := qUg (K := fun v h => v = tuple #[] ∧ Ret h K (tuple #[pointer (some ⟨g, 0, none⟩), .int .i64 0])) G fun h' x' G' sm => ⟨rfl, Ret.mk (by
      have g1' : x'.g = g := sm.g
      rw [← g1']
      refine k2 rfl h' x' G' sm.p fun b hb => ?_
      unfold GuF.cB at hb
      rw [sm.g, sm.lp, sm.ls] at hb
      rcases hb with rfl | ⟨o, hb⟩ | ⟨y, hy, o, hb⟩
      · exact qJ W3.base I.zg
      · have hb : a = some ⟨b, o, none⟩ := hb
        rcases I.own with ⟨_, e5, _⟩ | ⟨r5, sp5, e5, z5, _⟩
        · rw [e5] at hb; cases hb
        · rw [e5] at hb; cases hb; exact qJ W3.base z5
      · obtain ⟨b', spb, c1', c2', _⟩ := I.each y hy
        rw [c1'] at hb
        cases hb
        exact qJ W3.base c2')⟩
    exact J
end
end Go.Proofs.YtgjeecaombnmiaaGreat
