import Derived.Test.YtghdadniddoboaaGreatM15
import Derived.Test.YtghdadniddoboaaGreatM05
/- A guard's tests: what each call answers. -/
namespace Go.Proofs.YtghdadniddoboaaGreat
open Go Go.Sy Go.Value
set_option linter.unusedVariables false
set_option linter.unusedSimpArgs false

def orI (a b : Int) : Int := IntKind.wrap .i64 ((BitVec.toNat (BitVec.ofInt 64 a ||| BitVec.ofInt 64 b) : Nat) : Int)
theorem or2 {a : Int} (h : a = 0 ∨ a = 2) : orI a 2 = 2 := by rcases h with rfl | rfl <;> decide
def sumsW (T : List Cur) (row : List Int) (m : Int) (b : List Pst) (most : Int) : Int :=
  if (ifW T row m b).2.2 ≠ 0 then 7 else if (ifW T row m b).1 < 0 then (if most < (ifW T row m b).2.1 then 5 else 1) else (if most < (ifW T row m b).2.1 then 4 else 0)
def sh2 (sh cur : List Int) : Int := if shortB sh cur = true then 2 else 0
theorem or7 {a : Int} (h : a = 0 ∨ a = 2) : orI a 7 = 7 := by rcases h with rfl | rfl <;> decide
theorem pass_or {T : List Cur} {l : Lm} {row r : List Int} {m : Int} {b : List Pst} (hb : badC row.length b = false) (hr : movedW m b row = some r) : orI (sh2 l.sh r) (sumsW T row m b l.all) = passR T l r := by
  have h2 : sh2 l.sh r = 0 ∨ sh2 l.sh r = 2 := by unfold sh2; split <;> simp
  have hif : ifW T row m b = if (netW T r).2 ≠ 0 then (0, 0, 3) else if (shW T r).2 ≠ 0 then (0, 0, 3) else ((netW T r).1, (shW T r).1, 0) := by
    unfold ifW
    rw [hb, hr]; rfl
  unfold sumsW passR
  rw [hif]
  by_cases e1 : (netW T r).2 ≠ 0
  · rw [if_pos e1, if_pos e1, if_pos (show ((0 : Int), (0 : Int), (3 : Int)).2.2 ≠ 0 by decide)]
    exact or7 h2
  rw [if_neg e1, if_neg e1]
  by_cases e2 : (shW T r).2 ≠ 0
  · rw [if_pos e2, if_pos e2, if_pos (show ((0 : Int), (0 : Int), (3 : Int)).2.2 ≠ 0 by decide)]
    exact or7 h2
  rw [if_neg e2, if_neg e2, if_neg (fun x => x rfl)]
  dsimp only
  unfold sh2
  by_cases c1 : (netW T r).1 < 0 <;> by_cases c2 : shortB l.sh r = true <;> by_cases c3 : l.all < (shW T r).1 <;> (first | rw [if_pos c1] | rw [if_neg c1]) <;> simp only [c1, c2, c3, if_true, if_false, Bool.false_eq_true] <;> decide
/-! numbers laid one by one -/
def filR (f : Nat → Int) (w j : Nat) : List Int := (List.range w).map fun c => if c < j then f c else 0
theorem filR_len (f : Nat → Int) (w j : Nat) : (filR f w j).length = w := by unfold filR; rw [List.length_map, List.length_range]
theorem filR_0 (f : Nat → Int) (w : Nat) : filR f w 0 = List.replicate w 0 := by
  unfold filR
  refine List.ext_getElem (by simp) fun i h1 h2 => ?_
  simp
theorem filR_set (f : Nat → Int) {w j : Nat} (h : j < w) : (filR f w j).set j (f j) = filR f w (j + 1) := by
  refine List.ext_getElem? fun i => ?_
  by_cases hi : i < w
  · have g : ∀ k, (filR f w k)[i]? = some (if i < k then f i else 0) := fun k => by unfold filR; rw [List.getElem?_map, List.getElem?_range hi]; rfl
    rw [g]
    by_cases e : i = j
    · subst e
      rw [List.getElem?_set_self (by rw [filR_len]; exact h), if_pos (by omega)]
    · rw [List.getElem?_set_ne (fun x => e x.symm), g]
      congr 1
      by_cases e2 : i < j
      · rw [if_pos e2, if_pos (by omega)]
      · rw [if_neg e2, if_neg (by omega)]
  · rw [List.getElem?_eq_none (by rw [List.length_set, filR_len]; omega), List.getElem?_eq_none (by rw [filR_len]; omega)]
theorem filR_all (f : Nat → Int) (w : Nat) : filR f w w = (List.range w).map f := by
  unfold filR
  refine List.map_congr_left fun c hc => ?_
  rw [if_pos (List.mem_range.1 hc)]
theorem repL_num (n : Nat) : repL n [Value.int .i64 0] = intsV .i64 (List.replicate n 0) := by
  induction n with
  | zero => rfl
  | succ n ih => rw [repL, ih, List.replicate_succ]; rfl
section
variable {h0 h : Heap} {K : Value → Heap → Prop} {x : GuF} {u : Gu}
theorem S_gHas (G : GR h0 h x u) {m : Int} (k : K (.bool (decide (0 ≤ m ∧ m < (u.fl.length : Int)))) h) : CallA Tryz.prog fn_prisk_Guard_has [pointer (some ⟨x.g, 0, none⟩), int .i64 m] h K := by
  refine F_prisk_Guard_has _ _ _ _ ?_
  unfold F_prisk_Guard_hasT
  refine Br.intro (fun g => withAddr_intro rfl ⟨_, _, _, G.g.cell rfl, Ret.mk ?_⟩) fun g => Ret.mk ?_
  · have g : 0 ≤ m := by simpa using g
    rw [show decide (m < (u.fl.length : Int)) = decide (0 ≤ m ∧ m < (u.fl.length : Int)) from decide_eq_decide.2 ⟨fun e => ⟨g, e⟩, fun e => e.2⟩]
    exact k
  · have g : ¬ 0 ≤ m := by simpa using g
    rw [decide_eq_false (fun e => g e.1)] at k
    exact k
theorem GR.flag (G : GR h0 h x u) {m : Nat} (hm : m < u.fl.length) : h.cell x.fb (0 + m) = some (.bool (u.fl.getD m false)) := by
  rw [Nat.zero_add]
  exact G.f.cell (boV_get hm)
theorem S_gFlagged (G : GR h0 h x u) {m : Int} (k : K (.bool (u.flag m)) h) : CallA Tryz.prog fn_prisk_Guard_Flagged [pointer (some ⟨x.g, 0, none⟩), int .i64 m] h K := by
  refine F_prisk_Guard_Flagged _ _ _ _ ?_
  unfold F_prisk_Guard_FlaggedT
  refine S_gHas G ⟨_, rfl, ?_⟩
  unfold Gu.flag at k
  by_cases hm : 0 ≤ m ∧ m < (u.fl.length : Int)
  · rw [decide_eq_true hm, Bool.true_and] at k
    exact Br.yes (decide_eq_true hm) (withAddr_intro rfl ⟨_, _, _, G.g.cell rfl, hm.1, hm.2, withAddr_intro rfl ⟨_, G.flag (by omega), Ret.mk k⟩⟩)
  · rw [decide_eq_false hm, Bool.false_and] at k
    exact Br.no (decide_eq_false hm) (Ret.mk k)
theorem Gu.Ok.rowI {u : Gu} (o : u.Ok) (m : Nat) : (u.row m).length = u.T.length ∧ ∀ y ∈ u.row m, I64 y := ⟨rowG_len _ _ _, rowG_I o.o.toSz _ _⟩
section
variable {q : Option Addr} {b : List Pst} {bn qc : Nat}
theorem S_gSums (G : GD h0 h x u) {m : Nat} (hm : m < u.fl.length) (Xb : Pos h q b) (hn : b.length = bn) (hs : bn ≤ 1000000) (hb : ∀ y ∈ b, I64 y.a) {most : Int} (k : ∀ h', h.le h' → K (.int .i64 (sumsW u.T (u.row m) (m : Int) b most)) h') :
    CallA Tryz.prog fn_prisk_Guard_sums [pointer (some ⟨x.g, 0, none⟩), int .i64 (m : Int), slice q bn qc, int .i64 most] h K := by
  refine F_prisk_Guard_sums _ _ _ _ _ _ _ _ ?_
  unfold F_prisk_Guard_sumsT
  refine withAddr_intro rfl ⟨_, G.g.cell rfl, ?_⟩
  rw [← G.ew]
  refine S_wIf G.ok.tab G.W.X (row := u.row m) (fun _ _ => by rw [Int.toNat_natCast]; exact congrArg (acOf u.T) (G.told m (by have := G.ok.ef; omega))) (G.ok.rowI m).1 (G.ok.rowI m).2 Xb hn hs hb fun h1 l1 => ?_
  rw [if_pos (by have := G.ok.ef; omega)]
  refine ⟨_, _, _, rfl, ?_⟩
  have kk := k h1 l1
  unfold sumsW at kk
  by_cases e : (ifW u.T (u.row m) (m : Int) b).2.2 ≠ 0
  · rw [if_pos e] at kk
    exact Br.no (by simpa using e) (Ret.mk kk)
  rw [if_neg e] at kk
  refine Br.yes (by simpa using e) (Br.dec (fun g => ?_) fun g => ?_)
  · rw [if_pos g] at kk
    refine Br.dec (fun g2 => ?_) fun g2 => ?_
    · rw [if_pos (by omega)] at kk; exact Ret.mk kk
    · rw [if_neg (by omega)] at kk; exact Ret.mk kk
  · rw [if_neg g] at kk
    refine Br.dec (fun g2 => ?_) fun g2 => ?_
    · rw [if_pos (by omega)] at kk; exact Ret.mk kk
    · rw [if_neg (by omega)] at kk; exact Ret.mk kk
structure FI (h g : Heap) (r r1 : Nat) (y : LmV) (cur : List Int) : Prop where
  base : h.le g
  zr : h r = none
  z1 : h r1 = none
  ar : At g r [.slice y.a y.l.sh.length y.c, .int .i64 y.l.all]
  ab : At g r1 (intsV .i64 cur ++ [])
  ne : r ≠ r1
theorem FI.le {g g' : Heap} {r r1 : Nat} {y : LmV} {cur : List Int} (I : FI h g r r1 y cur) (l : g.le g') : FI h g' r r1 y cur := { I with base := Heap.le_trans I.base l, ar := I.ar.le l, ab := I.ab.le l }
theorem FI.set {g : Heap} {r r1 : Nat} {y : LmV} {cur : List Int} (I : FI h g r r1 y cur) {c : Nat} {v : Int} (hc : c < cur.length) : FI h (g.setN r1 c [.int .i64 v]) r r1 y (cur.set c v) := by
  refine { I with base := le_setN I.base I.z1, ar := I.ar.set_ne I.ne, ab := ?_ }
  have := I.ab.set (o := c) (ws := [.int .i64 v])
  rw [setL_ints1 hc] at this
  exact this
section
variable {m : Nat} {y : LmV} {r r1 : Nat}
theorem fails_3 (G : GD h0 h x u) (hm : m < u.fl.length) (Iy : LmI h y) (hw : y.l.sh.length = u.T.length) (hz : ∀ z ∈ y.l.sh, 0 ≤ z ∧ I64 z) (Xb : Pos h q b) (hn : b.length = bn) (hs : bn ≤ 1000000) (hb : ∀ y ∈ b, I64 y.a) {cur : List Int} (hc : cur.length = u.T.length)
    (k : ∀ h', h.le h' → K (.int .i64 (orI (sh2 y.l.sh cur) (sumsW u.T (u.row m) (m : Int) b y.l.all))) h') :
    ∀ (d j : Nat) (g : Heap) (bits : Int), d + j = u.T.length → FI h g r r1 y cur → bits = (if ((List.range j).any fun c => decide (cur.getD c 0 < -(y.l.sh.getD c 0))) = true then 2 else 0) → L_prisk_Guard_Fails_3 (some ⟨x.g, 0, none⟩) (m : Int) q bn qc r bits (some ⟨r1, 0, none⟩) u.T.length u.T.length (u.T.length : Int) (j : Int) g K := by
  have t8 := (tab_parts G.ok.tab).2.1
  intro d
  induction d with
  | zero =>
    intro j g bits hj I e
    refine L_prisk_Guard_Fails_3r _ _ _ _ _ _ _ _ _ _ _ _ _ _ ?_
    unfold L_prisk_Guard_Fails_3T
    refine Br.no (by simp; omega) ⟨_, I.ar.cell rfl, S_gSums (G.le I.base) hm (rdL_le I.base Xb) hn hs hb fun h1 l1 => ⟨_, rfl, Ret.mk ?_⟩⟩
    have kk := k h1 (Heap.le_trans I.base l1)
    obtain rfl : j = u.T.length := by omega
    have e2 : bits = sh2 y.l.sh cur := by
      rw [e]; unfold sh2 shortB; rw [hc]
    rw [← e2] at kk
    exact kk
  | succ d ih =>
    intro j g bits hj I e
    refine L_prisk_Guard_Fails_3r _ _ _ _ _ _ _ _ _ _ _ _ _ _ ?_
    unfold L_prisk_Guard_Fails_3T
    have hx : cur[j]? = some (cur.getD j 0) := by rw [List.getD_eq_getElem?_getD, List.getElem?_eq_getElem (by omega)]; rfl
    have hy : y.l.sh[j]? = some (y.l.sh.getD j 0) := by rw [List.getD_eq_getElem?_getD, List.getElem?_eq_getElem (by omega)]; rfl
    have hz' := hz _ (List.mem_of_getElem? hy)
    have b01 : bits = 0 ∨ bits = 2 := by rw [e]; split <;> simp
    have hr : (List.range (j + 1)).any (fun c => decide (cur.getD c 0 < -(y.l.sh.getD c 0))) = (((List.range j).any fun c => decide (cur.getD c 0 < -(y.l.sh.getD c 0))) || decide (cur.getD j 0 < -(y.l.sh.getD j 0))) := by
      rw [List.range_succ, List.any_append]; simp
    refine Br.yes (by simp; omega) (ix (l := cur) I.ab.toRd hc rfl hx ⟨_, _, _, I.ar.cell rfl, ix (Iy.X.le I.base) rfl rfl hy ?_⟩)
    rw [wrap_i64_id (n := 0 - y.l.sh.getD j 0) (by have := hz'.2; unfold I64 at this; omega) (by omega), w1 (by omega)]
    refine Br.dec (fun g1 => ?_) fun g1 => ?_
    · refine ih (j + 1) g (orI bits 2) (by omega) I ?_
      rw [or2 b01, hr, decide_eq_true (by omega), Bool.or_true, if_pos rfl]
    · refine ih (j + 1) g bits (by omega) I ?_
      rw [hr, decide_eq_false (by omega), Bool.or_false]
      exact e
theorem fails_2 (G : GD h0 h x u) (Xb : Pos h q b) (hn : b.length = bn) (hs : bn ≤ 1000000) (hb : ∀ y ∈ b, I64 y.a) (hbad : ∀ y ∈ b, 0 ≤ y.c ∧ y.c < (u.T.length : Int)) {row : List Int}
    (k7 : movedW (m : Int) b row = none → ∀ h', h.le h' → K (.int .i64 7) h')
    (k : ∀ c, movedW (m : Int) b row = some c → c.length = u.T.length → ∀ g, FI h g r r1 y c → L_prisk_Guard_Fails_3 (some ⟨x.g, 0, none⟩) (m : Int) q bn qc r 0 (some ⟨r1, 0, none⟩) u.T.length u.T.length (u.T.length : Int) ((0 : Nat) : Int) g K) :
    ∀ (d j : Nat) (g : Heap) (cur : List Int), d + j = bn → FI h g r r1 y cur → cur.length = u.T.length → (∀ z ∈ cur, I64 z) → movedW (m : Int) (b.drop j) cur = movedW (m : Int) b row → L_prisk_Guard_Fails_2 (some ⟨x.g, 0, none⟩) (m : Int) q bn qc r (some ⟨r1, 0, none⟩) u.T.length u.T.length q bn qc (bn : Int) (j : Int) g K := by
  intro d
  induction d with
  | zero =>
    intro j g cur hj I hc hI e
    refine L_prisk_Guard_Fails_2r _ _ _ _ _ _ _ _ _ _ _ _ _ _ _ _ ?_
    unfold L_prisk_Guard_Fails_2T
    rw [List.drop_eq_nil_of_le (by omega), movedW] at e
    exact Br.no (by simp; omega) (k cur e.symm hc g I)
  | succ d ih =>
    intro j g cur hj I hc hI e
    refine L_prisk_Guard_Fails_2r _ _ _ _ _ _ _ _ _ _ _ _ _ _ _ _ ?_
    unfold L_prisk_Guard_Fails_2T
    have hx : b[j]? = some b[j] := List.getElem?_eq_getElem (by omega)
    have hmm : b[j] ∈ b := List.getElem_mem _
    rw [List.drop_eq_getElem_cons (by omega : j < b.length), movedW] at e
    generalize b[j] = z at *
    have hza := hb z hmm
    have hzc := hbad z hmm
    refine Br.yes (by simp; omega) (px (rdL_le I.base Xb) hn rfl hx (newB_cp (vs := [int .i64 z.m, int .i64 z.c, int .i64 z.a]) rfl fun s h1 zs l1 As cs => ⟨cs, _, As.cell rfl, ?_⟩))
    generalize h1.setN s 0 [int .i64 z.m, int .i64 z.c, int .i64 z.a] = H at *
    have J := I.le l1
    by_cases hmi : z.m ≠ (m : Int)
    · rw [if_pos hmi] at e
      rw [w1 (by omega)]
      exact Br.yes (by simpa using hmi) (ih (j + 1) H cur (by omega) J hc hI e)
    rw [if_neg hmi] at e
    obtain ⟨c, hcc⟩ : ∃ c : Nat, z.c = (c : Int) := ⟨z.c.toNat, by omega⟩
    have hcl : c < cur.length := by omega
    have hg : cur[c]? = some (cur.getD c 0) := by rw [List.getD_eq_getElem?_getD, List.getElem?_eq_getElem hcl]; rfl
    have hgI : I64 (cur.getD c 0) := hI _ (List.mem_of_getElem? hg)
    rw [hcc, Int.toNat_natCast] at e
    refine Br.no (by simpa using hmi) ⟨_, As.cell rfl, by omega, by omega, withAddr_intro rfl ⟨_, J.ab.cell (v := int .i64 (cur.getD c 0)) (by rw [hcc, Int.toNat_natCast, Nat.zero_add, List.getElem?_append_left (by rw [intsV_length]; exact hcl), intsV_map, List.getElem?_map, hg]; rfl), _, As.cell rfl, S_Add hgI hza _ _ ⟨_, _, rfl, ?_⟩⟩⟩
    by_cases e1 : (fit (cur.getD c 0 + z.a)).2 ≠ 0
    · rw [if_pos e1] at e
      rw [fit_3 e1]
      exact Br.yes rfl (Ret.mk (k7 e.symm H J.base))
    · rw [if_neg e1] at e
      have hf := fit_in e1
      rw [fit_ok hf]
      refine Br.no rfl ⟨_, As.cell rfl, by omega, by omega, withAddr_intro rfl ⟨J.ab.canSt (by simp only [List.length_append, intsV_length, List.length_cons, List.length_nil]; omega), ?_⟩⟩
      rw [w1 (by omega), hcc, Int.toNat_natCast, Nat.zero_add]
      refine ih (j + 1) _ (cur.set c (cur.getD c 0 + z.a)) (by omega) (J.set hcl) (by rw [List.length_set]; exact hc) (fun v hv => ?_) e
      rcases List.mem_or_eq_of_mem_set hv with hv | rfl
      · exact hI v hv
      · exact hf
theorem fails_1 (Xb : Pos h q b) (hn : b.length = bn) (hs : bn ≤ 1000000) {cur : List Int} {w : Nat} {gp : Option Addr} {mi : Int}
    (k7 : badC w b = true → ∀ h', h.le h' → K (.int .i64 7) h')
    (k : badC w b = false → ∀ g, FI h g r r1 y cur → L_prisk_Guard_Fails_2 gp mi q bn qc r (some ⟨r1, 0, none⟩) w w q bn qc (bn : Int) ((0 : Nat) : Int) g K) :
    ∀ (d j : Nat) (g : Heap), d + j = bn → FI h g r r1 y cur → badC w (b.drop j) = badC w b → L_prisk_Guard_Fails_1 gp mi q bn qc r (some ⟨r1, 0, none⟩) w w q bn qc (bn : Int) (j : Int) g K := by
  intro d
  induction d with
  | zero =>
    intro j g hj I e
    refine L_prisk_Guard_Fails_1r _ _ _ _ _ _ _ _ _ _ _ _ _ _ _ _ ?_
    unfold L_prisk_Guard_Fails_1T
    rw [List.drop_eq_nil_of_le (by omega)] at e
    exact Br.no (by simp; omega) (k e.symm g I)
  | succ d ih =>
    intro j g hj I e
    refine L_prisk_Guard_Fails_1r _ _ _ _ _ _ _ _ _ _ _ _ _ _ _ _ ?_
    unfold L_prisk_Guard_Fails_1T
    have hx : b[j]? = some b[j] := List.getElem?_eq_getElem (by omega)
    rw [List.drop_eq_getElem_cons (by omega : j < b.length)] at e
    generalize b[j] = z at *
    have e5 : badC w (z :: b.drop (j + 1)) = ((decide (z.c < 0) || decide (z.c ≥ (w : Int))) || badC w (b.drop (j + 1))) := by unfold badC; rw [List.any_cons]
    rw [e5] at e
    refine Br.yes (by simp; omega) (px (rdL_le I.base Xb) hn rfl hx (newB_cp (vs := [int .i64 z.m, int .i64 z.c, int .i64 z.a]) rfl fun s h1 zs l1 As cs => ⟨cs, _, As.cell rfl, ?_⟩))
    generalize h1.setN s 0 [int .i64 z.m, int .i64 z.c, int .i64 z.a] = H at *
    refine Br.dec (fun g1 => ?_) fun g1 => ⟨_, As.cell rfl, Br.dec (fun g2 => ?_) fun g2 => ?_⟩
    · rw [decide_eq_true g1, Bool.true_or, Bool.true_or] at e
      exact Ret.mk (k7 e.symm H (I.le l1).base)
    · rw [decide_eq_true (p := z.c ≥ (w : Int)) g2, Bool.or_true, Bool.true_or] at e
      exact Ret.mk (k7 e.symm H (I.le l1).base)
    · rw [decide_eq_false g1, decide_eq_false (p := z.c ≥ (w : Int)) g2, Bool.false_or, Bool.false_or] at e
      rw [w1 (by omega)]
      exact ih (j + 1) H (by omega) (I.le l1) e
theorem fails_0 (G : GD h0 h x u) {mi : Int} (hw8 : u.T.length ≤ 8)
    (k : ∀ g, FI h g r r1 y (rowG u.S mi u.T.length) → L_prisk_Guard_Fails_1 (some ⟨x.g, 0, none⟩) mi q bn qc r (some ⟨r1, 0, none⟩) u.T.length u.T.length q bn qc (bn : Int) ((0 : Nat) : Int) g K) :
    ∀ (d j : Nat) (g : Heap), d + j = u.T.length → FI h g r r1 y (filR (fun c => getG u.S mi (c : Int)) u.T.length j) → L_prisk_Guard_Fails_0 (some ⟨x.g, 0, none⟩) mi q bn qc r (some ⟨r1, 0, none⟩) u.T.length u.T.length (u.T.length : Int) (j : Int) g K := by
  intro d
  induction d with
  | zero =>
    intro j g hj I
    refine L_prisk_Guard_Fails_0r _ _ _ _ _ _ _ _ _ _ _ _ _ ?_
    unfold L_prisk_Guard_Fails_0T
    obtain rfl : j = u.T.length := by omega
    rw [filR_all] at I
    exact Br.no (by simp) (k g I)
  | succ d ih =>
    intro j g hj I
    refine L_prisk_Guard_Fails_0r _ _ _ _ _ _ _ _ _ _ _ _ _ ?_
    unfold L_prisk_Guard_Fails_0T
    have hl := filR_len (fun c => getG u.S mi (c : Int)) u.T.length j
    refine Br.yes (by simp; omega) (withAddr_intro rfl ⟨_, (G.le I.base).g.cell rfl, S_lGet (G.le I.base).W.LA ⟨_, rfl, by omega, by omega, withAddr_intro rfl ⟨I.ab.canSt (by simp only [List.length_append, intsV_length, List.length_cons, List.length_nil, hl, Int.toNat_natCast]; omega), ?_⟩⟩⟩)
    rw [w1 (by omega), Int.toNat_natCast, Nat.zero_add]
    refine ih (j + 1) _ (by omega) ?_
    have := I.set (c := j) (v := getG u.S mi (j : Int)) (by rw [hl]; omega)
    rw [filR_set (fun c => getG u.S mi (c : Int)) (by omega)] at this
    exact this
end
theorem S_gFails (G : GD h0 h x u) {m : Int} (Xb : Pos h q b) (hn : b.length = bn) (hs : bn ≤ 1000000) (hb : ∀ y ∈ b, I64 y.a) (k : ∀ h', h.le h' → K (.int .i64 (u.fails m b)) h') :
    CallA Tryz.prog fn_prisk_Guard_Fails [pointer (some ⟨x.g, 0, none⟩), int .i64 m, slice q bn qc] h K := by
  refine F_prisk_Guard_Fails _ _ _ _ _ _ _ ?_
  unfold F_prisk_Guard_FailsT
  refine S_gHas G.toGR ⟨_, rfl, ?_⟩
  unfold Gu.fails at k
  by_cases hm : 0 ≤ m ∧ m < (u.fl.length : Int)
  · rw [if_pos hm] at k
    obtain ⟨i, rfl⟩ : ∃ i : Nat, m = i := ⟨m.toNat, by omega⟩
    rw [Int.toNat_natCast] at k
    have hi : i < u.fl.length := by omega
    obtain ⟨y, hy, ey, Iy, hw, hz, _, _⟩ := G.lm hi
    have t8 := (tab_parts G.ok.tab).2.1
    have hrow := G.ok.rowI i
    refine Br.no (by rw [decide_eq_true hm]; rfl) (withAddr_intro rfl ⟨_, _, _, G.g.cell rfl, lx (G.al.le G.ch) rfl rfl hy (newB_cp (vs := [.slice y.a y.l.sh.length y.c, .int .i64 y.l.all]) rfl fun r h1 zr l1 Ar cs => ⟨cs, _, _, _, Ar.cell rfl, by omega, by omega, by omega, by omega, newB_at fun r1 h2 z1 l2 A1 => ?_⟩)⟩)
    generalize h1.setN r 0 [.slice y.a y.l.sh.length y.c, .int .i64 y.l.all] = H at *
    simp only [Int.toNat_natCast] at *
    rw [hw] at A1 ⊢
    rw [repL_num, ← filR_0 (fun c => getG u.S (i : Int) (c : Int))] at A1
    have I0 : FI h h2 r r1 y (filR (fun c => getG u.S (i : Int) (c : Int)) u.T.length 0) := ⟨Heap.le_trans l1 l2, zr, none_of_le l1 z1, Ar.le l2, by rw [List.append_nil]; exact A1, Ar.ne z1⟩
    unfold failsW at k
    rw [hrow.1] at k
    refine fails_0 G t8 (fun g I => fails_1 Xb hn hs (fun e h' l' => ?_) (fun e g I => fails_2 (row := u.row i) G Xb hn hs hb (fun z hz => ?_) (fun e2 h' l' => ?_) (fun c e2 hc g I => fails_3 G hi Iy hw hz Xb hn hs hb hc (fun h' l' => ?_) u.T.length 0 g 0 rfl I rfl) bn 0 g (u.row i) rfl I hrow.1 hrow.2 rfl) bn 0 g rfl I rfl) u.T.length 0 h2 rfl I0
    · rw [e, if_pos rfl] at k; exact k h' l'
    · unfold badC at e
      rw [List.any_eq_false] at e
      have := e z hz
      simp at this
      omega
    · rw [e, if_neg (by decide), e2] at k; exact k h' l'
    · rw [e, if_neg (by decide), e2] at k
      rw [pass_or (by rw [hrow.1]; exact e) e2, ey]
      exact k h' l'
  · rw [if_neg hm] at k
    exact Br.yes (by rw [decide_eq_false hm]; rfl) (Ret.mk (k h h.le_refl))
end
end
end Go.Proofs.YtghdadniddoboaaGreat

/- A guard's calls: flags judged anew, pay-ins, pay-outs, other rates and haircuts, batches without a test. -/
namespace Go.Proofs.YtghdadniddoboaaGreat
open Go Go.Sy Go.Value
set_option linter.unusedVariables false
set_option linter.unusedSimpArgs false

def filG {α : Type} (f g : Nat → α) (n j : Nat) : List α := (List.range n).map fun c => if c < j then f c else g c
theorem filG_len {α : Type} (f g : Nat → α) (n j : Nat) : (filG f g n j).length = n := by unfold filG; rw [List.length_map, List.length_range]
theorem filG_all {α : Type} (f g : Nat → α) (n : Nat) : filG f g n n = (List.range n).map f := by
  unfold filG
  refine List.map_congr_left fun c hc => ?_
  rw [if_pos (List.mem_range.1 hc)]
theorem filG_set {α : Type} (f g : Nat → α) {n j : Nat} (h : j < n) : (filG f g n j).set j (f j) = filG f g n (j + 1) := by
  refine List.ext_getElem? fun i => ?_
  by_cases hi : i < n
  · have e : ∀ k, (filG f g n k)[i]? = some (if i < k then f i else g i) := fun k => by unfold filG; rw [List.getElem?_map, List.getElem?_range hi]; rfl
    rw [e]
    by_cases e1 : i = j
    · subst e1
      rw [List.getElem?_set_self (by rw [filG_len]; exact h), if_pos (by omega)]
    · rw [List.getElem?_set_ne (fun x => e1 x.symm), e]
      congr 1
      by_cases e2 : i < j
      · rw [if_pos e2, if_pos (by omega)]
      · rw [if_neg e2, if_neg (by omega)]
  · rw [List.getElem?_eq_none (by rw [List.length_set, filG_len]; omega), List.getElem?_eq_none (by rw [filG_len]; omega)]
theorem filG_0 (f : Nat → Bool) (l : List Bool) : filG f (fun m => l.getD m false) l.length 0 = l := by
  unfold filG
  refine List.ext_getElem? fun i => ?_
  by_cases hi : i < l.length
  · rw [List.getElem?_map, List.getElem?_range hi, List.getElem?_eq_getElem hi]
    show some (if i < 0 then f i else l.getD i false) = _
    rw [if_neg (by omega), List.getD_eq_getElem?_getD, List.getElem?_eq_getElem hi]; rfl
  · rw [List.getElem?_eq_none (by simp; omega), List.getElem?_eq_none (by omega)]
def Gu.judF (u : Gu) (m : Nat) : Bool := u.fails (m : Int) [] != 0
def Gu.judJ (u : Gu) (j : Nat) : Gu := { u with fl := filG u.judF (fun m => u.fl.getD m false) u.fl.length j }
def Gu.judge (u : Gu) : Gu := { u with fl := (List.range u.fl.length).map u.judF }
theorem Gu.judJ_0 (u : Gu) : u.judJ 0 = u := by unfold Gu.judJ; rw [filG_0]
theorem Gu.judJ_all (u : Gu) : u.judJ u.fl.length = u.judge := by unfold Gu.judJ Gu.judge; rw [filG_all]
theorem fails_fl {u v : Gu} (e1 : v.S = u.S) (e2 : v.T = u.T) (e3 : v.L = u.L) (e4 : v.fl.length = u.fl.length) (m : Int) (b : List Pst) : v.fails m b = u.fails m b := by
  unfold Gu.fails Gu.lim Gu.row
  rw [e1, e2, e3, e4]
theorem Gu.judJ_set (u : Gu) {j : Nat} (h : j < u.fl.length) : (u.judJ j).setF j (u.judF j) = u.judJ (j + 1) := by
  unfold Gu.setF Gu.judJ
  dsimp only
  rw [filG_set _ _ h]
def Gu.setS (u : Gu) (S : Lg) : Gu := { u with S := S }
theorem Gu.Ok.setS {u : Gu} (o : u.Ok) {S : Lg} (oS : S.Ok) (e : szB u.S S) : (u.setS S).Ok := { o := oS, ef := o.ef.trans e.1.symm, eL := o.eL.trans e.1.symm, ec := e.2.trans o.ec, tab := o.tab, sh := o.sh }
def Gu.setT (u : Gu) (T : List Cur) : Gu := { u with T := T }
theorem Gu.Ok.setT {u : Gu} (o : u.Ok) {T : List Cur} (ht : tabE T = 0) (hl : T.length = u.T.length) : (u.setT T).Ok := { o with ec := o.ec.trans hl.symm, tab := ht, sh := fun l hm => by show l.sh.length = T.length ∧ _; rw [hl]; exact o.sh l hm }
theorem Gu.Ok.judge {u : Gu} (o : u.Ok) : u.judge.Ok := { o with ef := by show (List.map _ _).length = _; rw [List.length_map, List.length_range]; exact o.ef }
section
variable {h0 h : Heap} {K : Value → Heap → Prop} {x : GuF} {u : Gu}
theorem judge_loop {x0 : GuF} (k : ∀ h' x', GD h0 h' x' u.judge → x0.Same x' → K (tuple #[]) h') :
    ∀ (d j : Nat) (h : Heap) (x : GuF), d + j = u.fl.length → GD h0 h x (u.judJ j) → x0.Same x → L_prisk_Guard_judge_0 (some ⟨x0.g, 0, none⟩) (u.fl.length : Int) (j : Int) h K := by
  intro d
  induction d with
  | zero =>
    intro j h x hj G sm
    refine L_prisk_Guard_judge_0r _ _ _ _ _ ?_
    unfold L_prisk_Guard_judge_0T
    obtain rfl : j = u.fl.length := by omega
    rw [u.judJ_all] at G
    exact Br.no (by simp) (Ret.mk (k h x G sm))
  | succ d ih =>
    intro j h x hj G sm
    refine L_prisk_Guard_judge_0r _ _ _ _ _ ?_
    unfold L_prisk_Guard_judge_0T
    have hl : (u.judJ j).fl.length = u.fl.length := filG_len _ _ _ _
    rw [← sm.g]
    refine Br.yes (by simp; omega) (withAddr_intro rfl ⟨_, _, _, G.g.cell rfl, S_gFails G (b := []) (.inl rfl) rfl (by decide) (fun y hy => by cases hy) fun h1 l1 => ⟨_, rfl, .inl l1, by omega, by rw [hl]; omega, withAddr_intro rfl ?_⟩⟩)
    have G1 := G.le l1
    refine ⟨G1.f.canSt (by rw [boV_len, hl, Int.toNat_natCast]; omega), ?_⟩
    have G2 := G1.setF (i := j) (v := u.judF j) (by rw [hl]; omega)
    rw [u.judJ_set (by omega)] at G2
    rw [w1 (by have := G.n; omega), Int.toNat_natCast, Nat.zero_add, show ((u.judJ j).fails (j : Int) [] != 0) = u.judF j by unfold Gu.judF; rw [fails_fl (v := u.judJ j) (u := u) rfl rfl rfl hl]]
    rw [sm.g]
    exact ih (j + 1) _ _ (by omega) G2 (sm.trans ⟨rfl, rfl, rfl, rfl, rfl, rfl, rfl, fun b hb => setN_other hb⟩)
theorem S_gJudgeX (G : GD h0 h x u) (k : ∀ h' x', GD h0 h' x' u.judge → x.Same x' → K (tuple #[]) h') : CallA Tryz.prog fn_prisk_Guard_judge [pointer (some ⟨x.g, 0, none⟩)] h K := by
  refine F_prisk_Guard_judge _ _ _ ?_
  unfold F_prisk_Guard_judgeT
  exact withAddr_intro rfl ⟨_, _, _, G.g.cell rfl, judge_loop k u.fl.length 0 h x rfl (by rw [u.judJ_0]; exact G) (.refl x)⟩
theorem S_gJudge (G : GD h0 h x u) (k : ∀ h' x', GD h0 h' x' u.judge → x'.g = x.g → x'.p = x.p → K (tuple #[]) h') : CallA Tryz.prog fn_prisk_Guard_judge [pointer (some ⟨x.g, 0, none⟩)] h K := S_gJudgeX G fun h' x' G' sm => k h' x' G' sm.g sm.p
theorem S_gAnew (G : GR h0 h x u) {e : Int} (k0 : e = 0 → ∀ h' x', GD h0 h' x' u.judge → x'.g = x.g → x'.p = x.p → K (.int .i64 0) h') (k1 : e ≠ 0 → K (.int .i64 e) h) :
    CallA Tryz.prog fn_prisk_Guard_anew [pointer (some ⟨x.g, 0, none⟩), .int .i64 e] h K := by
  refine F_prisk_Guard_anew _ _ _ _ ?_
  unfold F_prisk_Guard_anewT
  by_cases he : e = 0
  · subst he
    refine Br.yes rfl (withAddr_intro rfl ⟨_, _, _, G.g.cell rfl, ?_⟩)
    have loop : ∀ (d j : Nat) (h : Heap) (y : GuF), d + j = u.fl.length → GR h0 h y u → (∀ i, i < j → y.R i = u.row i) → y.g = x.g → y.p = x.p → L_prisk_Guard_anew_0 (some ⟨x.g, 0, none⟩) 0 (u.fl.length : Int) (j : Int) h K := by
      intro d
      induction d with
      | zero =>
        intro j h y hj G hR e1 e2
        refine L_prisk_Guard_anew_0r _ _ _ _ _ _ ?_
        unfold L_prisk_Guard_anew_0T
        refine Br.no (by simp; omega) ?_
        rw [← e1]
        exact S_gJudge { toGR := G, told := fun i hi => hR i (by have := G.ok.ef; omega) } fun h' x' G' c1 c2 => ⟨rfl, Ret.mk (k0 rfl h' x' G' (c1.trans e1) (c2.trans e2))⟩
      | succ d ih =>
        intro j h y hj G hR e1 e2
        refine L_prisk_Guard_anew_0r _ _ _ _ _ _ ?_
        unfold L_prisk_Guard_anew_0T
        have hj2 : j < u.S.M.length := by have := G.ok.ef; omega
        rw [← e1]
        refine Br.yes (by simp; omega) (withAddr_intro rfl ⟨_, G.g.cell rfl, ?_⟩)
        rw [← G.ew]
        refine S_WMoved G.W fun h1 f1 W1 e0 => ⟨rfl, ?_⟩
        rw [w1 (by have := G.n; omega), e1]
        refine ih (j + 1) h1 _ (by omega) (G.turn (u' := u) W1 e0 rfl rfl G.ok) (fun i hi => ?_) e1 e2
        show movR u.S u.T.length u.S.M.length y.R (j : Int) i = u.row i
        unfold movR
        rw [if_pos (by omega), Int.toNat_natCast]
        by_cases e : i = j
        · subst e; rw [updF_same]; rfl
        · rw [updF_ne _ _ e]; exact hR i (by omega)
    exact loop u.fl.length 0 h x rfl G (fun i hi => absurd hi (by omega)) rfl rfl
  · exact Br.no (by simpa using he) (Ret.mk (k1 he))
end
section
variable {h0 h : Heap} {K : Value → Heap → Prop} {S : Lg} {p B C : Nat} {sp : List Value} {f : WoF} {T : List Cur} {N : Nat} {R : Nat → List Int}
theorem S_WOut (W : LW h0 h S p B C sp f T N R) {m c a : Int} (ha : I64 a) (k : ∀ h', LW h0 h' (outG S m c a).2 p B C sp f T N R → K (.int .i64 (outG S m c a).1) h') :
    CallA Tryz.prog fn_pledger_Ledger_Out [pointer (some ⟨p, 0, none⟩), .int .i64 m, .int .i64 c, .int .i64 a] h K := by
  obtain ⟨g, g1, g2, g3, g4, X⟩ := W.woL
  exact S_lOut g2 g3 g4 W.LA ha fun h' l' A' => k h' { W with LA := A', X := X.le l', eN := (outG_sz S m c a).1.trans W.eN, base := Heap.le_trans g1 l' }
theorem S_WSwap (W : LW h0 h S p B C sp f T N R) {m g v a b : Int} (ha : I64 a) (hb : I64 b) (k : ∀ h', LW h0 h' (swapG S m g v a b).2 p B C sp f T N R → K (.int .i64 (swapG S m g v a b).1) h') :
    CallA Tryz.prog fn_pledger_Ledger_Swap [pointer (some ⟨p, 0, none⟩), .int .i64 m, .int .i64 g, .int .i64 v, .int .i64 a, .int .i64 b] h K := by
  obtain ⟨g, g1, g2, g3, g4, X⟩ := W.woL
  exact S_lSwap g2 g3 g4 W.LA ha hb fun h' l' A' => k h' { W with LA := A', X := X.le l', eN := (swapG_sz S m _ v a b).1.trans W.eN, base := Heap.le_trans g1 l' }
end
theorem at_rd0 {h : Heap} {b : Nat} {vs : List Value} (a : At h b vs) : rdL h (some ⟨b, 0, none⟩) vs := by
  rw [← List.append_nil vs] at a
  exact a.toRd
theorem getG_out {S : Lg} (o : S.Sz) {m c a : Int} {i : Nat} (hi : (i : Int) ≠ m) (d : Int) : getG (outG S m c a).2 (i : Int) d = getG S (i : Int) d := by
  unfold outG
  split
  · rfl
  split
  · rfl
  split
  · rfl
  split
  · rfl
  rename_i h1 _ _ _
  have hb : hasB S m c = true := by simpa using h1
  obtain ⟨x, y, rfl, rfl, hx, hy⟩ := hasB_t hb
  rw [Int.toNat_natCast, Int.toNat_natCast]
  have hc8 := o.c8
  unfold getG
  have eh : ∀ v v', hasB (wnG (wrG S x y v) y v') (i : Int) d = hasB S (i : Int) d := fun v v' => by
    unfold hasB wnG wrG
    dsimp only
    rw [(o.sh.wr hx).1]
  rw [eh]
  split
  · show rdM (wrM S.M x y _) _ _ = _
    rw [rd_wr o.sh hx (by omega), if_neg (by omega)]
  · rfl
theorem rowG_out {S : Lg} (o : S.Sz) {m c a : Int} {i : Nat} (hi : (i : Int) ≠ m) (w : Nat) : rowG (outG S m c a).2 (i : Int) w = rowG S (i : Int) w := by
  unfold rowG
  exact List.map_congr_left fun d _ => getG_out o hi _
def rIn (u : Gu) (m c a : Int) : Int × Gu :=
  if ¬ (0 ≤ m ∧ m < (u.fl.length : Int) ∧ 0 ≤ c ∧ c < (u.S.cur : Int) ∧ 1 ≤ a) then (1, u)
  else if (ifW u.T (u.row m.toNat) m [⟨m, c, a⟩]).2.2 ≠ 0 then ((ifW u.T (u.row m.toNat) m [⟨m, c, a⟩]).2.2, u)
  else if (inG u.S m c a).1 ≠ 0 then ((inG u.S m c a).1, u)
  else (0, (u.setS (inG u.S m c a).2).setF m.toNat (u.fl.getD m.toNat false && ((u.setS (inG u.S m c a).2).fails m [] != 0)))
def rOut (u : Gu) (m c a : Int) : Int × Gu :=
  if ¬ (0 ≤ m ∧ m < (u.fl.length : Int) ∧ 0 ≤ c ∧ c < (u.S.cur : Int) ∧ 1 ≤ a) then (1, u)
  else if u.fl.getD m.toNat false = true then (10, u)
  else if getG u.S m c < a then (10, u) else if nosG u.S c < a then (10, u)
  else if u.fails m [⟨m, c, -a⟩] ≠ 0 then (10, u)
  else ((outG u.S m c a).1, u.setS (outG u.S m c a).2)
def rTurn (u : Gu) (o : Option (List Cur)) : Int × Gu := (turnE o, match o with
  | none => u
  | some T' => (u.setT T').judge)
def rAnew (u : Gu) (r : Int × Lg) : Int × Gu := (r.1, if r.1 = 0 then (u.setS r.2).judge else u)
section
variable {h0 h : Heap} {K : Value → Heap → Prop} {x : GuF} {u : Gu}
theorem S_gInX (G : GD h0 h x u) {m c a : Int} (ha : I64 a) (k : ∀ h' x', GD h0 h' x' (rIn u m c a).2 → x.Same x' → K (.int .i64 (rIn u m c a).1) h') :
    CallA Tryz.prog fn_prisk_Guard_In [pointer (some ⟨x.g, 0, none⟩), .int .i64 m, .int .i64 c, .int .i64 a] h K := by
  refine F_prisk_Guard_In _ _ _ _ _ _ ?_
  unfold F_prisk_Guard_InT
  unfold rIn at k
  refine withAddr_intro rfl ⟨_, G.g.cell rfl, S_lSize G.W.LA ⟨_, _, rfl, S_gHas G.toGR ⟨_, rfl, ?_⟩⟩⟩
  by_cases hg : 0 ≤ m ∧ m < (u.fl.length : Int) ∧ 0 ≤ c ∧ c < (u.S.cur : Int) ∧ 1 ≤ a
  · rw [if_neg (fun e => e hg)] at k
    obtain ⟨i, rfl⟩ : ∃ i : Nat, m = i := ⟨m.toNat, by omega⟩
    rw [Int.toNat_natCast] at k
    have hi : i < u.fl.length := by omega
    have hiS : i < u.S.M.length := by have := G.ok.ef; omega
    refine Br.no (by rw [decide_eq_true ⟨hg.1, hg.2.1⟩]; rfl) (Br.no (by simp; omega) (Br.no (by simp; omega) (Br.no (by simp; omega) (withAddr_intro rfl ⟨_, G.g.cell rfl, newB_at fun r h1 zr l1 Ar => ?_⟩))))
    have G1 := G.le l1
    rw [← G.ew]
    refine S_wIf (b := [⟨(i : Int), c, a⟩]) G.ok.tab G1.W.X (row := u.row i) (fun _ _ => by rw [Int.toNat_natCast]; exact congrArg (acOf u.T) (G.told i hiS)) (G.ok.rowI i).1 (G.ok.rowI i).2 (at_rd0 Ar) rfl (by decide) (fun y hy => by rw [List.mem_singleton] at hy; subst hy; exact ha) fun h2 l2 => ?_
    rw [if_pos (by omega)]
    refine ⟨_, _, _, rfl, ?_⟩
    have G2 := G1.le l2
    by_cases e1 : (ifW u.T (u.row i) (i : Int) [⟨(i : Int), c, a⟩]).2.2 ≠ 0
    · rw [if_pos e1] at k
      exact Br.yes (by simpa using e1) (Ret.mk (k h2 x G2 (.refl x)))
    rw [if_neg e1] at k
    refine Br.no (by simpa using e1) (withAddr_intro rfl ⟨_, G2.g.cell rfl, S_WIn G2.W ha fun h3 W3 => ⟨_, rfl, ?_⟩⟩)
    by_cases e2 : (inG u.S (i : Int) c a).1 ≠ 0
    · rw [if_pos e2] at k
      rw [inG_err e2] at W3
      exact Br.yes (by simpa using e2) (Ret.mk (k h3 x { G2 with W := W3 } (.refl x)))
    rw [if_neg e2] at k
    have sz := inG_sz u.S (i : Int) c a
    have ok' := G.ok.setS (inG_ok G.ok.o (i : Int) c a) sz
    have eN : (u.setS (inG u.S (i : Int) c a).2).S.M.length = u.S.M.length := sz.1
    have G3 : GR h0 h3 _ (u.setS (inG u.S (i : Int) c a).2) := G2.toGR.turn (u' := u.setS (inG u.S (i : Int) c a).2) (by rw [eN]; exact W3) rfl rfl rfl ok'
    refine Br.no (by simpa using e2) (withAddr_intro rfl ⟨_, G3.g.cell rfl, ?_⟩)
    show CallA Tryz.prog fn_pworth_Worths_Moved [pointer (some ⟨x.w, 0, none⟩), int .i64 (i : Int)] h3 _
    rw [← G.ew]
    refine S_WMoved G3.W fun h4 f4 W4 c4 => ⟨rfl, ?_⟩
    have tl : ∀ j, j < (u.setS (inG u.S (i : Int) c a).2).S.M.length → movR (u.setS (inG u.S (i : Int) c a).2).S (u.setS (inG u.S (i : Int) c a).2).T.length (u.setS (inG u.S (i : Int) c a).2).S.M.length x.R (i : Int) j = (u.setS (inG u.S (i : Int) c a).2).row j := fun j hj => by
      show _ = rowG (inG u.S (i : Int) c a).2 (j : Int) u.T.length
      unfold movR
      rw [if_pos (by omega), Int.toNat_natCast]
      by_cases e : j = i
      · subst e; rw [updF_same]; rfl
      · rw [updF_ne _ _ e, G.told j (by omega)]
        exact (rowG_in G.ok.o.toSz (by omega) _).symm
    have G4 : GD h0 h4 _ (u.setS (inG u.S (i : Int) c a).2) := { toGR := G3.turn (u' := u.setS (inG u.S (i : Int) c a).2) W4 c4 rfl rfl ok', told := tl }
    have hf : u.fl.getD i false = (u.setS (inG u.S (i : Int) c a).2).fl.getD i false := rfl
    refine withAddr_intro rfl ⟨_, _, _, G4.g.cell rfl, withAddr_intro rfl ⟨_, _, _, G4.g.cell rfl, by omega, hg.2.1, withAddr_intro rfl ⟨_, G4.flag (m := i) hi, ?_⟩⟩⟩
    rw [← hf]
    cases hb : u.fl.getD i false with
    | true =>
      rw [hb, Bool.true_and] at k
      refine Br.yes rfl (S_gFails G4 (b := []) (.inl rfl) rfl (by decide) (fun y hy => by cases hy) fun h5 l5 => ⟨_, rfl, .inl l5, by omega, hg.2.1, withAddr_intro rfl ?_⟩)
      have G5 := G4.le l5
      refine ⟨G5.f.canSt (by rw [boV_len, Int.toNat_natCast]; show 0 + i + 1 ≤ u.fl.length; omega), Ret.mk ?_⟩
      rw [Int.toNat_natCast, Nat.zero_add]
      exact k _ _ (G5.setF (i := i) hi) ⟨rfl, rfl, rfl, rfl, rfl, rfl, rfl, fun b hb => setN_other hb⟩
    | false =>
      rw [hb, Bool.false_and] at k
      refine Br.no rfl ⟨by omega, hg.2.1, withAddr_intro rfl ⟨G4.f.canSt (by rw [boV_len, Int.toNat_natCast]; show 0 + i + 1 ≤ u.fl.length; omega), Ret.mk ?_⟩⟩
      rw [Int.toNat_natCast, Nat.zero_add]
      exact k _ _ (G4.setF (i := i) hi) ⟨rfl, rfl, rfl, rfl, rfl, rfl, rfl, fun b hb => setN_other hb⟩
  · rw [if_pos hg] at k
    have fin := k h x G (.refl x)
    refine Br.intro (fun _ => Ret.mk fin) fun g1 => Br.dec (fun _ => Ret.mk fin) fun g2 => Br.dec (fun _ => Ret.mk fin) fun g3 => Br.dec (fun _ => Ret.mk fin) fun g4 => ?_
    have : 0 ≤ m ∧ m < (u.fl.length : Int) := by
      apply Classical.byContradiction
      intro g
      rw [decide_eq_false g] at g1
      cases g1
    exact (hg (by omega)).elim
theorem S_gIn (G : GD h0 h x u) {m c a : Int} (ha : I64 a) (k : ∀ h' x', GD h0 h' x' (rIn u m c a).2 → x'.g = x.g → x'.p = x.p → K (.int .i64 (rIn u m c a).1) h') :
    CallA Tryz.prog fn_prisk_Guard_In [pointer (some ⟨x.g, 0, none⟩), .int .i64 m, .int .i64 c, .int .i64 a] h K := S_gInX G ha fun h' x' G' sm => k h' x' G' sm.g sm.p
theorem S_gOut (G : GD h0 h x u) {m c a : Int} (ha : I64 a) (k : ∀ h' x', GD h0 h' x' (rOut u m c a).2 → x'.g = x.g → x'.p = x.p → K (.int .i64 (rOut u m c a).1) h') :
    CallA Tryz.prog fn_prisk_Guard_Out [pointer (some ⟨x.g, 0, none⟩), .int .i64 m, .int .i64 c, .int .i64 a] h K := by
  refine F_prisk_Guard_Out _ _ _ _ _ _ ?_
  unfold F_prisk_Guard_OutT
  unfold rOut at k
  refine withAddr_intro rfl ⟨_, G.g.cell rfl, S_lSize G.W.LA ⟨_, _, rfl, S_gHas G.toGR ⟨_, rfl, ?_⟩⟩⟩
  by_cases hg : 0 ≤ m ∧ m < (u.fl.length : Int) ∧ 0 ≤ c ∧ c < (u.S.cur : Int) ∧ 1 ≤ a
  · rw [if_neg (fun e => e hg)] at k
    obtain ⟨i, rfl⟩ : ∃ i : Nat, m = i := ⟨m.toNat, by omega⟩
    rw [Int.toNat_natCast] at k
    have hi : i < u.fl.length := by omega
    have hiS : i < u.S.M.length := by have := G.ok.ef; omega
    refine Br.no (by rw [decide_eq_true ⟨hg.1, hg.2.1⟩]; rfl) (Br.no (by simp; omega) (Br.no (by simp; omega) (Br.no (by simp; omega) (withAddr_intro rfl ⟨_, _, _, G.g.cell rfl, by omega, hg.2.1, withAddr_intro rfl ⟨_, G.flag hi, ?_⟩⟩))))
    cases hb : u.fl.getD i false with
    | true =>
      rw [if_pos hb] at k
      exact Br.yes hb (Ret.mk (k h x G rfl rfl))
    | false =>
      rw [if_neg (by rw [hb]; decide)] at k
      refine Br.no hb (withAddr_intro rfl ⟨_, G.g.cell rfl, S_lGet G.W.LA ⟨_, rfl, Br.dec (fun g1 => ?_) fun g1 => ?_⟩⟩)
      · rw [if_pos g1] at k
        exact Ret.mk (k h x G rfl rfl)
      rw [if_neg g1] at k
      refine withAddr_intro rfl ⟨_, G.g.cell rfl, S_lNostro G.W.LA ⟨_, rfl, Br.dec (fun g2 => ?_) fun g2 => ?_⟩⟩
      · rw [if_pos g2] at k
        exact Ret.mk (k h x G rfl rfl)
      rw [if_neg g2] at k
      have ea : IntKind.wrap .i64 (0 - a) = -a := by
        unfold I64 at ha
        rw [wrap_i64_id (by omega) (by omega)]; omega
      rw [ea]
      refine newB_at fun r h1 zr l1 Ar => ?_
      have G1 := G.le l1
      refine S_gFails (b := [⟨(i : Int), c, -a⟩]) G1 (at_rd0 Ar) rfl (by decide) (fun y hy => by rw [List.mem_singleton] at hy; subst hy; unfold I64 at ha ⊢; show _ ≤ -a ∧ -a ≤ _; omega) fun h2 l2 => ⟨_, rfl, ?_⟩
      have G2 := G1.le l2
      by_cases e1 : u.fails (i : Int) [⟨(i : Int), c, -a⟩] ≠ 0
      · rw [if_pos e1] at k
        exact Br.yes (by simpa using e1) (Ret.mk (k h2 x G2 rfl rfl))
      rw [if_neg e1] at k
      refine Br.no (by simpa using e1) (withAddr_intro rfl ⟨_, G2.g.cell rfl, S_WOut G2.W ha fun h3 W3 => ⟨_, rfl, ?_⟩⟩)
      have sz := outG_sz u.S (i : Int) c a
      have ok' := G.ok.setS (outG_ok G.ok.o (i : Int) c a) sz
      have eN : (u.setS (outG u.S (i : Int) c a).2).S.M.length = u.S.M.length := sz.1
      have G3 : GR h0 h3 _ (u.setS (outG u.S (i : Int) c a).2) := G2.toGR.turn (u' := u.setS (outG u.S (i : Int) c a).2) (by rw [eN]; exact W3) rfl rfl rfl ok'
      refine withAddr_intro rfl ⟨_, G3.g.cell rfl, ?_⟩
      show CallA Tryz.prog fn_pworth_Worths_Moved [pointer (some ⟨x.w, 0, none⟩), int .i64 (i : Int)] h3 _
      rw [← G.ew]
      refine S_WMoved G3.W fun h4 f4 W4 c4 => ⟨rfl, Ret.mk (k h4 _ { toGR := G3.turn (u' := u.setS (outG u.S (i : Int) c a).2) W4 c4 rfl rfl ok', told := fun j hj => ?_ } rfl rfl)⟩
      show movR _ _ _ x.R (i : Int) j = rowG _ (j : Int) u.T.length
      rw [eN] at hj
      unfold movR
      rw [if_pos (by omega), Int.toNat_natCast]
      by_cases e : j = i
      · subst e; rw [updF_same]; rfl
      · rw [updF_ne _ _ e, G.told j hj]
        exact (rowG_out G.ok.o.toSz (by omega) _).symm
  · rw [if_pos hg] at k
    have fin := k h x G rfl rfl
    refine Br.intro (fun _ => Ret.mk fin) fun g1 => Br.dec (fun _ => Ret.mk fin) fun g2 => Br.dec (fun _ => Ret.mk fin) fun g3 => Br.dec (fun _ => Ret.mk fin) fun g4 => ?_
    have : 0 ≤ m ∧ m < (u.fl.length : Int) := by
      apply Classical.byContradiction
      intro g
      rw [decide_eq_false g] at g1
      cases g1
    exact (hg (by omega)).elim
theorem turned_gd {o : Option (List Cur)} (G : GD h0 h x u) (ho : ∀ T', o = some T' → tabE T' = 0 ∧ T'.length = u.T.length) {h' : Heap} {f' : WoF} (W : LW x.k h' u.S x.p x.B x.C x.sp f' (turnT u.T o) u.S.M.length x.R) (e0 : f'.b 0 = x.f.b 0) (k : ∀ h' x', GD h0 h' x' (rTurn u o).2 → x'.g = x.g → x'.p = x.p → K (.int .i64 (rTurn u o).1) h') :
    Br (turnE o == 0) (CallA Tryz.prog fn_prisk_Guard_judge [pointer (some ⟨x.g, 0, none⟩)] h' fun v h => v = tuple #[] ∧ Ret h K (.int .i64 (turnE o))) (Ret h' K (.int .i64 (turnE o))) := by
  cases o with
  | none => exact Br.no rfl (Ret.mk (k h' { x with f := f' } { toGR := G.toGR.turn (u' := u) W e0 rfl rfl G.ok, told := G.told } rfl rfl))
  | some T' =>
    obtain ⟨ht, hl⟩ := ho T' rfl
    have tl : ∀ i, i < (u.setT T').S.M.length → x.R i = (u.setT T').row i := fun i hi => by
      rw [show (u.setT T').row i = u.row i by unfold Gu.row Gu.setT; rw [hl]]
      exact G.told i hi
    have G1 : GD h0 h' { x with f := f' } (u.setT T') := { toGR := G.toGR.turn (u' := u.setT T') W e0 rfl rfl (G.ok.setT ht hl), told := tl }
    exact Br.yes rfl (S_gJudge (x := { x with f := f' }) G1 fun h2 x2 G2 e1 e2 => ⟨rfl, Ret.mk (k h2 x2 G2 e1 e2)⟩)
theorem S_gRate (G : GD h0 h x u) {c r : Int} (k : ∀ h' x', GD h0 h' x' (rTurn u (wRate u.T c r)).2 → x'.g = x.g → x'.p = x.p → K (.int .i64 (rTurn u (wRate u.T c r)).1) h') :
    CallA Tryz.prog fn_prisk_Guard_Rate [pointer (some ⟨x.g, 0, none⟩), .int .i64 c, .int .i64 r] h K := by
  refine F_prisk_Guard_Rate _ _ _ _ _ ?_
  unfold F_prisk_Guard_RateT
  refine withAddr_intro rfl ⟨_, G.g.cell rfl, ?_⟩
  rw [← G.ew]
  refine S_WRate G.W fun h1 f1 W1 e0 => ⟨_, rfl, turned_gd G (fun T' e => ?_) W1 e0 k⟩
  have := wRate_tab G.ok.tab c r
  rw [e] at this
  exact this
theorem S_gCut (G : GD h0 h x u) {c r : Int} (k : ∀ h' x', GD h0 h' x' (rTurn u (wCut u.T c r)).2 → x'.g = x.g → x'.p = x.p → K (.int .i64 (rTurn u (wCut u.T c r)).1) h') :
    CallA Tryz.prog fn_prisk_Guard_Cut [pointer (some ⟨x.g, 0, none⟩), .int .i64 c, .int .i64 r] h K := by
  refine F_prisk_Guard_Cut _ _ _ _ _ ?_
  unfold F_prisk_Guard_CutT
  refine withAddr_intro rfl ⟨_, G.g.cell rfl, ?_⟩
  rw [← G.ew]
  refine S_WCut G.W fun h1 f1 W1 e0 => ⟨_, rfl, turned_gd G (fun T' e => ?_) W1 e0 k⟩
  have := wCut_tab G.ok.tab c r
  rw [e] at this
  exact this
theorem anew_gd {r : Int × Lg} (G : GD h0 h x u) {h' : Heap} {B C : Nat} {sp : List Value} (W : LW x.k h' r.2 x.p B C sp x.f u.T u.S.M.length x.R) (er : r.1 ≠ 0 → r.2 = u.S) (ok : r.2.Ok) (sz : szB u.S r.2) (k : ∀ h' x', GD h0 h' x' (rAnew u r).2 → x'.g = x.g → x'.p = x.p → K (.int .i64 (rAnew u r).1) h') :
    CallA Tryz.prog fn_prisk_Guard_anew [pointer (some ⟨x.g, 0, none⟩), .int .i64 r.1] h' fun v h => ∃ n : Int, v = .int .i64 n ∧ Ret h K (.int .i64 n) := by
  unfold rAnew at k
  have eN : (u.setS r.2).S.M.length = u.S.M.length := sz.1
  have G1 : GR h0 h' _ (u.setS r.2) := G.toGR.turn (u' := u.setS r.2) (by rw [eN]; exact W) rfl rfl rfl (G.ok.setS ok sz)
  refine S_gAnew (x := { x with B := B, C := C, sp := sp }) G1 (fun e h2 x2 G2 e1 e2 => ⟨_, rfl, Ret.mk ?_⟩) fun e => ⟨_, rfl, Ret.mk ?_⟩
  · have kk := k h2 x2
    rw [if_pos e, e] at kk
    exact kk G2 e1 e2
  · have kk := k h' { x with B := B, C := C, sp := sp }
    rw [if_neg e] at kk
    rw [er e] at W
    exact kk { toGR := G.toGR.turn (u' := u) W rfl rfl rfl G.ok, told := G.told } rfl rfl
theorem S_gTake (G : GD h0 h x u) {q : Option Addr} {b : List Pst} {n qc : Nat} (Xb : Pos h0 q b) (hn : b.length = n) (hs : n ≤ 1000) (hI : ∀ x ∈ b, I64 x.m ∧ I64 x.c ∧ I64 x.a) (k : ∀ h' x', GD h0 h' x' (rAnew u (postG u.S b)).2 → x'.g = x.g → x'.p = x.p → K (.int .i64 (rAnew u (postG u.S b)).1) h') :
    CallA Tryz.prog fn_prisk_Guard_Take [pointer (some ⟨x.g, 0, none⟩), slice q n qc] h K := by
  refine F_prisk_Guard_Take _ _ _ _ _ _ ?_
  unfold F_prisk_Guard_TakeT
  refine withAddr_intro rfl ⟨_, G.g.cell rfl, S_WPost G.W (rdL_le (Heap.le_trans G.base G.ck) Xb) hn hs hI fun h1 B C sp W1 => ⟨_, rfl, ?_⟩⟩
  exact anew_gd G W1 postG_err (postG_ok G.ok.o b) (postG_sz u.S b) k
theorem S_gSwap (G : GD h0 h x u) {m g v a b : Int} (ha : I64 a) (hb : I64 b) (k : ∀ h' x', GD h0 h' x' (rAnew u (swapG u.S m g v a b)).2 → x'.g = x.g → x'.p = x.p → K (.int .i64 (rAnew u (swapG u.S m g v a b)).1) h') :
    CallA Tryz.prog fn_prisk_Guard_Swap [pointer (some ⟨x.g, 0, none⟩), .int .i64 m, .int .i64 g, .int .i64 v, .int .i64 a, .int .i64 b] h K := by
  refine F_prisk_Guard_Swap _ _ _ _ _ _ _ _ ?_
  unfold F_prisk_Guard_SwapT
  refine withAddr_intro rfl ⟨_, G.g.cell rfl, S_WSwap G.W ha hb fun h1 W1 => ⟨_, rfl, ?_⟩⟩
  exact anew_gd G W1 swapG_err (swapG_ok G.ok.o m g v a b) (swapG_sz u.S m g v a b) k
end
end Go.Proofs.YtghdadniddoboaaGreat

/- Ledger and worths: where they lie, and what lies elsewhere. -/
namespace Go.Proofs.YtghdadniddoboaaGreat
open Go Go.Sy Go.Value
set_option linter.unusedVariables false
set_option linter.unusedSimpArgs false

def LWD (p B : Nat) (f : WoF) (N x : Nat) : Bool := x == p || (x == B || famD (3 + 3 * N) f.b x)
section
variable {h0 h : Heap} {S : Lg} {p B C : Nat} {sp : List Value} {f : WoF} {T : List Cur} {N : Nat} {R : Nat → List Int}
theorem LWD_t {x : Nat} (h : LWD p B f N x = true) : x = p ∨ x = B ∨ ∃ i, i < 3 + 3 * N ∧ f.b i = x := by
  unfold LWD at h
  rw [Bool.or_eq_true, Bool.or_eq_true] at h
  rcases h with h | h | h
  · exact .inl (by simpa using h)
  · exact .inr (.inl (by simpa using h))
  · exact .inr (.inr (famD_t h))
theorem LWD_p : LWD p B f N p = true := by unfold LWD; simp
theorem LWD_B : LWD p B f N B = true := by unfold LWD; simp
theorem LWD_f {i : Nat} (hi : i < 3 + 3 * N) : LWD p B f N (f.b i) = true := by unfold LWD; rw [famD_i hi]; simp
theorem LW.none' (W : LW h0 h S p B C sp f T N R) {x : Nat} (hx : LWD p B f N x = true) : h0 x = none := by
  rcases LWD_t hx with rfl | rfl | ⟨i, hi, rfl⟩
  · exact W.np
  · exact W.nB
  · exact W.fr i hi
theorem LW.at' (W : LW h0 h S p B C sp f T N R) {x : Nat} (hx : LWD p B f N x = true) : ∃ xs, At h x xs := by
  rcases LWD_t hx with rfl | rfl | ⟨i, hi, rfl⟩
  · exact ⟨_, W.LA.ap⟩
  · exact ⟨_, W.LA.ab⟩
  · exact ⟨_, W.X.fam.at' i hi⟩
theorem LW.mv {b0 h' : Heap} (W : LW h0 h S p B C sp f T N R) (l : b0.le h') (k : ∀ x xs, LWD p B f N x = true → At h x xs → At h' x xs) (z : ∀ x, LWD p B f N x = true → b0 x = none) : LW b0 h' S p B C sp f T N R :=
  { W with LA := ⟨k _ _ LWD_p W.LA.ap, k _ _ LWD_B W.LA.ab, W.LA.ne, W.LA.sz⟩, X := { W.X with fam := W.X.fam.mv fun x xs hx a => k x xs (by obtain ⟨i, hi, rfl⟩ := famD_t hx; exact LWD_f hi) a }, base := l, np := z _ LWD_p, nB := z _ LWD_B, fr := fun i hi => z _ (LWD_f hi) }
theorem LW.off (W : LW h0 h S p B C sp f T N R) : LW (h.wo (LWD p B f N)) h S p B C sp f T N R := W.mv (wo_le _ _) (fun _ _ _ a => a) fun _ hx => wo_none hx
theorem LW.out (W : LW h0 h S p B C sp f T N R) {x : Nat} (e : h x = none) : LWD p B f N x = false := by
  cases hd : LWD p B f N x with
  | false => rfl
  | true => obtain ⟨xs, a⟩ := W.at' hd; exact (a.ne e rfl).elim
end
theorem noD {D : Bool} (h : D = true → False) : D = false := by cases D with
  | false => rfl
  | true => exact (h rfl).elim
end Go.Proofs.YtghdadniddoboaaGreat
