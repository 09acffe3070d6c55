import Derived.Test.YtjihfieahkbohaaGreatM09
import Derived.Test.YtjihfieahkbohaaGreatM07
import Derived.Test.YtjihfieahkbohaaGreatM03
import Derived.Test.YtjihfieahkbohaaGreatM04
/- Rooms filled; a list of ones; shares evenly. -/
namespace Go.Proofs.YtjihfieahkbohaaGreat
open Go Go.Sy Go.Value
set_option linter.unusedVariables false
set_option linter.unusedSimpArgs false

section
variable {h0 : Heap} {K : Value → Heap → Prop}
/-! a list of ones -/
def ones (n : Nat) : List Int := List.replicate n 1
def hiP (x y : Int) : Int := (IntKind.wrap IntKind.u64 (IntKind.wrap IntKind.u64 (IntKind.wrap IntKind.u64 (Int.fdiv x 4294967296 * Int.fdiv y 4294967296) + Int.fdiv (IntKind.wrap IntKind.u64 (IntKind.wrap IntKind.u64 (Int.fdiv x 4294967296 * IntKind.wrap IntKind.u64 (↑(BitVec.toNat (BitVec.ofInt 64 y &&& BitVec.ofInt 64 4294967295)) : Int)) + Int.fdiv (IntKind.wrap IntKind.u64 (IntKind.wrap IntKind.u64 (↑(BitVec.toNat (BitVec.ofInt 64 x &&& BitVec.ofInt 64 4294967295)) : Int) * IntKind.wrap IntKind.u64 (↑(BitVec.toNat (BitVec.ofInt 64 y &&& BitVec.ofInt 64 4294967295)) : Int))) 4294967296)) 4294967296) + Int.fdiv (IntKind.wrap IntKind.u64 (IntKind.wrap IntKind.u64 (↑(BitVec.toNat (BitVec.ofInt 64 (IntKind.wrap IntKind.u64 (IntKind.wrap IntKind.u64 (Int.fdiv x 4294967296 * IntKind.wrap IntKind.u64 (↑(BitVec.toNat (BitVec.ofInt 64 y &&& BitVec.ofInt 64 4294967295)) : Int)) + Int.fdiv (IntKind.wrap IntKind.u64 (IntKind.wrap IntKind.u64 (↑(BitVec.toNat (BitVec.ofInt 64 x &&& BitVec.ofInt 64 4294967295)) : Int) * IntKind.wrap IntKind.u64 (↑(BitVec.toNat (BitVec.ofInt 64 y &&& BitVec.ofInt 64 4294967295)) : Int))) 4294967296)) &&& BitVec.ofInt 64 4294967295)) : Int) + IntKind.wrap IntKind.u64 (IntKind.wrap IntKind.u64 (↑(BitVec.toNat (BitVec.ofInt 64 x &&& BitVec.ofInt 64 4294967295)) : Int) * Int.fdiv y 4294967296))) 4294967296))
theorem qWz : ∀ y : Fin 65, hiP 1 (y.val : Int) = 0 := by decide +kernel
theorem qUm {h : Heap} {p : Nat} (hp : p ≤ 64) (k : K (tuple #[.int .u64 0, .int .u64 (p : Int)]) h) : CallA Tryz.prog qH6 [.int .u64 1, .int .u64 (p : Int)] h K := by
  refine qOe _ _ _ _ ?_
  unfold qKY
  refine qNS _ _ _ _ ?_
  unfold qJE
  have e := qWz ⟨p, by omega⟩
  dsimp only at e
  refine Ret.mk ⟨hiP 1 (p : Int), IntKind.wrap .u64 (1 * (p : Int)), rfl, Ret.mk ?_⟩
  rw [e, Int.one_mul, qAP (by omega) (by omega)]
  exact k
theorem qTV (n m : Nat) (h : m ≤ n) : (ones n).take m = ones m := by unfold ones; rw [List.take_replicate, Nat.min_eq_left h]
theorem qUC {r c : Nat} (hr : h0 r = none) (hc : c ≤ 64) (k : ∀ h', h0.le h' → At h' r (qt .i64 (ones c)) → K (slice (some ⟨r, 0, none⟩) c c) h') :
    ∀ (q n : Nat) (h : Heap) (sp : List Value), c - n ≤ q → 1 ≤ n → n + sp.length = c → h0.le h → At h r (qt .i64 (ones n) ++ sp) → qCI (some ⟨r, 0, none⟩) c c (n : Int) h K := by
  intro q
  induction q with
  | zero =>
    intro n h sp hq h1 hn l0 A
    refine qFq _ _ _ _ _ _ ?_
    unfold qDU
    have e : sp = [] := List.length_eq_zero_iff.1 (by omega)
    subst e
    rw [List.append_nil, show n = c from by simp at hn; omega] at A
    exact Br.no (by simp; omega) (Ret.mk (k h l0 A))
  | succ q ih =>
    intro n h sp hq h1 hn l0 A
    refine qFq _ _ _ _ _ _ ?_
    unfold qDU
    refine Br.dec (fun g => ⟨by omega, by omega, by omega, by omega, ?_⟩) fun g => ?_
    · rw [Int.toNat_natCast]
      have hk : min n (c - n) ≤ n ∧ 1 ≤ min n (c - n) ∧ min n (c - n) ≤ sp.length := by omega
      generalize min n (c - n) = kk at *
      have R : rdL h (some ⟨r, 0, none⟩) (qt .i64 (ones kk)) := by
        have r := A.toRd
        have e : qt .i64 (ones n) = qt .i64 (ones kk) ++ qt .i64 ((ones n).drop kk) := by rw [← qFP, ← qTV n kk hk.1, List.take_append_drop]
        rw [e] at r
        exact qNy r
      have hl : ∀ m, (qt .i64 (ones m)).length = m := fun m => by rw [qA2]; simp [ones]
      have A2 := A.set (o := n) (ws := qt .i64 (ones kk))
      have se := qKh (qt .i64 (ones kk)) (qt .i64 (ones n)) sp (by rw [hl]; exact hk.2.2)
      rw [hl, hl] at se
      rw [se, ← qFP] at A2
      have e3 : ones n ++ ones kk = ones (n + kk) := by unfold ones; rw [List.replicate_append_replicate]
      rw [e3] at A2
      refine ⟨qt .i64 (ones kk), by rw [hl]; omega, R, qL2 _ _, .inr ⟨r, n, ?_, ?_, ?_⟩⟩
      · unfold qGG
        rw [if_neg (by omega)]
        simp [Addr.add]; omega
      · exact A.canSt (by rw [List.length_append, hl, hl]; omega)
      · rw [wid (x := (n : Int) + (kk : Int)) (by omega) (by omega)]
        exact ih (n + kk) _ _ (by omega) (by omega) (by rw [List.length_drop]; omega) (qCc l0 hr) A2
    · have e : sp = [] := List.length_eq_zero_iff.1 (by omega)
      subst e
      rw [List.append_nil, show n = c from by simp at hn; omega] at A
      exact Ret.mk (k h l0 A)
theorem qWJ {h : Heap} {b p : Nat} (hp1 : 1 ≤ p) (hp : p ≤ 64) (A : At h b [.int .i64 1]) (k : ∀ r h', h.le h' → h r = none → At h' r (qt .i64 (ones p)) → K (slice (some ⟨r, 0, none⟩) p p) h') :
    CallA Tryz.prog qD1 [slice (some ⟨b, 0, none⟩) 1 1, .int .i64 (p : Int)] h K := by
  refine qJM _ _ _ _ _ _ ?_
  unfold qGC
  have w1 : IntKind.wrap .u64 (((1 : Nat) : Int)) = 1 := by decide
  have w2 : IntKind.wrap .u64 (p : Int) = (p : Int) := qAP (by omega) (by omega)
  rw [w1, w2]
  refine Br.no (by simp) (qUm hp ⟨_, _, rfl, Br.no (by decide) (Br.no (by simp; omega) ?_)⟩)
  rw [wid (x := (p : Int)) (by omega) (by omega), Int.toNat_natCast]
  refine ⟨by omega, by omega, by omega, by omega, qo fun r h1 hr l1 A1 => ?_⟩
  have hne : b ≠ r := A.ne hr
  rw [Nat.min_eq_left hp1]
  have hz : qAh p [Value.int .i64 0] = .int .i64 0 :: qAh (p - 1) [Value.int .i64 0] := by
    obtain ⟨q, rfl⟩ : ∃ q, p = q + 1 := ⟨p - 1, by omega⟩
    rfl
  have A2 : At (h1.setN r 0 [.int .i64 1]) r (qt .i64 (ones 1) ++ qAh (p - 1) [.int .i64 0]) := by
    rw [hz] at A1
    exact A1.set (o := 0)
  refine ⟨[.int .i64 1], rfl, (A.le l1).toRd (ws := []), rfl, .inr ⟨r, 0, rfl, A1.canSt (by rw [hz]; simp), ?_⟩⟩
  exact qUC (h0 := h) hr hp (fun h' l' A' => k r h' l' hr A') p 1 _ _ (by omega) (Nat.le_refl _) (by rw [qCs]; simp; omega) (qCc l1 hr) A2
def qI7 (t p : Int) : List Int × Int := if p > 64 then ([], 4) else if t < 0 then ([], 1) else if p < 1 then ([], 1) else qI4 t (ones p.toNat)
theorem qWW {h : Heap} {t p : Int} (ht : I64 t)
    (k : ∀ p' c' h', h.le h' → Ints .i64 h' p' (qI7 t p).1 → K (tuple #[slice p' (qI7 t p).1.length c', .int .i64 (qI7 t p).2]) h') :
    CallA Tryz.prog qJj [.int .i64 t, .int .i64 p] h K := by
  refine qP4 _ _ _ _ ?_
  unfold qLx
  unfold qI7 at k
  refine Br.dec (fun g1 => ?_) fun g1 => ?_
  · rw [if_pos g1] at k; exact Ret.mk (k none 0 h h.le_refl (.inl rfl))
  rw [if_neg g1] at k
  refine Br.dec (fun g2 => ?_) fun g2 => ?_
  · rw [if_pos g2] at k; exact Ret.mk (k none 0 h h.le_refl (.inl rfl))
  rw [if_neg g2] at k
  refine Br.dec (fun g3 => ?_) fun g3 => ?_
  · rw [if_pos g3] at k; exact Ret.mk (k none 0 h h.le_refl (.inl rfl))
  rw [if_neg g3] at k
  obtain ⟨m, rfl⟩ : ∃ m : Nat, p = (m : Int) := ⟨p.toNat, by omega⟩
  rw [Int.toNat_natCast] at k
  refine qo fun r h1 hr l1 A1 => qWJ (by omega) (by omega) A1 fun r2 h2 l2 hr2 A2 => ⟨_, _, _, rfl, ?_⟩
  have I2 : Ints .i64 h2 (some ⟨r2, 0, none⟩) (ones m) := At.toRd (ws := []) (by rw [List.append_nil]; exact A2)
  exact qUQ I2 (by simp [ones]) (by omega) (fun x hx => by rw [List.eq_of_mem_replicate hx]; unfold I64; omega) ht fun p' c' h' l' I' => ⟨_, _, _, _, rfl, Ret.mk (k p' c' h' (Heap.le_trans l1 (Heap.le_trans l2 l')) I')⟩
end
end Go.Proofs.YtjihfieahkbohaaGreat

/- The dues of nets: what plan.Schedule answers. -/
namespace Go.Proofs.YtjihfieahkbohaaGreat
open Go Go.Sy Go.Value
set_option linter.unusedVariables false
set_option linter.unusedSimpArgs false

/-! ### plainly -/
def qKE (ds : List Int) (i : Nat) : Bool := decide (0 ≤ ds.getD i 0 ∧ (0 < i → ds.getD (i - 1) 0 < ds.getD i 0))
def qKZ (ds : List Int) : Bool := (List.range ds.length).all (qKE ds) && decide (1 ≤ ds.length ∧ ds.length ≤ 16)
def shL (n : Int) (p : Nat) : List Int := qID n (ones p)
def qH4 (ds : List Int) (k m c : Nat) (n : Int) : List Du := if n < 0 ∧ 0 < (shL (-n) ds.length).getD k 0 then [⟨m, c, ds.getD k 0, (shL (-n) ds.length).getD k 0⟩] else []
def qMs (ds : List Int) (k m : Nat) (row : List Int) (j : Nat) : List Du := (List.range j).flatMap fun c => qH4 ds k m c (row.getD c 0)
def qIs (ds : List Int) (k : Nat) (M : List (List Int)) (i : Nat) : List Du := (List.range i).flatMap fun m => qMs ds k m (M.getD m []) (M.getD m []).length
def qLI (M : List (List Int)) (ds : List Int) : List Du := (List.range ds.length).flatMap fun k => qIs ds k M M.length
def qKW (v : Int) (l : List Int) : Bool := l.any fun x => v == x
def qJ7 (x : NRow) : Bool := decide ((x.l.length : Int) > 8)
def qIM (x : NRow) : Bool := qKW (-9223372036854775808) x.l
def qKP (M : List (List Int)) (ds : List Int) : List Du × Int :=
  if qKZ ds = false then ([], 1) else if 16 < M.length then ([], 4) else if (M.any fun l => decide ((l.length : Int) > 8)) = true then ([], 4)
  else if (M.any (qKW (-9223372036854775808))) = true then ([], 3) else (qLI M ds, 0)
theorem qU6 (p : Nat) : qL (ones p) = p := by
  unfold ones
  induction p with
  | zero => rfl
  | succ p ih =>
    rw [List.replicate_succ, qL, ih]
    omega
theorem qQj (p : Nat) : (ones p).length = p := List.length_replicate
theorem qNP (n : Int) (p : Nat) : (shL n p).length = p := by unfold shL; rw [qNa, qQj]
theorem qOw {n : Int} {p : Nat} (h0 : 0 ≤ n) (h1 : 1 ≤ p) (h2 : p ≤ 64) : qI7 n p = (shL n p, 0) := by
  unfold qI7
  rw [if_neg (by omega), if_neg (by omega), if_neg (by omega), Int.toNat_natCast]
  unfold qI4
  have e1 : qKg (ones p) = false := by
    unfold qKg ones
    rw [List.any_eq_false]
    intro x hx
    rw [List.eq_of_mem_replicate hx]
    decide
  have e2 : qKU (ones p) = true := by
    unfold qKU ones
    rw [List.any_eq_true]
    exact ⟨1, List.mem_replicate.2 ⟨by omega, rfl⟩, by decide⟩
  rw [if_neg (by rw [qQj]; omega), if_neg (by omega), if_neg (by rw [e1]; decide), if_neg (by rw [e2]; decide), qU6, qIL (by unfold I64; omega), if_neg (fun h => h rfl)]
  rfl
theorem qT3 (ds : List Int) (k m c : Nat) (n : Int) : (qH4 ds k m c n).length ≤ 1 := by unfold qH4; split <;> simp
theorem qMJ {α : Type} {f : Nat → List α} {w : Nat} (h : ∀ i, (f i).length ≤ w) (n : Nat) : ((List.range n).flatMap f).length ≤ n * w := by
  induction n with
  | zero => simp
  | succ n ih =>
    rw [List.range_succ, List.flatMap_append, List.length_append, Nat.succ_mul]
    have := h n
    simp only [List.flatMap_cons, List.flatMap_nil, List.append_nil]
    omega
theorem qNA {α : Type} (f : Nat → List α) (n : Nat) : (List.range (n + 1)).flatMap f = (List.range n).flatMap f ++ f n := by rw [List.range_succ, List.flatMap_append]; simp
theorem qQi (ds : List Int) (k m : Nat) (row : List Int) (j : Nat) : (qMs ds k m row j).length ≤ j := Nat.le_trans (qMJ (fun i => qT3 ds k m i _) j) (by omega)
theorem qVD {M : List (List Int)} {w : Nat} (h : ∀ l ∈ M, l.length ≤ w) (i : Nat) : (M.getD i []).length ≤ w := by
  rw [List.getD_eq_getElem?_getD]
  cases e : M[i]? with
  | none => simp
  | some l => exact h l (List.mem_of_getElem? e)
theorem qQT (ds : List Int) (k : Nat) {M : List (List Int)} (h : ∀ l ∈ M, l.length ≤ 8) (i : Nat) : (qIs ds k M i).length ≤ i * 8 := qMJ (fun m => Nat.le_trans (qQi ds k m _ _) (qVD h m)) i

section
variable {h : Heap} {K : Value → Heap → Prop}
theorem qXE {q : Option Addr} {ds : List Int} {n c : Nat} (X : Ints .i64 h q ds) (hn : ds.length = n) (hs : n ≤ 1000000) (k : K (.bool (qKZ ds)) h) :
    ∀ (m j : Nat), m + j = n → (List.range j).all (qKE ds) = true → qFG q n c q n c n j h K := by
  intro m
  induction m with
  | zero =>
    intro j hj ha
    refine qKy _ _ _ _ _ _ _ _ _ _ ?_
    unfold qIY
    have hj : j = n := by omega
    subst hj
    unfold qKZ at k
    rw [hn, ha, Bool.true_and] at k
    refine Br.no (by simp) (Br.dec (fun g => Ret.mk ?_) fun g => Ret.mk ?_)
    · rw [show decide (1 ≤ j ∧ j ≤ 16) = decide ((j : Int) ≤ 16) by rw [decide_eq_decide]; omega] at k
      exact k
    · rw [decide_eq_false (by omega)] at k
      exact k
  | succ m ih =>
    intro j hj ha
    refine qKy _ _ _ _ _ _ _ _ _ _ ?_
    unfold qIY
    have hx : ds[j]? = some (ds.getD j 0) := by
      rw [List.getD_eq_getElem?_getD, List.getElem?_eq_getElem (by omega)]; rfl
    have bad : qKE ds j = false → K (.bool false) h := fun hb => by
      unfold qKZ at k
      rw [show (List.range ds.length).all (qKE ds) = false by
        rw [List.all_eq_false]
        exact ⟨j, List.mem_range.2 (by omega), by rw [hb]; decide⟩, Bool.false_and] at k
      exact k
    have good : qKE ds j = true → qFG q n c q n c n ((j + 1 : Nat) : Int) h K := fun hb => by
      refine ih (j + 1) (by omega) ?_
      rw [List.range_succ, List.all_append, ha]
      simp [hb]
    refine Br.yes (by simp; omega) (ix X hn rfl hx (Br.dec (fun g => Ret.mk (bad ?_)) fun g => ?_))
    · unfold qKE; rw [decide_eq_false_iff_not]; omega
    rw [w1 (j := j) (by omega)]
    refine Br.dec (fun g2 => ?_) fun g2 => good ?_
    · obtain ⟨u, rfl⟩ : ∃ u, j = u + 1 := ⟨j - 1, by omega⟩
      have hw : IntKind.wrap .i64 (((u + 1 : Nat) : Int) - 1) = (u : Int) := by rw [qZ (by omega) (by omega)]; omega
      have hy : ds[u]? = some (ds.getD u 0) := by
        rw [List.getD_eq_getElem?_getD, List.getElem?_eq_getElem (by omega)]; rfl
      rw [hw]
      refine ix X hn rfl hy (Br.dec (fun g3 => Ret.mk (bad ?_)) fun g3 => good ?_)
      · unfold qKE; rw [decide_eq_false_iff_not, Nat.add_sub_cancel]; omega
      · unfold qKE; rw [decide_eq_true_eq, Nat.add_sub_cancel]; omega
    · unfold qKE; rw [decide_eq_true_eq]; omega
theorem qVc {q : Option Addr} {ds : List Int} {n c : Nat} (X : Ints .i64 h q ds) (hn : ds.length = n) (hs : n ≤ 1000000) (k : K (.bool (qKZ ds)) h) : CallA Tryz.prog qJf [slice q n c] h K := by
  refine qP8 _ _ _ _ _ ?_
  unfold qLz
  exact qXE X hn hs k n 0 (by omega) rfl
theorem qXM {q : Option Addr} {l : List Int} {n c : Nat} {v : Int} (X : Ints .i64 h q l) (hn : l.length = n) (hs : n ≤ 1000000) (k : ∀ i : Int, decide (i ≥ 0) = qKW v l → K (.int .i64 i) h) :
    ∀ (m j : Nat), m + j = n → qKW v l = qKW v (l.drop j) → qCa q n c v n j h K := by
  intro m
  induction m with
  | zero =>
    intro j hj e
    refine qF5 _ _ _ _ _ _ _ _ ?_
    unfold qDp
    rw [List.drop_eq_nil_of_le (by omega)] at e
    exact Br.no (by simp; omega) (Ret.mk (k _ (by rw [e]; exact decide_eq_false (by omega))))
  | succ m ih =>
    intro j hj e
    refine qF5 _ _ _ _ _ _ _ _ ?_
    unfold qDp
    have hx : l[j]? = some l[j] := List.getElem?_eq_getElem (by omega)
    have e2 : qKW v (l.drop j) = ((v == l[j]) || qKW v (l.drop (j + 1))) := by rw [List.drop_eq_getElem_cons (by omega : j < l.length)]; rfl
    rw [e2] at e
    generalize l[j] = x at *
    refine Br.yes (by simp; omega) (ix X hn rfl hx ?_)
    cases eb : (v == x) with
    | true =>
      rw [eb, Bool.true_or] at e
      exact Br.yes rfl (Ret.mk (k _ (by rw [e]; simp)))
    | false =>
      rw [eb, Bool.false_or] at e
      refine Br.no rfl ?_
      rw [w1 (by omega)]
      exact ih (j + 1) (by omega) e
theorem qWL {a : Option Addr} {x : NRow} {m : Nat} (k : K (.bool (qJ7 x)) h) : CallA Tryz.prog qA7 [slice a x.l.length m] h K := by
  refine qNR _ _ _ _ _ ?_
  unfold qJC
  exact Ret.mk k
theorem qV1 {x : NRow} {m : Nat} (X : Ints .i64 h x.p x.l) (hs : x.l.length ≤ 1000000) (k : K (.bool (qIM x)) h) : CallA Tryz.prog qA6 [slice x.p x.l.length m] h K := by
  refine qNT _ _ _ _ _ ?_
  unfold qJH
  refine qIe _ _ _ _ _ _ ?_
  unfold qFo
  refine qJg _ _ _ _ _ _ ?_
  unfold qGP
  exact qXM X rfl hs (fun i hi => ⟨_, rfl, Ret.mk ⟨_, rfl, by rw [hi]; exact Ret.mk k⟩⟩) x.l.length 0 (by omega) rfl
theorem qUz {p : Option Addr} {L : List NRow} {n c : Nat} (X : Nets h p L) (hn : L.length = n) (hs : n ≤ 1000000) 
    (k : ∀ v : Int, decide (v ≥ 0) = L.any qJ7 → K (.int .i64 v) h) :
    ∀ (m j : Nat), m + j = n → L.any qJ7 = (L.drop j).any qJ7 → qA5 p n c n j h K := by
  intro m
  induction m with
  | zero =>
    intro j hj e
    refine qD2 _ _ _ _ _ _ _ ?_
    unfold qCA
    rw [List.drop_eq_nil_of_le (by omega), List.any_nil] at e
    exact Br.no (by simp; omega) (Ret.mk (k _ (by rw [e]; decide)))
  | succ m ih =>
    intro j hj e
    refine qD2 _ _ _ _ _ _ _ ?_
    unfold qCA
    have hx : L[j]? = some L[j] := List.getElem?_eq_getElem (by omega)
    rw [List.drop_eq_getElem_cons (by omega : j < L.length), List.any_cons] at e
    have hm : L[j] ∈ L := List.getElem_mem _
    generalize L[j] = x at *
    refine Br.yes (by simp; omega) (nx X hn rfl hx (qWL ⟨_, rfl, ?_⟩))
    cases eb : qJ7 x with
    | true =>
      rw [eb, Bool.true_or] at e
      exact Br.yes rfl (Ret.mk (k _ (by rw [e]; simp)))
    | false =>
      rw [eb, Bool.false_or] at e
      refine Br.no rfl ?_
      rw [w1 (by omega)]
      exact ih (j + 1) (by omega) e
theorem qWp {p : Option Addr} {L : List NRow} {n c : Nat} (X : Nets h p L) (hn : L.length = n) (hs : n ≤ 1000000)  (k : K (.bool (L.any qJ7)) h) :
    CallA Tryz.prog qx [slice p n c, func (Fn.func qA7) #[] #[]] h K := by
  refine qGx _ _ _ _ _ ?_
  unfold qDw
  refine qHb _ _ _ _ _ ?_
  unfold qEd
  exact qUz X hn hs (fun v e => ⟨_, rfl, by rw [e]; exact Ret.mk k⟩) n 0 (by omega) rfl
theorem qTy {p : Option Addr} {L : List NRow} {n c : Nat} (X : Nets h p L) (hn : L.length = n) (hs : n ≤ 1000000) (hr : ∀ x ∈ L, x.l.length ≤ 1000000)
    (k : ∀ v : Int, decide (v ≥ 0) = L.any qIM → K (.int .i64 v) h) :
    ∀ (m j : Nat), m + j = n → L.any qIM = (L.drop j).any qIM → qA3 p n c n j h K := by
  intro m
  induction m with
  | zero =>
    intro j hj e
    refine qD3 _ _ _ _ _ _ _ ?_
    unfold qCF
    rw [List.drop_eq_nil_of_le (by omega), List.any_nil] at e
    exact Br.no (by simp; omega) (Ret.mk (k _ (by rw [e]; decide)))
  | succ m ih =>
    intro j hj e
    refine qD3 _ _ _ _ _ _ _ ?_
    unfold qCF
    have hx : L[j]? = some L[j] := List.getElem?_eq_getElem (by omega)
    rw [List.drop_eq_getElem_cons (by omega : j < L.length), List.any_cons] at e
    have hm : L[j] ∈ L := List.getElem_mem _
    generalize L[j] = x at *
    refine Br.yes (by simp; omega) (nx X hn rfl hx (qV1 (X.2 x hm) (hr x hm) ⟨_, rfl, ?_⟩))
    cases eb : qIM x with
    | true =>
      rw [eb, Bool.true_or] at e
      exact Br.yes rfl (Ret.mk (k _ (by rw [e]; simp)))
    | false =>
      rw [eb, Bool.false_or] at e
      refine Br.no rfl ?_
      rw [w1 (by omega)]
      exact ih (j + 1) (by omega) e
theorem qWm {p : Option Addr} {L : List NRow} {n c : Nat} (X : Nets h p L) (hn : L.length = n) (hs : n ≤ 1000000) (hr : ∀ x ∈ L, x.l.length ≤ 1000000) (k : K (.bool (L.any qIM)) h) :
    CallA Tryz.prog qx [slice p n c, func (Fn.func qA6) #[] #[]] h K := by
  refine qGy _ _ _ _ _ ?_
  unfold qDy
  refine qHZ _ _ _ _ _ ?_
  unfold qEl
  exact qTy X hn hs hr (fun v e => ⟨_, rfl, by rw [e]; exact Ret.mk k⟩) n 0 (by omega) rfl

/-! ### lists behind each other -/
theorem qWM {n : Nat} (hn : n ≤ 1000000) (k : ∀ h' q c, h.le h' → OwnL h h' z4 q c [] → K (slice q 0 c) h') : CallA Tryz.prog qC4 [slice none 0 0, .int .i64 (n : Int)] h K := by
  refine qIF _ _ _ _ _ _ ?_
  unfold qFW
  have w0 : IntKind.wrap .i64 (((0 : Nat) : Int) - ((0 : Nat) : Int)) = 0 := by decide
  have w2 : IntKind.wrap .i64 ((n : Int) - 0) = (n : Int) := by rw [qZ (by omega) (by omega)]; omega
  rw [w0, w2]
  refine Br.no (by simp) (Br.dec (fun g => ?_) fun g => Ret.mk (k h none 0 h.le_refl (.nil _ _ _)))
  refine ⟨by omega, by omega, by omega, by simp; omega, by simp; omega, [], rfl, .inl rfl, fun c r hc hr => ⟨by omega, by omega, Ret.mk ?_⟩⟩
  refine k _ _ c (qBf hr) (.inr ⟨r, qAh n z4 ++ qAh (c - n) z4, rfl, hr, ?_, ?_⟩)
  · simp only [List.nil_append, Int.toNat_natCast, Nat.zero_add]
    exact At.new h r (qAh n z4 ++ qAh (c - n) z4) 39
  · have hc : n ≤ c := by simpa using hc
    rw [List.nil_append, List.length_append, qCs, qCs, show z4.length = 4 from rfl]
    omega
end
section
variable {g h0 : Heap} {B n : Nat} {p : Nat → Option Addr} {c : Nat → Nat} {X : Nat → List Du} {K : Value → Heap → Prop}
theorem qW5 (T : Tbl uV z4 g h0 B n p c X) (hX : ∀ i, (X i).length ≤ 1000) (hn : n ≤ 100) (k : ∀ h' q cp, h0.le h' → Arr uV h' q ((List.range n).flatMap X) → K (slice q ((List.range n).flatMap X).length cp) h') :
    ∀ (m j : Nat) (h : Heap) (q : Option Addr) (cp : Nat), m + j = n → h0.le h → OwnL h0 h z4 q cp (((List.range j).flatMap X).flatMap uV) → qBC q ((List.range j).flatMap X).length cp (some ⟨B, 0, none⟩) n n n j h K := by
  intro m
  induction m with
  | zero =>
    intro j h q cp hj l0 O
    refine qEM _ _ _ _ _ _ _ _ _ _ ?_
    unfold qCW
    have hj : j = n := by omega
    subst hj
    exact Br.no (by simp) (Ret.mk (k h q cp l0 O.rd))
  | succ m ih =>
    intro j h q cp hj l0 O
    refine qEM _ _ _ _ _ _ _ _ _ _ ?_
    unfold qCW
    have hb := qMJ hX j
    have hbj := hX j
    have hjn : j * 1000 ≤ 100 * 1000 := Nat.mul_le_mul_right _ (by omega)
    refine Br.yes (by simp; omega) ⟨by omega, by omega, qD rfl ⟨_, _, _, (T.mv l0).get (by omega), ?_⟩⟩
    refine O.push2 (by decide) l0 (by omega) (by rw [qm qCq]; rfl) (((T.mv l0).fam.own j).rd) (qWc _) (by rw [qm qCq]; rfl) fun q' c' h' l' O' _ _ => ?_
    rw [w1 (by omega)]
    have e : (List.range (j + 1)).flatMap X = (List.range j).flatMap X ++ X j := qNA X j
    have := ih (j + 1) h' q' c' (by omega) l' (by rw [e, List.flatMap_append]; exact O')
    rw [e, List.length_append] at this
    exact this
theorem qXS (T : Tbl uV z4 g h0 B n p c X) (hX : ∀ i, (X i).length ≤ 1000) (hn : n ≤ 100) (k : ∀ h' q cp, h0.le h' → Arr uV h' q ((List.range n).flatMap X) → K (slice q ((List.range n).flatMap X).length cp) h') :
    ∀ (m j : Nat), m + j = n → qBD (some ⟨B, 0, none⟩) n n (((List.range j).flatMap X).length : Int) (some ⟨B, 0, none⟩) n n n j h0 K := by
  intro m
  induction m with
  | zero =>
    intro j hj
    refine qEU _ _ _ _ _ _ _ _ _ _ _ ?_
    unfold qCJ
    have hb := qMJ hX j
    have hjn : j * 1000 ≤ 100 * 1000 := Nat.mul_le_mul_right _ (by omega)
    refine Br.no (by simp; omega) (qWM (by omega) fun h' q cp l' O => ⟨_, _, _, rfl, ?_⟩)
    exact qW5 T hX hn k n 0 h' q cp (by omega) l' O
  | succ m ih =>
    intro j hj
    refine qEU _ _ _ _ _ _ _ _ _ _ _ ?_
    unfold qCJ
    have hb := qMJ hX j
    have hbj := hX j
    have hjn : j * 1000 ≤ 100 * 1000 := Nat.mul_le_mul_right _ (by omega)
    have e : (List.range (j + 1)).flatMap X = (List.range j).flatMap X ++ X j := qNA X j
    have hw : IntKind.wrap .i64 ((((List.range j).flatMap X).length : Int) + ((X j).length : Int)) = (((List.range (j + 1)).flatMap X).length : Int) := by rw [qZ (by omega) (by omega), e, List.length_append]; omega
    refine Br.yes (by simp; omega) ⟨by omega, by omega, qD rfl ⟨_, _, _, T.get (by omega), ?_⟩⟩
    rw [hw, w1 (by omega)]
    exact Br.no (by simp) (ih (j + 1) (by omega))
theorem qUb (T : Tbl uV z4 g h0 B n p c X) (hX : ∀ i, (X i).length ≤ 1000) (hn : n ≤ 100) (k : ∀ h' q cp, h0.le h' → Arr uV h' q ((List.range n).flatMap X) → K (slice q ((List.range n).flatMap X).length cp) h') :
    CallA Tryz.prog qCk [slice (some ⟨B, 0, none⟩) n n] h0 K := by
  refine qHf _ _ _ _ _ ?_
  unfold qEw
  exact qXS T hX hn k n 0 (by omega)
end
end Go.Proofs.YtjihfieahkbohaaGreat

/- A list put in order: by insertion, by a heap; turned about. -/
namespace Go.Proofs.YtjihfieahkbohaaGreat
open Go Go.Sy Go.Value Go.Sort
set_option linter.unusedVariables false
set_option linter.unusedSimpArgs false

theorem qM0 {j : Nat} (h : j ≤ 4000000000) : IntKind.wrap .i64 ((j : Int) + 1) = ((j + 1 : Nat) : Int) := by rw [qZ (by omega) (by omega)]; omega
theorem qWa {j : Nat} (h : j ≤ 4000000000) : IntKind.wrap .i64 (((j + 1 : Nat) : Int) - 1) = (j : Int) := by rw [qZ (by omega) (by omega)]; omega
theorem qE7 {x : Int} (h1 : -4000000000 ≤ x) (h2 : x ≤ 40000000000) : IntKind.wrap .i64 x = x := qZ (by omega) (by omega)

section
variable {g0 : Heap} {B m n c : Nat} {sp : List Value} {left : List Du} {K : Value → Heap → Prop} (e0 : g0 B = none) (hm : left.length = m) (I : True) (hn : n ≤ 1000000)
include e0 hm I hn
/-! by insertion -/
theorem qV0 {a b i : Nat} (hi : i < n) : ∀ (j : Nat) (h : Heap) (d : Array Int), DaU left g0 B m n sp h d → j ≤ i →
    (∀ h', DaU left g0 B m n sp h' (insInner (qAO left) a j d) → qj (some ⟨B, 0, none⟩) n c (a : Int) (b : Int) ((i + 1 : Nat) : Int) h' K) →
    qAE (some ⟨B, 0, none⟩) n c (a : Int) (b : Int) (i : Int) (j : Int) h K := by
  intro j
  induction j with
  | zero =>
    intro h d D hj k
    refine qDP _ _ _ _ _ _ _ _ _ ?_
    unfold qBb
    rw [qM0 (by omega)]
    exact Br.no (by simp) (k h D)
  | succ j ih =>
    intro h d D hj k
    refine qDP _ _ _ _ _ _ _ _ _ ?_
    unfold qBb
    rw [qM0 (by omega), qWa (by omega)]
    rw [insInner] at k
    refine Br.dec (fun g => qS7 D hm I rfl rfl (by omega) (by omega) fun h' D' => Br.intro (fun g2 => ?_) fun g2 => ?_) fun g => ?_
    · refine qOK (J := fun h => qAE (some ⟨B, 0, none⟩) n c (a : Int) (b : Int) (i : Int) (j : Int) h K) D' e0 rfl rfl (by omega) (by omega) fun h'' D'' => ih h'' _ D'' (by omega) ?_
      rw [if_pos (by rw [g2, Bool.and_true]; exact decide_eq_true (by omega))] at k
      exact k
    · rw [if_neg (by rw [g2]; simp)] at k
      exact k h' D'
    · rw [if_neg (by simp; omega)] at k
      exact k h D
theorem qU9 {a b : Nat} (hb : b ≤ n) : ∀ (q i : Nat) (h : Heap) (d : Array Int), b - i ≤ q → DaU left g0 B m n sp h d →
    (∀ h', DaU left g0 B m n sp h' (insOuter (qAO left) a b i d) → K (tuple #[]) h') → i ≤ 2000000 →
    qj (some ⟨B, 0, none⟩) n c (a : Int) (b : Int) (i : Int) h K := by
  intro q
  induction q with
  | zero =>
    intro i h d hq D k hi
    refine qBZ _ _ _ _ _ _ _ _ ?_
    unfold qAa
    rw [insOuter, if_neg (by omega)] at k
    exact Br.no (by simp; omega) (Ret.mk (k h D))
  | succ q ih =>
    intro i h d hq D k hi
    refine qBZ _ _ _ _ _ _ _ _ ?_
    unfold qAa
    rw [insOuter] at k
    refine Br.dec (fun g => qV0 e0 hm I hn (by omega) i h d D (Nat.le_refl _) fun h' D' => ih (i + 1) h' _ (by omega) D' ?_ (by omega)) fun g => ?_
    · rw [if_pos (by omega)] at k; exact k
    · rw [if_neg (by omega)] at k; exact Ret.mk (k h D)
theorem qMK {h : Heap} {d : Array Int} {a b : Nat} (ha : a ≤ n) (hb : b ≤ n) (D : DaU left g0 B m n sp h d) (k : ∀ h', DaU left g0 B m n sp h' (insertionSort (qAO left) d a b) → K (tuple #[]) h') :
    CallA Tryz.prog qAm [slice (some ⟨B, 0, none⟩) n c, .int .i64 (a : Int), .int .i64 (b : Int), func (Fn.func qI) #[] #[]] h K := by
  refine qDx _ _ _ _ _ _ _ ?_
  unfold qBo
  rw [qM0 (by omega)]
  exact qU9 e0 hm I hn hb _ _ _ _ (Nat.le_refl _) D k (by omega)
/-! by a heap -/
/-! turned about -/
omit hm I in
omit hm I in
end
end Go.Proofs.YtjihfieahkbohaaGreat

/- Dues put in order, stably: walked. -/
namespace Go.Proofs.YtjihfieahkbohaaGreat
open Go Go.Sy Go.Value Go.Sort
set_option linter.unusedVariables false
set_option linter.unusedSimpArgs false

theorem qRu {i j : Nat} (h : i + j ≤ 4000000) : IntKind.wrap .i64 (Int.fdiv (IntKind.wrap .u64 (IntKind.wrap .i64 ((i : Int) + (j : Int)))) 2) = (((i + j) / 2 : Nat) : Int) := by
  rw [qZ (n := (i : Int) + (j : Int)) (by omega) (by omega), qAP (by omega) (by omega), qKk _ (by decide), qZ (by omega) (by omega)]; omega
section
variable {F : List Du} {g0 : Heap} {B m n c : Nat} {sp : List Value} {K : Value → Heap → Prop} (e0 : g0 B = none) (hm : F.length = m) (hn : n ≤ 1000000)
include e0 hn
/-! so many are changed about -/
theorem qXl {a b w lo hi : Nat} (hab : a + w ≤ b) (hb : b + w ≤ hi) (hh : hi ≤ n) (hl : lo ≤ a) {d0 d1 : Array Int}
    (k : ∀ h' d', DaU F g0 B m n sp h' d' → SwR d1 d' a b w → PermIn lo hi d0 d' → K (tuple #[]) h') :
    ∀ (q i : Nat) (h : Heap) (d : Array Int), q + i = w → DaU F g0 B m n sp h d → SwR d1 d a b i → PermIn lo hi d0 d →
    qAS (some ⟨B, 0, none⟩) n c (a : Int) (b : Int) (w : Int) (i : Int) h K := by
  intro q
  induction q with
  | zero =>
    intro i h d hq D s P
    refine qD9 _ _ _ _ _ _ _ _ _ ?_
    unfold qCB
    have hq : i = w := by omega
    subst hq
    exact Br.no (by simp) (Ret.mk (k h d D s P))
  | succ q ih =>
    intro i h d hq D s P
    refine qD9 _ _ _ _ _ _ _ _ _ ?_
    unfold qCB
    have z : d.size = n := D.sz
    have z1 : d1.size = n := by rw [← s.1]; exact z
    have w1 : IntKind.wrap .i64 ((b : Int) + (i : Int)) = ((b + i : Nat) : Int) := by rw [qE7 (by omega) (by omega)]; omega
    have w2 : IntKind.wrap .i64 ((a : Int) + (i : Int)) = ((a + i : Nat) : Int) := by rw [qE7 (by omega) (by omega)]; omega
    rw [w1, w2, qM0 (by omega)]
    refine Br.yes (decide_eq_true (by omega)) (qOK (J := fun h => qAS (some ⟨B, 0, none⟩) n c (a : Int) (b : Int) (w : Int) ((i + 1 : Nat) : Int) h K) D e0 rfl rfl (by omega) (by omega) fun h' D' => ?_)
    exact ih (i + 1) h' _ (by omega) D' (s.step (by omega) (by omega)) (permIn_trans _ _ _ _ _ P (swp_permIn d lo hi _ _ (by omega) (by omega) (by omega) (by omega) (by omega)))
theorem qOz {a b w lo hi : Nat} (hab : a + w ≤ b) (hb : b + w ≤ hi) (hh : hi ≤ n) (hl : lo ≤ a) {h : Heap} {d0 d : Array Int} (D : DaU F g0 B m n sp h d) (P : PermIn lo hi d0 d)
    (k : ∀ h' d', DaU F g0 B m n sp h' d' → SwR d d' a b w → PermIn lo hi d0 d' → K (tuple #[]) h') :
    CallA Tryz.prog qBE [slice (some ⟨B, 0, none⟩) n c, .int .i64 (a : Int), .int .i64 (b : Int), .int .i64 (w : Int), func (Fn.func qI) #[] #[]] h K := by
  refine qHU _ _ _ _ _ _ _ _ ?_
  unfold qEf
  exact qXl e0 hn hab hb hh hl k w 0 h d (by omega) D (SwR.nil d a b) P
/-! one row ahead of another -/
theorem qXd {mm lo hi : Nat} (hh : hi ≤ n) {d0 : Array Int} : ∀ (q i j : Nat) (h : Heap) (d : Array Int), i + j ≤ q → lo + i ≤ mm → mm + j ≤ hi → 1 ≤ i → 1 ≤ j → DaU F g0 B m n sp h d → PermIn lo hi d0 d →
    (∀ h' d', DaU F g0 B m n sp h' d' → RotR d d' mm i j → PermIn lo hi d0 d' → K (tuple #[]) h') →
    qAk (some ⟨B, 0, none⟩) n c (mm : Int) (i : Int) (j : Int) h K := by
  intro q
  induction q with
  | zero => intro i j h d hq _ _ h1 h2; omega
  | succ q ih =>
    intro i j h d hq h1 h2 h3 h4 D P k
    refine qHR _ _ _ _ _ _ _ _ ?_
    unfold qEx
    have w1 : IntKind.wrap .i64 ((mm : Int) - (i : Int)) = ((mm - i : Nat) : Int) := by rw [qE7 (by omega) (by omega)]; omega
    rw [w1]
    by_cases e : i = j
    · subst e
      refine Br.no (by simp) (qOz e0 hn (lo := lo) (hi := hi) (by omega) (by omega) hh (by omega) D P fun h' d' D' s P' => ⟨rfl, Ret.mk (k h' d' D' (RotR.same (by omega) s) P')⟩)
    refine Br.yes (by simp; omega) (Br.dec (fun g => ?_) fun g => ?_)
    · have w2 : IntKind.wrap .i64 ((i : Int) - (j : Int)) = ((i - j : Nat) : Int) := by rw [qE7 (by omega) (by omega)]; omega
      rw [w2]
      refine qOz e0 hn (lo := lo) (hi := hi) (by omega) (by omega) hh (by omega) D P fun h' d' D' s P' => ⟨rfl, ?_⟩
      exact ih (i - j) j h' d' (by omega) (by omega) (by omega) (by omega) (by omega) D' P' fun h2 d2 D2 r P2 => k h2 d2 D2 (RotR.more (by omega) (by omega) s r) P2
    · have w2 : IntKind.wrap .i64 ((j : Int) - (i : Int)) = ((j - i : Nat) : Int) := by rw [qE7 (by omega) (by omega)]; omega
      have w3 : IntKind.wrap .i64 ((mm : Int) + (j : Int)) = ((mm + j : Nat) : Int) := by rw [qE7 (by omega) (by omega)]; omega
      have w4 : IntKind.wrap .i64 (((mm + j : Nat) : Int) - (i : Int)) = ((mm + j - i : Nat) : Int) := by rw [qE7 (by omega) (by omega)]; omega
      rw [w2, w3, w4]
      refine qOz e0 hn (lo := lo) (hi := hi) (by omega) (by omega) hh (by omega) D P fun h' d' D' s P' => ⟨rfl, ?_⟩
      exact ih i (j - i) h' d' (by omega) (by omega) (by omega) (by omega) (by omega) D' P' fun h2 d2 D2 r P2 => k h2 d2 D2 (RotR.less (by omega) (by omega) s r) P2
theorem qUu {a mm b : Nat} (h1 : a < mm) (h2 : mm < b) (hb : b ≤ n) {h : Heap} {d : Array Int} (D : DaU F g0 B m n sp h d)
    (k : ∀ h' d', DaU F g0 B m n sp h' d' → RotR d d' mm (mm - a) (b - mm) → PermIn a b d d' → K (tuple #[]) h') :
    CallA Tryz.prog qC7 [slice (some ⟨B, 0, none⟩) n c, .int .i64 (a : Int), .int .i64 (mm : Int), .int .i64 (b : Int), func (Fn.func qI) #[] #[]] h K := by
  refine qIG _ _ _ _ _ _ _ _ ?_
  unfold qFH
  have w1 : IntKind.wrap .i64 ((mm : Int) - (a : Int)) = ((mm - a : Nat) : Int) := by rw [qE7 (by omega) (by omega)]; omega
  have w2 : IntKind.wrap .i64 ((b : Int) - (mm : Int)) = ((b - mm : Nat) : Int) := by rw [qE7 (by omega) (by omega)]; omega
  rw [w1, w2]
  exact qXd e0 hn (lo := a) (hi := b) hb _ _ _ h d (Nat.le_refl _) (by omega) (by omega) (by omega) (by omega) D (permIn_refl d a b) k
/-! the first one is qSI behind others -/
theorem qXv {a i lo hi : Nat} (hi1 : a + 1 ≤ i) (hi2 : i ≤ hi) (hh : hi ≤ n) (hl : lo ≤ a) {d0 : Array Int} (k : ∀ h' d', DaU F g0 B m n sp h' d' → MvR d0 d' a (i - 1) → PermIn lo hi d0 d' → K (tuple #[]) h') :
    ∀ (q t : Nat) (h : Heap) (d : Array Int), q + t = i - 1 → a ≤ t → DaU F g0 B m n sp h d → MvR d0 d a t → PermIn lo hi d0 d →
    q9 (some ⟨B, 0, none⟩) n c (i : Int) (t : Int) h K := by
  intro q
  induction q with
  | zero =>
    intro t h d hq ht D s P
    refine qEO _ _ _ _ _ _ _ ?_
    unfold qCS
    have w1 : IntKind.wrap .i64 ((i : Int) - 1) = ((i - 1 : Nat) : Int) := by rw [qE7 (by omega) (by omega)]; omega
    rw [w1]
    have hq : t = i - 1 := by omega
    subst hq
    exact Br.no (by simp) (Ret.mk (k h d D s P))
  | succ q ih =>
    intro t h d hq ht D s P
    refine qEO _ _ _ _ _ _ _ ?_
    unfold qCS
    have w1 : IntKind.wrap .i64 ((i : Int) - 1) = ((i - 1 : Nat) : Int) := by rw [qE7 (by omega) (by omega)]; omega
    have z : d.size = n := D.sz
    have z0 : d0.size = n := by rw [← s.1]; exact z
    rw [w1, qM0 (by omega)]
    refine Br.yes (decide_eq_true (by omega)) (qOK (J := fun h => q9 (some ⟨B, 0, none⟩) n c (i : Int) ((t + 1 : Nat) : Int) h K) D e0 rfl rfl (by omega) (by omega) fun h' D' => ?_)
    exact ih (t + 1) h' _ (by omega) (by omega) D' (s.step ht (by omega)) (permIn_trans _ _ _ _ _ P (swp_permIn d lo hi _ _ (by omega) (by omega) (by omega) (by omega) (by omega)))
/-! the last one is qSI ahead of others -/
theorem qXt {mm i lo hi : Nat} (hi1 : i ≤ mm) (hi2 : mm < hi) (hh : hi ≤ n) (hl : lo ≤ i) {d0 : Array Int} (k : ∀ h' d', DaU F g0 B m n sp h' d' → MvL d0 d' mm i → PermIn lo hi d0 d' → K (tuple #[]) h') :
    ∀ (q t : Nat) (h : Heap) (d : Array Int), i + q = t → t ≤ mm → DaU F g0 B m n sp h d → MvL d0 d mm t → PermIn lo hi d0 d →
    qAA (some ⟨B, 0, none⟩) n c (i : Int) (t : Int) h K := by
  intro q
  induction q with
  | zero =>
    intro t h d hq ht D s P
    refine qEQ _ _ _ _ _ _ _ ?_
    unfold qCO
    have hq : t = i := by omega
    subst hq
    exact Br.no (by simp) (Ret.mk (k h d D s P))
  | succ q ih =>
    intro t h d hq ht D s P
    refine qEQ _ _ _ _ _ _ _ ?_
    unfold qCO
    obtain ⟨u, rfl⟩ : ∃ u, t = u + 1 := ⟨t - 1, by omega⟩
    have z : d.size = n := D.sz
    have z0 : d0.size = n := by rw [← s.1]; exact z
    rw [qWa (by omega)]
    refine Br.yes (decide_eq_true (by omega)) (qOK (J := fun h => qAA (some ⟨B, 0, none⟩) n c (i : Int) (u : Int) h K) D e0 rfl rfl (by omega) (by omega) fun h' D' => ?_)
    exact ih u h' _ (by omega) (by omega) D' (s.step ht (by omega)) (permIn_trans _ _ _ _ _ P (swp_permIn d lo hi _ _ (by omega) (by omega) (by omega) (by omega) (by omega)))
include hm
/-! where to -/
omit e0 in
theorem qXw {a mm b : Nat} (hm1 : a < mm) (hb : b ≤ n) {d : Array Int} (k : ∀ h' i, DaU F g0 B m n sp h' d → mm ≤ i → i ≤ b → (i = mm ∨ qAO F d[i - 1]! d[a]! = true) → (i = b ∨ qAO F d[i]! d[a]! = false) → q9 (some ⟨B, 0, none⟩) n c (i : Int) (a : Int) h' K) :
    ∀ (q i j : Nat) (h : Heap), j - i ≤ q → mm ≤ i → i ≤ j → j ≤ b → DaU F g0 B m n sp h d → (i = mm ∨ qAO F d[i - 1]! d[a]! = true) → (j = b ∨ qAO F d[j]! d[a]! = false) →
    qAX (some ⟨B, 0, none⟩) n c (a : Int) (i : Int) (j : Int) h K := by
  intro q
  induction q with
  | zero =>
    intro i j h hq h1 h2 h3 D c1 c2
    refine qEX _ _ _ _ _ _ _ _ ?_
    unfold qCV
    have : i = j := by omega
    subst this
    exact Br.no (by simp) (k h i D h1 (by omega) c1 c2)
  | succ q ih =>
    intro i j h hq h1 h2 h3 D c1 c2
    refine qEX _ _ _ _ _ _ _ _ ?_
    unfold qCV
    by_cases e : i = j
    · subst e
      exact Br.no (by simp) (k h i D h1 (by omega) c1 c2)
    rw [qRu (by omega), qM0 (by omega)]
    refine Br.yes (decide_eq_true (by omega)) (qS7 D hm trivial rfl rfl (by omega) (by omega) fun h' D' => Br.intro (fun g => ?_) fun g => ?_)
    · exact ih _ j h' (by omega) (by omega) (by omega) h3 D' (.inr (by rw [Nat.add_sub_cancel]; exact g)) c2
    · exact ih i _ h' (by omega) h1 (by omega) (by omega) D' c1 (.inr g)
omit e0 in
theorem qXm {a mm : Nat} (hm1 : a < mm) (hb : mm < n) {d : Array Int} (k : ∀ h' i, DaU F g0 B m n sp h' d → a ≤ i → i ≤ mm → (i = a ∨ qAO F d[mm]! d[i - 1]! = false) → (i = mm ∨ qAO F d[mm]! d[i]! = true) → qAA (some ⟨B, 0, none⟩) n c (i : Int) (mm : Int) h' K) :
    ∀ (q i j : Nat) (h : Heap), j - i ≤ q → a ≤ i → i ≤ j → j ≤ mm → DaU F g0 B m n sp h d → (i = a ∨ qAO F d[mm]! d[i - 1]! = false) → (j = mm ∨ qAO F d[mm]! d[j]! = true) →
    qAW (some ⟨B, 0, none⟩) n c (mm : Int) (i : Int) (j : Int) h K := by
  intro q
  induction q with
  | zero =>
    intro i j h hq h1 h2 h3 D c1 c2
    refine qEW _ _ _ _ _ _ _ _ ?_
    unfold qCX
    have : i = j := by omega
    subst this
    exact Br.no (by simp) (k h i D h1 (by omega) c1 c2)
  | succ q ih =>
    intro i j h hq h1 h2 h3 D c1 c2
    refine qEW _ _ _ _ _ _ _ _ ?_
    unfold qCX
    by_cases e : i = j
    · subst e
      exact Br.no (by simp) (k h i D h1 (by omega) c1 c2)
    rw [qRu (by omega), qM0 (by omega)]
    refine Br.yes (decide_eq_true (by omega)) (qTA D hm trivial rfl rfl (by omega) (by omega) fun h' D' => Br.intro (fun g => ?_) fun g => ?_)
    · exact ih _ j h' (by omega) (by omega) (by omega) h3 D' (.inr (by rw [Nat.add_sub_cancel]; simpa using g)) c2
    · exact ih i _ h' (by omega) h1 (by omega) (by omega) D' c1 (.inr (by simpa using g))
end
end Go.Proofs.YtjihfieahkbohaaGreat

/- Dues put in order, stably: whole. -/
namespace Go.Proofs.YtjihfieahkbohaaGreat
open Go Go.Sy Go.Value Go.Sort
set_option linter.unusedVariables false
set_option linter.unusedSimpArgs false

section
variable {F : List Du} {g0 : Heap} {B m n c : Nat} {sp : List Value} (e0 : g0 B = none) (hm : F.length = m) (hn : n ≤ 1000000)
include e0 hm hn
omit e0 in
theorem qXo {K : Value → Heap → Prop} {a mm b mid nn s0 r0 : Nat} (hb : b ≤ n) (h1 : nn ≤ s0 + b) (h2 : r0 ≤ nn) (h3 : r0 ≤ n) (hnn : nn ≤ 2000000) {d : Array Int}
    (k : ∀ h' st, DaU F g0 B m n sp h' d → s0 ≤ st → st ≤ r0 → (st = s0 ∨ qAO F d[nn - st]! d[st - 1]! = false) → (st = r0 ∨ qAO F d[nn - st - 1]! d[st]! = true) → qB2 (some ⟨B, 0, none⟩) n c (a : Int) (mm : Int) (b : Int) (mid : Int) (nn : Int) (st : Int) h' K) :
    ∀ (q st r : Nat) (h : Heap), r - st ≤ q → s0 ≤ st → st ≤ r → r ≤ r0 → DaU F g0 B m n sp h d → (st = s0 ∨ qAO F d[nn - st]! d[st - 1]! = false) → (r = r0 ∨ qAO F d[nn - r - 1]! d[r]! = true) →
    qi (some ⟨B, 0, none⟩) n c (a : Int) (mm : Int) (b : Int) (mid : Int) (nn : Int) (st : Int) (r : Int) ((nn : Int) - 1) h K := by
  intro q
  induction q with
  | zero =>
    intro st r h hq g1 g2 g3 D c1 c2
    refine qEY _ _ _ _ _ _ _ _ _ _ _ _ _ ?_
    unfold qCY
    have : st = r := by omega
    subst this
    exact Br.no (by simp) (k h st D g1 g3 c1 c2)
  | succ q ih =>
    intro st r h hq g1 g2 g3 D c1 c2
    refine qEY _ _ _ _ _ _ _ _ _ _ _ _ _ ?_
    unfold qCY
    by_cases e : st = r
    · subst e
      exact Br.no (by simp) (k h st D g1 g3 c1 c2)
    have w1 : IntKind.wrap .i64 ((nn : Int) - 1 - (((st + r) / 2 : Nat) : Int)) = ((nn - (st + r) / 2 - 1 : Nat) : Int) := by rw [qE7 (by omega) (by omega)]; omega
    rw [qRu (by omega), w1, qM0 (by omega)]
    refine Br.yes (decide_eq_true (by omega)) (qTA D hm trivial rfl rfl (by omega) (by omega) fun h' D' => Br.intro (fun g => ?_) fun g => ?_)
    · exact ih _ r h' (by omega) (by omega) (by omega) g3 D' (.inr (by rw [Nat.add_sub_cancel, ← Nat.sub_sub]; simpa using g)) c2
    · exact ih st _ h' (by omega) g1 (by omega) (by omega) D' c1 (.inr (by simpa using g))
theorem qOk : ∀ (q a mm b : Nat) (h : Heap) (d : Array Int) (K : Value → Heap → Prop), b - a ≤ q → a < mm → mm < b → b ≤ n → DaU F g0 B m n sp h d → SortedIn (qAO F) a mm d → SortedIn (qAO F) mm b d →
    (∀ h' d', DaU F g0 B m n sp h' d' → PermIn a b d d' → SortedIn (qAO F) a b d' → K (tuple #[]) h') →
    CallA Tryz.prog qAF [slice (some ⟨B, 0, none⟩) n c, .int .i64 (a : Int), .int .i64 (mm : Int), .int .i64 (b : Int), func (Fn.func qI) #[] #[]] h K := by
  intro q
  induction q with
  | zero => intro a mm b h d K hq h1 h2; omega
  | succ q ih =>
    intro a mm b h d K hq h1 h2 hb D sa sb k
    have z : d.size = n := D.sz
    refine qHk _ _ _ _ _ _ _ _ ?_
    unfold qEs
    have w1 : IntKind.wrap .i64 ((mm : Int) - (a : Int)) = ((mm - a : Nat) : Int) := by rw [qE7 (by omega) (by omega)]; omega
    have w2 : IntKind.wrap .i64 ((b : Int) - (mm : Int)) = ((b - mm : Nat) : Int) := by rw [qE7 (by omega) (by omega)]; omega
    rw [w1, w2]
    refine Br.intro (fun g => ?_) fun g => ?_
    · have g : mm = a + 1 := by
        have : ((mm - a : Nat) : Int) = 1 := by simpa using g
        omega
      subst g
      refine qXw hm hn (by omega) hb (fun h' i D' g1 g2 c1 c2 => ?_) _ _ _ h (Nat.le_refl _) (Nat.le_refl _) (by omega) (Nat.le_refl _) D (.inl rfl) (.inl rfl)
      refine qXv e0 hn g1 (hi := b) (lo := a) g2 hb (Nat.le_refl _) (fun h2 d2 D2 r P2 => ?_) (i - 1 - a) a h' d (by omega) (Nat.le_refl _) D' (MvR.nil d a) (permIn_refl d a b)
      exact k h2 d2 D2 P2 (qSI (qOY F) g1 g2 sb c1 c2 r)
    refine Br.intro (fun g => ?_) fun g' => ?_
    · have g : b = mm + 1 := by
        have : ((b - mm : Nat) : Int) = 1 := by simpa using g
        omega
      subst g
      refine qXm hm hn (by omega) (by omega) (fun h' i D' g1 g2 c1 c2 => ?_) _ _ _ h (Nat.le_refl _) (Nat.le_refl _) (by omega) (Nat.le_refl _) D (.inl rfl) (.inl rfl)
      refine qXt e0 hn g2 (hi := mm + 1) (lo := a) (by omega) hb g1 (fun h2 d2 D2 r P2 => ?_) (mm - i) mm h' d (by omega) (Nat.le_refl _) D' (MvL.nil d mm) (permIn_refl d a (mm + 1))
      exact k h2 d2 D2 P2 (qWf (qOY F) g1 g2 sa c1 c2 r)
    rw [qRu (by omega)]
    have hmid : (a + b) / 2 = (a + b) / 2 := rfl
    generalize hgm : (a + b) / 2 = mid at *
    have w3 : IntKind.wrap .i64 ((mid : Int) + (mm : Int)) = ((mid + mm : Nat) : Int) := by rw [qE7 (by omega) (by omega)]; omega
    have w4 : IntKind.wrap .i64 (((mid + mm : Nat) : Int) - 1) = ((mid + mm : Nat) : Int) - 1 := qE7 (by omega) (by omega)
    rw [w3, w4]
    have go : ∀ s0 r0, s0 = (if mm > mid then mid + mm - b else a) → r0 = (if mm > mid then mid else mm) →
        qi (some ⟨B, 0, none⟩) n c (a : Int) (mm : Int) (b : Int) (mid : Int) ((mid + mm : Nat) : Int) (s0 : Int) (r0 : Int) (((mid + mm : Nat) : Int) - 1) h K := fun s0 r0 hs hr => by
      have b1 : mid + mm ≤ s0 + b := by split at hs <;> omega
      have b2 : r0 ≤ mid + mm ∧ r0 ≤ n ∧ s0 ≤ r0 := by split at hs <;> rename_i g <;> (first | rw [if_pos g] at hr | rw [if_neg g] at hr) <;> omega
      refine qXo hm hn hb b1 b2.1 b2.2.1 (by omega) (fun h' st D' g1 g2 c1 c2 => ?_) (r0 - s0) s0 r0 h (Nat.le_refl _) (Nat.le_refl _) b2.2.2 (Nat.le_refl _) D (.inl rfl) (.inl rfl)
      refine qGf _ _ _ _ _ _ _ _ _ _ _ ?_
      unfold qDe
      have we : IntKind.wrap .i64 (((mid + mm : Nat) : Int) - (st : Int)) = ((mid + mm - st : Nat) : Int) := by rw [qE7 (by omega) (by omega)]; omega
      rw [we]
      subst hs hr
      have fin : ∀ hA d1, DaU F g0 B m n sp hA d1 → RotR d d1 mm (mm - st) (mid + mm - st - mm) → PermIn a b d d1 →
          qAJ (some ⟨B, 0, none⟩) n c (a : Int) (b : Int) (mid : Int) (st : Int) ((mid + mm - st : Nat) : Int) hA K := fun hA d1 D1 r P1 => by
        obtain ⟨⟨q1, q2, q3, q4, q5, q6, q7⟩, t1, t2, t3, t4, cross⟩ := parted (qOY F) h1 h2 hgm.symm rfl rfl sa sb g1 g2 c1 c2 r
        have z1 : d1.size = n := D1.sz
        refine qGd _ _ _ _ _ _ _ _ _ _ ?_
        unfold qDg
        have fin2 : ∀ h2 d2, DaU F g0 B m n sp h2 d2 → PermIn a mid d1 d2 → SortedIn (qAO F) a mid d2 →
            qAK (some ⟨B, 0, none⟩) n c (b : Int) (mid : Int) ((mid + mm - st : Nat) : Int) h2 K := fun h2 d2 D2 P2 s2 => by
          have z2 : d2.size = n := D2.sz
          have same : ∀ i, mid ≤ i → d2[i]! = d1[i]! := fun i hi => P2.2.1 i (by omega)
          have t3' : SortedIn (qAO F) mid (mid + mm - st) d2 := fun i j x1 x2 x3 => by rw [same i x1, same j (by omega)]; exact t3 i j x1 x2 x3
          have t4' : SortedIn (qAO F) (mid + mm - st) b d2 := fun i j x1 x2 x3 => by rw [same i (by omega), same j (by omega)]; exact t4 i j x1 x2 x3
          have last : ∀ h3 d3, DaU F g0 B m n sp h3 d3 → PermIn mid b d2 d3 → SortedIn (qAO F) mid b d3 → K (tuple #[]) h3 := fun h3 d3 D3 P3 s3 => by
            obtain ⟨u1, u2⟩ := qWN (by omega) (by omega) (by omega) cross P2 s2 P3 s3
            exact k h3 d3 D3 (permIn_trans _ _ _ _ _ P1 u1) u2
          refine qGe _ _ _ _ _ _ _ _ ?_
          unfold qDl
          refine Br.dec (fun x1 => Br.dec (fun x2 => ?_) fun x2 => Ret.mk ?_) fun x1 => Ret.mk ?_
          · exact ih mid _ b h2 d2 _ (by omega) (by omega) (by omega) hb D2 t3' t4' fun h3 d3 D3 P3 s3 => ⟨rfl, Ret.mk (last h3 d3 D3 P3 s3)⟩
          · have e : mid + mm - st = b := by omega
            rw [e] at t3'
            exact last h2 d2 D2 (permIn_refl d2 mid b) t3'
          · have e : mid + mm - st = mid := by omega
            rw [e] at t4'
            exact last h2 d2 D2 (permIn_refl d2 mid b) t4'
        refine Br.dec (fun x1 => Br.dec (fun x2 => ?_) fun x2 => ?_) fun x1 => ?_
        · exact ih a st mid hA d1 _ (by omega) (by omega) (by omega) (by omega) D1 t1 t2 fun h3 d3 D3 P3 s3 => ⟨rfl, fin2 h3 d3 D3 P3 s3⟩
        · have e : st = mid := by omega
          rw [e] at t1
          exact fin2 hA d1 D1 (permIn_refl d1 a mid) t1
        · have e : st = a := by omega
          rw [e] at t2
          exact fin2 hA d1 D1 (permIn_refl d1 a mid) t2
      have hst : st ≤ mm ∧ mm ≤ mid + mm - st ∧ mid + mm - st ≤ b ∧ a ≤ st := by split at g1 <;> rename_i g <;> (first | rw [if_pos g] at g2 | rw [if_neg g] at g2) <;> omega
      refine Br.dec (fun x1 => Br.dec (fun x2 => ?_) fun x2 => ?_) fun x1 => ?_
      · refine qUu e0 hn (by omega) (by omega) (by omega) D' fun h1 d1 D1 r P1 => ⟨rfl, fin h1 d1 D1 r (permIn_mono _ _ _ _ _ _ hst.2.2.2 hst.2.2.1 (by omega) P1)⟩
      · have e : mid + mm - st - mm = 0 := by omega
        exact fin h' d D' (by rw [e]; exact RotR.right d mm _) (permIn_refl d a b)
      · have e : mm - st = 0 := by omega
        exact fin h' d D' (by rw [e]; exact RotR.left d mm _) (permIn_refl d a b)
    refine Br.dec (fun g => ?_) fun g => ?_
    · have w5 : IntKind.wrap .i64 (((mid + mm : Nat) : Int) - (b : Int)) = ((mid + mm - b : Nat) : Int) := by rw [qE7 (by omega) (by omega)]; omega
      rw [w5]
      have g : mm > mid := by omega
      exact go _ _ (by rw [if_pos g]) (by rw [if_pos g])
    · have g : ¬ mm > mid := by omega
      exact go _ _ (by rw [if_neg g]) (by rw [if_neg g])
/-! block by block -/
def Blk (F : List Du) (n s : Nat) (d : Array Int) : Prop := ∀ k, SortedIn (qAO F) (k * s) (min ((k + 1) * s) n) d
omit e0 hm hn in
theorem qHo {a b lo hi : Nat} {d d' : Array Int} (P : PermIn lo hi d d') (s : SortedIn (qAO F) a b d) (h : b ≤ lo ∨ hi ≤ a) : SortedIn (qAO F) a b d' := fun i j h1 h2 h3 => by
  rw [P.2.1 i (by omega), P.2.1 j (by omega)]; exact s i j h1 h2 h3
theorem qVK {K : Value → Heap → Prop} {s : Nat} (hs : 1 ≤ s) (hsn : s < n) {d0 : Array Int}
    (k : ∀ h' d', DaU F g0 B m n sp h' d' → PermIn 0 n d0 d' → Blk F n (2 * s) d' → qr (some ⟨B, 0, none⟩) n c (n : Int) ((2 * s : Nat) : Int) h' K)
    (t : Nat) (h : Heap) (d : Array Int) (ht : t * (2 * s) ≤ n) (D : DaU F g0 B m n sp h d) (P : PermIn 0 n d0 d) (i1 : ∀ i, i < t → SortedIn (qAO F) (i * (2 * s)) ((i + 1) * (2 * s)) d) (i2 : ∀ i, 2 * t ≤ i → SortedIn (qAO F) (i * s) (min ((i + 1) * s) n) d)
    (next : t * (2 * s) + 2 * s ≤ n → ∀ h' d', DaU F g0 B m n sp h' d' → PermIn 0 n d0 d' → (∀ i, i < t + 1 → SortedIn (qAO F) (i * (2 * s)) ((i + 1) * (2 * s)) d') → (∀ i, 2 * (t + 1) ≤ i → SortedIn (qAO F) (i * s) (min ((i + 1) * s) n) d') →
      qAH (some ⟨B, 0, none⟩) n c (n : Int) (s : Int) ((t * (2 * s) + 2 * s : Nat) : Int) ((t * (2 * s) + 2 * s + 2 * s : Nat) : Int) h' K) :
    qAH (some ⟨B, 0, none⟩) n c (n : Int) (s : Int) ((t * (2 * s) : Nat) : Int) ((t * (2 * s) + 2 * s : Nat) : Int) h K := by
  refine qHQ _ _ _ _ _ _ _ _ _ ?_
  unfold qEv
  have ea : 2 * t * s = t * (2 * s) := by rw [Nat.mul_comm 2 t, Nat.mul_assoc]
  have ea1 : (2 * t + 1) * s = t * (2 * s) + s := by rw [Nat.add_mul, Nat.one_mul, ea]
  have ea2 : (2 * t + 1 + 1) * s = t * (2 * s) + 2 * s := by rw [Nat.add_mul (2 * t + 1), Nat.one_mul, ea1]; omega
  have es : (t + 1) * (2 * s) = t * (2 * s) + 2 * s := Nat.succ_mul _ _
  have b0 := i2 (2 * t) (Nat.le_refl _)
  have b1 := i2 (2 * t + 1) (by omega)
  rw [ea, ea1] at b0
  rw [ea1, ea2] at b1
  have lo1 : ∀ i, i < t → (i + 1) * (2 * s) ≤ t * (2 * s) := fun i hi => Nat.mul_le_mul_right _ (by omega)
  have hi2 : ∀ i, 2 * (t + 1) ≤ i → t * (2 * s) + 2 * s ≤ i * s := fun i hi => by
    have := Nat.mul_le_mul_right s hi
    rw [show 2 * (t + 1) = 2 * t + 1 + 1 by omega, ea2] at this
    exact this
  generalize EQA : t * (2 * s) = A at *
  have w1 : IntKind.wrap .i64 ((A : Int) + (s : Int)) = ((A + s : Nat) : Int) := by rw [qE7 (by omega) (by omega)]; omega
  have w2 : IntKind.wrap .i64 (2 * (s : Int)) = ((2 * s : Nat) : Int) := by rw [qE7 (by omega) (by omega)]; omega
  have w3 : IntKind.wrap .i64 (((A + 2 * s : Nat) : Int) + ((2 * s : Nat) : Int)) = ((A + 2 * s + 2 * s : Nat) : Int) := by rw [qE7 (by omega) (by omega)]; omega
  have w4 : IntKind.wrap .i64 ((s : Int) * 2) = ((2 * s : Nat) : Int) := by rw [qE7 (by omega) (by omega)]; omega
  rw [w1, w2, w3, w4]
  have z : d.size = n := D.sz
  -- the blocks behind
  have blk : ∀ d', (∀ i, i < t → SortedIn (qAO F) (i * (2 * s)) ((i + 1) * (2 * s)) d') → SortedIn (qAO F) A n d' → n ≤ A + 2 * s → t * (2 * s) = A → Blk F n (2 * s) d' := fun d' j1 j2 hA eA i => by
    by_cases g : i < t
    · rw [Nat.min_eq_left (by have := lo1 i g; omega)]; exact j1 i g
    · by_cases g2 : i = t
      · subst g2
        rw [eA]
        intro x y x1 x2 x3
        exact j2 x y x1 x2 (by omega)
      · intro x y x1 x2 x3
        have : (t + 1) * (2 * s) ≤ i * (2 * s) := Nat.mul_le_mul_right _ (by omega)
        omega
  refine Br.dec (fun g => ?_) fun g => ?_
  · have b1' : SortedIn (qAO F) (A + s) (A + 2 * s) d := by rw [Nat.min_eq_left (by omega)] at b1; exact b1
    have b0' : SortedIn (qAO F) A (A + s) d := by rw [Nat.min_eq_left (by omega)] at b0; exact b0
    refine qOk e0 hm hn _ A (A + s) (A + 2 * s) h d _ (Nat.le_refl _) (by omega) (by omega) (by omega) D b0' b1' fun h' d' D' P' s' => ⟨rfl, ?_⟩
    refine next (by omega) h' d' D' (permIn_trans _ _ _ _ _ P (permIn_mono _ _ _ _ _ _ (Nat.zero_le _) (by omega) (by omega) P')) (fun i hi => ?_) fun i hi => ?_
    · by_cases g2 : i < t
      · exact qHo P' (i1 i g2) (.inl (lo1 i g2))
      · have : i = t := by omega
        subst this
        rw [es, EQA]
        exact s'
    · exact qHo P' (i2 i (by omega)) (.inr (hi2 i hi))
  · refine Br.dec (fun g2 => ?_) fun g2 => ?_
    · have b1' : SortedIn (qAO F) (A + s) n d := by rw [Nat.min_eq_right (by omega)] at b1; exact b1
      have b0' : SortedIn (qAO F) A (A + s) d := by rw [Nat.min_eq_left (by omega)] at b0; exact b0
      refine qOk e0 hm hn _ A (A + s) n h d _ (Nat.le_refl _) (by omega) (by omega) (Nat.le_refl _) D b0' b1' fun h' d' D' P' s' => ⟨rfl, ?_⟩
      exact k h' d' D' (permIn_trans _ _ _ _ _ P (permIn_mono _ _ _ _ _ _ (Nat.zero_le _) (Nat.le_refl _) (by omega) P')) (blk d' (fun i hi => qHo P' (i1 i hi) (.inl (lo1 i hi))) s' (by omega) EQA)
    · have b0' : SortedIn (qAO F) A n d := by rw [Nat.min_eq_right (by omega)] at b0; exact b0
      exact k h d D P (blk d i1 b0' (by omega) EQA)
theorem qXz {K : Value → Heap → Prop} {s : Nat} (hs : 1 ≤ s) (hsn : s < n) {d0 : Array Int}
    (k : ∀ h' d', DaU F g0 B m n sp h' d' → PermIn 0 n d0 d' → Blk F n (2 * s) d' → qr (some ⟨B, 0, none⟩) n c (n : Int) ((2 * s : Nat) : Int) h' K) :
    ∀ (q t : Nat) (h : Heap) (d : Array Int), n - t * (2 * s) ≤ q → t * (2 * s) ≤ n → DaU F g0 B m n sp h d → PermIn 0 n d0 d → (∀ i, i < t → SortedIn (qAO F) (i * (2 * s)) ((i + 1) * (2 * s)) d) → (∀ i, 2 * t ≤ i → SortedIn (qAO F) (i * s) (min ((i + 1) * s) n) d) →
    qAH (some ⟨B, 0, none⟩) n c (n : Int) (s : Int) ((t * (2 * s) : Nat) : Int) ((t * (2 * s) + 2 * s : Nat) : Int) h K := by
  intro q
  induction q with
  | zero =>
    intro t h d hq ht D P i1 i2
    exact qVK e0 hm hn hs hsn k t h d ht D P i1 i2 (fun hb => by omega)
  | succ q ih =>
    intro t h d hq ht D P i1 i2
    exact qVK e0 hm hn hs hsn k t h d ht D P i1 i2 (fun hb h' d' D' P' j1 j2 => by
      have e : (t + 1) * (2 * s) = t * (2 * s) + 2 * s := Nat.succ_mul _ _
      have := ih (t + 1) h' d' (by omega) (by omega) D' P' j1 j2
      rw [e] at this
      exact this)
theorem qXq {K : Value → Heap → Prop} {d0 : Array Int} (k : ∀ h' d', DaU F g0 B m n sp h' d' → PermIn 0 n d0 d' → SortedIn (qAO F) 0 n d' → K (tuple #[]) h') :
    ∀ (q s : Nat) (h : Heap) (d : Array Int), n - s ≤ q → 1 ≤ s → s ≤ 4000000 → DaU F g0 B m n sp h d → PermIn 0 n d0 d → Blk F n s d →
    qr (some ⟨B, 0, none⟩) n c (n : Int) (s : Int) h K := by
  have fin : ∀ (s : Nat) (h : Heap) (d : Array Int), n ≤ s → DaU F g0 B m n sp h d → PermIn 0 n d0 d → Blk F n s d → K (tuple #[]) h := fun s h d hs D P b => by
    have := b 0
    rw [Nat.zero_mul, Nat.zero_add, Nat.one_mul, Nat.min_eq_right hs] at this
    exact k h d D P this
  intro q
  induction q with
  | zero =>
    intro s h d hq h1 h2 D P b
    refine qCm _ _ _ _ _ _ _ ?_
    unfold qBT
    exact Br.no (decide_eq_false (by omega)) (Ret.mk (fin s h d (by omega) D P b))
  | succ q ih =>
    intro s h d hq h1 h2 D P b
    refine qCm _ _ _ _ _ _ _ ?_
    unfold qBT
    refine Br.dec (fun g => ?_) fun g => Ret.mk (fin s h d (by omega) D P b)
    have w2 : IntKind.wrap .i64 (2 * (s : Int)) = ((2 * s : Nat) : Int) := by rw [qE7 (by omega) (by omega)]; omega
    rw [w2]
    have := qXz (c := c) (K := K) e0 hm hn h1 (by omega) (d0 := d0) (fun h' d' D' P' b' => ih (2 * s) h' d' (by omega) (by omega) (by omega) D' P' b') n 0 h d (by omega) (by omega) D P (fun i hi => by omega) (fun i _ => b i)
    rw [Nat.zero_mul, Nat.zero_add] at this
    exact this
theorem qTY {K : Value → Heap → Prop} {d0 : Array Int} (k : ∀ h' d', DaU F g0 B m n sp h' d' → PermIn 0 n d0 d' → SortedIn (qAO F) 0 n d' → K (tuple #[]) h')
    (t : Nat) (h : Heap) (d : Array Int) (ht : t * 20 ≤ n) (D : DaU F g0 B m n sp h d) (P : PermIn 0 n d0 d) (b : ∀ i, i < t → SortedIn (qAO F) (i * 20) ((i + 1) * 20) d)
    (next : t * 20 + 20 ≤ n → ∀ h' d', DaU F g0 B m n sp h' d' → PermIn 0 n d0 d' → (∀ i, i < t + 1 → SortedIn (qAO F) (i * 20) ((i + 1) * 20) d') →
      qAI (some ⟨B, 0, none⟩) n c (n : Int) 20 ((t * 20 + 20 : Nat) : Int) ((t * 20 + 20 + 20 : Nat) : Int) h' K) :
    qAI (some ⟨B, 0, none⟩) n c (n : Int) 20 ((t * 20 : Nat) : Int) ((t * 20 + 20 : Nat) : Int) h K := by
  refine qEt _ _ _ _ _ _ _ _ _ ?_
  unfold qCn
  have z : d.size = n := D.sz
  have w : IntKind.wrap .i64 (((t * 20 + 20 : Nat) : Int) + 20) = ((t * 20 + 20 + 20 : Nat) : Int) := by rw [qE7 (by omega) (by omega)]; omega
  rw [w]
  refine Br.dec (fun g => ?_) fun g => ?_
  · refine qMK e0 hm trivial hn (by omega) (by omega) D fun h' D' => ⟨rfl, ?_⟩
    obtain ⟨p, s⟩ := insertionSort_holds (qOY F) d (t * 20) (t * 20 + 20) (by omega) (by omega)
    refine next (by omega) h' _ D' (permIn_trans _ _ _ _ _ P (permIn_mono _ _ _ _ _ _ (Nat.zero_le _) (by omega) (by omega) p)) fun i hi => ?_
    by_cases g2 : i < t
    · exact qHo p (b i g2) (.inl (by omega))
    · have : i = t := by omega
      subst this
      rw [show (i + 1) * 20 = i * 20 + 20 by omega]; exact s
  · refine qMK e0 hm trivial hn (by omega) (Nat.le_refl _) D fun h' D' => ⟨rfl, ?_⟩
    obtain ⟨p, s⟩ := insertionSort_holds (qOY F) d (t * 20) n (by omega) (by omega)
    refine qXq e0 hm hn k n 20 h' _ (by omega) (by decide) (by decide) D' (permIn_trans _ _ _ _ _ P (permIn_mono _ _ _ _ _ _ (Nat.zero_le _) (Nat.le_refl _) (by omega) p)) fun i => ?_
    by_cases g2 : i < t
    · rw [Nat.min_eq_left (by omega)]; exact qHo p (b i g2) (.inl (by omega))
    · by_cases g3 : i = t
      · subst g3
        intro x y x1 x2 x3
        exact s x y x1 x2 (by omega)
      · intro x y x1 x2 x3
        omega
theorem qXr {K : Value → Heap → Prop} {d0 : Array Int} (k : ∀ h' d', DaU F g0 B m n sp h' d' → PermIn 0 n d0 d' → SortedIn (qAO F) 0 n d' → K (tuple #[]) h') :
    ∀ (q t : Nat) (h : Heap) (d : Array Int), n - t * 20 ≤ q → t * 20 ≤ n → DaU F g0 B m n sp h d → PermIn 0 n d0 d → (∀ i, i < t → SortedIn (qAO F) (i * 20) ((i + 1) * 20) d) →
    qAI (some ⟨B, 0, none⟩) n c (n : Int) 20 ((t * 20 : Nat) : Int) ((t * 20 + 20 : Nat) : Int) h K := by
  intro q
  induction q with
  | zero =>
    intro t h d hq ht D P b
    exact qTY e0 hm hn k t h d ht D P b fun hb => by omega
  | succ q ih =>
    intro t h d hq ht D P b
    exact qTY e0 hm hn k t h d ht D P b fun hb h' d' D' P' b' => by
      have := ih (t + 1) h' d' (by omega) (by omega) D' P' b'
      rw [show (t + 1) * 20 = t * 20 + 20 by omega] at this
      exact this
theorem qUN {K : Value → Heap → Prop} {h : Heap} {d : Array Int} (D : DaU F g0 B m n sp h d) (k : ∀ h' d', DaU F g0 B m n sp h' d' → PermIn 0 n d d' → SortedIn (qAO F) 0 n d' → K (tuple #[]) h') :
    CallA Tryz.prog qv [slice (some ⟨B, 0, none⟩) n c, func (Fn.func qI) #[] #[]] h K := by
  refine qDQ _ _ _ _ _ ?_
  unfold qBW
  refine qFf _ _ _ _ _ _ ?_
  unfold qC5
  exact qXr (K := fun v h => v = tuple #[] ∧ Ret h K (tuple #[])) e0 hm hn (d0 := d) (fun h' d' D' P s => ⟨rfl, Ret.mk (k h' d' D' P s)⟩) n 0 h d (by omega) (Nat.zero_le _) D (permIn_refl d 0 n) (fun i hi => by omega)
end
end Go.Proofs.YtjihfieahkbohaaGreat
