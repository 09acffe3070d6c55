import Derived.Test.YtjihfieahkbohaaGreatM09
import Derived.Test.YtjihfieahkbohaaGreatM07
import Derived.Test.YtjihfieahkbohaaGreatM03
import Derived.Test.YtjihfieahkbohaaGreatM04
/- Rooms filled; a list of ones; shares evenly. -/
namespace Go.Proofs.YtjihfieahkbohaaGreat
open Go Go.Sy Go.Value
set_option linter.unusedVariables false
set_option linter.unusedSimpArgs false

section
variable {h0 : Heap} {K : Value → Heap → Prop}
/-! a list of ones -/
def ones (n : Nat) : List Int := List.replicate n 1
def hiP (x y : Int) : Int := (IntKind.wrap IntKind.u64 (IntKind.wrap IntKind.u64 (IntKind.wrap IntKind.u64 (Int.fdiv x 4294967296 * Int.fdiv y 4294967296) + Int.fdiv (IntKind.wrap IntKind.u64 (IntKind.wrap IntKind.u64 (Int.fdiv x 4294967296 * IntKind.wrap IntKind.u64 (↑(BitVec.toNat (BitVec.ofInt 64 y &&& BitVec.ofInt 64 4294967295)) : Int)) + Int.fdiv (IntKind.wrap IntKind.u64 (IntKind.wrap IntKind.u64 (↑(BitVec.toNat (BitVec.ofInt 64 x &&& BitVec.ofInt 64 4294967295)) : Int) * IntKind.wrap IntKind.u64 (↑(BitVec.toNat (BitVec.ofInt 64 y &&& BitVec.ofInt 64 4294967295)) : Int))) 4294967296)) 4294967296) + Int.fdiv (IntKind.wrap IntKind.u64 (IntKind.wrap IntKind.u64 (↑(BitVec.toNat (BitVec.ofInt 64 (IntKind.wrap IntKind.u64 (IntKind.wrap IntKind.u64 (Int.fdiv x 4294967296 * IntKind.wrap IntKind.u64 (↑(BitVec.toNat (BitVec.ofInt 64 y &&& BitVec.ofInt 64 4294967295)) : Int)) + Int.fdiv (IntKind.wrap IntKind.u64 (IntKind.wrap IntKind.u64 (↑(BitVec.toNat (BitVec.ofInt 64 x &&& BitVec.ofInt 64 4294967295)) : Int) * IntKind.wrap IntKind.u64 (↑(BitVec.toNat (BitVec.ofInt 64 y &&& BitVec.ofInt 64 4294967295)) : Int))) 4294967296)) &&& BitVec.ofInt 64 4294967295)) : Int) + IntKind.wrap IntKind.u64 (IntKind.wrap IntKind.u64 (↑(BitVec.toNat (BitVec.ofInt 64 x &&& BitVec.ofInt 64 4294967295)) : Int) * Int.fdiv y 4294967296))) 4294967296))
theorem qYN : ∀ y : Fin 65, hiP 1 (y.val : Int) = 0 := by decide +kernel
theorem qVt {h : Heap} {p : Nat} (hp : p ≤ 64) (k : K (tuple #[.int .u64 0, .int .u64 (p : Int)]) h) : CallA Tryz.prog qIU [.int .u64 1, .int .u64 (p : Int)] h K := by
  refine qP0 _ _ _ _ ?_
  unfold qLP
  refine qOb _ _ _ _ ?_
  unfold qJ8
  have e := qYN ⟨p, by omega⟩
  dsimp only at e
  refine Ret.mk ⟨hiP 1 (p : Int), IntKind.wrap .u64 (1 * (p : Int)), rfl, Ret.mk ?_⟩
  rw [e, Int.one_mul, qAQ (by omega) (by omega)]
  exact k
theorem qUm (n m : Nat) (h : m ≤ n) : (ones n).take m = ones m := by unfold ones; rw [List.take_replicate, Nat.min_eq_left h]
theorem qWs {r c : Nat} (hr : h0 r = none) (hc : c ≤ 64) (k : ∀ h', h0.le h' → At h' r (qf .i64 (ones c)) → K (slice (some ⟨r, 0, none⟩) c c) h') :
    ∀ (q n : Nat) (h : Heap) (sp : List Value), c - n ≤ q → 1 ≤ n → n + sp.length = c → h0.le h → At h r (qf .i64 (ones n) ++ sp) → qCK (some ⟨r, 0, none⟩) c c (n : Int) h K := by
  intro q
  induction q with
  | zero =>
    intro n h sp hq h1 hn l0 A
    refine qF5 _ _ _ _ _ _ ?_
    unfold qDZ
    have e : sp = [] := List.length_eq_zero_iff.1 (by omega)
    subst e
    rw [List.append_nil, show n = c from by simp at hn; omega] at A
    exact Br.no (by simp; omega) (Ret.mk (k h l0 A))
  | succ q ih =>
    intro n h sp hq h1 hn l0 A
    refine qF5 _ _ _ _ _ _ ?_
    unfold qDZ
    refine Br.dec (fun g => ⟨by omega, by omega, by omega, by omega, ?_⟩) fun g => ?_
    · rw [Int.toNat_natCast]
      have hk : min n (c - n) ≤ n ∧ 1 ≤ min n (c - n) ∧ min n (c - n) ≤ sp.length := by omega
      generalize min n (c - n) = kk at *
      have R : rdL h (some ⟨r, 0, none⟩) (qf .i64 (ones kk)) := by
        have r := A.toRd
        have e : qf .i64 (ones n) = qf .i64 (ones kk) ++ qf .i64 ((ones n).drop kk) := by rw [← qDY, ← qUm n kk hk.1, List.take_append_drop]
        rw [e] at r
        exact qMe r
      have hl : ∀ m, (qf .i64 (ones m)).length = m := fun m => by rw [qw]; simp [ones]
      have A2 := A.set (o := n) (ws := qf .i64 (ones kk))
      have se := qLR (qf .i64 (ones kk)) (qf .i64 (ones n)) sp (by rw [hl]; exact hk.2.2)
      rw [hl, hl] at se
      rw [se, ← qDY] at A2
      have e3 : ones n ++ ones kk = ones (n + kk) := by unfold ones; rw [List.replicate_append_replicate]
      rw [e3] at A2
      refine ⟨qf .i64 (ones kk), by rw [hl]; omega, R, qKH _ _, .inr ⟨r, n, ?_, ?_, ?_⟩⟩
      · unfold qGT
        rw [if_neg (by omega)]
        simp [Addr.add]; omega
      · exact A.canSt (by rw [List.length_append, hl, hl]; omega)
      · rw [wid (x := (n : Int) + (kk : Int)) (by omega) (by omega)]
        exact ih (n + kk) _ _ (by omega) (by omega) (by rw [List.length_drop]; omega) (qAf l0 hr) A2
    · have e : sp = [] := List.length_eq_zero_iff.1 (by omega)
      subst e
      rw [List.append_nil, show n = c from by simp at hn; omega] at A
      exact Ret.mk (k h l0 A)
theorem qXp {h : Heap} {b p : Nat} (hp1 : 1 ≤ p) (hp : p ≤ 64) (A : At h b [.int .i64 1]) (k : ∀ r h', h.le h' → h r = none → At h' r (qf .i64 (ones p)) → K (slice (some ⟨r, 0, none⟩) p p) h') :
    CallA Tryz.prog qD9 [slice (some ⟨b, 0, none⟩) 1 1, .int .i64 (p : Int)] h K := by
  refine qJy _ _ _ _ _ _ ?_
  unfold qGQ
  have w1 : IntKind.wrap .u64 (((1 : Nat) : Int)) = 1 := by decide
  have w2 : IntKind.wrap .u64 (p : Int) = (p : Int) := qAQ (by omega) (by omega)
  rw [w1, w2]
  refine Br.no (by simp) (qVt hp ⟨_, _, rfl, Br.no (by decide) (Br.no (by simp; omega) ?_)⟩)
  rw [wid (x := (p : Int)) (by omega) (by omega), Int.toNat_natCast]
  refine ⟨by omega, by omega, by omega, by omega, qr fun r h1 hr l1 A1 => ?_⟩
  have hne : b ≠ r := A.ne hr
  rw [Nat.min_eq_left hp1]
  have hz : qAm p [Value.int .i64 0] = .int .i64 0 :: qAm (p - 1) [Value.int .i64 0] := by
    obtain ⟨q, rfl⟩ : ∃ q, p = q + 1 := ⟨p - 1, by omega⟩
    rfl
  have A2 : At (h1.setN r 0 [.int .i64 1]) r (qf .i64 (ones 1) ++ qAm (p - 1) [.int .i64 0]) := by
    rw [hz] at A1
    exact A1.set (o := 0)
  refine ⟨[.int .i64 1], rfl, (A.le l1).toRd (ws := []), rfl, .inr ⟨r, 0, rfl, A1.canSt (by rw [hz]; simp), ?_⟩⟩
  exact qWs (h0 := h) hr hp (fun h' l' A' => k r h' l' hr A') p 1 _ _ (by omega) (Nat.le_refl _) (by rw [qCz]; simp; omega) (qAf l1 hr) A2
def qJl (t p : Int) : List Int × Int := if p > 64 then ([], 4) else if t < 0 then ([], 1) else if p < 1 then ([], 1) else qJV t (ones p.toNat)
theorem qX9 {h : Heap} {t p : Int} (ht : I64 t)
    (k : ∀ p' c' h', h.le h' → Ints .i64 h' p' (qJl t p).1 → K (tuple #[slice p' (qJl t p).1.length c', .int .i64 (qJl t p).2]) h') :
    CallA Tryz.prog qKW [.int .i64 t, .int .i64 p] h K := by
  refine qRq _ _ _ _ ?_
  unfold qND
  unfold qJl at k
  refine Br.dec (fun g1 => ?_) fun g1 => ?_
  · rw [if_pos g1] at k; exact Ret.mk (k none 0 h h.le_refl (.inl rfl))
  rw [if_neg g1] at k
  refine Br.dec (fun g2 => ?_) fun g2 => ?_
  · rw [if_pos g2] at k; exact Ret.mk (k none 0 h h.le_refl (.inl rfl))
  rw [if_neg g2] at k
  refine Br.dec (fun g3 => ?_) fun g3 => ?_
  · rw [if_pos g3] at k; exact Ret.mk (k none 0 h h.le_refl (.inl rfl))
  rw [if_neg g3] at k
  obtain ⟨m, rfl⟩ : ∃ m : Nat, p = (m : Int) := ⟨p.toNat, by omega⟩
  rw [Int.toNat_natCast] at k
  refine qr fun r h1 hr l1 A1 => qXp (by omega) (by omega) A1 fun r2 h2 l2 hr2 A2 => ⟨_, _, _, rfl, ?_⟩
  have I2 : Ints .i64 h2 (some ⟨r2, 0, none⟩) (ones m) := At.toRd (ws := []) (by rw [List.append_nil]; exact A2)
  exact qWQ I2 (by simp [ones]) (by omega) (fun x hx => by rw [List.eq_of_mem_replicate hx]; unfold I64; omega) ht fun p' c' h' l' I' => ⟨_, _, _, _, rfl, Ret.mk (k p' c' h' (Heap.le_trans l1 (Heap.le_trans l2 l')) I')⟩
end
end Go.Proofs.YtjihfieahkbohaaGreat

/- The dues of nets: what plan.Schedule answers. -/
namespace Go.Proofs.YtjihfieahkbohaaGreat
open Go Go.Sy Go.Value
set_option linter.unusedVariables false
set_option linter.unusedSimpArgs false

/-! ### plainly -/
def qKs (ds : List Int) (i : Nat) : Bool := decide (0 ≤ ds.getD i 0 ∧ (0 < i → ds.getD (i - 1) 0 < ds.getD i 0))
def qLY (ds : List Int) : Bool := (List.range ds.length).all (qKs ds) && decide (1 ≤ ds.length ∧ ds.length ≤ 16)
def shL (n : Int) (p : Nat) : List Int := qIe n (ones p)
def qIQ (ds : List Int) (k m c : Nat) (n : Int) : List Du := if n < 0 ∧ 0 < (shL (-n) ds.length).getD k 0 then [⟨m, c, ds.getD k 0, (shL (-n) ds.length).getD k 0⟩] else []
def qN1 (ds : List Int) (k m : Nat) (row : List Int) (j : Nat) : List Du := (List.range j).flatMap fun c => qIQ ds k m c (row.getD c 0)
def qJY (ds : List Int) (k : Nat) (M : List (List Int)) (i : Nat) : List Du := (List.range i).flatMap fun m => qN1 ds k m (M.getD m []) (M.getD m []).length
def qMG (M : List (List Int)) (ds : List Int) : List Du := (List.range ds.length).flatMap fun k => qJY ds k M M.length
def qLQ (v : Int) (l : List Int) : Bool := l.any fun x => v == x
def qK2 (x : NRow) : Bool := decide ((x.l.length : Int) > 8)
def qIn (x : NRow) : Bool := qLQ (-9223372036854775808) x.l
def qLF (M : List (List Int)) (ds : List Int) : List Du × Int :=
  if qLY ds = false then ([], 1) else if 16 < M.length then ([], 4) else if (M.any fun l => decide ((l.length : Int) > 8)) = true then ([], 4)
  else if (M.any (qLQ (-9223372036854775808))) = true then ([], 3) else (qMG M ds, 0)
theorem qVg (p : Nat) : qP (ones p) = p := by
  unfold ones
  induction p with
  | zero => rfl
  | succ p ih =>
    rw [List.replicate_succ, qP, ih]
    omega
theorem qSH (p : Nat) : (ones p).length = p := List.length_replicate
theorem qON (n : Int) (p : Nat) : (shL n p).length = p := by unfold shL; rw [qOt, qSH]
theorem qQV {n : Int} {p : Nat} (h0 : 0 ≤ n) (h1 : 1 ≤ p) (h2 : p ≤ 64) : qJl n p = (shL n p, 0) := by
  unfold qJl
  rw [if_neg (by omega), if_neg (by omega), if_neg (by omega), Int.toNat_natCast]
  unfold qJV
  have e1 : qLE (ones p) = false := by
    unfold qLE ones
    rw [List.any_eq_false]
    intro x hx
    rw [List.eq_of_mem_replicate hx]
    decide
  have e2 : qLT (ones p) = true := by
    unfold qLT ones
    rw [List.any_eq_true]
    exact ⟨1, List.mem_replicate.2 ⟨by omega, rfl⟩, by decide⟩
  rw [if_neg (by rw [qSH]; omega), if_neg (by omega), if_neg (by rw [e1]; decide), if_neg (by rw [e2]; decide), qVg, qIG (by unfold I64; omega), if_neg (fun h => h rfl)]
  rfl
theorem qVf (ds : List Int) (k m c : Nat) (n : Int) : (qIQ ds k m c n).length ≤ 1 := by unfold qIQ; split <;> simp
theorem qNY {α : Type} {f : Nat → List α} {w : Nat} (h : ∀ i, (f i).length ≤ w) (n : Nat) : ((List.range n).flatMap f).length ≤ n * w := by
  induction n with
  | zero => simp
  | succ n ih =>
    rw [List.range_succ, List.flatMap_append, List.length_append, Nat.succ_mul]
    have := h n
    simp only [List.flatMap_cons, List.flatMap_nil, List.append_nil]
    omega
theorem qOa {α : Type} (f : Nat → List α) (n : Nat) : (List.range (n + 1)).flatMap f = (List.range n).flatMap f ++ f n := by rw [List.range_succ, List.flatMap_append]; simp
theorem qRc (ds : List Int) (k m : Nat) (row : List Int) (j : Nat) : (qN1 ds k m row j).length ≤ j := Nat.le_trans (qNY (fun i => qVf ds k m i _) j) (by omega)
theorem qVo {M : List (List Int)} {w : Nat} (h : ∀ l ∈ M, l.length ≤ w) (i : Nat) : (M.getD i []).length ≤ w := by
  rw [List.getD_eq_getElem?_getD]
  cases e : M[i]? with
  | none => simp
  | some l => exact h l (List.mem_of_getElem? e)
theorem qRW (ds : List Int) (k : Nat) {M : List (List Int)} (h : ∀ l ∈ M, l.length ≤ 8) (i : Nat) : (qJY ds k M i).length ≤ i * 8 := qNY (fun m => Nat.le_trans (qRc ds k m _ _) (qVo h m)) i

section
variable {h : Heap} {K : Value → Heap → Prop}
theorem qZS {q : Option Addr} {ds : List Int} {n c : Nat} (X : Ints .i64 h q ds) (hn : ds.length = n) (hs : n ≤ 1000000) (k : K (.bool (qLY ds)) h) :
    ∀ (m j : Nat), m + j = n → (List.range j).all (qKs ds) = true → qFO q n c q n c n j h K := by
  intro m
  induction m with
  | zero =>
    intro j hj ha
    refine qLr _ _ _ _ _ _ _ _ _ _ ?_
    unfold qIl
    have hj : j = n := by omega
    subst hj
    unfold qLY at k
    rw [hn, ha, Bool.true_and] at k
    refine Br.no (by simp) (Br.dec (fun g => Ret.mk ?_) fun g => Ret.mk ?_)
    · rw [show decide (1 ≤ j ∧ j ≤ 16) = decide ((j : Int) ≤ 16) by rw [decide_eq_decide]; omega] at k
      exact k
    · rw [decide_eq_false (by omega)] at k
      exact k
  | succ m ih =>
    intro j hj ha
    refine qLr _ _ _ _ _ _ _ _ _ _ ?_
    unfold qIl
    have hx : ds[j]? = some (ds.getD j 0) := by
      rw [List.getD_eq_getElem?_getD, List.getElem?_eq_getElem (by omega)]; rfl
    have bad : qKs ds j = false → K (.bool false) h := fun hb => by
      unfold qLY at k
      rw [show (List.range ds.length).all (qKs ds) = false by
        rw [List.all_eq_false]
        exact ⟨j, List.mem_range.2 (by omega), by rw [hb]; decide⟩, Bool.false_and] at k
      exact k
    have good : qKs ds j = true → qFO q n c q n c n ((j + 1 : Nat) : Int) h K := fun hb => by
      refine ih (j + 1) (by omega) ?_
      rw [List.range_succ, List.all_append, ha]
      simp [hb]
    refine Br.yes (by simp; omega) (ix X hn rfl hx (Br.dec (fun g => Ret.mk (bad ?_)) fun g => ?_))
    · unfold qKs; rw [decide_eq_false_iff_not]; omega
    rw [w1 (j := j) (by omega)]
    refine Br.dec (fun g2 => ?_) fun g2 => good ?_
    · obtain ⟨u, rfl⟩ : ∃ u, j = u + 1 := ⟨j - 1, by omega⟩
      have hw : IntKind.wrap .i64 (((u + 1 : Nat) : Int) - 1) = (u : Int) := by rw [qK (by omega) (by omega)]; omega
      have hy : ds[u]? = some (ds.getD u 0) := by
        rw [List.getD_eq_getElem?_getD, List.getElem?_eq_getElem (by omega)]; rfl
      rw [hw]
      refine ix X hn rfl hy (Br.dec (fun g3 => Ret.mk (bad ?_)) fun g3 => good ?_)
      · unfold qKs; rw [decide_eq_false_iff_not, Nat.add_sub_cancel]; omega
      · unfold qKs; rw [decide_eq_true_eq, Nat.add_sub_cancel]; omega
    · unfold qKs; rw [decide_eq_true_eq]; omega
theorem qXF {q : Option Addr} {ds : List Int} {n c : Nat} (X : Ints .i64 h q ds) (hn : ds.length = n) (hs : n ≤ 1000000) (k : K (.bool (qLY ds)) h) : CallA Tryz.prog qKL [slice q n c] h K := by
  refine qRX _ _ _ _ _ ?_
  unfold qM4
  exact qZS X hn hs k n 0 (by omega) rfl
theorem qY7 {q : Option Addr} {l : List Int} {n c : Nat} {v : Int} (X : Ints .i64 h q l) (hn : l.length = n) (hs : n ≤ 1000000) (k : ∀ i : Int, decide (i ≥ 0) = qLQ v l → K (.int .i64 i) h) :
    ∀ (m j : Nat), m + j = n → qLQ v l = qLQ v (l.drop j) → qCj q n c v n j h K := by
  intro m
  induction m with
  | zero =>
    intro j hj e
    refine qGL _ _ _ _ _ _ _ _ ?_
    unfold qDy
    rw [List.drop_eq_nil_of_le (by omega)] at e
    exact Br.no (by simp; omega) (Ret.mk (k _ (by rw [e]; exact decide_eq_false (by omega))))
  | succ m ih =>
    intro j hj e
    refine qGL _ _ _ _ _ _ _ _ ?_
    unfold qDy
    have hx : l[j]? = some l[j] := List.getElem?_eq_getElem (by omega)
    have e2 : qLQ v (l.drop j) = ((v == l[j]) || qLQ v (l.drop (j + 1))) := by rw [List.drop_eq_getElem_cons (by omega : j < l.length)]; rfl
    rw [e2] at e
    generalize l[j] = x at *
    refine Br.yes (by simp; omega) (ix X hn rfl hx ?_)
    cases eb : (v == x) with
    | true =>
      rw [eb, Bool.true_or] at e
      exact Br.yes rfl (Ret.mk (k _ (by rw [e]; simp)))
    | false =>
      rw [eb, Bool.false_or] at e
      refine Br.no rfl ?_
      rw [w1 (by omega)]
      exact ih (j + 1) (by omega) e
theorem qYc {a : Option Addr} {x : NRow} {m : Nat} (k : K (.bool (qK2 x)) h) : CallA Tryz.prog qA8 [slice a x.l.length m] h K := by
  refine qOi _ _ _ _ _ ?_
  unfold qJx
  exact Ret.mk k
theorem qXj {x : NRow} {m : Nat} (X : Ints .i64 h x.p x.l) (hs : x.l.length ≤ 1000000) (k : K (.bool (qIn x)) h) : CallA Tryz.prog qA5 [slice x.p x.l.length m] h K := by
  refine qOo _ _ _ _ _ ?_
  unfold qKG
  refine qJA _ _ _ _ _ _ ?_
  unfold qF7
  refine qKT _ _ _ _ _ _ ?_
  unfold qGc
  exact qY7 X rfl hs (fun i hi => ⟨_, rfl, Ret.mk ⟨_, rfl, by rw [hi]; exact Ret.mk k⟩⟩) x.l.length 0 (by omega) rfl
theorem qVW {p : Option Addr} {L : List NRow} {n c : Nat} (X : Nets h p L) (hn : L.length = n) (hs : n ≤ 1000000) 
    (k : ∀ v : Int, decide (v ≥ 0) = L.any qK2 → K (.int .i64 v) h) :
    ∀ (m j : Nat), m + j = n → L.any qK2 = (L.drop j).any qK2 → qA4 p n c n j h K := by
  intro m
  induction m with
  | zero =>
    intro j hj e
    refine qEB _ _ _ _ _ _ _ ?_
    unfold qCD
    rw [List.drop_eq_nil_of_le (by omega), List.any_nil] at e
    exact Br.no (by simp; omega) (Ret.mk (k _ (by rw [e]; decide)))
  | succ m ih =>
    intro j hj e
    refine qEB _ _ _ _ _ _ _ ?_
    unfold qCD
    have hx : L[j]? = some L[j] := List.getElem?_eq_getElem (by omega)
    rw [List.drop_eq_getElem_cons (by omega : j < L.length), List.any_cons] at e
    have hm : L[j] ∈ L := List.getElem_mem _
    generalize L[j] = x at *
    refine Br.yes (by simp; omega) (nx X hn rfl hx (qYc ⟨_, rfl, ?_⟩))
    cases eb : qK2 x with
    | true =>
      rw [eb, Bool.true_or] at e
      exact Br.yes rfl (Ret.mk (k _ (by rw [e]; simp)))
    | false =>
      rw [eb, Bool.false_or] at e
      refine Br.no rfl ?_
      rw [w1 (by omega)]
      exact ih (j + 1) (by omega) e
theorem qYU {p : Option Addr} {L : List NRow} {n c : Nat} (X : Nets h p L) (hn : L.length = n) (hs : n ≤ 1000000)  (k : K (.bool (L.any qK2)) h) :
    CallA Tryz.prog qy [slice p n c, func (Fn.func qA8) #[] #[]] h K := by
  refine qHF _ _ _ _ _ ?_
  unfold qD1
  refine qH3 _ _ _ _ _ ?_
  unfold qEm
  exact qVW X hn hs (fun v e => ⟨_, rfl, by rw [e]; exact Ret.mk k⟩) n 0 (by omega) rfl
theorem qWR {p : Option Addr} {L : List NRow} {n c : Nat} (X : Nets h p L) (hn : L.length = n) (hs : n ≤ 1000000) (hr : ∀ x ∈ L, x.l.length ≤ 1000000)
    (k : ∀ v : Int, decide (v ≥ 0) = L.any qIn → K (.int .i64 v) h) :
    ∀ (m j : Nat), m + j = n → L.any qIn = (L.drop j).any qIn → qA3 p n c n j h K := by
  intro m
  induction m with
  | zero =>
    intro j hj e
    refine qEE _ _ _ _ _ _ _ ?_
    unfold qCI
    rw [List.drop_eq_nil_of_le (by omega), List.any_nil] at e
    exact Br.no (by simp; omega) (Ret.mk (k _ (by rw [e]; decide)))
  | succ m ih =>
    intro j hj e
    refine qEE _ _ _ _ _ _ _ ?_
    unfold qCI
    have hx : L[j]? = some L[j] := List.getElem?_eq_getElem (by omega)
    rw [List.drop_eq_getElem_cons (by omega : j < L.length), List.any_cons] at e
    have hm : L[j] ∈ L := List.getElem_mem _
    generalize L[j] = x at *
    refine Br.yes (by simp; omega) (nx X hn rfl hx (qXj (X.2 x hm) (hr x hm) ⟨_, rfl, ?_⟩))
    cases eb : qIn x with
    | true =>
      rw [eb, Bool.true_or] at e
      exact Br.yes rfl (Ret.mk (k _ (by rw [e]; simp)))
    | false =>
      rw [eb, Bool.false_or] at e
      refine Br.no rfl ?_
      rw [w1 (by omega)]
      exact ih (j + 1) (by omega) e
theorem qYG {p : Option Addr} {L : List NRow} {n c : Nat} (X : Nets h p L) (hn : L.length = n) (hs : n ≤ 1000000) (hr : ∀ x ∈ L, x.l.length ≤ 1000000) (k : K (.bool (L.any qIn)) h) :
    CallA Tryz.prog qy [slice p n c, func (Fn.func qA5) #[] #[]] h K := by
  refine qHG _ _ _ _ _ ?_
  unfold qD3
  refine qHs _ _ _ _ _ ?_
  unfold qEh
  exact qWR X hn hs hr (fun v e => ⟨_, rfl, by rw [e]; exact Ret.mk k⟩) n 0 (by omega) rfl

/-! ### lists behind each other -/
theorem qYX {n : Nat} (hn : n ≤ 1000000) (k : ∀ h' q c, h.le h' → OwnL h h' z4 q c [] → K (slice q 0 c) h') : CallA Tryz.prog qDA [slice none 0 0, .int .i64 (n : Int)] h K := by
  refine qIi _ _ _ _ _ _ ?_
  unfold qFZ
  have w0 : IntKind.wrap .i64 (((0 : Nat) : Int) - ((0 : Nat) : Int)) = 0 := by decide
  have w2 : IntKind.wrap .i64 ((n : Int) - 0) = (n : Int) := by rw [qK (by omega) (by omega)]; omega
  rw [w0, w2]
  refine Br.no (by simp) (Br.dec (fun g => ?_) fun g => Ret.mk (k h none 0 h.le_refl (.nil _ _ _)))
  refine ⟨by omega, by omega, by omega, by simp; omega, by simp; omega, [], rfl, .inl rfl, fun c r hc hr => ⟨by omega, by omega, Ret.mk ?_⟩⟩
  refine k _ _ c (qt hr) (.inr ⟨r, qAm n z4 ++ qAm (c - n) z4, rfl, hr, ?_, ?_⟩)
  · simp only [List.nil_append, Int.toNat_natCast, Nat.zero_add]
    exact At.new h r (qAm n z4 ++ qAm (c - n) z4) 39
  · have hc : n ≤ c := by simpa using hc
    rw [List.nil_append, List.length_append, qCz, qCz, show z4.length = 4 from rfl]
    omega
end
section
variable {g h0 : Heap} {B n : Nat} {p : Nat → Option Addr} {c : Nat → Nat} {X : Nat → List Du} {K : Value → Heap → Prop}
theorem qYu (T : Tbl uV z4 g h0 B n p c X) (hX : ∀ i, (X i).length ≤ 1000) (hn : n ≤ 100) (k : ∀ h' q cp, h0.le h' → Arr uV h' q ((List.range n).flatMap X) → K (slice q ((List.range n).flatMap X).length cp) h') :
    ∀ (m j : Nat) (h : Heap) (q : Option Addr) (cp : Nat), m + j = n → h0.le h → OwnL h0 h z4 q cp (((List.range j).flatMap X).flatMap uV) → qBG q ((List.range j).flatMap X).length cp (some ⟨B, 0, none⟩) n n n j h K := by
  intro m
  induction m with
  | zero =>
    intro j h q cp hj l0 O
    refine qEb _ _ _ _ _ _ _ _ _ _ ?_
    unfold qCa
    have hj : j = n := by omega
    subst hj
    exact Br.no (by simp) (Ret.mk (k h q cp l0 O.rd))
  | succ m ih =>
    intro j h q cp hj l0 O
    refine qEb _ _ _ _ _ _ _ _ _ _ ?_
    unfold qCa
    have hb := qNY hX j
    have hbj := hX j
    have hjn : j * 1000 ≤ 100 * 1000 := Nat.mul_le_mul_right _ (by omega)
    refine Br.yes (by simp; omega) ⟨by omega, by omega, qB rfl ⟨_, _, _, (T.mv l0).get (by omega), ?_⟩⟩
    refine O.push2 (by decide) l0 (by omega) (by rw [qp qCx]; rfl) (((T.mv l0).fam.own j).rd) (qYF _) (by rw [qp qCx]; rfl) fun q' c' h' l' O' _ _ => ?_
    rw [w1 (by omega)]
    have e : (List.range (j + 1)).flatMap X = (List.range j).flatMap X ++ X j := qOa X j
    have := ih (j + 1) h' q' c' (by omega) l' (by rw [e, List.flatMap_append]; exact O')
    rw [e, List.length_append] at this
    exact this
theorem qYw (T : Tbl uV z4 g h0 B n p c X) (hX : ∀ i, (X i).length ≤ 1000) (hn : n ≤ 100) (k : ∀ h' q cp, h0.le h' → Arr uV h' q ((List.range n).flatMap X) → K (slice q ((List.range n).flatMap X).length cp) h') :
    ∀ (m j : Nat), m + j = n → qBF (some ⟨B, 0, none⟩) n n (((List.range j).flatMap X).length : Int) (some ⟨B, 0, none⟩) n n n j h0 K := by
  intro m
  induction m with
  | zero =>
    intro j hj
    refine qES _ _ _ _ _ _ _ _ _ _ _ ?_
    unfold qCZ
    have hb := qNY hX j
    have hjn : j * 1000 ≤ 100 * 1000 := Nat.mul_le_mul_right _ (by omega)
    refine Br.no (by simp; omega) (qYX (by omega) fun h' q cp l' O => ⟨_, _, _, rfl, ?_⟩)
    exact qYu T hX hn k n 0 h' q cp (by omega) l' O
  | succ m ih =>
    intro j hj
    refine qES _ _ _ _ _ _ _ _ _ _ _ ?_
    unfold qCZ
    have hb := qNY hX j
    have hbj := hX j
    have hjn : j * 1000 ≤ 100 * 1000 := Nat.mul_le_mul_right _ (by omega)
    have e : (List.range (j + 1)).flatMap X = (List.range j).flatMap X ++ X j := qOa X j
    have hw : IntKind.wrap .i64 ((((List.range j).flatMap X).length : Int) + ((X j).length : Int)) = (((List.range (j + 1)).flatMap X).length : Int) := by rw [qK (by omega) (by omega), e, List.length_append]; omega
    refine Br.yes (by simp; omega) ⟨by omega, by omega, qB rfl ⟨_, _, _, T.get (by omega), ?_⟩⟩
    rw [hw, w1 (by omega)]
    exact Br.no (by simp) (ih (j + 1) (by omega))
theorem qWA (T : Tbl uV z4 g h0 B n p c X) (hX : ∀ i, (X i).length ≤ 1000) (hn : n ≤ 100) (k : ∀ h' q cp, h0.le h' → Arr uV h' q ((List.range n).flatMap X) → K (slice q ((List.range n).flatMap X).length cp) h') :
    CallA Tryz.prog qCr [slice (some ⟨B, 0, none⟩) n n] h0 K := by
  refine qID _ _ _ _ _ ?_
  unfold qE5
  exact qYw T hX hn k n 0 (by omega)
end
end Go.Proofs.YtjihfieahkbohaaGreat

/- A list put in order: by insertion, by a heap; turned about. -/
namespace Go.Proofs.YtjihfieahkbohaaGreat
open Go Go.Sy Go.Value Go.Sort
set_option linter.unusedVariables false
set_option linter.unusedSimpArgs false

theorem qN9 {j : Nat} (h : j ≤ 4000000000) : IntKind.wrap .i64 ((j : Int) + 1) = ((j + 1 : Nat) : Int) := by rw [qK (by omega) (by omega)]; omega
theorem qYh {j : Nat} (h : j ≤ 4000000000) : IntKind.wrap .i64 (((j + 1 : Nat) : Int) - 1) = (j : Int) := by rw [qK (by omega) (by omega)]; omega
theorem qFD {x : Int} (h1 : -4000000000 ≤ x) (h2 : x ≤ 40000000000) : IntKind.wrap .i64 x = x := qK (by omega) (by omega)

section
variable {g0 : Heap} {B m n c : Nat} {sp : List Value} {left : List Du} {K : Value → Heap → Prop} (e0 : g0 B = none) (hm : left.length = m) (I : True) (hn : n ≤ 1000000)
include e0 hm I hn
/-! by insertion -/
theorem qXL {a b i : Nat} (hi : i < n) : ∀ (j : Nat) (h : Heap) (d : Array Int), DaU left g0 B m n sp h d → j ≤ i →
    (∀ h', DaU left g0 B m n sp h' (insInner (qAR left) a j d) → qk (some ⟨B, 0, none⟩) n c (a : Int) (b : Int) ((i + 1 : Nat) : Int) h' K) →
    qAG (some ⟨B, 0, none⟩) n c (a : Int) (b : Int) (i : Int) (j : Int) h K := by
  intro j
  induction j with
  | zero =>
    intro h d D hj k
    refine qDT _ _ _ _ _ _ _ _ _ ?_
    unfold qBb
    rw [qN9 (by omega)]
    exact Br.no (by simp) (k h D)
  | succ j ih =>
    intro h d D hj k
    refine qDT _ _ _ _ _ _ _ _ _ ?_
    unfold qBb
    rw [qN9 (by omega), qYh (by omega)]
    rw [insInner] at k
    refine Br.dec (fun g => qUo D hm I rfl rfl (by omega) (by omega) fun h' D' => Br.intro (fun g2 => ?_) fun g2 => ?_) fun g => ?_
    · refine qPZ (J := fun h => qAG (some ⟨B, 0, none⟩) n c (a : Int) (b : Int) (i : Int) (j : Int) h K) D' e0 rfl rfl (by omega) (by omega) fun h'' D'' => ih h'' _ D'' (by omega) ?_
      rw [if_pos (by rw [g2, Bool.and_true]; exact decide_eq_true (by omega))] at k
      exact k
    · rw [if_neg (by rw [g2]; simp)] at k
      exact k h' D'
    · rw [if_neg (by simp; omega)] at k
      exact k h D
theorem qWg {a b : Nat} (hb : b ≤ n) : ∀ (q i : Nat) (h : Heap) (d : Array Int), b - i ≤ q → DaU left g0 B m n sp h d →
    (∀ h', DaU left g0 B m n sp h' (insOuter (qAR left) a b i d) → K (tuple #[]) h') → i ≤ 2000000 →
    qk (some ⟨B, 0, none⟩) n c (a : Int) (b : Int) (i : Int) h K := by
  intro q
  induction q with
  | zero =>
    intro i h d hq D k hi
    refine qBd _ _ _ _ _ _ _ _ ?_
    unfold qAc
    rw [insOuter, if_neg (by omega)] at k
    exact Br.no (by simp; omega) (Ret.mk (k h D))
  | succ q ih =>
    intro i h d hq D k hi
    refine qBd _ _ _ _ _ _ _ _ ?_
    unfold qAc
    rw [insOuter] at k
    refine Br.dec (fun g => qXL e0 hm I hn (by omega) i h d D (Nat.le_refl _) fun h' D' => ih (i + 1) h' _ (by omega) D' ?_ (by omega)) fun g => ?_
    · rw [if_pos (by omega)] at k; exact k
    · rw [if_neg (by omega)] at k; exact Ret.mk (k h D)
theorem qNV {h : Heap} {d : Array Int} {a b : Nat} (ha : a ≤ n) (hb : b ≤ n) (D : DaU left g0 B m n sp h d) (k : ∀ h', DaU left g0 B m n sp h' (insertionSort (qAR left) d a b) → K (tuple #[]) h') :
    CallA Tryz.prog qAr [slice (some ⟨B, 0, none⟩) n c, .int .i64 (a : Int), .int .i64 (b : Int), func (Fn.func qI) #[] #[]] h K := by
  refine qD2 _ _ _ _ _ _ _ ?_
  unfold qBw
  rw [qN9 (by omega)]
  exact qWg e0 hm I hn hb _ _ _ _ (Nat.le_refl _) D k (by omega)
/-! by a heap -/
/-! turned about -/
omit hm I in
omit hm I in
end
end Go.Proofs.YtjihfieahkbohaaGreat

/- Dues put in order, stably: walked. -/
namespace Go.Proofs.YtjihfieahkbohaaGreat
open Go Go.Sy Go.Value Go.Sort
set_option linter.unusedVariables false
set_option linter.unusedSimpArgs false

theorem qTP {i j : Nat} (h : i + j ≤ 4000000) : IntKind.wrap .i64 (Int.fdiv (IntKind.wrap .u64 (IntKind.wrap .i64 ((i : Int) + (j : Int)))) 2) = (((i + j) / 2 : Nat) : Int) := by
  rw [qK (n := (i : Int) + (j : Int)) (by omega) (by omega), qAQ (by omega) (by omega), qLN _ (by decide), qK (by omega) (by omega)]; omega
section
variable {F : List Du} {g0 : Heap} {B m n c : Nat} {sp : List Value} {K : Value → Heap → Prop} (e0 : g0 B = none) (hm : F.length = m) (hn : n ≤ 1000000)
include e0 hn
/-! so many are changed about -/
theorem qZg {a b w lo hi : Nat} (hab : a + w ≤ b) (hb : b + w ≤ hi) (hh : hi ≤ n) (hl : lo ≤ a) {d0 d1 : Array Int}
    (k : ∀ h' d', DaU F g0 B m n sp h' d' → SwR d1 d' a b w → PermIn lo hi d0 d' → K (tuple #[]) h') :
    ∀ (q i : Nat) (h : Heap) (d : Array Int), q + i = w → DaU F g0 B m n sp h d → SwR d1 d a b i → PermIn lo hi d0 d →
    qAU (some ⟨B, 0, none⟩) n c (a : Int) (b : Int) (w : Int) (i : Int) h K := by
  intro q
  induction q with
  | zero =>
    intro i h d hq D s P
    refine qEC _ _ _ _ _ _ _ _ _ ?_
    unfold qCG
    have hq : i = w := by omega
    subst hq
    exact Br.no (by simp) (Ret.mk (k h d D s P))
  | succ q ih =>
    intro i h d hq D s P
    refine qEC _ _ _ _ _ _ _ _ _ ?_
    unfold qCG
    have z : d.size = n := D.sz
    have z1 : d1.size = n := by rw [← s.1]; exact z
    have w1 : IntKind.wrap .i64 ((b : Int) + (i : Int)) = ((b + i : Nat) : Int) := by rw [qFD (by omega) (by omega)]; omega
    have w2 : IntKind.wrap .i64 ((a : Int) + (i : Int)) = ((a + i : Nat) : Int) := by rw [qFD (by omega) (by omega)]; omega
    rw [w1, w2, qN9 (by omega)]
    refine Br.yes (decide_eq_true (by omega)) (qPZ (J := fun h => qAU (some ⟨B, 0, none⟩) n c (a : Int) (b : Int) (w : Int) ((i + 1 : Nat) : Int) h K) D e0 rfl rfl (by omega) (by omega) fun h' D' => ?_)
    exact ih (i + 1) h' _ (by omega) D' (s.step (by omega) (by omega)) (permIn_trans _ _ _ _ _ P (swp_permIn d lo hi _ _ (by omega) (by omega) (by omega) (by omega) (by omega)))
theorem qQW {a b w lo hi : Nat} (hab : a + w ≤ b) (hb : b + w ≤ hi) (hh : hi ≤ n) (hl : lo ≤ a) {h : Heap} {d0 d : Array Int} (D : DaU F g0 B m n sp h d) (P : PermIn lo hi d0 d)
    (k : ∀ h' d', DaU F g0 B m n sp h' d' → SwR d d' a b w → PermIn lo hi d0 d' → K (tuple #[]) h') :
    CallA Tryz.prog qBH [slice (some ⟨B, 0, none⟩) n c, .int .i64 (a : Int), .int .i64 (b : Int), .int .i64 (w : Int), func (Fn.func qI) #[] #[]] h K := by
  refine qHw _ _ _ _ _ _ _ _ ?_
  unfold qEp
  exact qZg e0 hn hab hb hh hl k w 0 h d (by omega) D (SwR.nil d a b) P
/-! one row ahead of another -/
theorem qY4 {mm lo hi : Nat} (hh : hi ≤ n) {d0 : Array Int} : ∀ (q i j : Nat) (h : Heap) (d : Array Int), i + j ≤ q → lo + i ≤ mm → mm + j ≤ hi → 1 ≤ i → 1 ≤ j → DaU F g0 B m n sp h d → PermIn lo hi d0 d →
    (∀ h' d', DaU F g0 B m n sp h' d' → RotR d d' mm i j → PermIn lo hi d0 d' → K (tuple #[]) h') →
    qAo (some ⟨B, 0, none⟩) n c (mm : Int) (i : Int) (j : Int) h K := by
  intro q
  induction q with
  | zero => intro i j h d hq _ _ h1 h2; omega
  | succ q ih =>
    intro i j h d hq h1 h2 h3 h4 D P k
    refine qH0 _ _ _ _ _ _ _ _ ?_
    unfold qE2
    have w1 : IntKind.wrap .i64 ((mm : Int) - (i : Int)) = ((mm - i : Nat) : Int) := by rw [qFD (by omega) (by omega)]; omega
    rw [w1]
    by_cases e : i = j
    · subst e
      refine Br.no (by simp) (qQW e0 hn (lo := lo) (hi := hi) (by omega) (by omega) hh (by omega) D P fun h' d' D' s P' => ⟨rfl, Ret.mk (k h' d' D' (RotR.same (by omega) s) P')⟩)
    refine Br.yes (by simp; omega) (Br.dec (fun g => ?_) fun g => ?_)
    · have w2 : IntKind.wrap .i64 ((i : Int) - (j : Int)) = ((i - j : Nat) : Int) := by rw [qFD (by omega) (by omega)]; omega
      rw [w2]
      refine qQW e0 hn (lo := lo) (hi := hi) (by omega) (by omega) hh (by omega) D P fun h' d' D' s P' => ⟨rfl, ?_⟩
      exact ih (i - j) j h' d' (by omega) (by omega) (by omega) (by omega) (by omega) D' P' fun h2 d2 D2 r P2 => k h2 d2 D2 (RotR.more (by omega) (by omega) s r) P2
    · have w2 : IntKind.wrap .i64 ((j : Int) - (i : Int)) = ((j - i : Nat) : Int) := by rw [qFD (by omega) (by omega)]; omega
      have w3 : IntKind.wrap .i64 ((mm : Int) + (j : Int)) = ((mm + j : Nat) : Int) := by rw [qFD (by omega) (by omega)]; omega
      have w4 : IntKind.wrap .i64 (((mm + j : Nat) : Int) - (i : Int)) = ((mm + j - i : Nat) : Int) := by rw [qFD (by omega) (by omega)]; omega
      rw [w2, w3, w4]
      refine qQW e0 hn (lo := lo) (hi := hi) (by omega) (by omega) hh (by omega) D P fun h' d' D' s P' => ⟨rfl, ?_⟩
      exact ih i (j - i) h' d' (by omega) (by omega) (by omega) (by omega) (by omega) D' P' fun h2 d2 D2 r P2 => k h2 d2 D2 (RotR.less (by omega) (by omega) s r) P2
theorem qWq {a mm b : Nat} (h1 : a < mm) (h2 : mm < b) (hb : b ≤ n) {h : Heap} {d : Array Int} (D : DaU F g0 B m n sp h d)
    (k : ∀ h' d', DaU F g0 B m n sp h' d' → RotR d d' mm (mm - a) (b - mm) → PermIn a b d d' → K (tuple #[]) h') :
    CallA Tryz.prog qDF [slice (some ⟨B, 0, none⟩) n c, .int .i64 (a : Int), .int .i64 (mm : Int), .int .i64 (b : Int), func (Fn.func qI) #[] #[]] h K := by
  refine qIj _ _ _ _ _ _ _ _ ?_
  unfold qFR
  have w1 : IntKind.wrap .i64 ((mm : Int) - (a : Int)) = ((mm - a : Nat) : Int) := by rw [qFD (by omega) (by omega)]; omega
  have w2 : IntKind.wrap .i64 ((b : Int) - (mm : Int)) = ((b - mm : Nat) : Int) := by rw [qFD (by omega) (by omega)]; omega
  rw [w1, w2]
  exact qY4 e0 hn (lo := a) (hi := b) hb _ _ _ h d (Nat.le_refl _) (by omega) (by omega) (by omega) (by omega) D (permIn_refl d a b) k
/-! the first one is qTY behind others -/
theorem qZk {a i lo hi : Nat} (hi1 : a + 1 ≤ i) (hi2 : i ≤ hi) (hh : hi ≤ n) (hl : lo ≤ a) {d0 : Array Int} (k : ∀ h' d', DaU F g0 B m n sp h' d' → MvR d0 d' a (i - 1) → PermIn lo hi d0 d' → K (tuple #[]) h') :
    ∀ (q t : Nat) (h : Heap) (d : Array Int), q + t = i - 1 → a ≤ t → DaU F g0 B m n sp h d → MvR d0 d a t → PermIn lo hi d0 d →
    qAF (some ⟨B, 0, none⟩) n c (i : Int) (t : Int) h K := by
  intro q
  induction q with
  | zero =>
    intro t h d hq ht D s P
    refine qEV _ _ _ _ _ _ _ ?_
    unfold qCU
    have w1 : IntKind.wrap .i64 ((i : Int) - 1) = ((i - 1 : Nat) : Int) := by rw [qFD (by omega) (by omega)]; omega
    rw [w1]
    have hq : t = i - 1 := by omega
    subst hq
    exact Br.no (by simp) (Ret.mk (k h d D s P))
  | succ q ih =>
    intro t h d hq ht D s P
    refine qEV _ _ _ _ _ _ _ ?_
    unfold qCU
    have w1 : IntKind.wrap .i64 ((i : Int) - 1) = ((i - 1 : Nat) : Int) := by rw [qFD (by omega) (by omega)]; omega
    have z : d.size = n := D.sz
    have z0 : d0.size = n := by rw [← s.1]; exact z
    rw [w1, qN9 (by omega)]
    refine Br.yes (decide_eq_true (by omega)) (qPZ (J := fun h => qAF (some ⟨B, 0, none⟩) n c (i : Int) ((t + 1 : Nat) : Int) h K) D e0 rfl rfl (by omega) (by omega) fun h' D' => ?_)
    exact ih (t + 1) h' _ (by omega) (by omega) D' (s.step ht (by omega)) (permIn_trans _ _ _ _ _ P (swp_permIn d lo hi _ _ (by omega) (by omega) (by omega) (by omega) (by omega)))
/-! the last one is qTY ahead of others -/
theorem qZc {mm i lo hi : Nat} (hi1 : i ≤ mm) (hi2 : mm < hi) (hh : hi ≤ n) (hl : lo ≤ i) {d0 : Array Int} (k : ∀ h' d', DaU F g0 B m n sp h' d' → MvL d0 d' mm i → PermIn lo hi d0 d' → K (tuple #[]) h') :
    ∀ (q t : Nat) (h : Heap) (d : Array Int), i + q = t → t ≤ mm → DaU F g0 B m n sp h d → MvL d0 d mm t → PermIn lo hi d0 d →
    qAD (some ⟨B, 0, none⟩) n c (i : Int) (t : Int) h K := by
  intro q
  induction q with
  | zero =>
    intro t h d hq ht D s P
    refine qEZ _ _ _ _ _ _ _ ?_
    unfold qCY
    have hq : t = i := by omega
    subst hq
    exact Br.no (by simp) (Ret.mk (k h d D s P))
  | succ q ih =>
    intro t h d hq ht D s P
    refine qEZ _ _ _ _ _ _ _ ?_
    unfold qCY
    obtain ⟨u, rfl⟩ : ∃ u, t = u + 1 := ⟨t - 1, by omega⟩
    have z : d.size = n := D.sz
    have z0 : d0.size = n := by rw [← s.1]; exact z
    rw [qYh (by omega)]
    refine Br.yes (decide_eq_true (by omega)) (qPZ (J := fun h => qAD (some ⟨B, 0, none⟩) n c (i : Int) (u : Int) h K) D e0 rfl rfl (by omega) (by omega) fun h' D' => ?_)
    exact ih u h' _ (by omega) (by omega) D' (s.step ht (by omega)) (permIn_trans _ _ _ _ _ P (swp_permIn d lo hi _ _ (by omega) (by omega) (by omega) (by omega) (by omega)))
include hm
/-! where to -/
omit e0 in
theorem qZd {a mm b : Nat} (hm1 : a < mm) (hb : b ≤ n) {d : Array Int} (k : ∀ h' i, DaU F g0 B m n sp h' d → mm ≤ i → i ≤ b → (i = mm ∨ qAR F d[i - 1]! d[a]! = true) → (i = b ∨ qAR F d[i]! d[a]! = false) → qAF (some ⟨B, 0, none⟩) n c (i : Int) (a : Int) h' K) :
    ∀ (q i j : Nat) (h : Heap), j - i ≤ q → mm ≤ i → i ≤ j → j ≤ b → DaU F g0 B m n sp h d → (i = mm ∨ qAR F d[i - 1]! d[a]! = true) → (j = b ∨ qAR F d[j]! d[a]! = false) →
    qAZ (some ⟨B, 0, none⟩) n c (a : Int) (i : Int) (j : Int) h K := by
  intro q
  induction q with
  | zero =>
    intro i j h hq h1 h2 h3 D c1 c2
    refine qEX _ _ _ _ _ _ _ _ ?_
    unfold qCb
    have : i = j := by omega
    subst this
    exact Br.no (by simp) (k h i D h1 (by omega) c1 c2)
  | succ q ih =>
    intro i j h hq h1 h2 h3 D c1 c2
    refine qEX _ _ _ _ _ _ _ _ ?_
    unfold qCb
    by_cases e : i = j
    · subst e
      exact Br.no (by simp) (k h i D h1 (by omega) c1 c2)
    rw [qTP (by omega), qN9 (by omega)]
    refine Br.yes (decide_eq_true (by omega)) (qUo D hm trivial rfl rfl (by omega) (by omega) fun h' D' => Br.intro (fun g => ?_) fun g => ?_)
    · exact ih _ j h' (by omega) (by omega) (by omega) h3 D' (.inr (by rw [Nat.add_sub_cancel]; exact g)) c2
    · exact ih i _ h' (by omega) h1 (by omega) (by omega) D' c1 (.inr g)
omit e0 in
theorem qZe {a mm : Nat} (hm1 : a < mm) (hb : mm < n) {d : Array Int} (k : ∀ h' i, DaU F g0 B m n sp h' d → a ≤ i → i ≤ mm → (i = a ∨ qAR F d[mm]! d[i - 1]! = false) → (i = mm ∨ qAR F d[mm]! d[i]! = true) → qAD (some ⟨B, 0, none⟩) n c (i : Int) (mm : Int) h' K) :
    ∀ (q i j : Nat) (h : Heap), j - i ≤ q → a ≤ i → i ≤ j → j ≤ mm → DaU F g0 B m n sp h d → (i = a ∨ qAR F d[mm]! d[i - 1]! = false) → (j = mm ∨ qAR F d[mm]! d[j]! = true) →
    qAa (some ⟨B, 0, none⟩) n c (mm : Int) (i : Int) (j : Int) h K := by
  intro q
  induction q with
  | zero =>
    intro i j h hq h1 h2 h3 D c1 c2
    refine qEa _ _ _ _ _ _ _ _ ?_
    unfold qCP
    have : i = j := by omega
    subst this
    exact Br.no (by simp) (k h i D h1 (by omega) c1 c2)
  | succ q ih =>
    intro i j h hq h1 h2 h3 D c1 c2
    refine qEa _ _ _ _ _ _ _ _ ?_
    unfold qCP
    by_cases e : i = j
    · subst e
      exact Br.no (by simp) (k h i D h1 (by omega) c1 c2)
    rw [qTP (by omega), qN9 (by omega)]
    refine Br.yes (decide_eq_true (by omega)) (qUx D hm trivial rfl rfl (by omega) (by omega) fun h' D' => Br.intro (fun g => ?_) fun g => ?_)
    · exact ih _ j h' (by omega) (by omega) (by omega) h3 D' (.inr (by rw [Nat.add_sub_cancel]; simpa using g)) c2
    · exact ih i _ h' (by omega) h1 (by omega) (by omega) D' c1 (.inr (by simpa using g))
end
end Go.Proofs.YtjihfieahkbohaaGreat

/- Dues put in order, stably: whole. -/
namespace Go.Proofs.YtjihfieahkbohaaGreat
open Go Go.Sy Go.Value Go.Sort
set_option linter.unusedVariables false
set_option linter.unusedSimpArgs false

section
variable {F : List Du} {g0 : Heap} {B m n c : Nat} {sp : List Value} (e0 : g0 B = none) (hm : F.length = m) (hn : n ≤ 1000000)
include e0 hm hn
omit e0 in
theorem qZl {K : Value → Heap → Prop} {a mm b mid nn s0 r0 : Nat} (hb : b ≤ n) (h1 : nn ≤ s0 + b) (h2 : r0 ≤ nn) (h3 : r0 ≤ n) (hnn : nn ≤ 2000000) {d : Array Int}
    (k : ∀ h' st, DaU F g0 B m n sp h' d → s0 ≤ st → st ≤ r0 → (st = s0 ∨ qAR F d[nn - st]! d[st - 1]! = false) → (st = r0 ∨ qAR F d[nn - st - 1]! d[st]! = true) → qB4 (some ⟨B, 0, none⟩) n c (a : Int) (mm : Int) (b : Int) (mid : Int) (nn : Int) (st : Int) h' K) :
    ∀ (q st r : Nat) (h : Heap), r - st ≤ q → s0 ≤ st → st ≤ r → r ≤ r0 → DaU F g0 B m n sp h d → (st = s0 ∨ qAR F d[nn - st]! d[st - 1]! = false) → (r = r0 ∨ qAR F d[nn - r - 1]! d[r]! = true) →
    qj (some ⟨B, 0, none⟩) n c (a : Int) (mm : Int) (b : Int) (mid : Int) (nn : Int) (st : Int) (r : Int) ((nn : Int) - 1) h K := by
  intro q
  induction q with
  | zero =>
    intro st r h hq g1 g2 g3 D c1 c2
    refine qEf _ _ _ _ _ _ _ _ _ _ _ _ _ ?_
    unfold qCM
    have : st = r := by omega
    subst this
    exact Br.no (by simp) (k h st D g1 g3 c1 c2)
  | succ q ih =>
    intro st r h hq g1 g2 g3 D c1 c2
    refine qEf _ _ _ _ _ _ _ _ _ _ _ _ _ ?_
    unfold qCM
    by_cases e : st = r
    · subst e
      exact Br.no (by simp) (k h st D g1 g3 c1 c2)
    have w1 : IntKind.wrap .i64 ((nn : Int) - 1 - (((st + r) / 2 : Nat) : Int)) = ((nn - (st + r) / 2 - 1 : Nat) : Int) := by rw [qFD (by omega) (by omega)]; omega
    rw [qTP (by omega), w1, qN9 (by omega)]
    refine Br.yes (decide_eq_true (by omega)) (qUx D hm trivial rfl rfl (by omega) (by omega) fun h' D' => Br.intro (fun g => ?_) fun g => ?_)
    · exact ih _ r h' (by omega) (by omega) (by omega) g3 D' (.inr (by rw [Nat.add_sub_cancel, ← Nat.sub_sub]; simpa using g)) c2
    · exact ih st _ h' (by omega) g1 (by omega) (by omega) D' c1 (.inr (by simpa using g))
theorem qPk : ∀ (q a mm b : Nat) (h : Heap) (d : Array Int) (K : Value → Heap → Prop), b - a ≤ q → a < mm → mm < b → b ≤ n → DaU F g0 B m n sp h d → SortedIn (qAR F) a mm d → SortedIn (qAR F) mm b d →
    (∀ h' d', DaU F g0 B m n sp h' d' → PermIn a b d d' → SortedIn (qAR F) a b d' → K (tuple #[]) h') →
    CallA Tryz.prog qAH [slice (some ⟨B, 0, none⟩) n c, .int .i64 (a : Int), .int .i64 (mm : Int), .int .i64 (b : Int), func (Fn.func qI) #[] #[]] h K := by
  intro q
  induction q with
  | zero => intro a mm b h d K hq h1 h2; omega
  | succ q ih =>
    intro a mm b h d K hq h1 h2 hb D sa sb k
    have z : d.size = n := D.sz
    refine qH9 _ _ _ _ _ _ _ _ ?_
    unfold qE6
    have w1 : IntKind.wrap .i64 ((mm : Int) - (a : Int)) = ((mm - a : Nat) : Int) := by rw [qFD (by omega) (by omega)]; omega
    have w2 : IntKind.wrap .i64 ((b : Int) - (mm : Int)) = ((b - mm : Nat) : Int) := by rw [qFD (by omega) (by omega)]; omega
    rw [w1, w2]
    refine Br.intro (fun g => ?_) fun g => ?_
    · have g : mm = a + 1 := by
        have : ((mm - a : Nat) : Int) = 1 := by simpa using g
        omega
      subst g
      refine qZd hm hn (by omega) hb (fun h' i D' g1 g2 c1 c2 => ?_) _ _ _ h (Nat.le_refl _) (Nat.le_refl _) (by omega) (Nat.le_refl _) D (.inl rfl) (.inl rfl)
      refine qZk e0 hn g1 (hi := b) (lo := a) g2 hb (Nat.le_refl _) (fun h2 d2 D2 r P2 => ?_) (i - 1 - a) a h' d (by omega) (Nat.le_refl _) D' (MvR.nil d a) (permIn_refl d a b)
      exact k h2 d2 D2 P2 (qTY (qPY F) g1 g2 sb c1 c2 r)
    refine Br.intro (fun g => ?_) fun g' => ?_
    · have g : b = mm + 1 := by
        have : ((b - mm : Nat) : Int) = 1 := by simpa using g
        omega
      subst g
      refine qZe hm hn (by omega) (by omega) (fun h' i D' g1 g2 c1 c2 => ?_) _ _ _ h (Nat.le_refl _) (Nat.le_refl _) (by omega) (Nat.le_refl _) D (.inl rfl) (.inl rfl)
      refine qZc e0 hn g2 (hi := mm + 1) (lo := a) (by omega) hb g1 (fun h2 d2 D2 r P2 => ?_) (mm - i) mm h' d (by omega) (Nat.le_refl _) D' (MvL.nil d mm) (permIn_refl d a (mm + 1))
      exact k h2 d2 D2 P2 (qYH (qPY F) g1 g2 sa c1 c2 r)
    rw [qTP (by omega)]
    have hmid : (a + b) / 2 = (a + b) / 2 := rfl
    generalize hgm : (a + b) / 2 = mid at *
    have w3 : IntKind.wrap .i64 ((mid : Int) + (mm : Int)) = ((mid + mm : Nat) : Int) := by rw [qFD (by omega) (by omega)]; omega
    have w4 : IntKind.wrap .i64 (((mid + mm : Nat) : Int) - 1) = ((mid + mm : Nat) : Int) - 1 := qFD (by omega) (by omega)
    rw [w3, w4]
    have go : ∀ s0 r0, s0 = (if mm > mid then mid + mm - b else a) → r0 = (if mm > mid then mid else mm) →
        qj (some ⟨B, 0, none⟩) n c (a : Int) (mm : Int) (b : Int) (mid : Int) ((mid + mm : Nat) : Int) (s0 : Int) (r0 : Int) (((mid + mm : Nat) : Int) - 1) h K := fun s0 r0 hs hr => by
      have b1 : mid + mm ≤ s0 + b := by split at hs <;> omega
      have b2 : r0 ≤ mid + mm ∧ r0 ≤ n ∧ s0 ≤ r0 := by split at hs <;> rename_i g <;> (first | rw [if_pos g] at hr | rw [if_neg g] at hr) <;> omega
      refine qZl hm hn hb b1 b2.1 b2.2.1 (by omega) (fun h' st D' g1 g2 c1 c2 => ?_) (r0 - s0) s0 r0 h (Nat.le_refl _) (Nat.le_refl _) b2.2.2 (Nat.le_refl _) D (.inl rfl) (.inl rfl)
      refine qG4 _ _ _ _ _ _ _ _ _ _ _ ?_
      unfold qDo
      have we : IntKind.wrap .i64 (((mid + mm : Nat) : Int) - (st : Int)) = ((mid + mm - st : Nat) : Int) := by rw [qFD (by omega) (by omega)]; omega
      rw [we]
      subst hs hr
      have fin : ∀ hA d1, DaU F g0 B m n sp hA d1 → RotR d d1 mm (mm - st) (mid + mm - st - mm) → PermIn a b d d1 →
          qAN (some ⟨B, 0, none⟩) n c (a : Int) (b : Int) (mid : Int) (st : Int) ((mid + mm - st : Nat) : Int) hA K := fun hA d1 D1 r P1 => by
        obtain ⟨⟨q1, q2, q3, q4, q5, q6, q7⟩, t1, t2, t3, t4, cross⟩ := parted (qPY F) h1 h2 hgm.symm rfl rfl sa sb g1 g2 c1 c2 r
        have z1 : d1.size = n := D1.sz
        refine qG2 _ _ _ _ _ _ _ _ _ _ ?_
        unfold qDr
        have fin2 : ∀ h2 d2, DaU F g0 B m n sp h2 d2 → PermIn a mid d1 d2 → SortedIn (qAR F) a mid d2 →
            qAM (some ⟨B, 0, none⟩) n c (b : Int) (mid : Int) ((mid + mm - st : Nat) : Int) h2 K := fun h2 d2 D2 P2 s2 => by
          have z2 : d2.size = n := D2.sz
          have same : ∀ i, mid ≤ i → d2[i]! = d1[i]! := fun i hi => P2.2.1 i (by omega)
          have t3' : SortedIn (qAR F) mid (mid + mm - st) d2 := fun i j x1 x2 x3 => by rw [same i x1, same j (by omega)]; exact t3 i j x1 x2 x3
          have t4' : SortedIn (qAR F) (mid + mm - st) b d2 := fun i j x1 x2 x3 => by rw [same i (by omega), same j (by omega)]; exact t4 i j x1 x2 x3
          have last : ∀ h3 d3, DaU F g0 B m n sp h3 d3 → PermIn mid b d2 d3 → SortedIn (qAR F) mid b d3 → K (tuple #[]) h3 := fun h3 d3 D3 P3 s3 => by
            obtain ⟨u1, u2⟩ := qX0 (by omega) (by omega) (by omega) cross P2 s2 P3 s3
            exact k h3 d3 D3 (permIn_trans _ _ _ _ _ P1 u1) u2
          refine qGx _ _ _ _ _ _ _ _ ?_
          unfold qDu
          refine Br.dec (fun x1 => Br.dec (fun x2 => ?_) fun x2 => Ret.mk ?_) fun x1 => Ret.mk ?_
          · exact ih mid _ b h2 d2 _ (by omega) (by omega) (by omega) hb D2 t3' t4' fun h3 d3 D3 P3 s3 => ⟨rfl, Ret.mk (last h3 d3 D3 P3 s3)⟩
          · have e : mid + mm - st = b := by omega
            rw [e] at t3'
            exact last h2 d2 D2 (permIn_refl d2 mid b) t3'
          · have e : mid + mm - st = mid := by omega
            rw [e] at t4'
            exact last h2 d2 D2 (permIn_refl d2 mid b) t4'
        refine Br.dec (fun x1 => Br.dec (fun x2 => ?_) fun x2 => ?_) fun x1 => ?_
        · exact ih a st mid hA d1 _ (by omega) (by omega) (by omega) (by omega) D1 t1 t2 fun h3 d3 D3 P3 s3 => ⟨rfl, fin2 h3 d3 D3 P3 s3⟩
        · have e : st = mid := by omega
          rw [e] at t1
          exact fin2 hA d1 D1 (permIn_refl d1 a mid) t1
        · have e : st = a := by omega
          rw [e] at t2
          exact fin2 hA d1 D1 (permIn_refl d1 a mid) t2
      have hst : st ≤ mm ∧ mm ≤ mid + mm - st ∧ mid + mm - st ≤ b ∧ a ≤ st := by split at g1 <;> rename_i g <;> (first | rw [if_pos g] at g2 | rw [if_neg g] at g2) <;> omega
      refine Br.dec (fun x1 => Br.dec (fun x2 => ?_) fun x2 => ?_) fun x1 => ?_
      · refine qWq e0 hn (by omega) (by omega) (by omega) D' fun h1 d1 D1 r P1 => ⟨rfl, fin h1 d1 D1 r (permIn_mono _ _ _ _ _ _ hst.2.2.2 hst.2.2.1 (by omega) P1)⟩
      · have e : mid + mm - st - mm = 0 := by omega
        exact fin h' d D' (by rw [e]; exact RotR.right d mm _) (permIn_refl d a b)
      · have e : mm - st = 0 := by omega
        exact fin h' d D' (by rw [e]; exact RotR.left d mm _) (permIn_refl d a b)
    refine Br.dec (fun g => ?_) fun g => ?_
    · have w5 : IntKind.wrap .i64 (((mid + mm : Nat) : Int) - (b : Int)) = ((mid + mm - b : Nat) : Int) := by rw [qFD (by omega) (by omega)]; omega
      rw [w5]
      have g : mm > mid := by omega
      exact go _ _ (by rw [if_pos g]) (by rw [if_pos g])
    · have g : ¬ mm > mid := by omega
      exact go _ _ (by rw [if_neg g]) (by rw [if_neg g])
/-! block by block -/
def Blk (F : List Du) (n s : Nat) (d : Array Int) : Prop := ∀ k, SortedIn (qAR F) (k * s) (min ((k + 1) * s) n) d
omit e0 hm hn in
theorem qIA {a b lo hi : Nat} {d d' : Array Int} (P : PermIn lo hi d d') (s : SortedIn (qAR F) a b d) (h : b ≤ lo ∨ hi ≤ a) : SortedIn (qAR F) a b d' := fun i j h1 h2 h3 => by
  rw [P.2.1 i (by omega), P.2.1 j (by omega)]; exact s i j h1 h2 h3
theorem qXC {K : Value → Heap → Prop} {s : Nat} (hs : 1 ≤ s) (hsn : s < n) {d0 : Array Int}
    (k : ∀ h' d', DaU F g0 B m n sp h' d' → PermIn 0 n d0 d' → Blk F n (2 * s) d' → qs (some ⟨B, 0, none⟩) n c (n : Int) ((2 * s : Nat) : Int) h' K)
    (t : Nat) (h : Heap) (d : Array Int) (ht : t * (2 * s) ≤ n) (D : DaU F g0 B m n sp h d) (P : PermIn 0 n d0 d) (i1 : ∀ i, i < t → SortedIn (qAR F) (i * (2 * s)) ((i + 1) * (2 * s)) d) (i2 : ∀ i, 2 * t ≤ i → SortedIn (qAR F) (i * s) (min ((i + 1) * s) n) d)
    (next : t * (2 * s) + 2 * s ≤ n → ∀ h' d', DaU F g0 B m n sp h' d' → PermIn 0 n d0 d' → (∀ i, i < t + 1 → SortedIn (qAR F) (i * (2 * s)) ((i + 1) * (2 * s)) d') → (∀ i, 2 * (t + 1) ≤ i → SortedIn (qAR F) (i * s) (min ((i + 1) * s) n) d') →
      qAJ (some ⟨B, 0, none⟩) n c (n : Int) (s : Int) ((t * (2 * s) + 2 * s : Nat) : Int) ((t * (2 * s) + 2 * s + 2 * s : Nat) : Int) h' K) :
    qAJ (some ⟨B, 0, none⟩) n c (n : Int) (s : Int) ((t * (2 * s) : Nat) : Int) ((t * (2 * s) + 2 * s : Nat) : Int) h K := by
  refine qHv _ _ _ _ _ _ _ _ _ ?_
  unfold qE4
  have ea : 2 * t * s = t * (2 * s) := by rw [Nat.mul_comm 2 t, Nat.mul_assoc]
  have ea1 : (2 * t + 1) * s = t * (2 * s) + s := by rw [Nat.add_mul, Nat.one_mul, ea]
  have ea2 : (2 * t + 1 + 1) * s = t * (2 * s) + 2 * s := by rw [Nat.add_mul (2 * t + 1), Nat.one_mul, ea1]; omega
  have es : (t + 1) * (2 * s) = t * (2 * s) + 2 * s := Nat.succ_mul _ _
  have b0 := i2 (2 * t) (Nat.le_refl _)
  have b1 := i2 (2 * t + 1) (by omega)
  rw [ea, ea1] at b0
  rw [ea1, ea2] at b1
  have lo1 : ∀ i, i < t → (i + 1) * (2 * s) ≤ t * (2 * s) := fun i hi => Nat.mul_le_mul_right _ (by omega)
  have hi2 : ∀ i, 2 * (t + 1) ≤ i → t * (2 * s) + 2 * s ≤ i * s := fun i hi => by
    have := Nat.mul_le_mul_right s hi
    rw [show 2 * (t + 1) = 2 * t + 1 + 1 by omega, ea2] at this
    exact this
  generalize EQA : t * (2 * s) = A at *
  have w1 : IntKind.wrap .i64 ((A : Int) + (s : Int)) = ((A + s : Nat) : Int) := by rw [qFD (by omega) (by omega)]; omega
  have w2 : IntKind.wrap .i64 (2 * (s : Int)) = ((2 * s : Nat) : Int) := by rw [qFD (by omega) (by omega)]; omega
  have w3 : IntKind.wrap .i64 (((A + 2 * s : Nat) : Int) + ((2 * s : Nat) : Int)) = ((A + 2 * s + 2 * s : Nat) : Int) := by rw [qFD (by omega) (by omega)]; omega
  have w4 : IntKind.wrap .i64 ((s : Int) * 2) = ((2 * s : Nat) : Int) := by rw [qFD (by omega) (by omega)]; omega
  rw [w1, w2, w3, w4]
  have z : d.size = n := D.sz
  -- the blocks behind
  have blk : ∀ d', (∀ i, i < t → SortedIn (qAR F) (i * (2 * s)) ((i + 1) * (2 * s)) d') → SortedIn (qAR F) A n d' → n ≤ A + 2 * s → t * (2 * s) = A → Blk F n (2 * s) d' := fun d' j1 j2 hA eA i => by
    by_cases g : i < t
    · rw [Nat.min_eq_left (by have := lo1 i g; omega)]; exact j1 i g
    · by_cases g2 : i = t
      · subst g2
        rw [eA]
        intro x y x1 x2 x3
        exact j2 x y x1 x2 (by omega)
      · intro x y x1 x2 x3
        have : (t + 1) * (2 * s) ≤ i * (2 * s) := Nat.mul_le_mul_right _ (by omega)
        omega
  refine Br.dec (fun g => ?_) fun g => ?_
  · have b1' : SortedIn (qAR F) (A + s) (A + 2 * s) d := by rw [Nat.min_eq_left (by omega)] at b1; exact b1
    have b0' : SortedIn (qAR F) A (A + s) d := by rw [Nat.min_eq_left (by omega)] at b0; exact b0
    refine qPk e0 hm hn _ A (A + s) (A + 2 * s) h d _ (Nat.le_refl _) (by omega) (by omega) (by omega) D b0' b1' fun h' d' D' P' s' => ⟨rfl, ?_⟩
    refine next (by omega) h' d' D' (permIn_trans _ _ _ _ _ P (permIn_mono _ _ _ _ _ _ (Nat.zero_le _) (by omega) (by omega) P')) (fun i hi => ?_) fun i hi => ?_
    · by_cases g2 : i < t
      · exact qIA P' (i1 i g2) (.inl (lo1 i g2))
      · have : i = t := by omega
        subst this
        rw [es, EQA]
        exact s'
    · exact qIA P' (i2 i (by omega)) (.inr (hi2 i hi))
  · refine Br.dec (fun g2 => ?_) fun g2 => ?_
    · have b1' : SortedIn (qAR F) (A + s) n d := by rw [Nat.min_eq_right (by omega)] at b1; exact b1
      have b0' : SortedIn (qAR F) A (A + s) d := by rw [Nat.min_eq_left (by omega)] at b0; exact b0
      refine qPk e0 hm hn _ A (A + s) n h d _ (Nat.le_refl _) (by omega) (by omega) (Nat.le_refl _) D b0' b1' fun h' d' D' P' s' => ⟨rfl, ?_⟩
      exact k h' d' D' (permIn_trans _ _ _ _ _ P (permIn_mono _ _ _ _ _ _ (Nat.zero_le _) (Nat.le_refl _) (by omega) P')) (blk d' (fun i hi => qIA P' (i1 i hi) (.inl (lo1 i hi))) s' (by omega) EQA)
    · have b0' : SortedIn (qAR F) A n d := by rw [Nat.min_eq_right (by omega)] at b0; exact b0
      exact k h d D P (blk d i1 b0' (by omega) EQA)
theorem qZh {K : Value → Heap → Prop} {s : Nat} (hs : 1 ≤ s) (hsn : s < n) {d0 : Array Int}
    (k : ∀ h' d', DaU F g0 B m n sp h' d' → PermIn 0 n d0 d' → Blk F n (2 * s) d' → qs (some ⟨B, 0, none⟩) n c (n : Int) ((2 * s : Nat) : Int) h' K) :
    ∀ (q t : Nat) (h : Heap) (d : Array Int), n - t * (2 * s) ≤ q → t * (2 * s) ≤ n → DaU F g0 B m n sp h d → PermIn 0 n d0 d → (∀ i, i < t → SortedIn (qAR F) (i * (2 * s)) ((i + 1) * (2 * s)) d) → (∀ i, 2 * t ≤ i → SortedIn (qAR F) (i * s) (min ((i + 1) * s) n) d) →
    qAJ (some ⟨B, 0, none⟩) n c (n : Int) (s : Int) ((t * (2 * s) : Nat) : Int) ((t * (2 * s) + 2 * s : Nat) : Int) h K := by
  intro q
  induction q with
  | zero =>
    intro t h d hq ht D P i1 i2
    exact qXC e0 hm hn hs hsn k t h d ht D P i1 i2 (fun hb => by omega)
  | succ q ih =>
    intro t h d hq ht D P i1 i2
    exact qXC e0 hm hn hs hsn k t h d ht D P i1 i2 (fun hb h' d' D' P' j1 j2 => by
      have e : (t + 1) * (2 * s) = t * (2 * s) + 2 * s := Nat.succ_mul _ _
      have := ih (t + 1) h' d' (by omega) (by omega) D' P' j1 j2
      rw [e] at this
      exact this)
theorem qZo {K : Value → Heap → Prop} {d0 : Array Int} (k : ∀ h' d', DaU F g0 B m n sp h' d' → PermIn 0 n d0 d' → SortedIn (qAR F) 0 n d' → K (tuple #[]) h') :
    ∀ (q s : Nat) (h : Heap) (d : Array Int), n - s ≤ q → 1 ≤ s → s ≤ 4000000 → DaU F g0 B m n sp h d → PermIn 0 n d0 d → Blk F n s d →
    qs (some ⟨B, 0, none⟩) n c (n : Int) (s : Int) h K := by
  have fin : ∀ (s : Nat) (h : Heap) (d : Array Int), n ≤ s → DaU F g0 B m n sp h d → PermIn 0 n d0 d → Blk F n s d → K (tuple #[]) h := fun s h d hs D P b => by
    have := b 0
    rw [Nat.zero_mul, Nat.zero_add, Nat.one_mul, Nat.min_eq_right hs] at this
    exact k h d D P this
  intro q
  induction q with
  | zero =>
    intro s h d hq h1 h2 D P b
    refine qCm _ _ _ _ _ _ _ ?_
    unfold qBR
    exact Br.no (decide_eq_false (by omega)) (Ret.mk (fin s h d (by omega) D P b))
  | succ q ih =>
    intro s h d hq h1 h2 D P b
    refine qCm _ _ _ _ _ _ _ ?_
    unfold qBR
    refine Br.dec (fun g => ?_) fun g => Ret.mk (fin s h d (by omega) D P b)
    have w2 : IntKind.wrap .i64 (2 * (s : Int)) = ((2 * s : Nat) : Int) := by rw [qFD (by omega) (by omega)]; omega
    rw [w2]
    have := qZh (c := c) (K := K) e0 hm hn h1 (by omega) (d0 := d0) (fun h' d' D' P' b' => ih (2 * s) h' d' (by omega) (by omega) (by omega) D' P' b') n 0 h d (by omega) (by omega) D P (fun i hi => by omega) (fun i _ => b i)
    rw [Nat.zero_mul, Nat.zero_add] at this
    exact this
theorem qUz {K : Value → Heap → Prop} {d0 : Array Int} (k : ∀ h' d', DaU F g0 B m n sp h' d' → PermIn 0 n d0 d' → SortedIn (qAR F) 0 n d' → K (tuple #[]) h')
    (t : Nat) (h : Heap) (d : Array Int) (ht : t * 20 ≤ n) (D : DaU F g0 B m n sp h d) (P : PermIn 0 n d0 d) (b : ∀ i, i < t → SortedIn (qAR F) (i * 20) ((i + 1) * 20) d)
    (next : t * 20 + 20 ≤ n → ∀ h' d', DaU F g0 B m n sp h' d' → PermIn 0 n d0 d' → (∀ i, i < t + 1 → SortedIn (qAR F) (i * 20) ((i + 1) * 20) d') →
      qAK (some ⟨B, 0, none⟩) n c (n : Int) 20 ((t * 20 + 20 : Nat) : Int) ((t * 20 + 20 + 20 : Nat) : Int) h' K) :
    qAK (some ⟨B, 0, none⟩) n c (n : Int) 20 ((t * 20 : Nat) : Int) ((t * 20 + 20 : Nat) : Int) h K := by
  refine qE1 _ _ _ _ _ _ _ _ _ ?_
  unfold qCp
  have z : d.size = n := D.sz
  have w : IntKind.wrap .i64 (((t * 20 + 20 : Nat) : Int) + 20) = ((t * 20 + 20 + 20 : Nat) : Int) := by rw [qFD (by omega) (by omega)]; omega
  rw [w]
  refine Br.dec (fun g => ?_) fun g => ?_
  · refine qNV e0 hm trivial hn (by omega) (by omega) D fun h' D' => ⟨rfl, ?_⟩
    obtain ⟨p, s⟩ := insertionSort_holds (qPY F) d (t * 20) (t * 20 + 20) (by omega) (by omega)
    refine next (by omega) h' _ D' (permIn_trans _ _ _ _ _ P (permIn_mono _ _ _ _ _ _ (Nat.zero_le _) (by omega) (by omega) p)) fun i hi => ?_
    by_cases g2 : i < t
    · exact qIA p (b i g2) (.inl (by omega))
    · have : i = t := by omega
      subst this
      rw [show (i + 1) * 20 = i * 20 + 20 by omega]; exact s
  · refine qNV e0 hm trivial hn (by omega) (Nat.le_refl _) D fun h' D' => ⟨rfl, ?_⟩
    obtain ⟨p, s⟩ := insertionSort_holds (qPY F) d (t * 20) n (by omega) (by omega)
    refine qZo e0 hm hn k n 20 h' _ (by omega) (by decide) (by decide) D' (permIn_trans _ _ _ _ _ P (permIn_mono _ _ _ _ _ _ (Nat.zero_le _) (Nat.le_refl _) (by omega) p)) fun i => ?_
    by_cases g2 : i < t
    · rw [Nat.min_eq_left (by omega)]; exact qIA p (b i g2) (.inl (by omega))
    · by_cases g3 : i = t
      · subst g3
        intro x y x1 x2 x3
        exact s x y x1 x2 (by omega)
      · intro x y x1 x2 x3
        omega
theorem qZn {K : Value → Heap → Prop} {d0 : Array Int} (k : ∀ h' d', DaU F g0 B m n sp h' d' → PermIn 0 n d0 d' → SortedIn (qAR F) 0 n d' → K (tuple #[]) h') :
    ∀ (q t : Nat) (h : Heap) (d : Array Int), n - t * 20 ≤ q → t * 20 ≤ n → DaU F g0 B m n sp h d → PermIn 0 n d0 d → (∀ i, i < t → SortedIn (qAR F) (i * 20) ((i + 1) * 20) d) →
    qAK (some ⟨B, 0, none⟩) n c (n : Int) 20 ((t * 20 : Nat) : Int) ((t * 20 + 20 : Nat) : Int) h K := by
  intro q
  induction q with
  | zero =>
    intro t h d hq ht D P b
    exact qUz e0 hm hn k t h d ht D P b fun hb => by omega
  | succ q ih =>
    intro t h d hq ht D P b
    exact qUz e0 hm hn k t h d ht D P b fun hb h' d' D' P' b' => by
      have := ih (t + 1) h' d' (by omega) (by omega) D' P' b'
      rw [show (t + 1) * 20 = t * 20 + 20 by omega] at this
      exact this
theorem qWZ {K : Value → Heap → Prop} {h : Heap} {d : Array Int} (D : DaU F g0 B m n sp h d) (k : ∀ h' d', DaU F g0 B m n sp h' d' → PermIn 0 n d d' → SortedIn (qAR F) 0 n d' → K (tuple #[]) h') :
    CallA Tryz.prog qx [slice (some ⟨B, 0, none⟩) n c, func (Fn.func qI) #[] #[]] h K := by
  refine qDS _ _ _ _ _ ?_
  unfold qBY
  refine qFr _ _ _ _ _ _ ?_
  unfold qDC
  exact qZn (K := fun v h => v = tuple #[] ∧ Ret h K (tuple #[])) e0 hm hn (d0 := d) (fun h' d' D' P s => ⟨rfl, Ret.mk (k h' d' D' P s)⟩) n 0 h d (by omega) (Nat.zero_le _) D (permIn_refl d 0 n) (fun i hi => by omega)
end
end Go.Proofs.YtjihfieahkbohaaGreat
