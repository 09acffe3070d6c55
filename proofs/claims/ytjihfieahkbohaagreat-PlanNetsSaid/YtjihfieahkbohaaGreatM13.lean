import Derived.Test.YtjihfieahkbohaaGreatM11
import Derived.Test.YtjihfieahkbohaaGreatM12
import Derived.Test.YtjihfieahkbohaaGreatM05
import Derived.Test.YtjihfieahkbohaaGreatM07
import Derived.Test.YtjihfieahkbohaaGreatM04
import Derived.Test.YtjihfieahkbohaaGreatM06
import Derived.Test.YtjihfieahkbohaaGreatM10
import Derived.Test.YtjihfieahkbohaaGreatM02
/- A book of instructions: all of a member let go, all of a state told. -/
namespace Go.Proofs.YtjihfieahkbohaaGreat
open Go Go.Sy Go.Value Go.Sort
set_option linter.unusedVariables false
set_option linter.unusedSimpArgs false

section
variable {h0 h : Heap} {K : Value → Heap → Prop} {p : Nat} {S : Bk} {lp : Option Addr} {c mr : Nat}
theorem w1d {j : Nat} (h : j ≤ 4000000) : IntKind.wrap .i64 ((j : Int) + 1) = ((j + 1 : Nat) : Int) := by rw [qK (by omega) (by omega)]; omega
/-! all of a member -/
def qK8 (m : Int) (L : List En) (j : Nat) : List En := qWh m (L.take j) ++ L.drop j
theorem qSe {m : Int} {L : List En} {j : Nat} (hj : j < L.length) : (qK8 m L j)[j]? = some L[j] := by
  unfold qK8 qWh
  rw [List.getElem?_append_right (by rw [List.length_map, List.length_take]; omega), List.length_map, List.length_take, Nat.min_eq_left (by omega), Nat.sub_self, List.getElem?_drop, List.getElem?_eq_getElem (by omega)]
  rfl
theorem qRw {m : Int} {L : List En} {j : Nat} (hj : j < L.length) : qK8 m L (j + 1) = (qK8 m L j).set j (qMl m L[j]) := by
  unfold qK8 qWh
  rw [List.take_succ_eq_append_getElem hj, List.map_append, List.map_cons, List.map_nil, List.drop_eq_getElem_cons hj]
  have hl : ((L.take j).map (qMl m)).length = j := by rw [List.length_map, List.length_take]; omega
  rw [List.set_append_right _ _ (by omega), hl, Nat.sub_self, List.set_cons_zero, List.append_assoc]; rfl
theorem Bk.Ok.part {m : Int} (ok : S.Ok) : ∀ (j : Nat), j ≤ S.L.length → ({ S with L := qK8 m S.L j } : Bk).Ok
  | 0, _ => ok
  | j + 1, hj => by
    have o := Bk.Ok.part (m := m) ok j (by omega)
    have hx := qSe (m := m) (L := S.L) (j := j) (by omega)
    rw [qRw (by omega)]
    refine o.chg (i := j) (x := S.L[j]) (y := qMl m S.L[j]) hx ?_ ?_ ?_
    · unfold qMl; split <;> rfl
    · unfold qMl; split <;> rfl
    · have hc := ok.could _ (List.getElem_mem (show j < S.L.length by omega))
      unfold qMl
      split
      · unfold couldE at hc ⊢
        dsimp only
        omega
      · exact hc
/-! all of a state -/
def ofS (s : Int) (L : List En) : List En := L.filter fun x => decide (x.st = s)
theorem qVU {s : Int} {L : List En} {j : Nat} (hj : j < L.length) : ofS s (L.take (j + 1)) = if L[j].st = s then ofS s (L.take j) ++ [L[j]] else ofS s (L.take j) := by
  unfold ofS
  rw [List.take_succ_eq_append_getElem hj, List.filter_append]
  split
  · rename_i g
    rw [List.filter_cons_of_pos (by simpa using g)]; rfl
  · rename_i g
    rw [List.filter_cons_of_neg (by simpa using g)]; simp
theorem qSr (s : Int) (L : List En) : (ofS s L).length ≤ L.length := List.length_filter_le _ _
theorem qTc {F : List En} {n fc : Nat} {fp : Option Addr} (hF : F.length = n) (hn : n ≤ 200) (A : Arr eV h0 fp F) (k : ∀ h' q c', h0.le h' → Ints .i64 h' q (F.map fun x => x.d.id) → K (slice q n c') h') :
    ∀ (m j : Nat) (h : Heap) (out : Option Addr) (oc : Nat), m + j = n → h0.le h → OwnL h0 h [.int .i64 0] out oc (qf .i64 ((F.take j).map fun x => x.d.id)) → qEP out j oc fp n fc (n : Int) (j : Int) h K := by
  intro m
  induction m with
  | zero =>
    intro j h out oc hj l0 ol
    refine qJI _ _ _ _ _ _ _ _ _ _ ?_
    unfold qG9
    have hj : j = n := by omega
    subst hj
    rw [List.take_of_length_le (by omega)] at ol
    exact Br.no (by simp) (Ret.mk (k h out oc l0 ol.rd))
  | succ m ih =>
    intro j h out oc hj l0 ol
    refine qJI _ _ _ _ _ _ _ _ _ _ ?_
    unfold qG9
    have hjl : j < F.length := by omega
    refine Br.yes (decide_eq_true (by omega)) (ax qEU (A.le l0) hF rfl (List.getElem?_eq_getElem hjl) (by decide) fun b o hb hc => ?_)
    refine ⟨_, hc 0 (by decide), _, hc 1 (by decide), _, hc 2 (by decide), _, hc 3 (by decide), _, hc 4 (by decide), _, hc 5 (by decide), _, hc 6 (by decide), _, hc 7 (by decide), _, hc 8 (by decide), _, hc 9 (by decide), qGU (vs := eV F[j]) rfl fun r h1 hr l1 A1 cs => ⟨cs, _, A1.cell rfl, ?_⟩⟩
    refine qJi (ol.le l1) (by decide) (Heap.le_trans l0 l1) (by omega) rfl rfl (by rw [qw, List.length_map, List.length_take]; simp; omega) fun r4 h4 p' c' h5 hr4 l4 l5 ol5 keep how => ?_
    rw [w1d (by omega)]
    refine ih (j + 1) h5 p' c' (by omega) l5 ?_
    rw [List.take_succ_eq_append_getElem hjl, List.map_append, qDY]
    exact ol5
theorem qTk (k : K (tuple #[]) h) : CallA Tryz.prog qAn [slice none 0 0, func (Fn.func qD) #[] #[]] h K := by
  refine qDp _ _ _ _ _ ?_
  unfold qBj
  rw [show IntKind.wrap .u64 ((0 : Nat) : Int) = ((0 : Nat) : Int) from rfl]
  refine qR5 (x := 0) (by decide) ⟨_, rfl, ?_⟩
  refine qBT _ _ _ _ _ _ _ _ ?_
  unfold qAX
  refine qCF _ _ _ _ _ _ _ _ _ _ ?_
  unfold qAz
  refine Br.yes (by decide) ?_
  refine qDa _ _ _ _ _ _ _ ?_
  unfold qBg
  refine qBN _ _ _ _ _ _ _ _ ?_
  unfold qAV
  exact Br.no (by decide) (Ret.mk ⟨rfl, Ret.mk ⟨rfl, Ret.mk k⟩⟩)
theorem qZE {s : Int} {n lc : Nat} (ok : S.Ok) (hn : S.L.length = n) (A : Arr eV h0 lp S.L) (k : ∀ h' q c', h0.le h' → Ints .i64 h' q (qDf S s) → K (slice q (qDf S s).length c') h') :
    ∀ (m j : Nat) (h : Heap) (l : Option Addr) (c : Nat), m + j = n → h0.le h → OwnL h0 h z10 l c ((ofS s (S.L.take j)).flatMap eV) → qEe s l (ofS s (S.L.take j)).length c lp n lc (n : Int) (j : Int) h K := by
  have hn2 := ok.n
  intro m
  induction m with
  | zero =>
    intro j h l c hj l0 ol
    refine qJH _ _ _ _ _ _ _ _ _ _ _ ?_
    unfold qHD
    have hj : j = S.L.length := by omega
    subst hj
    rw [List.take_length] at ol ⊢
    have hF := qSr s S.L
    refine Br.no (by simp; omega) (Br.intro (fun g => ?_) fun g => ?_)
    · have g : s = 2 := by simpa using g
      subst g
      rcases ol with ⟨e1, rfl, rfl⟩ | ⟨B, sp, rfl, e0, a, ek⟩
      · have e1 : ofS 2 S.L = [] := by
          have := congrArg List.length e1
          rw [qp qEU, List.length_nil] at this
          exact List.length_eq_zero_iff.1 (by omega)
        rw [e1]
        refine qTk ⟨rfl, ?_⟩
        have e2 : qDf S 2 = [] := (qM0 ok (d := []) (by rw [show (S.L.filter fun x => decide (x.st = 2)) = [] from e1]) .nil).symm
        rw [e2] at k
        exact qTc (F := []) rfl (Nat.zero_le _) (.inl rfl) (fun h' q c' l' I => k h' q c' (Heap.le_trans l0 l') I) 0 0 h none 0 rfl (Heap.le_refl _) (.nil _ _ _)
      · refine qSj (left := ofS 2 S.L) (g0 := h0) (m := (ofS 2 S.L).length) (d := (qHC (ofS 2 S.L).length).toArray) (sp := sp) e0 rfl trivial (by omega) ⟨l0, ?_, by simp [qJZ], rfl⟩ fun h' d' D' hp hs => ⟨rfl, ?_⟩
        · have := qQe (ofS 2 S.L)
          rw [show (qHC (ofS 2 S.L).length).toArray.toList = qHC (ofS 2 S.L).length from rfl, this]
          exact a
        · obtain ⟨q1, q2⟩ := qUb rfl hp hs
          have e2 := qM0 ok q1 q2
          rw [← e2, List.length_map] at k
          have hl : (qIx (ofS 2 S.L) d'.toList).length = (ofS 2 S.L).length := q1.length_eq
          rw [hl] at k
          exact qTc hl (by omega) (D'.at_.toRd) (fun h2 q c' l' I => k h2 q c' (Heap.le_trans D'.le l') I) (ofS 2 S.L).length 0 h' none 0 (by omega) (Heap.le_refl _) (.nil _ _ _)
    · have g : s ≠ 2 := by simpa using g
      have e2 : qDf S s = (ofS s S.L).map fun x => x.d.id := by unfold qDf; rw [if_neg g]; rfl
      rw [e2, List.length_map] at k
      exact qTc (F := ofS s S.L) rfl (by omega) ol.rd (fun h' q c' l' I => k h' q c' (Heap.le_trans l0 l') I) (ofS s S.L).length 0 h none 0 (by omega) (Heap.le_refl _) (.nil _ _ _)
  | succ m ih =>
    intro j h l c hj l0 ol
    refine qJH _ _ _ _ _ _ _ _ _ _ _ ?_
    unfold qHD
    have hjl : j < S.L.length := by omega
    have hl := qVU (s := s) hjl
    have hF := qSr s (S.L.take j)
    rw [List.length_take] at hF
    refine Br.yes (decide_eq_true (by omega)) (ax qEU (A.le l0) hn rfl (List.getElem?_eq_getElem hjl) (by decide) fun b o hb hc => ?_)
    refine ⟨_, hc 0 (by decide), _, hc 1 (by decide), _, hc 2 (by decide), _, hc 3 (by decide), _, hc 4 (by decide), _, hc 5 (by decide), _, hc 6 (by decide), _, hc 7 (by decide), _, hc 8 (by decide), _, hc 9 (by decide), qGU (vs := eV S.L[j]) rfl fun r h1 hr l1 A1 cs => ⟨cs, _, A1.cell rfl, Br.intro (fun g => ?_) fun g => ?_⟩⟩
    · rw [if_pos (by simpa using g)] at hl
      refine ⟨_, A1.cell rfl, _, A1.cell rfl, _, A1.cell rfl, _, A1.cell rfl, _, A1.cell rfl, _, A1.cell rfl, _, A1.cell rfl, _, A1.cell rfl, _, A1.cell rfl, _, A1.cell rfl, ?_⟩
      refine qJi (ol.le l1) (by decide) (Heap.le_trans l0 l1) (by omega) rfl rfl (by rw [qp qEU]; rfl) fun r4 h4 p' c' h5 hr4 l4 l5 ol5 keep how => ?_
      rw [w1d (by omega)]
      have := ih (j + 1) h5 p' c' (by omega) l5 (by rw [hl, List.flatMap_append, List.flatMap_cons, List.flatMap_nil, List.append_nil]; exact ol5)
      rw [hl, List.length_append] at this
      exact this
    · rw [if_neg (by simpa using g)] at hl
      rw [w1d (by omega)]
      have := ih (j + 1) _ l c (by omega) (Heap.le_trans l0 l1) (by rw [hl]; exact ol.le l1)
      rw [hl] at this
      exact this
theorem qZK (P : PB h p S) {s : Int} (k : ∀ h' q c', h.le h' → Ints .i64 h' q (qDf S s) → K (slice q (qDf S s).length c') h') : CallA Tryz.prog qHp [pointer (some ⟨p, 0, none⟩), .int .i64 s] h K := by
  obtain ⟨ok, lp, c, mr, B⟩ := P
  refine qO9 _ _ _ _ ?_
  unfold qKd
  refine qB rfl ⟨_, _, _, B.ap.cell rfl, ?_⟩
  exact qZE ok rfl B.arr k S.L.length 0 h none 0 (by omega) (Heap.le_refl _) (.nil _ _ _)
end
end Go.Proofs.YtjihfieahkbohaaGreat

/- Members' nets: what plan.Net computes. -/
namespace Go.Proofs.YtjihfieahkbohaaGreat
open Go Go.Sy Go.Value
set_option linter.unusedVariables false
set_option linter.unusedSimpArgs false

/-! ### flows, plainly -/
def flD (d : Dl) : List (Int × Int × Int) := [(d.a, d.sc, -d.sell), (d.b, d.sc, d.sell), (d.b, d.bc, -d.buy), (d.a, d.bc, d.buy)]
def flF (l : List (Int × Int × Int)) (m c : Int) : List Int := (l.filter fun x => decide (x.1 = m ∧ x.2.1 = c)).map fun x => x.2.2
theorem qP6 (l l' : List (Int × Int × Int)) (m c : Int) : flF (l ++ l') m c = flF l m c ++ flF l' m c := by unfold flF; rw [List.filter_append, List.map_append]
theorem qS7 (m c n x y : Int) : flF [(m, c, n)] x y = if x = m ∧ y = c then [n] else [] := by
  unfold flF
  by_cases h : x = m ∧ y = c
  · obtain ⟨rfl, rfl⟩ := h
    rw [if_pos ⟨rfl, rfl⟩]
    simp
  · rw [if_neg h, List.filter_cons_of_neg (by simp only [decide_eq_true_eq]; exact fun e => h ⟨e.1.symm, e.2.symm⟩)]
    rfl
theorem qS5 (l : List (Int × Int × Int)) (m c : Int) : (flF l m c).length ≤ l.length := by unfold flF; rw [List.length_map]; exact List.length_filter_le _ _
def dsM (S : Bk) : List Dl := (qDf S 2).map fun id => (qE9 S id).1
def flS (S : Bk) : List (Int × Int × Int) := (dsM S).flatMap flD
def inD (ms cs : Int) (d : Dl) : Bool := decide (d.a < ms ∧ d.b < ms ∧ d.sc < cs ∧ d.bc < cs)
def qQY (n : Int) : Bool := decide (-9223372036854775808 ≤ n ∧ n ≤ 9223372036854775807)
def qDh (fl : List (Int × Int × Int)) (m c : Nat) : Int := qP (flF fl m c)
def qKO (fl : List (Int × Int × Int)) (cs m : Nat) : List Int := (List.range cs).map fun c => qDh fl m c
def qJo (fl : List (Int × Int × Int)) (ms cs : Nat) : Bool := (List.range ms).all fun m => (List.range cs).all fun c => qQY (qDh fl m c)
def qIm (S : Bk) (ms cs : Int) : List (List Int) × Int :=
  if ¬ (1 ≤ ms ∧ ms ≤ 16 ∧ 1 ≤ cs ∧ cs ≤ 8) then ([], 1) else if (dsM S).all (inD ms cs) = false then ([], 1)
  else if qJo (flS S) ms.toNat cs.toNat = false then ([], 3) else ((List.range ms.toNat).map (qKO (flS S) cs.toNat), 0)
theorem qTB {S : Bk} (ok : S.Ok) : (qDf S 2).length ≤ 40000 := by
  have h1 := ok.ords.length_eq
  rw [qNS] at h1
  have h2 : (qB0 S.L).length ≤ S.L.length := by
    unfold qB0
    exact Nat.le_trans (List.length_filter_le _ _) (by rw [List.length_map]; exact Nat.le_refl _)
  have h3 := ok.n
  have h4 : ∀ (f : Nat → List En) (n k : Nat), (∀ i, (f i).length ≤ k) → ((List.range n).flatMap f).length ≤ n * k := fun f n k hk => by
    induction n with
    | zero => simp
    | succ n ih =>
      rw [List.range_succ, List.flatMap_append, List.length_append, Nat.succ_mul]
      have := hk n
      simp only [List.flatMap_cons, List.flatMap_nil, List.append_nil]
      omega
  unfold qDf
  rw [if_pos rfl, List.length_map]
  refine Nat.le_trans (h4 _ S.mat S.L.length fun i => List.length_filter_le _ _) ?_
  exact Nat.mul_le_mul (Nat.le_trans (Nat.le_of_eq h1.symm) (Nat.le_trans h2 h3)) h3
theorem qRv {S : Bk} (ok : S.Ok) (id : Int) : (0 ≤ (qE9 S id).1.a ∧ 0 ≤ (qE9 S id).1.b ∧ 0 ≤ (qE9 S id).1.sc ∧ 0 ≤ (qE9 S id).1.bc) ∧ 0 ≤ (qE9 S id).1.sell ∧ (qE9 S id).1.sell ≤ 9223372036854775807 ∧ 0 ≤ (qE9 S id).1.buy ∧ (qE9 S id).1.buy ≤ 9223372036854775807 := by
  unfold qE9
  split
  · rename_i x hx
    have hx : x ∈ S.L := by
      unfold qR2 at hx
      obtain ⟨i, _, h2⟩ := Option.bind_eq_some_iff.1 hx
      exact List.mem_of_getElem? h2
    have h1 := ok.may x hx
    have h2 := ok.i64 x hx
    unfold qHP qLV at h1
    simp only [decide_eq_true_eq] at h1
    dsimp only
    omega
  · unfold dl0; dsimp only; omega

/-! ### the map of flows -/
def kV (m c : Int) : Value := agg #[.int .i64 m, .int .i64 c]
theorem qXz {m c x y : Int} (h : kV m c = kV x y) : m = x ∧ c = y := by
  unfold kV at h
  simpa using h
theorem qSs : WideMaps.KeyLaw Tryz.prog 69 := deep_law (m := 9) (by decide) (by kernel_rfl) (by kernel_rfl) (by kernel_rfl)
theorem qSJ {m c : Int} (hm : I64 m) (hc : I64 c) : ∃ l, keyOf Tryz.prog 69 (kV m c) = some l := by
  have e1 : Tryz.prog.underlying 69 = some (.struct (Tryz.prog.fieldsOf 69)) := by kernel_rfl
  have e2 : Tryz.prog.keyType 69 = true := by kernel_rfl
  have e3 : (Tryz.prog.fieldsOf 69).toList = [(Tryz.prog.fieldsOf 69)[0]!, (Tryz.prog.fieldsOf 69)[1]!] := by kernel_rfl
  have e4 : Tryz.prog.cellsOf 69 = 2 := by kernel_rfl
  have e5 : (Tryz.prog.fieldsOf 69).all (·.name != "_") = true := by kernel_rfl
  have f1 : Tryz.prog.underlying (Tryz.prog.fieldsOf 69)[0]!.type = some (.int .i64) := by kernel_rfl
  have f2 : Tryz.prog.underlying (Tryz.prog.fieldsOf 69)[1]!.type = some (.int .i64) := by kernel_rfl
  have f3 : (Tryz.prog.fieldsOf 69)[0]!.offset = 0 := by kernel_rfl
  have f4 : (Tryz.prog.fieldsOf 69)[1]!.offset = 1 := by kernel_rfl
  have f5 : Tryz.prog.cellsOf (Tryz.prog.fieldsOf 69)[0]!.type = 1 := by kernel_rfl
  have f6 : Tryz.prog.cellsOf (Tryz.prog.fieldsOf 69)[1]!.type = 1 := by kernel_rfl
  have g1 : (Lit.int .i64 m).wf = true := Bool.and_eq_true_iff.2 ⟨decide_eq_true (show (-9223372036854775808 : Int) ≤ m from hm.1), decide_eq_true hm.2⟩
  have g2 : (Lit.int .i64 c).wf = true := Bool.and_eq_true_iff.2 ⟨decide_eq_true (show (-9223372036854775808 : Int) ≤ c from hc.1), decide_eq_true hc.2⟩
  have hsz : 1 ≤ Tryz.prog.types.size := Nat.le_of_ble_eq_true (by kernel_rfl)
  have e6 : ∃ n, Tryz.prog.types.size + 1 = n + 1 + 1 := ⟨Tryz.prog.types.size - 1, by omega⟩
  obtain ⟨n, e6⟩ := e6
  have e7 : (kV m c).formed Tryz.prog 69 = true := by unfold kV Value.formed; rw [e1, e4]; rfl
  unfold keyOf
  rw [e1]
  dsimp only
  rw [e2, e7, e6]
  unfold Program.keyLits
  rw [e1]
  dsimp only
  simp only [Bool.and_self, if_true]
  rw [if_pos ⟨by rw [e4]; rfl, e5⟩, e3]
  simp only [List.mapM_cons, List.mapM_nil, f3, f4, f5, f6]
  unfold Program.keyLits
  rw [f1, f2]
  unfold kV
  simp [Value.cells, g1, g2]
theorem qPy {h : Heap} {b r : Nat} {xs : List Value} {o : Obj} (a : At h b xs) (e : h r = some o) (f : qG6 o = false) : b ≠ r := fun x => by
  subst x
  obtain ⟨T, ha⟩ := a
  rw [e] at ha; cases ha; cases f
theorem MapK.obj {kt : TypeId} {h : Heap} {r : Nat} {f : Value → Option Value} (M : MapK Tryz.prog kt h r f) : ∃ o, h r = some o ∧ qG6 o = false := M.elim fun es ⟨c, e, _⟩ => ⟨_, e, rfl⟩
def hdF (p : Int × Int → Option Addr) (c : Int × Int → Nat) (fl : List (Int × Int × Int)) (x y : Int) : Option Value := if flF fl x y = [] then none else some (.slice (p (x, y)) (flF fl x y).length (c (x, y)))
structure NIx (g0 h : Heap) (r : Nat) (fl : List (Int × Int × Int)) (f : Value → Option Value) (p : Int × Int → Option Addr) (c : Int × Int → Nat) : Prop where
  le : g0.le h
  gr : g0 r = none
  mp : MapK Tryz.prog 69 h r f
  hf : ∀ x y, f (kV x y) = hdF p c fl x y
  fam : Fms g0 h [.int .i64 0] p c fun q => qf .i64 (flF fl q.1 q.2)
  em : ∀ x y, flF fl x y = [] → p (x, y) = none ∧ c (x, y) = 0
def NI (g0 h : Heap) (r : Nat) (fl : List (Int × Int × Int)) : Prop := ∃ f p c, NIx g0 h r fl f p c
section
variable {g0 h : Heap} {r : Nat} {fl : List (Int × Int × Int)}
theorem NI.mv (I : NI g0 h r fl) {h' : Heap} (l : h.le h') : NI g0 h' r fl := by
  obtain ⟨f, p, c, I⟩ := I
  exact ⟨f, p, c, Heap.le_trans I.le l, I.gr, I.mp.elim fun es ⟨ck, e, x⟩ => ⟨es, ck, l _ _ e, x⟩, I.hf, I.fam.le l, I.em⟩
theorem NI.base (I : NI g0 h r fl) : g0.le h := I.elim fun _ ⟨_, _, I⟩ => I.le
theorem qOJ (I : NI g0 h r fl) {m c n : Int} (hm : I64 m) (hc : I64 c) (hl : fl.length ≤ 1000000) {T1 T2 T3 : TypeId} {Q : Heap → Prop} (k : ∀ h', NI g0 h' r (fl ++ [(m, c, n)]) → Q h') :
    qO h [.int .i64 0, .int .i64 0, .int .i64 0] T1 fun r1 h1 => h1.canSt r1 0 3 ∧ ∃ n3 : Int, (h1.setN r1 0 [.int .i64 m, .int .i64 c, .int .i64 n]).cell r1 0 = some (.int .i64 n3) ∧ ∃ n4 : Int, (h1.setN r1 0 [.int .i64 m, .int .i64 c, .int .i64 n]).cell r1 1 = some (.int .i64 n4) ∧
      ∃ n5 : Int, (h1.setN r1 0 [.int .i64 m, .int .i64 c, .int .i64 n]).cell r1 2 = some (.int .i64 n5) ∧ qO (h1.setN r1 0 [.int .i64 m, .int .i64 c, .int .i64 n]) [.int .i64 n5] T2 fun r2 h2 => qRF Tryz.prog 69 h2 (some r) (agg #[.int .i64 n3, .int .i64 n4]) fun ap an ac s h3 =>
      AppA [.int .i64 0] T3 h3 ap an ac 1 (some ⟨r2, 0, none⟩) fun ap' cp h4 => qTS Tryz.prog 69 h4 (some r) s ap' (an + 1) cp fun h5 => Q h5 := by
  refine qGU (vs := [.int .i64 m, .int .i64 c, .int .i64 n]) rfl fun r1 h1 hr1 l1 A1 cs1 => ⟨cs1, _, A1.cell rfl, _, A1.cell rfl, _, A1.cell rfl, qr fun r2 h2 hr2 l2 A2 => ?_⟩
  obtain ⟨f, p, cc, I⟩ := I.mv (Heap.le_trans l1 l2)
  refine ⟨r, f, p (m, c), (flF fl m c).length, cc (m, c), rfl, I.mp, qSs, qSJ hm hc, ?_, fun o s hS hcell => ?_⟩
  · have := I.hf m c
    unfold kV at this
    rw [this]
    unfold hdF
    by_cases e : flF fl m c = []
    · obtain ⟨e1, e2⟩ := I.em m c e
      rw [if_pos e, e1, e2, e]; rfl
    · rw [if_neg e]; rfl
  obtain ⟨o1, ho1, hc1⟩ := MapK.obj I.mp
  have le3 : g0.le (h2.ins r o) := qSt I.le I.gr
  have hr3 : (h2.ins r o) r = some o := by unfold Heap.ins; rw [if_pos rfl]
  have F3 : Fms g0 (h2.ins r o) [.int .i64 0] p cc fun q => qf .i64 (flF fl q.1 q.2) := I.fam.mv fun i b xs e a => a.insM (qPy a ho1 hc1)
  have A3 : At (h2.ins r o) r2 [.int .i64 n] := A2.insM (qPy A2 ho1 hc1)
  have hlen := qS5 fl m c
  refine F3.app (i := (m, c)) (by decide) le3 (by omega) (ws := [.int .i64 n]) rfl (At.toRd (ws := []) A3) rfl (by rw [qw, List.length_singleton, Nat.mul_one]) fun p' c' h4 l4 F4 keep how => ?_
  have ne : p (m, c) ≠ some ⟨r, 0, none⟩ := fun e => by
    rcases F3.own (m, c) with ⟨_, e2, _⟩ | ⟨b, sp, e2, _, a, _⟩
    · rw [e2] at e; cases e
    · rw [e2] at e; cases e
      exact qPy a hr3 hcell rfl
  have hr4 : h4 r = some o := keep r o hr3 ne
  classical
  refine ⟨r, fun x => if x = kV m c then some (.slice (p (m, c)) (flF fl m c).length (cc (m, c))) else f x, kV m c, rfl, hS h4 hr4 _ (if_pos rfl) (fun x hx => if_neg hx), fun o2 hM hcell2 => k _ ?_⟩
  have hr5 : (h4.ins r o2) r = some o2 := by unfold Heap.ins; rw [if_pos rfl]
  have fs : ∀ x y, flF (fl ++ [(m, c, n)]) x y = if x = m ∧ y = c then flF fl m c ++ [n] else flF fl x y := fun x y => by
    rw [qP6, qS7]
    by_cases e : x = m ∧ y = c
    · rw [if_pos e, if_pos e, e.1, e.2]
    · rw [if_neg e, if_neg e, List.append_nil]
  refine ⟨fun x => if x = kV m c then some (.slice p' ((flF fl m c).length + 1) c') else f x, upd p (m, c) p', upd cc (m, c) c', qSt l4 I.gr, I.gr, hM _ hr5 _ (if_pos rfl) (fun x hx => ?_), fun x y => ?_, ?_, fun x y e => ?_⟩
  · dsimp only
    rw [if_neg hx, if_neg hx]
  · unfold hdF
    by_cases e : x = m ∧ y = c
    · obtain ⟨rfl, rfl⟩ := e
      have e0 : flF (fl ++ [(x, y, n)]) x y = flF fl x y ++ [n] := by rw [fs, if_pos ⟨rfl, rfl⟩]
      rw [e0, if_neg (show ¬ (flF fl x y ++ [n] = []) by simp), upd_same, upd_same, List.length_append]
      exact if_pos rfl
    · have e2 : (x, y) ≠ (m, c) := fun h => e (by cases h; exact ⟨rfl, rfl⟩)
      have e0 : flF (fl ++ [(m, c, n)]) x y = flF fl x y := by rw [fs, if_neg e]
      rw [e0, upd_ne _ _ e2, upd_ne _ _ e2]
      refine (if_neg (fun h => e (qXz h))).trans ?_
      exact I.hf x y
  · have e : (fun q : Int × Int => qf .i64 (flF (fl ++ [(m, c, n)]) q.1 q.2)) = upd (fun q : Int × Int => qf .i64 (flF fl q.1 q.2)) (m, c) (qf .i64 (flF fl m c) ++ [.int .i64 n]) := by
      funext q
      rw [fs]
      by_cases e : q = (m, c)
      · subst e
        rw [upd_same, if_pos ⟨rfl, rfl⟩, qDY]; rfl
      · rw [upd_ne _ _ e, if_neg (fun h => e (Prod.ext h.1 h.2))]
    rw [e]
    exact F4.mv fun i b xs e a => a.insM (qPy a hr4 hcell)
  · rw [fs] at e
    by_cases e2 : x = m ∧ y = c
    · rw [if_pos e2] at e; simp at e
    · rw [if_neg e2] at e
      have e3 : (x, y) ≠ (m, c) := fun h => e2 (by cases h; exact ⟨rfl, rfl⟩)
      rw [upd_ne _ _ e3, upd_ne _ _ e3]
      exact I.em x y e
theorem qFx {k : IntKind} {cs : List Value} {i : Nat} {x : Int} {J : Int → Prop} (e : cs[i]? = some (.int k x)) (j : J x) : qMq k cs i J := by
  unfold qMq
  rw [e]
  dsimp only
  have : qNd k k = true := by cases k <;> rfl
  rw [this]; exact j
theorem qZL {K : Value → Heap → Prop} {b q : Option Addr} {ms cs t1 t2 : Int} {qn qc : Nat} (I : NI g0 h r fl) (d : Dl) (hd : I64 d.a ∧ I64 d.b ∧ I64 d.sc ∧ I64 d.bc) (hl : fl.length ≤ 900000) (k : ∀ h', NI g0 h' r (fl ++ flD d) → qHR b ms cs (some r) q qn qc t1 (IntKind.wrap .i64 (t2 + 1)) h' K) :
    qI7 b ms cs (some r) q qn qc t1 t2 d.a d.sc (-d.sell) d.b d.sc d.sell d.b d.bc (-d.buy) d.a d.bc d.buy 0 h K := by
  refine qG5 _ _ _ _ _ _ _ _ _ _ _ _ _ _ _ _ _ _ _ _ _ _ _ _ ?_
  unfold qFz
  refine Br.yes (by decide) ⟨by decide, by decide, qFx rfl (qFx rfl (qFx rfl (qOJ I hd.1 hd.2.2.1 (by first | omega | (simp only [List.length_append, List.length_singleton]; omega)) fun h1 I => ?_)))⟩
  rw [show IntKind.wrap .i64 (0 + 1) = 1 by decide]
  refine qG5 _ _ _ _ _ _ _ _ _ _ _ _ _ _ _ _ _ _ _ _ _ _ _ _ ?_
  unfold qFz
  refine Br.yes (by decide) ⟨by decide, by decide, qFx rfl (qFx rfl (qFx rfl (qOJ I hd.2.1 hd.2.2.1 (by first | omega | (simp only [List.length_append, List.length_singleton]; omega)) fun h2 I => ?_)))⟩
  rw [show IntKind.wrap .i64 (1 + 1) = 2 by decide]
  refine qG5 _ _ _ _ _ _ _ _ _ _ _ _ _ _ _ _ _ _ _ _ _ _ _ _ ?_
  unfold qFz
  refine Br.yes (by decide) ⟨by decide, by decide, qFx rfl (qFx rfl (qFx rfl (qOJ I hd.2.1 hd.2.2.2 (by first | omega | (simp only [List.length_append, List.length_singleton]; omega)) fun h3 I => ?_)))⟩
  rw [show IntKind.wrap .i64 (2 + 1) = 3 by decide]
  refine qG5 _ _ _ _ _ _ _ _ _ _ _ _ _ _ _ _ _ _ _ _ _ _ _ _ ?_
  unfold qFz
  refine Br.yes (by decide) ⟨by decide, by decide, qFx rfl (qFx rfl (qFx rfl (qOJ I hd.1 hd.2.2.2 (by first | omega | (simp only [List.length_append, List.length_singleton]; omega)) fun h4 I => ?_)))⟩
  rw [show IntKind.wrap .i64 (3 + 1) = 4 by decide]
  refine qG5 _ _ _ _ _ _ _ _ _ _ _ _ _ _ _ _ _ _ _ _ _ _ _ _ ?_
  unfold qFz
  refine Br.no (by decide) (k h4 ?_)
  simpa only [flD, List.append_assoc, List.cons_append, List.nil_append] using I
end
section
variable {g0 : Heap} {K : Value → Heap → Prop} {p r : Nat} {S : Bk} {q : Option Addr} {qc : Nat} {ms cs : Nat}
theorem qYz (P : PB g0 p S) (X : Ints .i64 g0 q (qDf S 2)) (k0 : ∀ h', (dsM S).all (inD ms cs) = false → g0.le h' → K (tuple #[slice none 0 0, .int .i64 1]) h') (hms : ms ≤ 16) (hcs : cs ≤ 8)
    (k : ∀ h', (dsM S).all (inD ms cs) = true → NI g0 h' r (flS S) → ∀ B h2, h' B = none → h'.le h2 → At h2 B (qAm ms [slice none 0 0]) → qGV cs (some r) (some ⟨B, 0, none⟩) ms ms ms 0 h2 K) :
    ∀ (n j : Nat) (h : Heap), n + j = (qDf S 2).length → ((dsM S).take j).all (inD ms cs) = true → NI g0 h r (((dsM S).take j).flatMap flD) → qHR (some ⟨p, 0, none⟩) ms cs (some r) q (qDf S 2).length qc ((qDf S 2).length : Int) (j : Int) h K := by
  obtain ⟨ok, lp, c, mr, B⟩ := P
  have hal := qTB ok
  have hdl : (dsM S).length = (qDf S 2).length := by unfold dsM; rw [List.length_map]
  intro n
  induction n with
  | zero =>
    intro j h hj ha I
    refine qM8 _ _ _ _ _ _ _ _ _ _ _ ?_
    unfold qKJ
    rw [List.take_of_length_le (by omega)] at ha I
    refine Br.no (by simp; omega) ⟨by omega, by omega, by omega, by omega, qr fun B h2 hB l2 A2 => ?_⟩
    rw [Int.toNat_natCast] at A2 ⊢
    exact k h ha I B h2 hB l2 A2
  | succ n ih =>
    intro j h hj ha I
    refine qM8 _ _ _ _ _ _ _ _ _ _ _ ?_
    unfold qKJ
    have hjl : j < (qDf S 2).length := by omega
    have hx : (qDf S 2)[j]? = some (qDf S 2)[j] := List.getElem?_eq_getElem hjl
    have hd : (dsM S)[j]? = some (qE9 S (qDf S 2)[j]).1 := by unfold dsM; rw [List.getElem?_map, hx]; rfl
    have hnum := qRv ok (qDf S 2)[j]
    obtain ⟨f, pp, cc, Ix⟩ := I
    have le0 := Ix.le
    have I : NI g0 h r (((dsM S).take j).flatMap flD) := ⟨f, pp, cc, Ix⟩
    refine Br.yes (by simp; omega) (ix (X.le le0) rfl (j := j) rfl hx ?_)
    refine qXq (B.le le0) fun h1 l1 => ⟨_, _, _, _, _, _, _, _, rfl, ?_⟩
    have I := I.mv l1
    generalize (qE9 S (qDf S 2)[j]).1 = d at *
    have tk : (dsM S).take (j + 1) = (dsM S).take j ++ [d] := by rw [List.take_add_one, hd]; rfl
    have bad : inD ms cs d = false → (dsM S).all (inD ms cs) = false := fun hb => by
      rw [List.all_eq_false]
      exact ⟨d, List.mem_of_getElem? hd, by rw [hb]; decide⟩
    refine qGU (vs := dV d) rfl fun r2 h2 hr2 l2 A2 cs2 => ⟨cs2, _, A2.cell rfl, _, A2.cell rfl, ?_⟩
    have I := I.mv l2
    refine Br.dec (fun g => Ret.mk (k0 _ (bad ?_) I.base)) fun g1 => ⟨_, A2.cell rfl, _, A2.cell rfl, Br.dec (fun g => Ret.mk (k0 _ (bad ?_) I.base)) fun g2 => ?_⟩
    · unfold inD; rw [decide_eq_false_iff_not]; split at g <;> omega
    · unfold inD; rw [decide_eq_false_iff_not]; split at g <;> omega
    have hin : d.a < ms ∧ d.b < ms ∧ d.sc < cs ∧ d.bc < cs := by split at g1 <;> split at g2 <;> omega
    have hI4 : I64 d.a ∧ I64 d.b ∧ I64 d.sc ∧ I64 d.bc := by unfold I64; omega
    have hin : inD ms cs d = true := by
      unfold inD
      rw [decide_eq_true_eq]
      exact hin
    refine ⟨_, A2.cell rfl, _, A2.cell rfl, _, A2.cell rfl, _, A2.cell rfl, _, A2.cell rfl, _, A2.cell rfl, _, A2.cell rfl, _, A2.cell rfl, _, A2.cell rfl, _, A2.cell rfl, _, A2.cell rfl, _, A2.cell rfl, ?_⟩
    have w1' : IntKind.wrap .i64 (0 - d.sell) = -d.sell := by rw [qK (by omega) (by omega)]; omega
    have w2 : IntKind.wrap .i64 (0 - d.buy) = -d.buy := by rw [qK (by omega) (by omega)]; omega
    rw [w1', w2]
    have fll : (((dsM S).take j).flatMap flD).length ≤ 900000 := by
      have : (((dsM S).take j).flatMap flD).length = ((dsM S).take j).length * 4 := by rw [List.length_flatMap, show (fun x => (flD x).length) = fun _ => 4 from rfl, List.map_const', List.sum_replicate_nat]
      rw [this, List.length_take]
      omega
    refine qZL I d hI4 fll fun h3 I => ?_
    rw [w1 (by omega)]
    refine ih (j + 1) h3 (by omega) ?_ ?_
    · rw [tk, List.all_append, ha]
      simp [hin]
    · rw [tk, List.flatMap_append]
      simpa using I
end
end Go.Proofs.YtjihfieahkbohaaGreat

/- Members' nets, whole: what plan.Net answers. -/
namespace Go.Proofs.YtjihfieahkbohaaGreat
open Go Go.Sy Go.Value
set_option linter.unusedVariables false
set_option linter.unusedSimpArgs false

def enI (x : Int) : List Value := [.int .i64 x]
theorem qWk (l : List Int) : l.flatMap enI = qf .i64 l := by
  induction l with
  | nil => rfl
  | cons x l ih => rw [List.flatMap_cons, ih]; rfl
theorem qV7 {fl : List (Int × Int × Int)} {ms cs m c : Nat} (hm : m < ms) (hc : c < cs) (h : ¬ I64 (qDh fl m c)) : qJo fl ms cs = false := by
  unfold qJo
  rw [List.all_eq_false]
  refine ⟨m, List.mem_range.2 hm, ?_⟩
  rw [Bool.not_eq_true, List.all_eq_false]
  refine ⟨c, List.mem_range.2 hc, ?_⟩
  unfold qQY
  rw [decide_eq_true_eq]
  exact h
theorem qUO {fl : List (Int × Int × Int)} {ms cs : Nat} (h : ∀ m c, m < ms → c < cs → I64 (qDh fl m c)) : qJo fl ms cs = true := by
  unfold qJo
  rw [List.all_eq_true]
  intro m hm
  rw [List.all_eq_true]
  intro c hc
  unfold qQY
  rw [decide_eq_true_eq]
  exact h m c (List.mem_range.1 hm) (List.mem_range.1 hc)
theorem qRM (fl : List (Int × Int × Int)) (cs m : Nat) : (qKO fl cs m).length = cs := by unfold qKO; rw [List.length_map, List.length_range]
theorem qUy {fl : List (Int × Int × Int)} {cs m j : Nat} (h : j < cs) : (qKO fl cs m).take (j + 1) = (qKO fl cs m).take j ++ [qDh fl m j] := by
  rw [List.take_add_one]
  unfold qKO
  rw [List.getElem?_map, List.getElem?_range h]; rfl
def qGl (fl : List (Int × Int × Int)) (cs m j i : Nat) : List Int := if i < m then qKO fl cs i else if i = m then (qKO fl cs m).take j else []
theorem qTV (fl : List (Int × Int × Int)) (cs m i : Nat) : qGl fl cs m cs i = qGl fl cs (m + 1) 0 i := by
  unfold qGl
  by_cases h : i < m
  · rw [if_pos h, if_pos (by omega)]
  · rw [if_neg h]
    by_cases h2 : i = m
    · rw [if_pos h2, if_pos (by omega), List.take_of_length_le (by rw [qRM]; omega), h2]
    · rw [if_neg h2, if_neg (by omega)]
      split <;> rfl
theorem qXN {S : Bk} (ok : S.Ok) (m c : Int) : qHN (flF (flS S) m c) := by
  intro x hx
  unfold flF flS dsM at hx
  rw [List.mem_map] at hx
  obtain ⟨t, ht, rfl⟩ := hx
  have ht := (List.mem_filter.1 ht).1
  rw [List.mem_flatMap] at ht
  obtain ⟨d, hd, ht⟩ := ht
  rw [List.mem_map] at hd
  obtain ⟨id, _, rfl⟩ := hd
  have hn := qRv ok id
  unfold flD at ht
  unfold I64
  simp only [List.mem_cons, List.not_mem_nil, or_false] at ht
  rcases ht with rfl | rfl | rfl | rfl <;> dsimp only <;> omega
section
variable {g0 g1 : Heap} {K : Value → Heap → Prop} {r B : Nat} {S : Bk} {ms cs : Nat}
theorem qY6 (ok : S.Ok) (NB : NI g0 g1 r (flS S)) (hms : ms ≤ 16) (hcs : cs ≤ 8) (k0 : ∀ h', g0.le h' → qJo (flS S) ms cs = false → K (tuple #[slice none 0 0, .int .i64 3]) h') {m : Nat} (hm : m < ms)
    (k : ∀ h' p c, (∀ j, j < cs → I64 (qDh (flS S) m j)) → Tbl enI [.int .i64 0] g1 h' B ms p c (qGl (flS S) cs m cs) → qGV cs (some r) (some ⟨B, 0, none⟩) ms ms ms ((m + 1 : Nat) : Int) h' K) :
    ∀ (n j : Nat) (h : Heap) (p : Nat → Option Addr) (c : Nat → Nat), n + j = cs → (∀ i, i < j → I64 (qDh (flS S) m i)) → Tbl enI [.int .i64 0] g1 h B ms p c (qGl (flS S) cs m j) → qGS cs (some r) (some ⟨B, 0, none⟩) ms ms (m : Int) ms (m : Int) cs (j : Int) h K := by
  intro n
  induction n with
  | zero =>
    intro j h p c hj hf T
    have hj : j = cs := by omega
    subst hj
    refine qNF _ _ _ _ _ _ _ _ _ _ _ _ ?_
    unfold qKU
    rw [w1 (j := m) (by omega)]
    exact Br.no (by simp) (k h p c hf T)
  | succ n ih =>
    intro j h p c hj hf T
    refine qNF _ _ _ _ _ _ _ _ _ _ _ _ ?_
    unfold qKU
    obtain ⟨f, pp, cc, I⟩ := NB.mv T.le
    have hall := qTB ok
    have hfl : (flS S).length ≤ 200000 := by
      unfold flS dsM
      rw [List.length_flatMap, show (fun x => (flD x).length) = fun _ => 4 from rfl, List.map_const', List.sum_replicate_nat, List.length_map]
      omega
    have hlen := qS5 (flS S) (m : Int) (j : Int)
    refine Br.yes (by simp; omega) ⟨r, f, rfl, I.mp, qSs, qSJ (by unfold I64; omega) (by unfold I64; omega), ?_⟩
    have main : ∀ a cp, Ints .i64 h a (flF (flS S) m j) → CallA Tryz.prog qHT [slice a (flF (flS S) m j).length cp] h fun v h => ∃ (n : Int) (n_1 : Int), v = tuple #[.int .i64 n, .int .i64 n_1] ∧ Br (n_1 != 0) (Ret h K (tuple #[slice none 0 0, .int .i64 n_1]))
        (0 ≤ (m : Int) ∧ (m : Int) < (ms : Int) ∧ qA (some ⟨B, 0, none⟩) fun b o => ∃ (a : Option Addr) (n_2 : Nat) (m_1 : Nat), h.cell b (o + Int.toNat (m : Int)) = some (slice a n_2 m_1) ∧ qO h [.int .i64 n] 2 fun r3 h => AppA [.int .i64 0] 2 h a n_2 m_1 1 (some ⟨r3, 0, none⟩) fun ap cp h =>
          0 ≤ (m : Int) ∧ (m : Int) < (ms : Int) ∧ qA (some ⟨B, 0, none⟩) fun b o => h.canSt b (o + Int.toNat (m : Int)) 1 ∧ qGS cs (some r) (some ⟨B, 0, none⟩) ms ms (m : Int) ms (m : Int) cs (IntKind.wrap .i64 ((j : Int) + 1)) (h.setN b (o + Int.toNat (m : Int)) [slice ap (n_2 + 1) cp]) K) := fun a cp X => by
      refine qWx (by omega) (qXN ok m j) h X _ ⟨_, _, rfl, ?_⟩
      by_cases hi : I64 (qDh (flS S) m j)
      · have e : fit (qP (flF (flS S) m j)) = (qDh (flS S) m j, 0) := qIG hi
        rw [e]
        refine Br.no rfl ⟨by omega, by omega, qB rfl ⟨_, _, _, T.get hm, ?_⟩⟩
        have hX : qGl (flS S) cs m j m = (qKO (flS S) cs m).take j := by unfold qGl; rw [if_neg (by omega), if_pos rfl]
        have hXl : (qGl (flS S) cs m j m).length = j := by rw [hX, List.length_take, qRM]; omega
        refine T.push (J := fun h => qGS cs (some r) (some ⟨B, 0, none⟩) ms ms (m : Int) ms (m : Int) cs (IntKind.wrap .i64 ((j : Int) + 1)) h K) (x := qDh (flS S) m j) (by decide) (fun _ => rfl) hm (by rw [hXl]; omega) rfl rfl fun h' p' c' l' T' => ?_
        rw [w1 (by omega)]
        refine ih (j + 1) h' p' c' (by omega) (fun i hi2 => ?_) (T'.congr fun i => ?_)
        · by_cases h2 : i < j
          · exact hf i h2
          · rw [show i = j by omega]; exact hi
        · by_cases h2 : i = m
          · subst h2
            rw [upd_same, hX, ← qUy (by omega)]
            unfold qGl
            rw [if_neg (by omega), if_pos rfl]
          · rw [upd_ne _ _ h2]
            unfold qGl
            rw [if_neg h2, if_neg h2]
      · have e : (fit (qP (flF (flS S) m j))).2 = 3 := by rw [show qP (flF (flS S) m j) = qDh (flS S) m j from rfl, qGI hi]
        rw [e]
        exact Br.yes rfl (Ret.mk (k0 h (Heap.le_trans (show g0.le g1 from by obtain ⟨_, _, _, I0⟩ := NB; exact I0.le) T.le) (qV7 hm (show j < cs by omega) hi)))
    have hk := I.hf m j
    unfold hdF at hk
    by_cases e : flF (flS S) m j = []
    · rw [if_pos e] at hk
      have := main none 0 (by rw [e]; exact .inl rfl)
      rw [e] at this
      exact .inl ⟨hk, this⟩
    · rw [if_neg e] at hk
      exact .inr ⟨_, _, _, hk, main _ _ (I.fam.own (m, j)).rd⟩
theorem qYv (ok : S.Ok) (NB : NI g0 g1 r (flS S)) (hms : ms ≤ 16) (hcs : cs ≤ 8) (k0 : ∀ h', g0.le h' → qJo (flS S) ms cs = false → K (tuple #[slice none 0 0, .int .i64 3]) h')
    (k : ∀ h' p c, qJo (flS S) ms cs = true → Tbl enI [.int .i64 0] g1 h' B ms p c (qGl (flS S) cs ms 0) → K (tuple #[slice (some ⟨B, 0, none⟩) ms ms, .int .i64 0]) h') :
    ∀ (n m : Nat) (h : Heap) (p : Nat → Option Addr) (c : Nat → Nat), n + m = ms → (∀ i j, i < m → j < cs → I64 (qDh (flS S) i j)) → Tbl enI [.int .i64 0] g1 h B ms p c (qGl (flS S) cs m 0) → qGV cs (some r) (some ⟨B, 0, none⟩) ms ms ms (m : Int) h K := by
  intro n
  induction n with
  | zero =>
    intro m h p c hm hf T
    have hm : m = ms := by omega
    subst hm
    refine qM7 _ _ _ _ _ _ _ _ _ ?_
    unfold qKX
    exact Br.no (by simp) (Ret.mk (k h p c (qUO hf) T))
  | succ n ih =>
    intro m h p c hm hf T
    refine qM7 _ _ _ _ _ _ _ _ _ ?_
    unfold qKX
    refine Br.yes (by simp; omega) (qY6 ok NB hms hcs k0 (show m < ms by omega) (fun h' p' c' hf' T' => ?_) cs 0 h p c (by omega) (fun i hi => absurd hi (by omega)) T)
    refine ih (m + 1) h' p' c' (by omega) (fun i j hi hj => ?_) (T'.congr fun i => qTV _ _ _ _)
    by_cases h2 : i < m
    · exact hf i j h2 hj
    · rw [show i = m by omega]; exact hf' j hj
end
theorem qSu : ∀ n, qAm n [Value.slice none 0 0] = hdV (α := Int) (fun _ => none) (fun _ => 0) (fun _ => []) n
  | 0 => rfl
  | n + 1 => by
    unfold hdV
    rw [List.range_succ_eq_map, List.map_cons, List.map_map]
    show [Value.slice none 0 0] ++ qAm n [Value.slice none 0 0] = _
    rw [qSu n]; rfl
theorem Tbl.nets {g h : Heap} {B n : Nat} {p : Nat → Option Addr} {c : Nat → Nat} {X : Nat → List Int} (T : Tbl enI [.int .i64 0] g h B n p c X) :
    ∃ L, L.length = n ∧ Nets h (some ⟨B, 0, none⟩) L ∧ mxN L = (List.range n).map X := by
  refine ⟨(List.range n).map fun i => ⟨p i, c i, X i⟩, by rw [List.length_map, List.length_range], ⟨?_, fun x hx => ?_⟩, ?_⟩
  · have e : ((List.range n).map fun i => (⟨p i, c i, X i⟩ : NRow)).map nrV = hdV p c X n := by unfold hdV; rw [List.map_map]; rfl
    rw [e]
    exact At.toRd (ws := []) (by rw [List.append_nil]; exact T.at_)
  · obtain ⟨i, _, rfl⟩ := List.mem_map.1 hx
    have := (T.fam.own i).rd
    rw [qWk] at this
    exact this
  · unfold mxN; rw [List.map_map]; rfl
theorem qXA {h : Heap} {K : Value → Heap → Prop} {p : Nat} {S : Bk} (P : PB h p S) {ms cs : Int} (k : ∀ h' q L c, h.le h' → Nets h' q L → mxN L = (qIm S ms cs).1 → K (tuple #[slice q L.length c, .int .i64 (qIm S ms cs).2]) h') :
    CallA Tryz.prog qIB [pointer (some ⟨p, 0, none⟩), .int .i64 ms, .int .i64 cs] h K := by
  refine qPn _ _ _ _ _ ?_
  unfold qL0
  have bad : ¬ (1 ≤ ms ∧ ms ≤ 16 ∧ 1 ≤ cs ∧ cs ≤ 8) → ∀ h', h.le h' → K (tuple #[slice none 0 0, .int .i64 1]) h' := fun hb h' l' => by
    unfold qIm at k
    rw [if_pos hb] at k
    exact k h' none [] 0 l' ⟨.inl rfl, fun x hx => by cases hx⟩ rfl
  refine Br.no rfl (Br.dec (fun g => Ret.mk (bad (by omega) _ h.le_refl)) fun g1 => Br.dec (fun g => Ret.mk (bad (by omega) _ h.le_refl)) fun g2 => Br.dec (fun g => Ret.mk (bad (by omega) _ h.le_refl)) fun g3 => Br.dec (fun g => Ret.mk (bad (by omega) _ h.le_refl)) fun g4 => ?_)
  unfold qIm at k
  rw [if_neg (by omega)] at k
  intro r hr
  have lr : h.le (h.ins r (.map #[] 0)) := qt hr
  refine qZK (P.le lr) fun h2 q c l2 X => ⟨_, _, _, rfl, ?_⟩
  obtain ⟨m, rfl⟩ : ∃ m : Nat, ms = (m : Int) := ⟨ms.toNat, by omega⟩
  obtain ⟨w, rfl⟩ : ∃ w : Nat, cs = (w : Int) := ⟨cs.toNat, by omega⟩
  rw [Int.toNat_natCast, Int.toNat_natCast] at k
  have M2 : MapK Tryz.prog 69 h2 r (fun _ => none) := by
    obtain ⟨es, ck, e, x⟩ := MapK.new Tryz.prog 69 h r
    exact ⟨es, ck, l2 _ _ e, x⟩
  have l0 : h.le (h2.del r) := qUa (Heap.le_trans lr l2) hr
  have X0 : Ints .i64 (h2.del r) q (qDf S 2) := by
    rcases X with e | ⟨b, o, e, x⟩
    · exact .inl e
    · by_cases e2 : qf .i64 (qDf S 2) = []
      · exact .inl e2
      · refine qU4 (.inr ⟨b, o, e, x⟩) fun o2 e3 => ?_
        rw [e] at e3
        cases e3
        obtain ⟨ob, ho, hc⟩ := MapK.obj M2
        cases hl : qf .i64 (qDf S 2) with
        | nil => exact e2 hl
        | cons v vs =>
          have := x 0 (by rw [hl]; simp)
          unfold Heap.cell at this
          rw [ho] at this
          cases ob <;> first | (cases hc; done) | (rw [hl] at this; cases this)
  have I0 : NI (h2.del r) h2 r [] := ⟨fun _ => none, fun _ => none, fun _ => 0, qPb _ _, qMy _ _, M2, fun x y => rfl, .nil _ _ _, fun x y _ => ⟨rfl, rfl⟩⟩
  refine qYz (P.le l0) X0 (fun h' hb lb => ?_) (by omega) (by omega) (fun h' hb I B h3 hB l3 A3 => ?_) (qDf S 2).length 0 h2 (by omega) rfl I0
  · rw [hb, if_pos rfl] at k
    exact k h' none [] 0 (Heap.le_trans l0 lb) ⟨.inl rfl, fun x hx => by cases hx⟩ rfl
  rw [hb, if_neg (by decide)] at k
  have l4 := I.base
  have e : qGl (flS S) w 0 0 = fun _ => [] := by
    funext i
    unfold qGl
    rw [if_neg (by omega)]
    split <;> rfl
  refine qYv P.1 (g0 := h2.del r) I (by omega) (by omega) (fun h4 l hb => ?_) (fun h4 p c hb T => ?_) m 0 h3 (fun _ => none) (fun _ => 0) (by omega) (fun i j hi => absurd hi (by omega)) ⟨l3, hB, ?_, ?_, fun i e => by cases e⟩
  · rw [hb, if_pos rfl] at k
    exact k h4 none [] 0 (Heap.le_trans l0 l) ⟨.inl rfl, fun x hx => by cases hx⟩ rfl
  · rw [hb, if_neg (by decide)] at k
    obtain ⟨L, hL, N, hM⟩ := T.nets
    have := k h4 _ L m (Heap.le_trans l0 (Heap.le_trans l4 T.le)) N (by
      rw [hM]
      refine List.map_congr_left fun i hi => ?_
      unfold qGl
      rw [if_pos (List.mem_range.1 hi)])
    rw [hL] at this
    exact this
  · rw [e, ← qSu]
    exact A3
  · rw [e]; exact .nil _ _ _
end Go.Proofs.YtjihfieahkbohaaGreat

/- The dues of nets, whole: what plan.Schedule answers. -/
namespace Go.Proofs.YtjihfieahkbohaaGreat
open Go Go.Sy Go.Value
set_option linter.unusedVariables false
set_option linter.unusedSimpArgs false

theorem Tbl.call {α : Type} {enc : α → List Value} {z : List Value} {g h : Heap} {B n : Nat} {p : Nat → Option Addr} {c : Nat → Nat} {X : Nat → List α} {K Q : Value → Heap → Prop} {f : FuncId} {args : List Value} (T : Tbl enc z g h B n p c X)
    (cl : CallA Tryz.prog f args g Q) (k : ∀ v g' h', Q v g' → Tbl enc z g' h' B n p c X → K v h') : CallA Tryz.prog f args h K := by
  refine (cl.frame2 T.le).mono fun v h' ⟨g', q, l, e1, e2⟩ => k v g' h' q ⟨l, ?_, ?_, ⟨fun i => ?_, T.fam.ne⟩, T.ne⟩
  · obtain ⟨t, e⟩ := T.at_
    exact e2 B _ e T.gB
  · obtain ⟨t, e⟩ := T.at_
    exact ⟨t, e1 B _ e T.gB⟩
  · rcases T.fam.own i with o | ⟨r, sp, e, e0, ⟨t, a⟩, q⟩
    · exact .inl o
    · exact .inr ⟨r, sp, e, e2 r _ a e0, ⟨t, e1 r _ a e0⟩, q⟩
theorem qWJ {ds : List Int} {k m c : Nat} {n : Int} (h : ds.length ≤ k) : qIQ ds k m c n = [] := by
  unfold qIQ
  rw [List.getD_eq_getElem?_getD, List.getElem?_eq_none (by rw [qON]; exact h), if_neg (by simp)]
section
variable {g : Heap} {K : Value → Heap → Prop} {B : Nat} {ds : List Int} {L : List NRow} {q np : Option Addr} {qc lc : Nat}
theorem qZW {X : Nat → List Du} (hX : ∀ i, (X i).length ≤ 1000) (Xd : Ints .i64 g q ds) (hnd2 : ds.length ≤ 16) {n : Int} {sp rp : Option Addr} {sc rn rc : Nat} (Sh : Ints .i64 g sp (shL (-n) ds.length)) (hn : n < 0) {m j : Nat} {t38 : Int} {ln : Nat}
    (k : ∀ h' p' c', Tbl uV z4 g h' B ds.length p' c' (fun i => X i ++ qIQ ds i m j n) → qDj q ds.length qc (some ⟨B, 0, none⟩) ds.length ds.length m np ln lc t38 m rp rn rc rn (IntKind.wrap .i64 ((j : Int) + 1)) h' K) :
    ∀ (a t : Nat) (h : Heap) (p : Nat → Option Addr) (c : Nat → Nat), a + t = ds.length → Tbl uV z4 g h B ds.length p c (fun i => X i ++ if i < t then qIQ ds i m j n else []) →
    qDi q ds.length qc (some ⟨B, 0, none⟩) ds.length ds.length m j np ln lc t38 m rp rn rc rn j sp ds.length sc ds.length t h K := by
  intro a
  induction a with
  | zero =>
    intro t h p c ht T
    refine qJv _ _ _ _ _ _ _ _ _ _ _ _ _ _ _ _ _ _ _ _ _ _ _ _ _ ?_
    unfold qHS
    refine Br.no (by simp; omega) (k h p c (T.congr fun i => ?_))
    by_cases hi : i < t
    · rw [if_pos hi]
    · rw [if_neg hi, qWJ (by omega)]
  | succ a ih =>
    intro t h p c ht T
    refine qJv _ _ _ _ _ _ _ _ _ _ _ _ _ _ _ _ _ _ _ _ _ _ _ _ _ ?_
    unfold qHS
    have hs : (shL (-n) ds.length)[t]? = some ((shL (-n) ds.length).getD t 0) := by
      rw [List.getD_eq_getElem?_getD, List.getElem?_eq_getElem (by rw [qON]; omega)]; rfl
    have hd : ds[t]? = some (ds.getD t 0) := by
      rw [List.getD_eq_getElem?_getD, List.getElem?_eq_getElem (by omega)]; rfl
    refine Br.yes (by simp; omega) (ix (Sh.le T.le) (qON _ _) rfl hs ?_)
    rw [w1 (j := t) (by omega)]
    refine Br.dec (fun g1 => ?_) fun g1 => ?_
    · have hl : (X t ++ if t < t then qIQ ds t m j n else []).length ≤ 1000000 := by
        rw [if_neg (by omega), List.append_nil]
        have := hX t
        omega
      refine ⟨by omega, by omega, qB rfl ⟨_, _, _, T.get (by omega), ix (Xd.le T.le) rfl rfl hd ?_⟩⟩
      refine T.push (J := fun h => qDi q ds.length qc (some ⟨B, 0, none⟩) ds.length ds.length m j np ln lc t38 m rp rn rc rn j sp ds.length sc ds.length ((t + 1 : Nat) : Int) h K) (x := ⟨m, j, ds.getD t 0, (shL (-n) ds.length).getD t 0⟩) (by decide) qCx (show t < ds.length by omega) hl rfl rfl fun h' p' c' _ T' => ?_
      refine ih (t + 1) h' p' c' (by omega) (T'.congr fun i => ?_)
      by_cases hi : i = t
      · subst hi
        rw [upd_same, if_neg (by omega), if_pos (by omega), List.append_nil]
        unfold qIQ
        rw [if_pos ⟨hn, g1⟩]
      · rw [upd_ne _ _ hi]
        by_cases h2 : i < t
        · rw [if_pos h2, if_pos (by omega)]
        · rw [if_neg h2, if_neg (by omega)]
    · refine ih (t + 1) h p c (by omega) (T.congr fun i => ?_)
      by_cases hi : i = t
      · subst hi
        rw [if_neg (by omega), if_pos (by omega)]
        unfold qIQ
        rw [if_neg (fun x => g1 x.2)]
      · by_cases h2 : i < t
        · rw [if_pos h2, if_pos (by omega)]
        · rw [if_neg h2, if_neg (by omega)]
def qTy (x : NRow) : Prop := x.l.length ≤ 8 ∧ qHN x.l ∧ qLQ (-9223372036854775808) x.l = false
theorem qXJ {v : Int} {l : List Int} (h : qLQ v l = false) : ∀ x ∈ l, x ≠ v := fun x hx e => by
  unfold qLQ at h
  rw [List.any_eq_false] at h
  exact h x hx (by simp [e])
theorem qZi {h0 : Heap} (hnd1 : 1 ≤ ds.length) (hnd2 : ds.length ≤ 16) (hM : ∀ x ∈ L, qTy x) (hL : L.length ≤ 16) {m : Nat} {x : NRow} (hx : L[m]? = some x) {t38 : Int}
    (k : ∀ g h' p' c', h0.le g → Nets g np L → Ints .i64 g q ds → Tbl uV z4 g h' B ds.length p' c' (fun i => qJY ds i (mxN L) (m + 1)) → qEy q ds.length qc (some ⟨B, 0, none⟩) ds.length ds.length np L.length lc t38 ((m + 1 : Nat) : Int) h' K) :
    ∀ (a j : Nat) (g h : Heap) (p : Nat → Option Addr) (c : Nat → Nat), a + j = x.l.length → h0.le g → Nets g np L → Ints .i64 g q ds → Tbl uV z4 g h B ds.length p c (fun i => qJY ds i (mxN L) m ++ qN1 ds i m x.l j) →
    qDj q ds.length qc (some ⟨B, 0, none⟩) ds.length ds.length m np L.length lc t38 m x.p x.l.length x.c x.l.length j h K := by
  have hml : m < L.length := (List.getElem?_eq_some_iff.1 hx).1
  have hmem : x ∈ L := List.mem_of_getElem? hx
  obtain ⟨hw, hI, hmin⟩ := hM x hmem
  have hgd : (mxN L).getD m [] = x.l := by
    unfold mxN
    rw [List.getD_eq_getElem?_getD, List.getElem?_map, hx]; rfl
  have h8 : ∀ l ∈ mxN L, l.length ≤ 8 := fun l hl => by
    unfold mxN at hl
    obtain ⟨y, hy, rfl⟩ := List.mem_map.1 hl
    exact (hM y hy).1
  intro a
  induction a with
  | zero =>
    intro j g h p c hj l0 N X T
    refine qJu _ _ _ _ _ _ _ _ _ _ _ _ _ _ _ _ _ _ _ ?_
    unfold qHW
    have hj : j = x.l.length := by omega
    subst hj
    rw [w1 (j := m) (by omega)]
    refine Br.no (by simp) (k g h p c l0 N X (T.congr fun i => ?_))
    unfold qJY
    rw [qOa, hgd]
  | succ a ih =>
    intro j g h p c hj l0 N X T
    refine qJu _ _ _ _ _ _ _ _ _ _ _ _ _ _ _ _ _ _ _ ?_
    unfold qHW
    have hv : x.l[j]? = some (x.l.getD j 0) := by
      rw [List.getD_eq_getElem?_getD, List.getElem?_eq_getElem (by omega)]; rfl
    have hvm : x.l.getD j 0 ∈ x.l := List.mem_of_getElem? hv
    have hvI := hI _ hvm
    have hvn := qXJ hmin _ hvm
    unfold I64 at hvI
    have nxt : ∀ i, qN1 ds i m x.l (j + 1) = qN1 ds i m x.l j ++ qIQ ds i m j (x.l.getD j 0) := fun i => qOa _ j
    refine Br.yes (by simp; omega) (ix ((N.2 x hmem).le T.le) rfl rfl hv ?_)
    refine Br.dec (fun g1 => ?_) fun g1 => ?_
    · rw [w1 (j := j) (by omega)]
      refine ih (j + 1) g h p c (by omega) l0 N X (T.congr fun i => ?_)
      rw [nxt]
      unfold qIQ
      rw [if_neg (by omega), List.append_nil]
    · have hneg : IntKind.wrap .i64 (0 - x.l.getD j 0) = -x.l.getD j 0 := by rw [qK (by omega) (by omega)]; omega
      rw [hneg]
      refine T.call (qX9 (t := -x.l.getD j 0) (p := (ds.length : Int)) (by unfold I64; omega) (K := fun v g' => g.le g' ∧ ∃ sp sc, v = tuple #[slice sp ds.length sc, .int .i64 0] ∧ Ints .i64 g' sp (shL (-x.l.getD j 0) ds.length)) fun sp sc g' l I => ⟨l, sp, sc, ?_, ?_⟩) fun v g' h' ⟨l, sp, sc, e, I⟩ T' => ⟨_, _, _, _, e, ?_⟩
      · rw [qQV (by omega) hnd1 (by omega), qON]
      · rw [qQV (by omega) hnd1 (by omega)] at I; exact I
      · refine qZW (X := fun i => qJY ds i (mxN L) m ++ qN1 ds i m x.l j) (fun i => ?_) (X.le l) hnd2 I (by omega) (fun h2 p2 c2 T2 => ?_) ds.length 0 h' p c (by omega) (T'.congr fun i => by rw [if_neg (by omega), List.append_nil])
        · have e1 := qRW ds i h8 m
          have e2 := qRc ds i m x.l j
          rw [List.length_append]
          omega
        · rw [w1 (j := j) (by omega)]
          exact ih (j + 1) g' h2 p2 c2 (by omega) (Heap.le_trans l0 l) (N.le l) (X.le l) (T2.congr fun i => by rw [nxt, List.append_assoc])
theorem qZp {h0 : Heap} (hnd1 : 1 ≤ ds.length) (hnd2 : ds.length ≤ 16) (hM : ∀ x ∈ L, qTy x) (hL : L.length ≤ 16) (k : ∀ h' q' c', h0.le h' → Arr uV h' q' (qMG (mxN L) ds) → K (tuple #[slice q' (qMG (mxN L) ds).length c', .int .i64 0]) h') :
    ∀ (a m : Nat) (g h : Heap) (p : Nat → Option Addr) (c : Nat → Nat), a + m = L.length → h0.le g → Nets g np L → Ints .i64 g q ds → Tbl uV z4 g h B ds.length p c (fun i => qJY ds i (mxN L) m) →
    qEy q ds.length qc (some ⟨B, 0, none⟩) ds.length ds.length np L.length lc L.length m h K := by
  have h8 : ∀ l ∈ mxN L, l.length ≤ 8 := fun l hl => by
    unfold mxN at hl
    obtain ⟨y, hy, rfl⟩ := List.mem_map.1 hl
    exact (hM y hy).1
  intro a
  induction a with
  | zero =>
    intro m g h p c hm l0 N X T
    refine qJ3 _ _ _ _ _ _ _ _ _ _ _ _ _ ?_
    unfold qHO
    have hm : m = L.length := by omega
    subst hm
    have e : (mxN L).length = L.length := by unfold mxN; rw [List.length_map]
    refine Br.no (by simp) (qWA T (fun i => Nat.le_trans (qRW ds i h8 _) (by omega)) (by omega) fun h' q' cp l' A => ⟨_, _, _, rfl, Ret.mk ?_⟩)
    unfold qMG at k
    rw [e] at k
    exact k h' q' cp (Heap.le_trans l0 (Heap.le_trans T.le l')) A
  | succ a ih =>
    intro m g h p c hm l0 N X T
    refine qJ3 _ _ _ _ _ _ _ _ _ _ _ _ _ ?_
    unfold qHO
    have hx : L[m]? = some L[m] := List.getElem?_eq_getElem (by omega)
    refine Br.yes (by simp; omega) (nx (N.le T.le) rfl rfl hx ?_)
    exact qZi hnd1 hnd2 hM hL hx (fun g' h' p' c' l N X T => ih (m + 1) g' h' p' c' (by omega) l N X T) L[m].l.length 0 g h p c (by omega) l0 N X (T.congr fun i => by
      unfold qN1
      simp)
theorem qRk : ∀ n, qAm n [Value.slice none 0 0] = hdV (α := Du) (fun _ => none) (fun _ => 0) (fun _ => []) n
  | 0 => rfl
  | n + 1 => by
    unfold hdV
    rw [List.range_succ_eq_map, List.map_cons, List.map_map]
    show [Value.slice none 0 0] ++ qAm n [Value.slice none 0 0] = _
    rw [qRk n]; rfl
theorem qPf {h : Heap} (N : Nets h np L) (hn : L.length ≤ 1000000) (hr : ∀ x ∈ L, x.l.length ≤ 1000000 ∧ qHN x.l) (X : Ints .i64 h q ds) (hd : ds.length ≤ 1000000)
    (k : ∀ h' q' c', h.le h' → Arr uV h' q' (qLF (mxN L) ds).1 → K (tuple #[slice q' (qLF (mxN L) ds).1.length c', .int .i64 (qLF (mxN L) ds).2]) h') :
    CallA Tryz.prog qGn [slice np L.length lc, slice q ds.length qc] h K := by
  refine qPi _ _ _ _ _ _ _ _ ?_
  unfold qLI
  have e : (mxN L).length = L.length := by unfold mxN; rw [List.length_map]
  have e1 : ((mxN L).any fun l => decide ((l.length : Int) > 8)) = L.any qK2 := by unfold mxN; rw [List.any_map]; rfl
  have e2 : ((mxN L).any (qLQ (-9223372036854775808))) = L.any qIn := by unfold mxN; rw [List.any_map]; rfl
  unfold qLF at k
  rw [e, e1, e2] at k
  refine qXF X rfl hd ⟨_, rfl, ?_⟩
  cases hb : qLY ds with
  | false =>
    rw [hb, if_pos rfl] at k
    exact Br.yes rfl (Ret.mk (k h none 0 h.le_refl (.inl rfl)))
  | true =>
  rw [hb, if_neg (by decide)] at k
  refine Br.no rfl (Br.dec (fun g1 => ?_) fun g1 => ?_)
  · rw [if_pos (by omega)] at k
    exact Ret.mk (k h none 0 h.le_refl (.inl rfl))
  rw [if_neg (by omega)] at k
  refine qYU N rfl hn ⟨_, rfl, ?_⟩
  cases hb1 : L.any qK2 with
  | true =>
    rw [hb1, if_pos rfl] at k
    exact Br.yes rfl (Ret.mk (k h none 0 h.le_refl (.inl rfl)))
  | false =>
  rw [hb1, if_neg (by decide)] at k
  refine Br.no rfl (qYG N rfl hn (fun x hx => (hr x hx).1) ⟨_, rfl, ?_⟩)
  cases hb2 : L.any qIn with
  | true =>
    rw [hb2, if_pos rfl] at k
    exact Br.yes rfl (Ret.mk (k h none 0 h.le_refl (.inl rfl)))
  | false =>
  rw [hb2, if_neg (by decide)] at k
  have hds : 1 ≤ ds.length ∧ ds.length ≤ 16 := by
    unfold qLY at hb
    rw [Bool.and_eq_true, decide_eq_true_eq] at hb
    exact hb.2
  have hM : ∀ x ∈ L, qTy x := fun x hx => by
    rw [List.any_eq_false] at hb1 hb2
    have h1 := hb1 x hx
    have h2 := hb2 x hx
    unfold qK2 at h1
    unfold qIn at h2
    rw [decide_eq_true_eq] at h1
    exact ⟨by omega, (hr x hx).2, by simpa using h2⟩
  refine Br.no rfl ⟨by omega, by omega, by omega, by omega, qr fun B h2 hB l2 A2 => ?_⟩
  rw [Int.toNat_natCast] at A2 ⊢
  refine qZp (h0 := h) hds.1 hds.2 hM (by omega) (fun h' q' c' l A => k h' q' c' l A) L.length 0 h h2 (fun _ => none) (fun _ => 0) (by omega) h.le_refl N X ⟨l2, hB, ?_, ?_, fun i e => by cases e⟩
  · have e : (fun i => qJY ds i (mxN L) 0) = fun _ => [] := rfl
    rw [e, ← qRk]
    exact A2
  · exact .nil _ _ _
end
end Go.Proofs.YtjihfieahkbohaaGreat
