/- The law LedgerSums. -/
import Derived.Test.YtkcogdmddhkldaaLedOps
namespace Go.Proofs.Ytkcogdmddhkldaa
open Go Go.Sy Go.Value
set_option linter.unusedVariables false
set_option linter.unusedSimpArgs false

def GoodL (h0 : Heap) (v : Value) (h' : Heap) : Prop := v = .bool true ∧ h0.le h'
theorem goodL {h0 h : Heap} (l : h0.le h) : Ret h (GoodL h0) (.bool true) := Ret.mk ⟨rfl, l⟩
theorem beq_refl_bytes (s : ByteArray) : (s.toList == s.toList) = true := beq_self_eq_true _
/-- the copy of an operation -/
theorem op_copy {h : Heap} {r : Nat} (hr : h r = none) (x : OpR) {T : TypeId} :
    At ((h.ins r (.cells [.int .i64 0, .int .i64 0, .int .i64 0, .int .i64 0, .int .i64 0, .int .i64 0, slice none 0 0].toArray T (0, 0))).setN r 0 [.int .i64 x.d, .int .i64 x.m, .int .i64 x.c, .int .i64 x.g, .int .i64 x.a, .int .i64 x.gv, slice x.p x.b.length x.cp]) r [.int .i64 x.d, .int .i64 x.m, .int .i64 x.c, .int .i64 x.g, .int .i64 x.a, .int .i64 x.gv, slice x.p x.b.length x.cp] ∧
    h.le ((h.ins r (.cells [.int .i64 0, .int .i64 0, .int .i64 0, .int .i64 0, .int .i64 0, .int .i64 0, slice none 0 0].toArray T (0, 0))).setN r 0 [.int .i64 x.d, .int .i64 x.m, .int .i64 x.c, .int .i64 x.g, .int .i64 x.a, .int .i64 x.gv, slice x.p x.b.length x.cp]) ∧
    (h.ins r (.cells [.int .i64 0, .int .i64 0, .int .i64 0, .int .i64 0, .int .i64 0, .int .i64 0, slice none 0 0].toArray T (0, 0))).canSt r 0 7 :=
  ⟨(At.new h r _ T).set, le_setN (le_ins hr) hr, canSt_ins _ _ _ _ _ _ (by simp)⟩
section
variable {h0 : Heap} {q : Option Addr} {l : List OpR} {n qc : Nat} {p : Nat}
theorem sums_2 {B C : Nat} {sp : List Value} {S : Lg} {j : Nat} (o : S.Ok) {g : Heap} (lg : h0.le g) (A : LedAt g p B C sp S) {c : Nat} (hc : c < S.cur)
    (k : ∀ h', g.le h' → L_law08_LedgerSums_1 (S.M.length : Int) (S.cur : Int) (some ⟨p, 0, none⟩) (IntKind.wrap .i64 ((c : Int) + 1)) q n qc (n : Int) (j : Int) h' (GoodL h0)) :
    ∀ (m i : Nat) (h : Heap) (of : Option Addr) (oc : Nat) (ws : List Int), m + i = S.M.length → g.le h → OwnL g h [.int .i64 0] of oc (intsV .i64 ws) → ws = (colM S.M c).take i →
    L_law08_LedgerSums_2 (S.M.length : Int) (S.cur : Int) (some ⟨p, 0, none⟩) (c : Int) of ws.length oc (i : Int) q n qc (n : Int) (j : Int) h (GoodL h0) := by
  have hlc : (colM S.M c).length = S.M.length := by unfold colM; rw [List.length_map]
  have n16 := o.n16
  have c8 := o.c8
  intro m
  induction m with
  | zero =>
    intro i h of oc ws hi l0 own e
    refine L_law08_LedgerSums_2r _ _ _ _ _ _ _ _ _ _ _ _ _ _ _ ?_
    unfold L_law08_LedgerSums_2T
    rw [List.take_of_length_le (by omega)] at e
    subst e
    have hI : allI64 (colM S.M c) := fun v hv => by
      obtain ⟨i, hi⟩ := List.getElem?_of_mem hv
      have hil : i < S.M.length := by rw [← hlc]; exact (List.getElem?_eq_some_iff.1 hi).1
      rw [colM_get _ _ _ hil] at hi
      rw [← Option.some.inj hi]
      exact o.i64 i c
    have hnos : nosG S (c : Int) = S.N.getD c 0 := by
      unfold nosG
      rw [if_pos (by unfold hasB; exact decide_eq_true (by have := o.n1; omega)), Int.toNat_natCast]
    have hp := o.pos c
    refine Br.no (by simp; omega) (S_Sum (by omega) hI h own.rd _ ⟨_, _, rfl, ?_⟩)
    rw [o.sum c, fit_ok (o.n64 c)]
    refine Br.no rfl (S_lNostro (A.le l0) ⟨_, rfl, ?_⟩)
    rw [hnos]
    exact Br.no (by simp) (Br.no (decide_eq_false (by omega)) (k h l0))
  | succ m ih =>
    intro i h of oc ws hi l0 own e
    refine L_law08_LedgerSums_2r _ _ _ _ _ _ _ _ _ _ _ _ _ _ _ ?_
    unfold L_law08_LedgerSums_2T
    have hwl : ws.length ≤ i := by rw [e, List.length_take]; omega
    have w1 : IntKind.wrap .i64 ((i : Int) + 1) = ((i + 1 : Nat) : Int) := by rw [wrap_i64_id (by omega) (by omega)]; omega
    have hg : getG S (i : Int) (c : Int) = rdM S.M i c := by
      unfold getG
      rw [if_pos (by unfold hasB; exact decide_eq_true (by omega)), Int.toNat_natCast, Int.toNat_natCast]
    refine Br.yes (by simp; omega) (S_lGet (A.le l0) ⟨_, rfl, fun r hr => ?_⟩)
    rw [hg]
    refine (own.le (le_ins hr)).push (by decide) (le_ins2 l0 hr) (by omega) (n := 1) (ws := intsV .i64 [rdM S.M i c]) rfl (rdL_new _ _ _ _ _) (allCells_ints _ _) (by rw [intsV_length]; simp) ?_
    intro p' c' h' l' w' _ _
    rw [w1]
    rw [← intsV_append] at w'
    have := ih (i + 1) h' p' c' (ws ++ [rdM S.M i c]) (by omega) l' w' (by rw [e, List.take_add_one, colM_get _ _ _ (by omega)]; rfl)
    rw [List.length_append] at this
    exact this
theorem sums_1 {B C : Nat} {sp : List Value} {S : Lg} {j : Nat} (o : S.Ok) {g : Heap} (lg : h0.le g) (A : LedAt g p B C sp S)
    (k : ∀ h', g.le h' → L_law08_LedgerSums_0 (S.M.length : Int) (S.cur : Int) (some ⟨p, 0, none⟩) q n qc (n : Int) (IntKind.wrap .i64 ((j : Int) + 1)) h' (GoodL h0)) :
    ∀ (m c : Nat) (h : Heap), m + c = S.cur → g.le h → L_law08_LedgerSums_1 (S.M.length : Int) (S.cur : Int) (some ⟨p, 0, none⟩) (c : Int) q n qc (n : Int) (j : Int) h (GoodL h0) := by
  have c8 := o.c8
  intro m
  induction m with
  | zero =>
    intro c h hc l0
    refine L_law08_LedgerSums_1r _ _ _ _ _ _ _ _ _ _ _ ?_
    unfold L_law08_LedgerSums_1T
    exact Br.no (by simp; omega) (k h l0)
  | succ m ih =>
    intro c h hc l0
    refine L_law08_LedgerSums_1r _ _ _ _ _ _ _ _ _ _ _ ?_
    unfold L_law08_LedgerSums_1T
    have w1 : IntKind.wrap .i64 ((c : Int) + 1) = ((c + 1 : Nat) : Int) := by rw [wrap_i64_id (by omega) (by omega)]; omega
    refine Br.yes (by simp; omega) (sums_2 o (Heap.le_trans lg l0) (A.le l0) (by omega) (fun h' l' => ?_) S.M.length 0 h none 0 [] (by omega) h.le_refl (OwnL.nil _ _ _) rfl)
    rw [w1]
    exact ih (c + 1) h' (by omega) (Heap.le_trans l0 l')
theorem sums_0 (np : h0 p = none) (X : Ops h0 q l) (hn : l.length = n) (hs : n ≤ 40) (hI : ∀ x ∈ l, OpI x) (hb : ∀ x ∈ l, x.b.length ≤ 30) {a w : Nat} :
    ∀ (m j : Nat) (h : Heap) (B C : Nat) (sp : List Value) (S : Lg), m + j = n → h0.le h → h0 B = none → LedAt h p B C sp S → S.Ok → S.M.length = a → S.cur = w →
    L_law08_LedgerSums_0 (a : Int) (w : Int) (some ⟨p, 0, none⟩) q n qc (n : Int) (j : Int) h (GoodL h0) := by
  intro m
  induction m with
  | zero =>
    intro j h B C sp S hj l0 nB A o e1 e2
    refine L_law08_LedgerSums_0r _ _ _ _ _ _ _ _ _ _ ?_
    unfold L_law08_LedgerSums_0T
    refine Br.no (by simp; omega) (S_lText A fun h1 l1 => ⟨_, rfl, S_lRead o fun h2 p2 B2 C2 sp2 l2 A2 _ _ => ⟨_, _, rfl, Br.yes rfl (Br.yes rfl (S_lText A2 fun h3 l3 => ⟨_, rfl, S_lText (A.le (Heap.le_trans l1 (Heap.le_trans l2 l3))) fun h4 l4 => ⟨_, rfl, ?_⟩⟩))⟩⟩)
    rw [beq_refl_bytes]
    exact goodL (Heap.le_trans l0 (Heap.le_trans l1 (Heap.le_trans l2 (Heap.le_trans l3 l4))))
  | succ m ih =>
    intro j h B C sp S hj l0 nB A o e1 e2
    refine L_law08_LedgerSums_0r _ _ _ _ _ _ _ _ _ _ ?_
    unfold L_law08_LedgerSums_0T
    have hx : l[j]? = some l[j] := List.getElem?_eq_getElem (by omega)
    have hmem : l[j] ∈ l := List.getElem_mem _
    generalize l[j] = x at *
    have w1 : IntKind.wrap .i64 ((j : Int) + 1) = ((j + 1 : Nat) : Int) := by rw [wrap_i64_id (by omega) (by omega)]; omega
    refine Br.yes (by simp; omega) (ox (X.le l0) hn rfl hx fun r hr => ?_)
    obtain ⟨Ax, lx, st⟩ := op_copy hr x (T := 90)
    refine ⟨st, ?_⟩
    generalize (h.ins r (.cells [.int .i64 0, .int .i64 0, .int .i64 0, .int .i64 0, .int .i64 0, .int .i64 0, slice none 0 0].toArray 90 (0, 0))).setN r 0 [.int .i64 x.d, .int .i64 x.m, .int .i64 x.c, .int .i64 x.g, .int .i64 x.a, .int .i64 x.gv, slice x.p x.b.length x.cp] = h1 at *
    refine S_lText (A.le lx) fun h2 l2 => ⟨_, rfl, ?_⟩
    have Ax2 := Ax.le l2
    have l02 := Heap.le_trans l0 (Heap.le_trans lx l2)
    have A2 := A.le (Heap.le_trans lx l2)
    refine ⟨_, Ax2.cell rfl, _, Ax2.cell rfl, _, Ax2.cell rfl, _, Ax2.cell rfl, _, Ax2.cell rfl, _, Ax2.cell rfl, _, _, _, Ax2.cell rfl, ?_⟩
    refine S_do l02 np nB A2 (X.2 x hmem) (hI x hmem) (by have := hb x hmem; omega) fun h3 B3 C3 sp3 l3 A3 n3 => ⟨_, rfl, ?_⟩
    have o3 := doG_ok o x
    have sz := doG_sz S x
    have next : L_law08_LedgerSums_1 (a : Int) (w : Int) (some ⟨p, 0, none⟩) ((0 : Nat) : Int) q n qc (n : Int) (j : Int) h3 (GoodL h0) := by
      have := sums_1 (q := q) (n := n) (qc := qc) (j := j) o3 l3 A3 (fun h' l' => ?_) (doG S x).2.cur 0 h3 (by omega) h3.le_refl
      · rw [sz.1, sz.2, e1, e2] at this
        exact this
      · rw [w1, sz.1, sz.2, e1, e2]
        exact ih (j + 1) h' B3 C3 sp3 (doG S x).2 (by omega) (Heap.le_trans l3 l') n3 (A3.le l') o3 (by rw [sz.1, e1]) (by rw [sz.2, e2])
    refine Br.intro (fun he => ?_) fun _ => next
    have he : (doG S x).1 ≠ 0 := by simpa using he
    have eS := doG_err he
    refine S_lText A3 fun h4 l4 => ⟨_, rfl, ?_⟩
    rw [eS]
    refine Br.no (by rw [beq_refl_bytes]; rfl) ?_
    have := sums_1 (q := q) (n := n) (qc := qc) (j := j) o3 (Heap.le_trans l3 l4) (A3.le l4) (fun h' l' => ?_) (doG S x).2.cur 0 h4 (by omega) h4.le_refl
    · rw [sz.1, sz.2, e1, e2] at this
      exact this
    · rw [w1, sz.1, sz.2, e1, e2]
      exact ih (j + 1) h' B3 C3 sp3 (doG S x).2 (by omega) (Heap.le_trans (Heap.le_trans l3 l4) l') n3 ((A3.le l4).le l') o3 (by rw [sz.1, e1]) (by rw [sz.2, e2])
end
theorem law08_LedgerSums_ok {h : Heap} {m c : Int} (hm : I64 m) (hc : I64 c) {q : Option Addr} {n qc : Nat} (HO : opsSh.Has h [.slice q n qc]) :
    CallA Try.prog fn_law08_LedgerSums [.int .i64 m, .int .i64 c, slice q n qc] h fun v h' => v = .bool true ∧ h.le h' := by
  obtain ⟨hmax, l, hl, X, hI, _⟩ := ops_of HO
  refine F_law08_LedgerSums _ _ _ _ _ _ _ ?_
  unfold F_law08_LedgerSumsT
  refine S_law08_awake fun h1 l1 => ⟨_, rfl, Br.no rfl (S_large08 (X.le l1) hl hmax fun b hb => ⟨_, rfl, ?_⟩)⟩
  cases b with
  | true => exact Br.yes rfl (goodL l1)
  | false =>
    obtain ⟨h40, h30⟩ := hb rfl
    refine Br.no rfl (S_lNew (fun _ => ⟨_, _, rfl, Br.yes rfl (goodL l1)⟩) fun a w ea ew _ _ _ _ h2 p B C sp l2 A np nB => ⟨_, _, rfl, Br.no rfl ?_⟩)
    subst ea ew
    have o := newG_ok (n := a) (c := w) (by omega) (by omega) (by omega) (by omega)
    exact sums_0 (none_of_le l1 np) X hl h40 hI h30 n 0 h2 B C sp (newG a w) (by omega) (Heap.le_trans l1 l2) (none_of_le l1 nB) A o (by unfold newG; rw [List.length_replicate]) rfl
end Go.Proofs.Ytkcogdmddhkldaa
