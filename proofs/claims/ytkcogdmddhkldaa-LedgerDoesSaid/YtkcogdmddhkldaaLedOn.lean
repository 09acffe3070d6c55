/- The law LedgerOn. -/
import Derived.Test.YtkcogdmddhkldaaLedLaw
namespace Go.Proofs.Ytkcogdmddhkldaa
open Go Go.Sy Go.Value
set_option linter.unusedVariables false
set_option linter.unusedSimpArgs false

theorem none2 {h : Heap} {p B : Nat} : ((h.del p).del B) p = none := by
  unfold Heap.del
  split
  · rfl
  · rw [if_pos rfl]
theorem LedAt.del2 {h : Heap} {p B p2 B2 C2 : Nat} {sp2 : List Value} {S : Lg} (A : LedAt h p2 B2 C2 sp2 S) (e1 : p2 ≠ p) (e2 : p2 ≠ B) (e3 : B2 ≠ p) (e4 : B2 ≠ B) : LedAt ((h.del p).del B) p2 B2 C2 sp2 S :=
  ⟨(A.ap.del e1).del e2, (A.ab.del e3).del e4, A.ne, A.sz⟩
theorem at_some {h : Heap} {b : Nat} {vs : List Value} (a : At h b vs) (e : h b = none) : False := by obtain ⟨T, ea⟩ := a; rw [ea] at e; cases e
section
variable {h0 : Heap} {K : Value → Heap → Prop} (kg : ∀ h', h0.le h' → Ret h' K (.bool true)) {p p2 : Nat} (np : h0 p = none) {mq : Option Addr} {ml : List OpR} {mn mc : Nat} (XM : Ops h0 mq ml) (hmn : ml.length = mn) (hms : mn ≤ 40) (hMI : ∀ x ∈ ml, OpI x) (hMb : ∀ x ∈ ml, x.b.length ≤ 30)
include kg np XM hmn hms hMI hMb
theorem on_1 (np2 : h0 p2 = none) (hpp : p ≠ p2) :
    ∀ (m j : Nat) (h : Heap) (B C B2 C2 : Nat) (sp sp2 : List Value) (S : Lg), m + j = mn → h0.le h → h0 B = none → h0 B2 = none → LedAt h p B C sp S → LedAt h p2 B2 C2 sp2 S → S.Ok → p ≠ B2 → B ≠ p2 → B ≠ B2 →
    L_law08_LedgerOn_1 (some ⟨p, 0, none⟩) (some ⟨p2, 0, none⟩) mq mn mc (mn : Int) (j : Int) h K := by
  intro m
  induction m with
  | zero =>
    intro j h B C B2 C2 sp sp2 S hj l0 nB nB2 A A2 o d1 d2 d3
    refine L_law08_LedgerOn_1r _ _ _ _ _ _ _ _ _ ?_
    unfold L_law08_LedgerOn_1T
    exact Br.no (by simp; omega) (kg h l0)
  | succ m ih =>
    intro j h B C B2 C2 sp sp2 S hj l0 nB nB2 A A2 o d1 d2 d3
    refine L_law08_LedgerOn_1r _ _ _ _ _ _ _ _ _ ?_
    unfold L_law08_LedgerOn_1T
    have hx : ml[j]? = some ml[j] := List.getElem?_eq_getElem (by omega)
    have hmem : ml[j] ∈ ml := List.getElem_mem _
    generalize ml[j] = x at *
    have w1 : IntKind.wrap .i64 ((j : Int) + 1) = ((j + 1 : Nat) : Int) := by rw [wrap_i64_id (by omega) (by omega)]; omega
    refine Br.yes (by simp; omega) (ox (XM.le l0) hmn rfl hx fun r hr => ?_)
    obtain ⟨Ax, lx, st⟩ := op_copy hr x (T := 90)
    refine ⟨st, ?_⟩
    have l01 := Heap.le_trans l0 lx
    have A1 := A.le lx
    have A21 := A2.le lx
    have hrp : r ≠ p := fun e => A.ap.ne hr e.symm
    have hrB : r ≠ B := fun e => A.ab.ne hr e.symm
    have hrp2 : r ≠ p2 := fun e => A2.ap.ne hr e.symm
    have hrB2 : r ≠ B2 := fun e => A2.ab.ne hr e.symm
    generalize (h.ins r (.cells [.int .i64 0, .int .i64 0, .int .i64 0, .int .i64 0, .int .i64 0, .int .i64 0, slice none 0 0].toArray 90 (0, 0))).setN r 0 [.int .i64 x.d, .int .i64 x.m, .int .i64 x.c, .int .i64 x.g, .int .i64 x.a, .int .i64 x.gv, slice x.p x.b.length x.cp] = h1 at *
    refine ⟨_, Ax.cell rfl, _, Ax.cell rfl, _, Ax.cell rfl, _, Ax.cell rfl, _, Ax.cell rfl, _, Ax.cell rfl, _, _, _, Ax.cell rfl, _, Ax.cell rfl, _, Ax.cell rfl, _, Ax.cell rfl, _, Ax.cell rfl, _, Ax.cell rfl, _, Ax.cell rfl, _, _, _, Ax.cell rfl, ?_⟩
    have hb30 := hMb x hmem
    -- the first one
    have g1 : h0.le ((h1.del p).del B) := le_del (le_del l01 np) nB
    have gh1 : ((h1.del p).del B).le h1 := Heap.le_trans (del_le _ _) (del_le _ _)
    have A2g : LedAt ((h1.del p).del B) p2 B2 C2 sp2 S := A21.del2 hpp.symm d2.symm d1.symm d3.symm
    have Axg := (Ax.del hrp).del hrB
    refine S_do gh1 none2 (del_same _ _) A1 (rdL_le g1 (XM.2 x hmem)) (hMI x hmem) (by omega) fun h2 B' C' sp' l2 A' nB' => ⟨_, rfl, ?_⟩
    have A22 := A2g.le l2
    have Ax2 := Axg.le l2
    have hB'p2 : B' ≠ p2 := fun e => at_some A2g.ap (by rw [← e]; exact nB')
    have hB'B2 : B' ≠ B2 := fun e => at_some A2g.ab (by rw [← e]; exact nB')
    have hB'r : B' ≠ r := fun e => at_some Axg (by rw [← e]; exact nB')
    have nB'0 : h0 B' = none := none_of_le g1 nB'
    have l02 := Heap.le_trans g1 l2
    have kp : Keeps [r] h1 h2 := fun b hb y hy => by
      rw [List.mem_singleton] at hb
      subst hb
      refine l2 b y ?_
      unfold Heap.del
      rw [if_neg hrB, if_neg hrp]; exact hy
    refine ⟨.inr kp, ?_⟩
    -- the second one
    have g2 : h0.le ((h2.del p2).del B2) := le_del (le_del l02 np2) nB2
    have gh2 : ((h2.del p2).del B2).le h2 := Heap.le_trans (del_le _ _) (del_le _ _)
    have A1g : LedAt ((h2.del p2).del B2) p B' C' sp' (doG S x).2 := A'.del2 hpp d1 hB'p2 hB'B2
    refine S_do gh2 none2 (del_same _ _) A22 (rdL_le g2 (XM.2 x hmem)) (hMI x hmem) (by omega) fun h3 B2' C2' sp2' l3 A2' nB2' => ⟨_, rfl, Br.no (by simp) ?_⟩
    have A13 := A1g.le l3
    have d1' : p ≠ B2' := fun e => at_some A1g.ap (by rw [e]; exact nB2')
    have d3' : B' ≠ B2' := fun e => at_some A1g.ab (by rw [e]; exact nB2')
    have l03 := Heap.le_trans g2 l3
    refine S_lText A13 fun h4 l4 => ⟨_, rfl, S_lText (A2'.le l4) fun h5 l5 => ⟨_, rfl, Br.no (by rw [beq_refl_bytes]; rfl) ?_⟩⟩
    have l45 := Heap.le_trans l4 l5
    rw [w1]
    exact ih (j + 1) h5 B' C' B2' C2' sp' sp2' _ (by omega) (Heap.le_trans l03 l45) nB'0 (none_of_le g2 nB2') (A13.le l45) (A2'.le l45) (doG_ok o x) d1' hB'p2 d3'
theorem on_0 {oq : Option Addr} {l : List OpR} {n oc : Nat} (XO : Ops h0 oq l) (hn : l.length = n) (hs : n ≤ 40) (hOI : ∀ x ∈ l, OpI x) (hb : ∀ x ∈ l, x.b.length ≤ 30) :
    ∀ (m j : Nat) (h : Heap) (B C : Nat) (sp : List Value) (S : Lg), m + j = n → h0.le h → h0 B = none → LedAt h p B C sp S → S.Ok →
    L_law08_LedgerOn_0 mq mn mc (some ⟨p, 0, none⟩) oq n oc (n : Int) (j : Int) h K := by
  intro m
  induction m with
  | zero =>
    intro j h B C sp S hj l0 nB A o
    refine L_law08_LedgerOn_0r _ _ _ _ _ _ _ _ _ _ _ ?_
    unfold L_law08_LedgerOn_0T
    refine Br.no (by simp; omega) (S_lText A fun h1 l1 => ⟨_, rfl, S_lRead o fun h2 q B2 C2 sp2 l2 A2 nq nB2 => ⟨_, _, rfl, Br.no rfl (Br.no rfl ?_)⟩⟩)
    have A1 := A.le l1
    have l01 := Heap.le_trans l0 l1
    exact on_1 kg np XM hmn hms hMI hMb (none_of_le l01 nq) (fun e => at_some A1.ap (by rw [e]; exact nq)) mn 0 h2 B C B2 C2 sp sp2 S (by omega) (Heap.le_trans l01 l2) nB (none_of_le l01 nB2) (A1.le l2) A2 o (fun e => at_some A1.ap (by rw [e]; exact nB2)) (fun e => at_some A1.ab (by rw [e]; exact nq)) (fun e => at_some A1.ab (by rw [e]; exact nB2))
  | succ m ih =>
    intro j h B C sp S hj l0 nB A o
    refine L_law08_LedgerOn_0r _ _ _ _ _ _ _ _ _ _ _ ?_
    unfold L_law08_LedgerOn_0T
    have hx : l[j]? = some l[j] := List.getElem?_eq_getElem (by omega)
    have hmem : l[j] ∈ l := List.getElem_mem _
    generalize l[j] = x2 at *
    have w1 : IntKind.wrap .i64 ((j : Int) + 1) = ((j + 1 : Nat) : Int) := by rw [wrap_i64_id (by omega) (by omega)]; omega
    refine Br.yes (by simp; omega) (ox (XO.le l0) hn rfl hx fun s hs => ?_)
    obtain ⟨A2, lx, st⟩ := op_copy hs x2 (T := 90)
    refine ⟨st, ?_⟩
    generalize (h.ins s (.cells [.int .i64 0, .int .i64 0, .int .i64 0, .int .i64 0, .int .i64 0, .int .i64 0, slice none 0 0].toArray 90 (0, 0))).setN s 0 [.int .i64 x2.d, .int .i64 x2.m, .int .i64 x2.c, .int .i64 x2.g, .int .i64 x2.a, .int .i64 x2.gv, slice x2.p x2.b.length x2.cp] = h1 at *
    refine ⟨_, A2.cell rfl, _, A2.cell rfl, _, A2.cell rfl, _, A2.cell rfl, _, A2.cell rfl, _, A2.cell rfl, _, _, _, A2.cell rfl, ?_⟩
    refine S_do (Heap.le_trans l0 lx) np nB (A.le lx) (XO.2 x2 hmem) (hOI x2 hmem) (by have := hb x2 hmem; omega) fun h3 B3 C3 sp3 l3 A3 n3 => ⟨_, rfl, ?_⟩
    rw [w1]
    exact ih (j + 1) h3 B3 C3 sp3 _ (by omega) l3 n3 A3 (doG_ok o x2)
end
theorem law08_LedgerOn_ok {h : Heap} {m c : Int} (hm : I64 m) (hc : I64 c) {q : Option Addr} {n qc : Nat} (HO : opsSh.Has h [.slice q n qc]) {mq : Option Addr} {mn mc : Nat} (HM : opsSh.Has h [.slice mq mn mc]) :
    CallA Try.prog fn_law08_LedgerOn [.int .i64 m, .int .i64 c, slice q n qc, slice mq mn mc] h fun v h' => v = .bool true ∧ h.le h' := by
  obtain ⟨hmax, l, hl, X, hI, _⟩ := ops_of HO
  obtain ⟨hmax2, ml, hml, XM, hMI, _⟩ := ops_of HM
  refine F_law08_LedgerOn _ _ _ _ _ _ _ _ _ _ ?_
  unfold F_law08_LedgerOnT
  have kg : ∀ h', h.le h' → Ret h' (fun v h' => v = .bool true ∧ h.le h') (.bool true) := fun h' l' => Ret.mk ⟨rfl, l'⟩
  refine S_law08_awake fun h1 l1 => ⟨_, rfl, Br.no rfl (S_large08 (X.le l1) hl hmax fun b hb => ⟨_, rfl, ?_⟩)⟩
  cases b with
  | true => exact Br.yes rfl (kg h1 l1)
  | false =>
    obtain ⟨h40, h30⟩ := hb rfl
    refine Br.no rfl (S_large08 (XM.le l1) hml hmax2 fun b2 hb2 => ⟨_, rfl, ?_⟩)
    cases b2 with
    | true => exact Br.yes rfl (kg h1 l1)
    | false =>
      obtain ⟨h40', h30'⟩ := hb2 rfl
      refine Br.no rfl (S_lNew (fun _ => ⟨_, _, rfl, Br.yes rfl (kg h1 l1)⟩) fun a w ea ew _ _ _ _ h2 p B C sp l2 A np nB => ⟨_, _, rfl, Br.no rfl ?_⟩)
      have o := newG_ok (n := a) (c := w) (by omega) (by omega) (by omega) (by omega)
      exact on_0 kg (none_of_le l1 np) XM hml h40' hMI h30' X hl h40 hI h30 n 0 h2 B C sp (newG a w) (by omega) (Heap.le_trans l1 l2) (none_of_le l1 nB) A o
end Go.Proofs.Ytkcogdmddhkldaa
