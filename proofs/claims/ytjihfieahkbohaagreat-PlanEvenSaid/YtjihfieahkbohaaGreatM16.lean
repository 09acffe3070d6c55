import Derived.Test.YtjihfieahkbohaaGreatM14
import Derived.Test.YtjihfieahkbohaaGreatM15
import Derived.Test.YtjihfieahkbohaaGreatM05
/- The law PlanEven. -/
namespace Go.Proofs.YtjihfieahkbohaaGreat
open Go Go.Sy Go.Value
set_option linter.unusedVariables false
set_option linter.unusedSimpArgs false

theorem qVZ {S : Bk} (ok : S.Ok) (hm : S.mem = 16 ∧ S.cur = 8) : qML S 16 8 = if qIJ (flS S) 16 8 = false then ([], 3) else ((List.range 16).map (qIa (flS S) 8), 0) := by
  have h := qW8 ok
  rw [hm.1, hm.2] at h
  unfold qML
  rw [if_neg (by omega), if_neg (by rw [h]; decide)]; rfl
section
variable {h0 : Heap} {np : Option Addr} {L : List NRow} {lc : Nat} {K : Value → Heap → Prop} {fl : List (Int × Int × Int)}
theorem qXu (N : Nets h0 np L) (hL : L.length = 16) (hw : ∀ x ∈ L, x.l.length = 8 ∧ qFI x.l) {c : Nat} (hc : c < 8) (hsum : qL (L.map fun x => x.l.getD c 0) = 0)
    (k : ∀ h, h0.le h → qEE np L.length lc ((c + 1 : Nat) : Int) h K) :
    ∀ (a m : Nat) (h : Heap) (op : Option Addr) (oc : Nat), a + m = L.length → h0.le h → OwnL h0 h [.int .i64 0] op oc (qt .i64 ((L.take m).map fun x => x.l.getD c 0)) →
      qFz np L.length lc c op ((L.take m).map fun x => x.l.getD c 0).length oc L.length m h K := by
  intro a
  induction a with
  | zero =>
    intro m h op oc hm l O
    refine qIk _ _ _ _ _ _ _ _ _ _ _ ?_
    unfold qGr
    rw [List.take_of_length_le (by omega)] at O ⊢
    have hI : qFI (L.map fun x => x.l.getD c 0) := fun v hv => by
      obtain ⟨x, hx, rfl⟩ := List.mem_map.1 hv
      obtain ⟨h1, h2⟩ := hw x hx
      refine h2 _ ?_
      rw [List.getD_eq_getElem?_getD, List.getElem?_eq_getElem (by omega)]
      exact List.getElem_mem _
    rw [w1 (j := c) (by omega)]
    refine Br.no (by simp; omega) (qSU (by rw [List.length_map]; omega) hI h O.rd _ ⟨_, _, rfl, ?_⟩)
    rw [hsum, qIL (by unfold I64; omega)]
    exact Br.no rfl (Br.no rfl (k h l))
  | succ a ih =>
    intro m h op oc hm l O
    refine qIk _ _ _ _ _ _ _ _ _ _ _ ?_
    unfold qGr
    have hx : L[m]? = some L[m] := List.getElem?_eq_getElem (by omega)
    have hxm : L[m] ∈ L := List.getElem_mem _
    have tk : (L.take (m + 1)).map (fun x => x.l.getD c 0) = (L.take m).map (fun x => x.l.getD c 0) ++ [L[m].l.getD c 0] := by rw [List.take_add_one, hx, List.map_append]; rfl
    generalize L[m] = x at *
    obtain ⟨h1, h2⟩ := hw x hxm
    have hv : x.l[c]? = some (x.l.getD c 0) := by rw [List.getD_eq_getElem?_getD, List.getElem?_eq_getElem (by omega)]; rfl
    have hlt : ((L.take m).map fun x => x.l.getD c 0).length = m := by rw [List.length_map, List.length_take]; omega
    refine Br.yes (by simp; omega) (nx (N.le l) rfl rfl hx (Br.no (by rw [h1]; rfl) (nx (N.le l) rfl rfl hx (ix ((N.2 x hxm).le l) rfl rfl hv ?_))))
    refine qKD (ws := [.int .i64 (x.l.getD c 0)]) O (by decide) l (by omega) rfl rfl (by rw [qA2, List.length_singleton, Nat.mul_one]) fun r5 h5 p' c' h' hr5 l5 l' O' keep how => ?_
    rw [w1 (j := m) (by omega)]
    have := ih (m + 1) h' p' c' (by omega) l' (by rw [tk, qFP]; exact O')
    rw [tk, List.length_append] at this
    exact this
theorem qXg (N : Nets h0 np L) (hL : L.length = 16) (hw : ∀ x ∈ L, x.l.length = 8 ∧ qFI x.l) (hsum : ∀ c, c < 8 → qL (L.map fun x => x.l.getD c 0) = 0) (k : ∀ h, h0.le h → K (.bool true) h) :
    ∀ (a c : Nat) (h : Heap), a + c = 8 → h0.le h → qEE np L.length lc c h K := by
  intro a
  induction a with
  | zero =>
    intro c h hc l
    refine qIl _ _ _ _ _ _ ?_
    unfold qGu
    exact Br.no (decide_eq_false (by omega)) (Ret.mk (k h l))
  | succ a ih =>
    intro c h hc l
    refine qIl _ _ _ _ _ _ ?_
    unfold qGu
    refine Br.yes (decide_eq_true (by omega)) ?_
    have := qXu (lc := lc) (N.le l) hL hw (show c < 8 by omega) (hsum c (by omega)) (fun h' l' => ih (c + 1) h' (by omega) (Heap.le_trans l l')) L.length 0 h none 0 (by omega) h.le_refl (.nil _ _ _)
    exact this
end
theorem qNV {h : Heap} {up : Option Addr} {un uc : Nat} (H : (Sh.sl qOA).Has h [.slice up un uc]) : CallA Tryz.prog qJx [.slice up un uc] h fun v h' => v = .bool true ∧ h.le h' := by
  obtain ⟨_, _, l, hl, A, hd⟩ := qW0 (enc := dV) (P := qLu) H fun vs hv => qVz hv
  subst hl
  refine qNw _ _ _ _ _ ?_
  unfold qJ4
  refine qOs fun h1 l1 => ⟨_, rfl, Br.no rfl (Br.dec (fun _ => Ret.mk ⟨rfl, l1⟩) fun g1 => ?_)⟩
  refine qVX (A.le l1) hd (by omega) fun p q H1 X g1 g2 s hX P R => ⟨_, _, rfl, Br.no rfl ?_⟩
  have ok := P.1
  have fm := qUO l
  have col := fun c => qUr ok c
  have l2 := Heap.le_trans l1 (Heap.le_trans hX s.x)
  refine qVT (P.le s.a) (ms := 16) (cs := 8) fun h3 np L lc l3 N e => ⟨_, _, _, _, rfl, ?_⟩
  have l03 := Heap.le_trans l2 l3
  rw [qVZ ok fm] at e ⊢
  rw [fm.1] at col
  generalize flS (qHs l) = fl at *
  cases hb : qIJ fl 16 8 with
  | false =>
    rw [hb, if_pos rfl] at e
    rw [if_pos rfl]
    have : L = [] := by
      unfold mxN at e
      exact List.map_eq_nil_iff.1 e
    subst this
    exact Br.yes rfl (Br.yes rfl (Ret.mk ⟨rfl, l03⟩))
  | true =>
    rw [hb, if_neg (by decide)] at e
    rw [if_neg (by decide)]
    dsimp only at e ⊢
    have hL : L.length = 16 := by
      have := congrArg List.length e
      unfold mxN at this
      rw [List.length_map, List.length_map, List.length_range] at this
      exact this
    have row : ∀ x ∈ L, x.l.length = 8 ∧ qFI x.l := fun x hx => by
      have : x.l ∈ mxN L := by unfold mxN; exact List.mem_map.2 ⟨x, hx, rfl⟩
      rw [e] at this
      obtain ⟨m, hm, em⟩ := List.mem_map.1 this
      rw [← em]
      refine ⟨by unfold qIa; rw [List.length_map, List.length_range], fun v hv => ?_⟩
      unfold qIa at hv
      obtain ⟨c, hc, rfl⟩ := List.mem_map.1 hv
      unfold qIJ at hb
      rw [List.all_eq_true] at hb
      have h1 := hb m hm
      rw [List.all_eq_true] at h1
      have h2 := h1 c hc
      unfold qSl at h2
      rw [decide_eq_true_eq] at h2
      exact h2
    have hsum : ∀ c, c < 8 → qL (L.map fun x => x.l.getD c 0) = 0 := fun c hc => by
      have e1 : (L.map fun x => x.l.getD c 0) = (mxN L).map fun r => r.getD c 0 := by unfold mxN; rw [List.map_map]; rfl
      rw [e1, e, List.map_map]
      refine Eq.trans (congrArg qL (List.map_congr_left fun m _ => ?_)) (col c)
      show (qIa fl 8 m).getD c 0 = qEi fl m c
      unfold qIa
      rw [List.getD_eq_getElem?_getD, List.getElem?_map, List.getElem?_range hc]; rfl
    refine Br.no rfl (Br.no (by rw [hL]; rfl) ?_)
    exact qXg N hL row hsum (fun h4 l4 => ⟨rfl, Heap.le_trans l03 l4⟩) 8 0 h3 rfl h3.le_refl
end Go.Proofs.YtjihfieahkbohaaGreat
