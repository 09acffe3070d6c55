/- The law LenderWhole. -/
import Derived.Test.YtkcogdmddhkldaaLenReadB
import Derived.Test.YtkcogdmddhkldaaLenGive
import Derived.Test.YtkcogdmddhkldaaEqLenLaw
import Derived.Test.YtkcogdmddhkldaaEqLenRef
namespace Go.Proofs.Ytkcogdmddhkldaa
open Go Go.Sy Go.Value
set_option linter.unusedVariables false
set_option linter.unusedSimpArgs false

theorem ptV_flat (l : List Prt) : ptV l = l.flatMap fun x => [.int .i64 x.p, .int .i64 x.a] := by
  induction l with
  | nil => rfl
  | cons x l ih => rw [List.flatMap_cons, ← ih]; rfl
def zPt : List Value := [.int .i64 0, .int .i64 0]
theorem S_own15 {h : Heap} {K : Value → Heap → Prop} {q : Option Addr} {l : List Prt} {n c : Nat} (C : Pts h q l) (hn : l.length = n) (hs : n ≤ 1000)
    (k : ∀ h' p' c', h.le h' → OwnL h h' zPt p' c' (ptV l) → K (slice p' l.length c') h') : CallA Try.prog fn_law15_own [slice q n c] h K := by
  refine F_law15_own _ _ _ _ _ ?_
  unfold F_law15_ownT
  have main : ∀ (m j : Nat) (h1 : Heap) (p : Option Addr) (pc : Nat), m + j = n → h.le h1 → OwnL h h1 zPt p pc (ptV (l.take j)) → L_law15_own_0 p j pc q n c (n : Int) (j : Int) h1 K := by
    intro m
    induction m with
    | zero =>
      intro j h1 p pc hj l1 own
      refine L_law15_own_0r _ _ _ _ _ _ _ _ _ _ ?_
      unfold L_law15_own_0T
      have hjn : j = l.length := by omega
      subst hjn
      rw [List.take_length] at own
      exact Br.no (by simp; omega) (Ret.mk (k h1 p pc l1 own))
    | succ m ih =>
      intro j h1 p pc hj l1 own
      refine L_law15_own_0r _ _ _ _ _ _ _ _ _ _ ?_
      unfold L_law15_own_0T
      have hx : l[j]? = some l[j] := List.getElem?_eq_getElem (by omega)
      have htk : l.take (j + 1) = l.take j ++ [l[j]] := by rw [List.take_add_one, hx]; rfl
      generalize l[j] = x at *
      refine Br.yes (by simp; omega) (qx (rdL_le l1 C) hn rfl hx (newB_cp (vs := [.int .i64 x.p, .int .i64 x.a]) rfl fun r h2 hr l2 Ar st => ⟨st, _, Ar.cell rfl, _, Ar.cell rfl, ?_⟩))
      generalize h2.setN r 0 _ = h3 at *
      refine push1 (own.le l2) (by decide) (Heap.le_trans l1 l2) (by omega) rfl rfl (by rw [ptV_length, List.length_take]; simp [zPt]; omega) fun r h1 p' c' h' hr l1 l' w' keep how => ?_
      rw [w1 (by omega)]
      exact ih (j + 1) h' p' c' (by omega) l' (by rw [htk, ptV_append]; exact w')
  exact main n 0 h none 0 (by omega) h.le_refl (OwnL.nil _ _ _)
theorem S_Same15 {h : Heap} {K : Value → Heap → Prop} {q q2 : Option Addr} {l : List Prt} {n c c2 : Nat} (C : Pts h q l) (C2 : Pts h q2 l) (hn : l.length = n) (hs : n ≤ 1000) (k : K (.bool true) h) :
    CallA Try.prog fn_ref15_Same [slice q n c, slice q2 n c2] h K := by
  refine F_ref15_Same _ _ _ _ _ _ _ _ ?_
  unfold F_ref15_SameT
  have main : ∀ (m j : Nat), m + j = n → L_ref15_Same_0 q n c q2 n c2 (j : Int) h K := by
    intro m
    induction m with
    | zero =>
      intro j hj
      refine L_ref15_Same_0r _ _ _ _ _ _ _ _ _ ?_
      unfold L_ref15_Same_0T
      exact Br.no (by simp; omega) (Ret.mk k)
    | succ m ih =>
      intro j hj
      refine L_ref15_Same_0r _ _ _ _ _ _ _ _ _ ?_
      unfold L_ref15_Same_0T
      have hx : l[j]? = some l[j] := List.getElem?_eq_getElem (by omega)
      refine Br.yes (by simp; omega) (qx C hn rfl hx (qx C2 hn rfl hx (Br.no (by simp) ?_)))
      rw [w1 (by omega)]
      exact ih (j + 1) (by omega)
  exact Br.no (by simp) (main n 0 (by omega))
theorem rows1 {h : Heap} {r : Nat} {v : Int} (A : At h r [.int .i64 v]) : Ints .i64 h (some ⟨r, 0, none⟩) [v] := by
  have := At.toRd (ws := []) (vs := [.int .i64 v]) A
  exact this
theorem read_own {S : Ln} (o : S.Ok) : readN (bytesI (strOf (textN S))) = some S := by rw [bytesI_strOf (textN_r o), text_read o]
theorem S_law15_awake {h : Heap} {K : Value → Heap → Prop} (k : ∀ h', h.le h' → K (.bool true) h') : CallA Try.prog fn_law15_awake [] h K := by
  refine F_law15_awake _ _ ?_
  unfold F_law15_awakeT
  refine newB_at fun r1 h1 n1 l1 A1 => newB_at fun r2 h2 n2 l2 A2 => newB_at fun r3 h3 n3 l3 A3 => newB_at fun r h4 n4 l4 A4 => ?_
  have X : Nets h4 (some ⟨r, 0, none⟩) [⟨some ⟨r1, 0, none⟩, 1, [5]⟩, ⟨some ⟨r2, 0, none⟩, 1, [0]⟩, ⟨some ⟨r3, 0, none⟩, 1, [9]⟩] := by
    refine ⟨At.toRd (ws := []) A4, fun x hx => ?_⟩
    simp only [List.mem_cons, List.not_mem_nil, or_false] at hx
    rcases hx with rfl | rfl | rfl
    · exact rows1 (((A1.le l2).le l3).le l4)
    · exact rows1 ((A2.le l3).le l4)
    · exact rows1 (A3.le l4)
  have hI : ∀ x ∈ ([⟨some ⟨r1, 0, none⟩, 1, [5]⟩, ⟨some ⟨r2, 0, none⟩, 1, [0]⟩, ⟨some ⟨r3, 0, none⟩, 1, [9]⟩] : List NRow), (∀ v ∈ x.l, I64 v) ∧ x.l.length ≤ 1000000 := fun x hx => by
    simp only [List.mem_cons, List.not_mem_nil, or_false] at hx
    rcases hx with rfl | rfl | rfl <;> exact ⟨fun v hv => by simp only [List.mem_cons, List.not_mem_nil, or_false] at hv; subst hv; unfold I64; omega, by simp⟩
  have l04 := Heap.le_trans (Heap.le_trans l1 l2) (Heap.le_trans l3 l4)
  refine S_nNew X rfl (by omega) (fun x hx => (hI x hx).1) (fun x hx => (hI x hx).2) (fun hne => absurd rfl hne) fun _ w ew h5 f l5 A fr => ⟨_, _, rfl, ?_⟩
  have : w = 1 := by omega
  subst this
  refine newB_at fun r6 h6 n6 l6 A6 => newB_at fun r7 h7 n7 l7 A7 => ?_
  have X2 : Nets h7 (some ⟨r7, 0, none⟩) [⟨some ⟨r6, 0, none⟩, 1, [-1]⟩] := by
    refine ⟨At.toRd (ws := []) A7, fun x hx => ?_⟩
    simp only [List.mem_cons, List.not_mem_nil, or_false] at hx
    subst hx
    exact rows1 (A6.le l7)
  refine S_nNew (cu := 1) X2 rfl (by omega) (fun x hx => ?_) (fun x hx => ?_) (fun _ h8 l8 => ⟨_, _, rfl, Br.no rfl ?_⟩) (fun e => by cases e)
  · simp only [List.mem_cons, List.not_mem_nil, or_false] at hx
    subst hx
    intro v hv
    simp only [List.mem_cons, List.not_mem_nil, or_false] at hv; subst hv; unfold I64; omega
  · simp only [List.mem_cons, List.not_mem_nil, or_false] at hx
    subst hx; simp
  have hS : (⟨mxOf [⟨some ⟨r1, 0, none⟩, 1, [5]⟩, ⟨some ⟨r2, 0, none⟩, 1, [0]⟩, ⟨some ⟨r3, 0, none⟩, 1, [9]⟩], List.replicate 3 false, 1⟩ : Ln) = ⟨[[5], [0], [9]], [false, false, false], 1⟩ := rfl
  rw [hS] at A
  have l48 := Heap.le_trans (Heap.le_trans l5 l6) (Heap.le_trans l7 l8)
  have A8 := ((A.le l6).le l7).le l8
  have d1 : drawN ⟨[[5], [0], [9]], [false, false, false], 1⟩ 0 12 = ([⟨0, 5⟩, ⟨2, 7⟩], 0, 0, ⟨[[0], [0], [2]], [false, false, false], 1⟩) := rfl
  refine S_nDraw l48 fr A8 (by unfold I64; omega) fun h9 p9 c9 l9 A9 own9 dis9 => ⟨_, _, _, _, _, rfl, newB_at fun r10 h10 n10 l10 A10 => ?_⟩
  rw [d1] at A9 own9 ⊢
  replace A9 : LenAt h9 f ⟨[[0], [0], [2]], [false, false, false], 1⟩ := A9
  replace own9 : OwnL h4 h9 zPt p9 c9 (ptV [⟨0, 5⟩, ⟨2, 7⟩]) := own9
  have g1 : giveN ⟨[[0], [0], [2]], [false, false, false], 1⟩ 0 [⟨1, 3⟩] = (0, ⟨[[0], [3], [2]], [false, false, false], 1⟩) := rfl
  have D10 : f.D 3 r10 = false := A9.at_D n10
  have lD : h4.le (h10.wo (f.D 3)) := Fresh.le_wo fr (Heap.le_trans l9 l10)
  have C10 : Pts (h10.wo (f.D 3)) (some ⟨r10, 0, none⟩) [⟨1, 3⟩] := At.toRd (ws := []) (A10.wo D10)
  have nD9 : ∀ b, p9 = some ⟨b, 0, none⟩ → f.D 3 b = false := fun b e => Frm.not_D (by rw [← e]; exact dis9)
  have P9 : Pts (h10.wo (f.D 3)) p9 [⟨0, 5⟩, ⟨2, 7⟩] := by
    refine rd_wo (rdL_le l10 own9.rd) fun b o e => ?_
    rcases own9 with ⟨_, q, _⟩ | ⟨s, sp, q, _, _, _⟩
    · rw [q] at e; cases e
    · rw [q] at e; cases e; exact nD9 _ q
  refine S_nGive (S := ⟨[[0], [0], [2]], [false, false, false], 1⟩) (wo_le _ _) (Frm.fresh_wo _ _ 3) (A9.le l10) C10 rfl (by omega) (fun x hx => ?_) fun h11 l11 A11 => ⟨_, rfl, ?_⟩
  · rw [List.mem_singleton] at hx; subst hx; exact ⟨show I64 1 by unfold I64; omega, show I64 3 by unfold I64; omega⟩
  rw [g1] at A11 ⊢
  replace l11 : (h10.wo (f.D 3)).le h11 := l11
  replace A11 : LenAt h11 f ⟨[[0], [3], [2]], [false, false, false], 1⟩ := A11
  have l411 := Heap.le_trans lD l11
  have f1 : failN ⟨[[0], [3], [2]], [false, false, false], 1⟩ 2 = (0, ⟨[[0], [3], [2]], [false, false, true], 1⟩) := rfl
  refine S_nFail (S := ⟨[[0], [3], [2]], [false, false, false], 1⟩) l11 (Frm.fresh_wo _ _ 3) A11 fun h12 l12 A12 => ⟨_, rfl, ?_⟩
  rw [f1] at A12 ⊢
  replace l12 : (h10.wo (f.D 3)).le h12 := l12
  replace A12 : LenAt h12 f ⟨[[0], [3], [2]], [false, false, true], 1⟩ := A12
  have f2 : failN ⟨[[0], [3], [2]], [false, false, true], 1⟩ 2 = (11, ⟨[[0], [3], [2]], [false, false, true], 1⟩) := rfl
  refine S_nFail (S := ⟨[[0], [3], [2]], [false, false, true], 1⟩) l12 (Frm.fresh_wo _ _ 3) A12 fun h13 l13 A13 => ⟨_, rfl, ?_⟩
  rw [f2] at A13 ⊢
  replace l13 : (h10.wo (f.D 3)).le h13 := l13
  replace A13 : LenAt h13 f ⟨[[0], [3], [2]], [false, false, true], 1⟩ := A13
  refine S_nText A13 fun h14 l14 => ⟨_, rfl, S_nRead (fun h15 _ e => ?_) fun h15 f15 S15 l15 e A15 fr15 => ⟨_, _, rfl, S_nRead (fun h16 l16 e16 => ⟨_, _, rfl, Br.yes rfl (Br.yes rfl ?_)⟩) fun h16 f16 S16 l16 e16 _ _ => ?_⟩⟩
  · rw [read_own A13.ok] at e; cases e
  · rw [read_own A13.ok] at e
    cases e
    have A16 := ((A13.le l14).le l15).le l16
    have A16' := A15.le l16
    have l1316 := Heap.le_trans l14 (Heap.le_trans l15 l16)
    have P16 := rdL_le (Heap.le_trans l13 l1316) P9
    refine S_own15 P16 rfl (by simp) fun h17 p17 c17 l17 own17 => ⟨_, _, _, rfl, newB_at fun r18 h18 n18 l18 A18b => S_Same15 (l := [⟨0, 5⟩, ⟨2, 7⟩]) (rdL_le l18 own17.rd) (At.toRd (ws := []) A18b) rfl (by simp) ⟨_, rfl, Br.yes rfl (Br.yes rfl (Br.yes rfl (Br.yes rfl (Br.yes rfl (Br.yes rfl ?_)))))⟩⟩
    have l1618 := Heap.le_trans l17 l18
    have A18 := A16.le l1618
    refine S_nLeft A18 ⟨_, rfl, Br.yes rfl (S_nLeft A18 ⟨_, rfl, Br.yes rfl (S_nFailed A18 ⟨_, rfl, Br.yes rfl (S_nFailed A18 ⟨_, rfl, Br.yes rfl (Br.yes rfl (Br.yes rfl (S_nFailed (A16'.le l1618) ⟨_, rfl, Br.yes rfl (Ret.mk ?_)⟩)))⟩)⟩)⟩)⟩
    exact k h18 (Heap.le_trans l04 (Heap.le_trans (Heap.le_trans lD l13) (Heap.le_trans l1316 l1618)))
  · have : readN (bytesI ⟨#[1]⟩) = none := rfl
    rw [this] at e16; cases e16
/-! operations -/
structure OpL where
  d : Int
  c : Int
  p : Int
  need : Int
  q : Option Addr
  qc : Nat
  l : List Prt
def opLV (x : OpL) : List Value := [.int .i64 x.d, .int .i64 x.c, .int .i64 x.p, .int .i64 x.need, .slice x.q x.l.length x.qc]
theorem opLV_len (x : OpL) : (opLV x).length = 5 := rfl
structure OpLI (x : OpL) : Prop where
  d : I64 x.d
  c : I64 x.c
  p : I64 x.p
  need : I64 x.need
  l : ∀ y ∈ x.l, I64 y.p ∧ I64 y.a
def OpsL (h : Heap) (p : Option Addr) (l : List OpL) : Prop := Arr opLV h p l ∧ ∀ x ∈ l, Pts h x.q x.l
theorem OpsL.le {h h' : Heap} {p : Option Addr} {l : List OpL} (x : OpsL h p l) (e : h.le h') : OpsL h' p l := ⟨x.1.le e, fun y hy => rdL_le e (x.2 y hy)⟩
def opLSt : Sh := .two (.int .i64) (.two (.int .i64) (.two (.int .i64) (.two (.int .i64) (.two (.sl ptSh) .nil))))
def opsLSh : Sh := .sl opLSt
theorem opsL_of {h : Heap} {p : Option Addr} {n c : Nat} (H : opsLSh.Has h [.slice p n c]) : n ≤ 9223372036854775807 ∧ ∃ l : List OpL, l.length = n ∧ OpsL h p l ∧ ∀ x ∈ l, OpLI x ∧ x.l.length ≤ 9223372036854775807 := by
  obtain ⟨h1, h2, l, hl, ha, hp⟩ := arr_of (enc := opLV) (P := fun x => (OpLI x ∧ x.l.length ≤ 9223372036854775807) ∧ Pts h x.q x.l) H fun vs H => by
    obtain ⟨_, _, rfl, _, ⟨n1, rfl, w1⟩, _, _, rfl, _, ⟨n2, rfl, w2⟩, _, _, rfl, _, ⟨n3, rfl, w3⟩, _, _, rfl, _, ⟨n4, rfl, w4⟩, _, _, rfl, _, hsl, hnil⟩ := H
    cases hnil
    have hsl2 := hsl
    obtain ⟨q, n, c, rfl, _⟩ := hsl2
    obtain ⟨h1, h2, L, hL, hP, hI⟩ := pts_of hsl
    subst hL
    exact ⟨⟨n1, n2, n3, n4, q, c, L⟩, rfl, ⟨⟨I64.of_wf w1, I64.of_wf w2, I64.of_wf w3, I64.of_wf w4, hI⟩, by dsimp only; omega⟩, hP⟩
  exact ⟨by omega, l, hl, ⟨ha, fun x hx => (hp x hx).2⟩, fun x hx => (hp x hx).1⟩
theorem S_large15 {h : Heap} {K : Value → Heap → Prop} {lp op : Option Addr} {NL : List NRow} {ln lc on oc : Nat} {l : List OpL} (X : Nets h lp NL) (hln : NL.length = ln) (O : OpsL h op l) (hon : l.length = on) (h1 : ln ≤ 9223372036854775807) (h2 : on ≤ 9223372036854775807)
    (k : ∀ b : Bool, (b = false → ln ≤ 20 ∧ (∀ x ∈ NL, x.l.length ≤ 20) ∧ on ≤ 40 ∧ ∀ x ∈ l, x.l.length ≤ 20) → K (.bool b) h) : CallA Try.prog fn_law15_large [slice lp ln lc, slice op on oc] h K := by
  refine F_law15_large _ _ _ _ _ _ _ _ ?_
  unfold F_law15_largeT
  have ops : (∀ x ∈ NL, x.l.length ≤ 20) → ∀ (m j : Nat), m + j = on → (∀ x ∈ l.take j, x.l.length ≤ 20) → L_law15_large_1 lp ln lc op on oc (on : Int) (j : Int) h K := fun hN m => by
    induction m with
    | zero =>
      intro j hj hh
      refine L_law15_large_1r _ _ _ _ _ _ _ _ _ _ ?_
      unfold L_law15_large_1T
      rw [List.take_of_length_le (by omega)] at hh
      refine Br.no (by simp; omega) (Br.dec (fun g => Ret.mk (k true fun e => by cases e)) fun g => Ret.mk (k _ fun e => ⟨by omega, hN, ?_, hh⟩))
      have := of_decide_eq_false e
      omega
    | succ m ih =>
      intro j hj hh
      refine L_law15_large_1r _ _ _ _ _ _ _ _ _ _ ?_
      unfold L_law15_large_1T
      have hx : l[j]? = some l[j] := List.getElem?_eq_getElem (by omega)
      have htk : l.take (j + 1) = l.take j ++ [l[j]] := by rw [List.take_add_one, hx]; rfl
      generalize l[j] = x at *
      refine Br.yes (by simp; omega) (ax opLV_len O.1 hon rfl hx (by omega) fun b o e r => ⟨_, _, _, r 4 (by omega), Br.dec (fun g => Ret.mk (k true fun e => by cases e)) fun g => ?_⟩)
      rw [wrap_i64_id (n := (j : Int) + 1) (by omega) (by omega)]
      refine ih (j + 1) (by omega) fun y hy => ?_
      rw [htk] at hy
      rcases List.mem_append.1 hy with hy | hy
      · exact hh y hy
      · rw [List.mem_singleton] at hy; subst hy; omega
  have main : ∀ (m j : Nat), m + j = ln → (∀ x ∈ NL.take j, x.l.length ≤ 20) → L_law15_large_0 lp ln lc op on oc (ln : Int) (j : Int) h K := fun m => by
    induction m with
    | zero =>
      intro j hj hh
      refine L_law15_large_0r _ _ _ _ _ _ _ _ _ _ ?_
      unfold L_law15_large_0T
      rw [List.take_of_length_le (by omega)] at hh
      exact Br.no (by simp; omega) (ops hh on 0 (by omega) fun x hx => by simp at hx)
    | succ m ih =>
      intro j hj hh
      refine L_law15_large_0r _ _ _ _ _ _ _ _ _ _ ?_
      unfold L_law15_large_0T
      have hx : NL[j]? = some NL[j] := List.getElem?_eq_getElem (by omega)
      have htk : NL.take (j + 1) = NL.take j ++ [NL[j]] := by rw [List.take_add_one, hx]; rfl
      generalize NL[j] = x at *
      refine Br.yes (by simp; omega) (nx X hln rfl hx (Br.dec (fun g => Ret.mk (k true fun e => by cases e)) fun g => ?_))
      rw [wrap_i64_id (n := (j : Int) + 1) (by omega) (by omega)]
      refine ih (j + 1) (by omega) fun y hy => ?_
      rw [htk] at hy
      rcases List.mem_append.1 hy with hy | hy
      · exact hh y hy
      · rw [List.mem_singleton] at hy; subst hy; omega
  exact main ln 0 (by omega) fun x hx => by simp at hx
def doN (S : Ln) (x : OpL) : Ln := if x.d = 0 then (drawN S x.c x.need).2.2.2 else if x.d = 1 then (giveN S x.c x.l).2 else (failN S x.p).2
theorem drawN_len {S : Ln} (o : S.Ok) (c need : Int) : (drawN S c need).2.2.2.L.length = S.L.length := by
  unfold drawN
  split
  · rfl
  split
  · rfl
  rename_i h1 h2
  obtain ⟨j, rfl, hj⟩ := hasC_t (by simpa using h1)
  simp only [Int.toNat_natCast]
  exact (drawM_ok (F := S.F) hj S.L.length 0 need S.L (by omega) o.sh o.i64 o.pos (by omega)).sh.1
theorem giveN_len {S : Ln} (o : S.Ok) (c : Int) (l : List Prt) : (giveN S c l).2.L.length = S.L.length := by
  unfold giveN
  split
  · rfl
  split
  · rfl
  split
  · rfl
  rename_i h1 h2 h3
  obtain ⟨j, rfl, hj⟩ := hasC_t (by simpa using h1)
  have hb := give_parts hj h2
  exact (addsM_ok (toP (j : Int) l) o.sh o.i64 (fun p hp => by have := hb p hp; omega) (by simpa using h3)).1.1
theorem failN_len {S : Ln} (a : Int) : (failN S a).2.L.length = S.L.length := by
  unfold failN
  split
  · rfl
  split <;> rfl
theorem doN_ok {S : Ln} (o : S.Ok) (x : OpL) : (doN S x).Ok ∧ (doN S x).L.length = S.L.length := by
  unfold doN
  split
  · exact ⟨drawN_ok o _ _, drawN_len o _ _⟩
  split
  · exact ⟨giveN_ok o _ _, giveN_len o _ _⟩
  · exact ⟨failN_ok o _, failN_len _⟩
theorem chain_pos : ∀ (l : List Int) (a : Int), 0 ≤ a → (∀ x ∈ l, 0 ≤ x) → a + sumL l ≤ 9223372036854775807 → chainL a l = (a + sumL l, 0)
  | [], a, _, _, _ => by rw [chainL, sumL]; simp
  | b :: l, a, h0, h1, h2 => by
    have hb := h1 b (List.mem_cons_self ..)
    have hs : ∀ l : List Int, (∀ x ∈ l, 0 ≤ x) → 0 ≤ sumL l := fun l => by
      induction l with
      | nil => intro _; exact Int.le_refl 0
      | cons x l ih => intro h; have := ih fun y hy => h y (List.mem_cons_of_mem _ hy); have := h x (List.mem_cons_self ..); rw [sumL]; omega
    have := hs l fun y hy => h1 y (List.mem_cons_of_mem _ hy)
    rw [sumL] at h2 ⊢
    rw [chainL, if_pos (by omega), chain_pos l (a + b) (by omega) (fun y hy => h1 y (List.mem_cons_of_mem _ hy)) (by omega), Int.add_assoc]
section
variable {h0 : Heap} {K : Value → Heap → Prop} (kg : ∀ h', h0.le h' → Ret h' K (.bool true)) {f : Frm} {lp oq : Option Addr} {ln lc on oc : Nat} {cur need : Int} (hcur : I64 cur) (hneed : I64 need)
include kg
theorem whole_2 {S S0 : Ln} (fr : Fresh h0 f S.L.length) (hln : S.L.length = ln) (n8 : ln ≤ 8) {pp : Option Addr} {parts : List Prt} {pn pc : Nat} (hpn : parts.length = pn) (hp8 : pn ≤ 1000) {still : Int} (hs : 0 < still → ∀ i, i < ln → leftN S (i : Int) cur = 0) (hI : ∀ x ∈ parts, I64 x.p ∧ I64 x.a)
    (hg : giveN S cur parts = (0, S0)) {g : Heap} (hgl : h0.le g) (frg : Fresh g f S.L.length) (C : Pts g pp parts) :
    ∀ (m j : Nat) (h : Heap), m + j = ln → g.le h → LenAt h f S → L_law15_LenderWhole_2 cur (some ⟨f.p, 0, none⟩) (strOf (textN S0)) pp pn pc still (ln : Int) (j : Int) h K
  | 0, j, h, hj, l0, A => by
    refine L_law15_LenderWhole_2r _ _ _ _ _ _ _ _ _ _ _ ?_
    unfold L_law15_LenderWhole_2T
    refine Br.no (by simp; omega) (S_nGive l0 frg A C hpn hp8 hI fun h1 l1 A1 => ⟨_, rfl, ?_⟩)
    rw [hg] at A1 ⊢
    refine Br.yes rfl (S_nText A1 fun h2 l2 => ⟨_, rfl, ?_⟩)
    rw [show ((0, S0) : Int × Ln).2 = S0 from rfl, show ((strOf (textN S0)).toList == (strOf (textN S0)).toList) = true from beq_self_eq_true _]
    exact kg h2 (Heap.le_trans hgl (Heap.le_trans l1 l2))
  | m + 1, j, h, hj, l0, A => by
    refine L_law15_LenderWhole_2r _ _ _ _ _ _ _ _ _ _ _ ?_
    unfold L_law15_LenderWhole_2T
    have ih := whole_2 (pc := pc) fr hln n8 hpn hp8 hs hI hg hgl frg C m (j + 1)
    refine Br.yes (by simp; omega) (Br.dec (fun g => S_nLeft A ⟨_, rfl, ?_⟩) fun g => ?_)
    · rw [hs g j (by omega), w1 (by omega)]
      exact Br.no rfl (ih h (by omega) l0 A)
    · rw [w1 (by omega)]
      exact ih h (by omega) l0 A
theorem whole_1 {S S0 : Ln} (fr : Fresh h0 f S.L.length) (hln : S.L.length = ln) (n8 : ln ≤ 8) {pp : Option Addr} {parts : List Prt} {pn pc : Nat} (hpn : parts.length = pn) (hp8 : pn ≤ 1000) {still : Int} (hs : 0 < still → ∀ i, i < ln → leftN S (i : Int) cur = 0) (hI : ∀ x ∈ parts, I64 x.p ∧ I64 x.a)
    (hg : giveN S cur parts = (0, S0)) (hst : 0 ≤ still) (hsum : sumL (parts.map (·.a)) + still = need) (hneed : I64 need) (hpar : ∀ x ∈ parts, 1 ≤ x.a ∧ failedN S x.p = false) (hinc : parts.Pairwise fun x y => x.p < y.p) {hd : Heap} (hgl : h0.le hd) (Ad : LenAt hd f S) (C : Pts hd pp parts) (hD : ∀ b o, pp = some ⟨b, o, none⟩ → f.D S.L.length b = false) :
    ∀ (m j : Nat) (h : Heap) (al : Option Addr) (ac : Nat) (last : Int), m + j = pn → hd.le h → OwnL hd h [.int .i64 0] al ac (intsV .i64 ((parts.take j).map (·.a))) → (∀ x ∈ parts.drop j, last < x.p) →
    L_law15_LenderWhole_1 lp ln lc cur need (some ⟨f.p, 0, none⟩) (strOf (textN S0)) pp pn pc still al j ac last pp pn pc (pn : Int) (j : Int) h K
  | 0, j, h, al, ac, last, hj, l0, own, hl => by
    refine L_law15_LenderWhole_1r _ _ _ _ _ _ _ _ _ _ _ _ _ _ _ _ _ _ _ _ _ _ ?_
    unfold L_law15_LenderWhole_1T
    rw [List.take_of_length_le (by omega)] at own
    have hjn : j = (parts.map (·.a)).length := by rw [List.length_map]; omega
    have hpos : ∀ x ∈ parts.map (·.a), 0 ≤ x := fun x hx => by
      obtain ⟨y, hy, rfl⟩ := List.mem_map.1 hx
      have := (hpar y hy).1; show 0 ≤ y.a; omega
    have hI64 : allI64 (parts.map (·.a)) := fun x hx => by
      obtain ⟨y, hy, rfl⟩ := List.mem_map.1 hx
      exact (hI y hy).2
    have hn := hneed
    unfold I64 at hn
    have hsl : 0 ≤ sumL (parts.map (·.a)) := by
      have : ∀ l : List Int, (∀ x ∈ l, 0 ≤ x) → 0 ≤ sumL l := fun l => by
        induction l with
        | nil => intro _; exact Int.le_refl 0
        | cons x l ih => intro h; have := ih fun y hy => h y (List.mem_cons_of_mem _ hy); have := h x (List.mem_cons_self ..); rw [sumL]; omega
      exact this _ hpos
    have hc := chain_pos (parts.map (·.a)) still hst hpos (by omega)
    have lw : (hd.wo (f.D S.L.length)).le h := Heap.le_trans (wo_le _ _) l0
    refine Br.no (by simp; omega) ?_
    subst hjn
    refine S_Chain (by rw [List.length_map]; omega) hI64 (by unfold I64; omega) h own.rd _ ⟨_, _, rfl, ?_⟩
    rw [hc]
    refine Br.no rfl (Br.no (by simp; omega) (Br.no (decide_eq_false (by omega)) (whole_2 kg fr hln n8 hpn hp8 hs hI hg (Fresh.le_wo fr hgl) (Frm.fresh_wo _ _ _) (rd_wo C hD) ln 0 h (by omega) lw (Ad.le l0))))
  | m + 1, j, h, al, ac, last, hj, l0, own, hl => by
    refine L_law15_LenderWhole_1r _ _ _ _ _ _ _ _ _ _ _ _ _ _ _ _ _ _ _ _ _ _ ?_
    unfold L_law15_LenderWhole_1T
    have ih := whole_1 (pc := pc) fr hln n8 hpn hp8 hs hI hg hst hsum hneed hpar hinc hgl Ad C hD m (j + 1)
    have hx : parts[j]? = some parts[j] := List.getElem?_eq_getElem (by omega)
    have htk : parts.take (j + 1) = parts.take j ++ [parts[j]] := by rw [List.take_add_one, hx]; rfl
    have hmem : parts[j] ∈ parts := List.getElem_mem _
    have hdr := List.drop_eq_getElem_cons (by omega : j < parts.length)
    have hpw : (parts.drop j).Pairwise fun x y => x.p < y.p := hinc.sublist (List.drop_sublist _ _)
    rw [hdr] at hl hpw
    rw [List.pairwise_cons] at hpw
    generalize parts[j] = x at *
    have hlx := hl x (List.mem_cons_self ..)
    obtain ⟨p1, p2⟩ := hpar x hmem
    refine Br.yes (by simp; omega) (qx (rdL_le l0 C) hpn rfl hx (newB_cp (vs := [.int .i64 x.p, .int .i64 x.a]) rfl fun r h2 hr l2 Ar st => ⟨st, _, Ar.cell rfl, Br.no (decide_eq_false (by omega)) ⟨_, Ar.cell rfl, Br.no (decide_eq_false (by omega)) ⟨_, Ar.cell rfl, S_nFailed (Ad.le (Heap.le_trans l0 l2)) ⟨_, rfl, ?_⟩⟩⟩⟩))
    rw [p2]
    refine Br.no rfl ⟨_, Ar.cell rfl, _, Ar.cell rfl, ?_⟩
    generalize h2.setN r 0 _ = h3 at *
    refine push1 (own.le l2) (by decide) (Heap.le_trans l0 l2) (by omega) rfl rfl (by rw [intsV_length, List.length_map, List.length_take]; simp; omega) fun r h1 p' c' h' hr l1 l' w' keep how => ?_
    rw [w1 (by omega)]
    refine ih h' p' c' x.p (by omega) l' ?_ fun y hy => hpw.1 y hy
    rw [htk, List.map_append, intsV_append]
    exact w'
include hcur hneed
theorem whole_0 {l : List OpL} (O : OpsL h0 oq l) (hon : l.length = on) (hs : on ≤ 40) (hO : ∀ x ∈ l, OpLI x ∧ x.l.length ≤ 20) (n8 : ln ≤ 8) :
    ∀ (m j : Nat) (h : Heap) (S : Ln), m + j = on → h0.le h → LenAt h f S → Fresh h0 f S.L.length → S.L.length = ln → L_law15_LenderWhole_0 lp ln lc cur need (some ⟨f.p, 0, none⟩) oq on oc (on : Int) (j : Int) h K
  | 0, j, h, S, hj, l0, A, fr, hln => by
    refine L_law15_LenderWhole_0r _ _ _ _ _ _ _ _ _ _ _ _ _ ?_
    unfold L_law15_LenderWhole_0T
    have o := A.ok
    have dl := drawN_len o cur need
    have hbk := @give_back S o cur need
    refine Br.no (by simp; omega) (S_nText A fun h1 l1 => ⟨_, rfl, S_nDraw (Heap.le_trans l0 l1) fr (A.le l1) hneed fun h2 p2 c2 l2 A2 own2 dis2 => ⟨_, _, _, _, _, rfl, ?_⟩⟩)
    by_cases g1 : hasC S cur = false ∨ need < 0
    · have e : drawN S cur need = ([], 0, 1, S) := by
        unfold drawN
        by_cases g2 : hasC S cur = false
        · rw [if_pos g2]
        · rw [if_neg g2, if_pos (g1.resolve_left g2)]
      rw [e] at A2 ⊢
      replace A2 : LenAt h2 f S := A2
      refine Br.yes rfl (S_nText A2 fun h3 l3 => ⟨_, rfl, ?_⟩)
      exact Br.yes (beq_self_eq_true _) (kg h3 (Heap.le_trans l2 l3))
    · have g2 : hasC S cur = true := by
        cases e : hasC S cur with
        | true => rfl
        | false => exact (g1 (.inl e)).elim
      obtain ⟨c, rfl, hc⟩ := hasC_t g2
      have hn : 0 ≤ need := Int.not_lt.1 fun x => g1 (.inr x)
      have e : drawN S (c : Int) need = ((drawM S.F c S.L.length 0 need S.L).1, (drawM S.F c S.L.length 0 need S.L).2.1, 0, ⟨(drawM S.F c S.L.length 0 need S.L).2.2, S.F, S.cur⟩) := by
        unfold drawN
        rw [if_neg (by rw [g2]; decide), if_neg (by omega), Int.toNat_natCast]
      have D := drawM_ok (F := S.F) hc S.L.length 0 need S.L (by omega) o.sh o.i64 o.pos hn
      rw [e] at hbk dl
      have hbk := hbk rfl
      rw [e] at A2 own2 ⊢
      generalize drawM S.F c S.L.length 0 need S.L = R at *
      replace A2 : LenAt h2 f ⟨R.2.2, S.F, S.cur⟩ := A2
      replace own2 : OwnL h0 h2 [.int .i64 0, .int .i64 0] p2 c2 (ptV R.1) := own2
      replace dl : R.2.2.length = S.L.length := dl
      have hRl : R.1.length ≤ 8 := by
        have : ∀ (l : List Prt) (a : Int), l.Pairwise (fun x y => x.p < y.p) → (∀ x ∈ l, a ≤ x.p ∧ x.p < (S.L.length : Int)) → (l.length : Int) ≤ max 0 ((S.L.length : Int) - a) := by
          intro l
          induction l with
          | nil => intro a _ _; simp; omega
          | cons x l ih =>
            intro a hp hh
            rw [List.pairwise_cons] at hp
            have h1 := hh x (List.mem_cons_self ..)
            have := ih (x.p + 1) hp.2 fun y hy => ⟨by have := hp.1 y hy; omega, (hh y (List.mem_cons_of_mem _ hy)).2⟩
            rw [List.length_cons]
            omega
        have := this R.1 0 D.inc fun x hx => ⟨by have := (D.par x hx).1; omega, (D.par x hx).2.1⟩
        omega
      dsimp only
      refine Br.no rfl fun r hr => ?_
      refine whole_1 kg (S := ⟨R.2.2, S.F, S.cur⟩) (S0 := S) (parts := R.1) (pn := R.1.length) (still := R.2.1) (by show Fresh h0 f R.2.2.length; rw [dl]; exact fr) (by show R.2.2.length = ln; omega) n8 rfl (by omega) (fun hst i hi => ?_) (fun x hx => ?_) hbk D.still.1 (by have := D.sum; exact this) hneed (fun x hx => ?_) D.inc (hd := h2) l2 A2 own2.rd (fun b o e2 => ?_) R.1.length 0 _ _ 0 (-1) (by omega) (le_ins hr) (own_new hr) fun x hx => ?_
      · have := D.done hst i (by omega) (by omega)
        unfold leftN
        rw [if_neg (by unfold knownB; rw [decide_eq_true (by show 0 ≤ (i : Int) ∧ (i : Int) < (R.2.2.length : Int); omega)]; decide), if_neg (by unfold hasC; rw [decide_eq_true (by show 0 ≤ (c : Int) ∧ (c : Int) < (S.cur : Int); omega)]; decide)]
        simp only [Int.toNat_natCast]
        exact this
      · obtain ⟨x1, x2, x3, x4⟩ := D.par x hx
        have hsx : x.a ≤ sumL (R.1.map (·.a)) := by
          have : ∀ l : List Prt, (∀ y ∈ l, 0 ≤ y.a) → x ∈ l → x.a ≤ sumL (l.map (·.a)) ∧ 0 ≤ sumL (l.map (·.a)) := by
            have hz : ∀ l : List Prt, (∀ y ∈ l, 0 ≤ y.a) → 0 ≤ sumL (l.map (·.a)) := by
              intro l
              induction l with
              | nil => intro _; exact Int.le_refl 0
              | cons z l ih => intro h; have := ih fun y hy => h y (List.mem_cons_of_mem _ hy); have := h z (List.mem_cons_self ..); rw [List.map_cons, sumL]; omega
            intro l
            induction l with
            | nil => intro _ h; cases h
            | cons z l ih =>
              intro hp h
              have h0 := hz l fun y hy => hp y (List.mem_cons_of_mem _ hy)
              have hz1 := hp z (List.mem_cons_self ..)
              rw [List.map_cons, sumL]
              rcases List.mem_cons.1 h with rfl | h
              · omega
              · have := (ih (fun y hy => hp y (List.mem_cons_of_mem _ hy)) h).1; omega
          exact (this R.1 (fun y hy => by have := (D.par y hy).2.2.1; omega) hx).1
        have hsum := D.sum
        have hst := D.still
        have hn2 := hneed
        unfold I64 at hn2 ⊢
        have := o.n8
        omega
      · obtain ⟨x1, x2, x3, x4⟩ := D.par x hx
        refine ⟨x3, ?_⟩
        unfold failedN
        split
        · exact x4
        · rfl
      · rcases own2 with ⟨_, q, _⟩ | ⟨s, sp, q, _, _, _⟩
        · rw [q] at e2; cases e2
        · rw [q] at e2; cases e2
          have : f.D S.L.length b = false := Frm.not_D (by rw [← q]; exact dis2)
          show f.D R.2.2.length b = false
          rw [dl]; exact this
      · rw [List.drop_zero] at hx
        have := (D.par x hx).1
        omega
  | m + 1, j, h, S, hj, l0, A, fr, hln => by
    refine L_law15_LenderWhole_0r _ _ _ _ _ _ _ _ _ _ _ _ _ ?_
    unfold L_law15_LenderWhole_0T
    have ih := whole_0 O hon hs hO n8 m (j + 1)
    have hx : l[j]? = some l[j] := List.getElem?_eq_getElem (by omega)
    have hmem : l[j] ∈ l := List.getElem_mem _
    generalize l[j] = x at *
    obtain ⟨I, hl20⟩ := hO x hmem
    have hd := doN_ok A.ok x
    unfold doN at hd
    refine Br.yes (by simp; omega) (ax opLV_len (O.1.le l0) hon rfl hx (by omega) fun b o e r => ⟨_, r 0 (by omega), _, r 1 (by omega), _, r 2 (by omega), _, r 3 (by omega), _, _, _, r 4 (by omega), newB_cp (vs := opLV x) rfl fun r h2 hr l2 Ar st => ⟨st, _, Ar.cell rfl, ?_⟩⟩)
    show Br (x.d == 0) (∃ n_6, (h2.setN r 0 (opLV x)).cell r 1 = some (int IntKind.i64 n_6) ∧ _) _
    have l02 := Heap.le_trans l0 l2
    have A2 := A.le l2
    refine Br.intro (fun g => ⟨_, Ar.cell rfl, _, Ar.cell rfl, S_nDraw l02 fr A2 I.need fun h3 p3 c3 l3 A3 _ _ => ⟨_, _, _, _, _, rfl, ?_⟩⟩) fun g => Br.intro (fun g2 => ⟨_, Ar.cell rfl, _, _, _, Ar.cell rfl, S_nGive l02 fr A2 (O.2 x hmem) rfl (by omega) I.l fun h3 l3 A3 => ⟨_, rfl, ?_⟩⟩) fun g2 => ⟨_, Ar.cell rfl, S_nFail l02 fr A2 fun h3 l3 A3 => ⟨_, rfl, ?_⟩⟩
    · rw [if_pos (by simpa using g)] at hd
      rw [w1 (by omega)]
      exact ih h3 _ (by omega) l3 A3 (by rw [hd.2]; exact fr) (by rw [hd.2]; exact hln)
    · rw [if_neg (by simpa using g), if_pos (by simpa using g2)] at hd
      rw [w1 (by omega)]
      exact ih h3 _ (by omega) l3 A3 (by rw [hd.2]; exact fr) (by rw [hd.2]; exact hln)
    · rw [if_neg (by simpa using g), if_neg (by simpa using g2)] at hd
      rw [w1 (by omega)]
      exact ih h3 _ (by omega) l3 A3 (by rw [hd.2]; exact fr) (by rw [hd.2]; exact hln)
end
theorem newE_len {L : Mx} {w : Int} (h : newE L w = 0) : L.length ≤ 8 := by
  unfold newE at h
  split at h
  · cases h
  · omega
theorem law15_LenderWhole_ok {h : Heap} {lp : Option Addr} {ln lc : Nat} (HL : netSh.Has h [.slice lp ln lc]) {cu : Int} (hcu : I64 cu) {q : Option Addr} {n qc : Nat} (HO : opsLSh.Has h [.slice q n qc]) {cur need : Int} (hc : I64 cur) (hn : I64 need) :
    CallA Try.prog fn_law15_LenderWhole [slice lp ln lc, .int .i64 cu, slice q n qc, .int .i64 cur, .int .i64 need] h fun v h' => v = .bool true ∧ h.le h' := by
  obtain ⟨hmax, NL, hNL, X, hI, hXl⟩ := nets_of HL
  obtain ⟨hmax2, l, hl, O, hO⟩ := opsL_of HO
  refine F_law15_LenderWhole _ _ _ _ _ _ _ _ _ _ _ ?_
  unfold F_law15_LenderWholeT
  have kg : ∀ h', h.le h' → Ret h' (fun v h' => v = .bool true ∧ h.le h') (.bool true) := fun h' l' => Ret.mk ⟨rfl, l'⟩
  refine S_law15_awake fun h1 l1 => ⟨_, rfl, Br.no rfl (S_large15 (X.le l1) hNL (O.le l1) hl hmax hmax2 fun b hb => ⟨_, rfl, ?_⟩)⟩
  cases b with
  | true => exact Br.yes rfl (kg h1 l1)
  | false =>
    obtain ⟨b1, b2, b3, b4⟩ := hb rfl
    refine Br.no rfl (S_nNew (X.le l1) hNL (by omega) hI (fun x hx => by have := b2 x hx; omega) (fun hne h2 l2 => ⟨_, _, rfl, Br.yes rfl (kg h2 (Heap.le_trans l1 l2))⟩) fun he w ew h2 f l2 A fr => ⟨_, _, rfl, Br.no rfl ?_⟩)
    have hM : (mxOf NL).length = ln := by unfold mxOf; rw [List.length_map, hNL]
    have n8 := newE_len he
    exact whole_0 (h0 := h1) (fun h' l' => kg h' (Heap.le_trans l1 l')) hc hn (O.le l1) hl b3 (fun x hx => ⟨(hO x hx).1, b4 x hx⟩) (by omega) n 0 h2 _ (by omega) l2 A (by show Fresh h1 f (mxOf NL).length; rw [hM]; exact fr) hM
end Go.Proofs.Ytkcogdmddhkldaa
