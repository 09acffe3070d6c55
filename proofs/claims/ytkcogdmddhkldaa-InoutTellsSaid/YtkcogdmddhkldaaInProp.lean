/- Propose, whole: the program's. -/
import Derived.Test.YtkcogdmddhkldaaInRun
namespace Go.Proofs.Ytkcogdmddhkldaa
open Go Go.Sy Go.Value
set_option linter.unusedVariables false
set_option linter.unusedSimpArgs false

def likeB (l : List Cur) (M : Mx) : Bool := M.any fun r => (r.length : Int) != (l.length : Int)
def propR (l : List Cur) (M : Mx) (least : Int) : Int × (Mx × List Swp) :=
  if tabE l ≠ 0 then (tabE l, [], [])
  else if 16 < M.length then (4, [], [])
  else if likeB l M = true ∨ least < 1 then (1, [], [])
  else match curL (fun c a => changeR l (c : Int) 0 a false) least M.length (l.length - 1) 1 (M, []) with
    | none => (3, [], [])
    | some S => (0, S)
def PRes (h : Heap) (lp : Option Addr) (ln : Nat) (np : Option Addr) (nn : Nat) (e : Int) (P : Int × (Mx × List Swp)) : Prop :=
  e = P.1 ∧ Sws h lp P.2.2 ∧ P.2.2.length = ln ∧ ∃ NL : List NRow, NL.length = nn ∧ mxOf NL = P.2.1 ∧ Nets h np NL
theorem PRes.le {h h' : Heap} {lp : Option Addr} {ln : Nat} {np : Option Addr} {nn : Nat} {e : Int} {P : Int × (Mx × List Swp)} (x : PRes h lp ln np nn e P) (l : h.le h') : PRes h' lp ln np nn e P := by
  obtain ⟨a, b, c, NL, d, f, g⟩ := x
  exact ⟨a, rdL_le l b, c, NL, d, f, g.le l⟩
theorem PRes.none {h : Heap} {e : Int} {P : Int × (Mx × List Swp)} (he : P = (e, [], [])) : PRes h none 0 none 0 e P := by
  subst he
  exact ⟨rfl, .inl rfl, rfl, [], rfl, rfl, .inl rfl, fun x hx => (by cases hx)⟩
section
variable {K : Value → Heap → Prop} {h0 : Heap} {k r : Nat} {tp : Option Addr} {tn tc : Nat} {l : List Cur} {least : Int}
theorem cols {np : Option Addr} {nc n : Nat} {R C : Nat → Nat} {SP : Nat → List Value} {cells : List Value} (A : At h0 r [slice tp tn tc]) (T : Curs h0 tp l) (hl : l.length = tn) (ok : l.all inbB = true) (hls : 1 ≤ least) (hn : n ≤ 16) (htn : tn ≤ 8) :
    ∀ (m c : Nat) (M : Mx) (sw : List Swp) (h : Heap) (L : Lay) (lp : Option Addr) (lc : Nat), m + c = tn → 1 ≤ c → MkS h0 h L k tp tn tc np nc n tn R SP C cells M lp lc sw → (∀ i d, I64 (rdM M i d)) → sw.length + m * 256 ≤ 999999 →
      (curL (fun c a => changeR l (c : Int) 0 a false) least n m c (M, sw) = none → ∀ h', h0.le h' → K (tuple #[slice none 0 0, slice none 0 0, .int .i64 3]) h') →
      (∀ S', curL (fun c a => changeR l (c : Int) 0 a false) least n m c (M, sw) = some S' → ∀ h' L' lp' lc', MkS h0 h' L' k tp tn tc np nc n tn R SP C cells S'.1 lp' lc' S'.2 → K (tuple #[slice lp' S'.2.length lc', slice np n nc, .int .i64 0]) h') →
      L_inout_Propose_1 least r k (c : Int) h K := by
  intro m
  induction m with
  | zero =>
    intro c M sw h L lp lc hm hc s hi hsl kerr kok
    refine L_inout_Propose_1r _ _ _ _ _ _ ?_
    unfold L_inout_Propose_1T
    refine ⟨_, _, _, (A.le s.mat.own.base).cell rfl, Br.no (by simp; omega) ⟨_, _, _, s.mat.own.cell s.box rfl, _, _, _, s.mat.own.cell s.box rfl, Ret.mk (kok (M, sw) rfl h L lp lc s)⟩⟩
  | succ m ih =>
    intro c M sw h L lp lc hm hc s hi hsl kerr kok
    refine L_inout_Propose_1r _ _ _ _ _ _ ?_
    unfold L_inout_Propose_1T
    have hnn : n * n ≤ 16 * 16 := Nat.mul_le_mul hn hn
    refine ⟨_, _, _, (A.le s.mat.own.base).cell rfl, Br.yes (by simp; omega) (S_currency T hl ok rfl (by omega) (by omega) hls (by omega) s hi (by omega) (fun e h' l' => ⟨_, rfl, Br.yes rfl (Ret.mk (kerr (by rw [curL, e]) h' l'))⟩) (fun S' e h' L' lp' lc' s' hi' => ⟨_, rfl, Br.no rfl ?_⟩))⟩
    rw [wrap_i64_id (by omega) (by omega)]
    rw [curL, e] at kerr kok
    have hlen := toL_len n 0 _ S' e
    dsimp only at hlen
    exact ih (c + 1) S'.1 S'.2 h' L' lp' lc' (by omega) (by omega) s' hi' (by omega) kerr kok
theorem mx_get {NL : List NRow} {j : Nat} {x : NRow} (h : NL[j]? = some x) : (mxOf NL)[j]? = some x.l := by
  unfold mxOf; rw [List.getElem?_map, h]; rfl
theorem rows_loop {p : Option Addr} {N nc0 : Nat} {NL : List NRow} (A : At h0 r [slice tp tn tc]) (T : Curs h0 tp l) (hl : l.length = tn) (ok : l.all inbB = true) (hls : 1 ≤ least) (htn : tn ≤ 8) (ht1 : 1 ≤ tn) (X : Nets h0 p NL) (hN : NL.length = N) (hn : N ≤ 16)
    (hlike : ∀ x ∈ NL, x.l.length = tn) (hI : ∀ x ∈ NL, ∀ v ∈ x.l, I64 v)
    (kerr : curL (fun c a => changeR l (c : Int) 0 a false) least N (tn - 1) 1 (mxOf NL, []) = none → ∀ h', h0.le h' → K (tuple #[slice none 0 0, slice none 0 0, .int .i64 3]) h')
    (kok : ∀ S', curL (fun c a => changeR l (c : Int) 0 a false) least N (tn - 1) 1 (mxOf NL, []) = some S' → ∀ h' L' np nc R SP C cells lp' lc', MkS h0 h' L' k tp tn tc np nc N tn R SP C cells S'.1 lp' lc' S'.2 → K (tuple #[slice lp' S'.2.length lc', slice np N nc, .int .i64 0]) h') :
    ∀ (m j : Nat) (h : Heap) (L : Lay) (np : Option Addr) (nc : Nat) (R C : Nat → Nat) (SP : Nat → List Value) (cells : List Value), m + j = N → MkS h0 h L k tp tn tc np nc j tn R SP C cells ((mxOf NL).take j) none 0 [] →
      L_inout_Propose_0 least r k p N nc0 (N : Int) (j : Int) h K := by
  intro m
  induction m with
  | zero =>
    intro j h L np nc R C SP cells hm s
    refine L_inout_Propose_0r _ _ _ _ _ _ _ _ _ _ ?_
    unfold L_inout_Propose_0T
    have hj : j = N := by omega
    subst hj
    rw [List.take_of_length_le (by unfold mxOf; rw [List.length_map]; omega)] at s
    refine Br.no (by simp) (cols A T hl ok hls hn htn (tn - 1) 1 _ [] h L none 0 (by omega) (by omega) s (fun i d => ?_) (by simp; omega) kerr (fun S' e h' L' lp' lc' s' => kok S' e h' L' np nc R SP C cells lp' lc' s'))
    unfold rdM
    have I0 : I64 0 := ⟨by decide, by decide⟩
    cases hx : (mxOf NL)[i]? with
    | none => rw [List.getD_eq_getElem?_getD (l := mxOf NL), hx]; exact I0
    | some row =>
      rw [List.getD_eq_getElem?_getD (l := mxOf NL), hx]
      dsimp only [Option.getD_some]
      cases hv : row[d]? with
      | none => rw [List.getD_eq_getElem?_getD, hv]; exact I0
      | some v =>
        rw [List.getD_eq_getElem?_getD, hv]
        have := List.mem_of_getElem? hx
        unfold mxOf at this
        obtain ⟨y, hy, rfl⟩ := List.mem_map.1 this
        exact hI y hy v (List.mem_of_getElem? hv)
  | succ m ih =>
    intro j h L np nc R C SP cells hm s
    refine L_inout_Propose_0r _ _ _ _ _ _ _ _ _ _ ?_
    unfold L_inout_Propose_0T
    have hx : NL[j]? = some NL[j] := List.getElem?_eq_getElem (by omega)
    have hmem : NL[j] ∈ NL := List.getElem_mem _
    generalize NL[j] = x at *
    have hlen := hlike x hmem
    have X1 := X.le s.mat.own.base
    refine Br.yes (by simp; omega) (nx X1 hN rfl hx ⟨_, _, _, s.mat.own.cell s.box rfl, S_CloneI (X1.2 x hmem) rfl (by omega) fun p' c' h1 l1 o1 => ⟨_, _, _, rfl, .inl l1, ?_⟩⟩)
    rw [hlen]
    refine s.mat.add l1 o1 hlen (by omega) (by omega) fun np' nc' h2 L2 R2 SP2 C2 cells2 s2 old => ?_
    obtain ⟨bx, n2, d2⟩ := old k _ s.box s.nk s.dk
    refine ⟨s2.own.canSt bx (by simp), ?_⟩
    have s3 := s2.upd (i := 1) (ws := [slice np' (j + 1) nc']) bx d2 n2 (fun e => by cases e)
    rw [wrap_i64_id (by omega) (by omega)]
    have et : (mxOf NL).take (j + 1) = (mxOf NL).take j ++ [x.l] := by
      rw [List.take_add_one, mx_get hx]; rfl
    refine ih (j + 1) _ _ np' nc' R2 C2 SP2 cells2 (by omega) ⟨by rw [et]; exact s3, ?_, d2, n2, fun e => (by cases e)⟩
    rw [Lay.upd_same]; rfl
theorem S_Propose {h : Heap} {p : Option Addr} {N nc0 : Nat} {NL : List NRow} (T : Curs h tp l) (hl : l.length = tn) (X : Nets h p NL) (hN : NL.length = N) (hs : N ≤ 1000) (hI : ∀ x ∈ NL, ∀ v ∈ x.l, I64 v)
    (kk : ∀ lp ln lc np nn nc e h', h.le h' → PRes h' lp ln np nn e (propR l (mxOf NL) least) → K (tuple #[slice lp ln lc, slice np nn nc, .int .i64 e]) h') :
    CallA Try.prog fn_inout_Propose [slice tp tn tc, slice p N nc0, .int .i64 least] h K := by
  refine F_inout_Propose _ _ _ _ _ _ _ _ _ ?_
  unfold F_inout_ProposeT
  intro r hr
  have A := At.new h r [slice tp tn tc] 22
  have l1 : h.le (h.ins r (.cells [slice tp tn tc].toArray 22 (0, 0))) := le_ins hr
  generalize h.ins r (.cells [slice tp tn tc].toArray 22 (0, 0)) = h1 at *
  have hM : (mxOf NL).length = N := by unfold mxOf; rw [List.length_map, hN]
  refine ⟨_, _, _, A.cell rfl, S_Check (T.le l1) hl fun h2 l2 => ⟨_, rfl, ?_⟩⟩
  have l12 := Heap.le_trans l1 l2
  unfold propR at kk
  rw [hM] at kk
  by_cases g1 : tabE l = 0
  case neg =>
    rw [if_pos g1] at kk
    exact Br.yes (by simpa using g1) (Ret.mk (kk _ _ _ _ _ _ _ h2 l12 (PRes.none rfl)))
  rw [g1] at kk ⊢
  rw [if_neg (by decide)] at kk
  refine Br.no rfl ?_
  by_cases g2 : 16 < N
  case pos =>
    rw [if_pos g2] at kk
    exact Br.yes (by simp; omega) (Ret.mk (kk _ _ _ _ _ _ _ h2 l12 (PRes.none rfl)))
  rw [if_neg g2] at kk
  refine Br.no (by simp; omega) ?_
  have X2 := X.le l12
  refine S_AnyUnlike X2 hN (A.le l2) (by omega) ⟨_, rfl, ?_⟩
  have elike : (NL.any fun x => (x.l.length : Int) != (tn : Int)) = likeB l (mxOf NL) := by
    unfold likeB mxOf
    rw [List.any_map, hl]; rfl
  rw [elike]
  cases g3 : likeB l (mxOf NL) with
  | true =>
    rw [g3, if_pos (.inl rfl)] at kk
    exact Br.yes rfl (Ret.mk (kk _ _ _ _ _ _ _ h2 l12 (PRes.none rfl)))
  | false =>
    refine Br.no rfl ?_
    by_cases g4 : least < 1
    case pos =>
      rw [if_pos (.inr g4)] at kk
      exact Br.yes (by simpa using g4) (Ret.mk (kk _ _ _ _ _ _ _ h2 l12 (PRes.none rfl)))
    rw [g3, if_neg (by simp; omega)] at kk
    refine Br.no (by simpa using g4) ⟨_, _, _, (A.le l2).cell rfl, ?_⟩
    intro kb hkb
    obtain ⟨t1, t8, _, _, _⟩ := tab_parts g1
    have ok := all_inb g1
    have hlike : ∀ x ∈ NL, x.l.length = tn := fun x hx => by
      rw [← elike, List.any_eq_false] at g3
      have := g3 x hx
      simp at this
      omega
    have O := (Own.start h2).ins (vs := [slice tp tn tc, slice none 0 0, slice none 0 0]) (T := 112) hkb
    have s0 : MkS h2 (h2.ins kb (.cells [slice tp tn tc, slice none 0 0, slice none 0 0].toArray 112 (0, 0))) (Lay.none.upd kb [slice tp tn tc, slice none 0 0, slice none 0 0]) kb tp tn tc none 0 0 tn (fun _ => 0) (fun _ => []) (fun _ => 0) [] ((mxOf NL).take 0) none 0 [] :=
      ⟨⟨O, rfl, fun i hi => absurd hi (by omega), Lst.nil _ _, ⟨⟨rfl, fun x hx => (by cases hx)⟩, fun i hi => absurd hi (by omega), fun i j hi => absurd hi (by omega)⟩, Lst.nil _ _, fun i hi => absurd hi (by omega), fun i hi => absurd hi (by omega), fun b e => (by cases e)⟩, Lay.upd_same _ _ _, fun i hi => absurd hi (by omega), fun e => (by cases e), fun e => (by cases e)⟩
    rw [hl] at kk
    refine rows_loop (A.le l2) (T.le l12) hl ok (by omega) (by omega) (by omega) X2 hN (by omega) hlike hI (fun e h' l' => ?_) (fun S' e h' L' np nc R SP C cells lp' lc' s' => ?_) N 0 _ _ none 0 _ _ _ [] (by omega) s0
    · rw [e] at kk
      exact kk _ _ _ _ _ _ _ h' (Heap.le_trans l12 l') (PRes.none rfl)
    · rw [e] at kk
      obtain ⟨NL', e1, e2, e3, e4⟩ := s'.mat.nets
      exact kk _ _ _ _ _ _ _ h' (Heap.le_trans l12 s'.mat.own.base) ⟨rfl, e4, rfl, NL', e1, e2, e3⟩
end
end Go.Proofs.Ytkcogdmddhkldaa
