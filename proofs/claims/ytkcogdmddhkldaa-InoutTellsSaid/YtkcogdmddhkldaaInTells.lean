/- The law InoutTells. -/
import Derived.Test.YtkcogdmddhkldaaInRef
import Derived.Test.YtkcogdmddhkldaaInLaw
import Derived.Test.YtkcogdmddhkldaaEqInTells
namespace Go.Proofs.Ytkcogdmddhkldaa
open Go Go.Sy Go.Value
set_option linter.unusedVariables false
set_option linter.unusedSimpArgs false

section
variable {K : Value → Heap → Prop} {h0 : Heap}
theorem own_loop {p : Option Addr} {sw : List Swp} {n c : Nat} (W : Sws h0 p sw) (hn : sw.length = n) (hs : n ≤ 1000000) (k : ∀ p' c' h', h0.le h' → Sws h' p' sw → K (slice p' n c') h') :
    ∀ (m j : Nat) (h : Heap) (out : Option Addr) (oc : Nat), m + j = n → h0.le h → OwnL h0 h zSw out oc (swV (sw.take j)) → L_law14_own_0 out j oc p n c (n : Int) (j : Int) h K := by
  intro m
  induction m with
  | zero =>
    intro j h out oc hj lh own
    refine L_law14_own_0r _ _ _ _ _ _ _ _ _ _ ?_
    unfold L_law14_own_0T
    have e : j = n := by omega
    subst e
    rw [List.take_of_length_le (by omega)] at own
    exact Br.no (by simp) (Ret.mk (k _ _ _ lh own.rd))
  | succ m ih =>
    intro j h out oc hj lh own
    refine L_law14_own_0r _ _ _ _ _ _ _ _ _ _ ?_
    unfold L_law14_own_0T
    have hx : sw[j]? = some sw[j] := List.getElem?_eq_getElem (by omega)
    have et : sw.take (j + 1) = sw.take j ++ [sw[j]] := List.take_succ_eq_append_getElem (by omega)
    generalize sw[j] = x at *
    have W1 : Sws h p sw := rdL_le lh W
    refine Br.yes (by simp; omega) (sx W1 hn rfl hx ?_)
    intro r hr
    have A0 := At.new h r [.int .i64 0, .int .i64 0, .int .i64 0, .int .i64 0, .int .i64 0] 41
    have l1 : h.le (h.ins r (.cells [.int .i64 0, .int .i64 0, .int .i64 0, .int .i64 0, .int .i64 0].toArray 41 (0, 0))) := le_ins hr
    generalize h.ins r (.cells [.int .i64 0, .int .i64 0, .int .i64 0, .int .i64 0, .int .i64 0].toArray 41 (0, 0)) = h1 at *
    refine ⟨A0.canSt (by decide), ?_⟩
    have A := A0.set (o := 0) (ws := [.int .i64 (x.fr : Int), .int .i64 (x.to : Int), .int .i64 (x.cur : Int), .int .i64 x.amount, .int .i64 x.base])
    have l2 : h.le (h1.setN r 0 [.int .i64 (x.fr : Int), .int .i64 (x.to : Int), .int .i64 (x.cur : Int), .int .i64 x.amount, .int .i64 x.base]) := le_setN l1 hr
    generalize h1.setN r 0 [.int .i64 (x.fr : Int), .int .i64 (x.to : Int), .int .i64 (x.cur : Int), .int .i64 x.amount, .int .i64 x.base] = h2 at *
    refine ⟨_, A.cell rfl, _, A.cell rfl, _, A.cell rfl, _, A.cell rfl, _, A.cell rfl, ?_⟩
    intro r2 hr2
    have l3 := le_ins hr2 (o := .cells [.int .i64 (x.fr : Int), .int .i64 (x.to : Int), .int .i64 (x.cur : Int), .int .i64 x.amount, .int .i64 x.base].toArray 123 (0, 0))
    have own2 := (own.le l2).le l3
    have hl : (sw.take j).length = j := by rw [List.length_take]; omega
    refine own2.push (by decide) (Heap.le_trans lh (Heap.le_trans l2 l3)) (by omega) (ws := swV [x]) (by rw [swV_length]; rfl) (rdL_new _ _ _ _ _) (allCells_sw _) (by rw [swV_length, hl]; rfl) ?_
    intro p' c' h' l' w' _ _
    rw [wrap_i64_id (by omega) (by omega)]
    rw [← swV_append, ← et] at w'
    exact ih (j + 1) h' p' c' (by omega) l' w'
theorem S_own {h : Heap} {p : Option Addr} {sw : List Swp} {n c : Nat} (W : Sws h p sw) (hn : sw.length = n) (hs : n ≤ 1000000) (k : ∀ p' c' h', h.le h' → Sws h' p' sw → K (slice p' n c') h') :
    CallA Try.prog fn_law14_own [slice p n c] h K := by
  refine F_law14_own _ _ _ _ _ ?_
  unfold F_law14_ownT
  exact own_loop W hn hs k n 0 h none 0 (by omega) h.le_refl (OwnL.nil _ _ _)
theorem same14_loop {h : Heap} {p q : Option Addr} {a b n : Nat} {sw : List Swp} (W : Sws h p sw) (V : Sws h q sw) (hn : sw.length = n) (hs : n ≤ 1000000) (k : K (.bool true) h) :
    ∀ (m j : Nat), m + j = n → L_ref14_Same_0 p n a q n b j h K := by
  intro m
  induction m with
  | zero =>
    intro j hj
    refine L_ref14_Same_0r _ _ _ _ _ _ _ _ _ ?_
    unfold L_ref14_Same_0T
    exact Br.no (by simp; omega) (Ret.mk k)
  | succ m ih =>
    intro j hj
    refine L_ref14_Same_0r _ _ _ _ _ _ _ _ _ ?_
    unfold L_ref14_Same_0T
    have hx : sw[j]? = some sw[j] := List.getElem?_eq_getElem (by omega)
    refine Br.yes (by simp; omega) (sx W hn rfl hx (sx V hn rfl hx (Br.no (by simp) ?_)))
    rw [wrap_i64_id (by omega) (by omega)]
    exact ih (j + 1) (by omega)
theorem tells_loop {h : Heap} {p q : Option Addr} {NA NB : List NRow} {n a b : Nat} (lh : h0.le h) (X : Nets h p NA) (Y : Nets h q NB) (hA : NA.length = n) (hB : NB.length = n) (hn : n ≤ 1000) (eM : mxOf NB = mxOf NA) (hw : ∀ x ∈ NA, x.l.length ≤ 1000) :
    ∀ (m j : Nat), m + j = n → L_law14_InoutTells_0 p n a q n b (n : Int) (j : Int) h (GoodT h0) := by
  intro m
  induction m with
  | zero =>
    intro j hj
    refine L_law14_InoutTells_0r _ _ _ _ _ _ _ _ _ _ ?_
    unfold L_law14_InoutTells_0T
    exact Br.no (by simp; omega) (goodT lh)
  | succ m ih =>
    intro j hj
    refine L_law14_InoutTells_0r _ _ _ _ _ _ _ _ _ _ ?_
    unfold L_law14_InoutTells_0T
    have hx : NA[j]? = some NA[j] := List.getElem?_eq_getElem (by omega)
    have hy : NB[j]? = some NB[j] := List.getElem?_eq_getElem (by omega)
    have ex := mx_get hx
    have ey := mx_get hy
    rw [eM, ex] at ey
    have ey := Option.some.inj ey
    have hl := hw _ (List.getElem_mem (by omega : j < NA.length))
    refine Br.yes (by simp; omega) (nx X hA rfl hx (nx Y hB rfl hy (S_Same2 (X.2 _ (List.getElem_mem _)) (Y.2 _ (List.getElem_mem _)) rfl rfl (by omega) ⟨_, rfl, Br.no (by rw [ey]; simp) ?_⟩)))
    rw [wrap_i64_id (by omega) (by omega)]
    exact ih (j + 1) (by omega)
end
theorem law14_InoutTells_ok {h : Heap} {tp p : Option Addr} {tn tc n nc : Nat} (HT : curSh.Has h [.slice tp tn tc]) (HN : netSh.Has h [.slice p n nc]) {least : Int} (hl64 : I64 least) :
    CallA Try.prog fn_law14_InoutTells [slice tp tn tc, slice p n nc, .int .i64 least] h fun v h' => v = .bool true ∧ h.le h' := by
  obtain ⟨_, l, hl, T, _⟩ := curs_of HT
  obtain ⟨hmax, NL, hN, X, hI, _⟩ := nets_of HN
  refine F_law14_InoutTells _ _ _ _ _ _ _ _ _ ?_
  unfold F_law14_InoutTellsT
  refine S_law14_awake fun h1 l1 => ⟨_, rfl, Br.no rfl (S_large14 (X.le l1) hN hmax fun b hb => ⟨_, rfl, ?_⟩)⟩
  cases b with
  | true => exact Br.yes rfl (goodT l1)
  | false =>
    obtain ⟨hn40, ht20⟩ := hb rfl
    refine Br.no rfl (S_Propose (T.le l1) hl (X.le l1) hN (by omega) hI fun lp ln lc np nn nc2 e h2 l2 P => ⟨_, _, _, _, _, _, _, rfl, ?_⟩)
    have l12 := Heap.le_trans l1 l2
    refine S_RPropose (T.le l12) hl (X.le l12) hN (by omega) hI fun lp3 ln3 lc3 np3 nn3 nc3 e3 h3 l3 Q => ⟨_, _, _, _, _, _, _, rfl, ?_⟩
    have l13 := Heap.le_trans l12 l3
    have P := P.le l3
    obtain ⟨he, W, hln, NB, hNB, eB, Y⟩ := P
    obtain ⟨he3, W3, hln3, NC, hNC, eC, Z⟩ := Q
    rw [he, he3]
    have big : (propR l (mxOf NL) least).2.2.length ≤ 1000000 ∧ (∀ x ∈ NB, x.l.length ≤ 1000) ∧ NB.length ≤ 1000 := by
      by_cases hz : (propR l (mxOf NL) least).1 = 0
      · obtain ⟨g1, g2, g3, g4, g5⟩ := propR_ok hz
        have hM : (mxOf NL).length = n := by unfold mxOf; rw [List.length_map, hN]
        obtain ⟨t1, t8, _, _, _⟩ := tab_parts g1
        have ok := all_inb g1
        have sA := like_sh g3
        rw [hM] at sA g5
        obtain ⟨KA, ho, _⟩ := curL_keep (w := l.length) (fun c a ha _ => changeR_pos ok c a ha) g4 (l.length - 1) 1 _ _ (by omega) (by omega) sA (mx_I64 hI) (fun x hx => (by cases hx)) g5
        dsimp only at KA
        rw [← eB] at KA
        refine ⟨?_, fun x hx => ?_, ?_⟩
        · have : ∀ (m c : Nat) (S S' : Mx × List Swp), curL (fun c a => changeR l (c : Int) 0 a false) least n m c S = some S' → S'.2.length ≤ S.2.length + m * (n * n) := by
            intro m
            induction m with
            | zero => intro c S S' e; cases e; omega
            | succ m ih =>
              intro c S S' e
              rw [curL] at e
              split at e
              · cases e
              · rename_i T hT
                have h1 := toL_len n 0 _ _ hT
                have h2 := ih (c + 1) T S' e
                rw [Nat.succ_mul]; omega
          have h3 := this _ _ _ _ g5
          have h4 : n * n ≤ 40 * 40 := Nat.mul_le_mul hn40 hn40
          have h5 : (l.length - 1) * (n * n) ≤ 8 * (40 * 40) := Nat.mul_le_mul (by omega) h4
          simp only [List.length_nil] at h3
          omega
        · have : x.l ∈ mxOf NB := List.mem_map.2 ⟨x, hx, rfl⟩
          have := KA.sh.2 _ this
          omega
        · have := KA.sh.1
          unfold mxOf at this
          rw [List.length_map] at this
          omega
      · have e2 := propR_bad hz
        rw [e2] at eB ⊢
        have : NB = [] := by unfold mxOf at eB; exact List.map_eq_nil_iff.1 eB
        subst this
        exact ⟨by simp, fun x hx => (by cases hx), by simp⟩
    obtain ⟨big1, big2, big3⟩ := big
    have hnn : nn3 = nn := by
      have := congrArg List.length (eB.trans eC.symm)
      unfold mxOf at this
      rw [List.length_map, List.length_map] at this
      omega
    subst hnn
    have hll : ln3 = ln := by omega
    subst hll
    refine Br.no (by simp) (S_own W hln (by omega) fun p4 c4 h4 l4 W4 => ⟨_, _, _, rfl, ?_⟩)
    refine F_ref14_Same _ _ _ _ _ _ _ _ ?_
    unfold F_ref14_SameT
    refine Br.no (by simp) (same14_loop W4 (rdL_le l4 W3) hln (by omega) ⟨_, rfl, Br.no rfl (Br.no (by simp) ?_)⟩ ln3 0 (by omega))
    exact tells_loop (Heap.le_trans l13 l4) (Y.le l4) (Z.le l4) hNB hNC (by omega) (eC.trans eB.symm) big2 nn3 0 (by omega)
end Go.Proofs.Ytkcogdmddhkldaa
