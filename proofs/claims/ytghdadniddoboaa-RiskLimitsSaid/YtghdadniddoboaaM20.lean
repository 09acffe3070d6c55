import Derived.Test.YtghdadniddoboaaM19
import Derived.Test.YtghdadniddoboaaM06
/- The law RiskLimits. -/
namespace Go.Proofs.Ytghdadniddoboaa
open Go Go.Sy Go.Value
set_option linter.unusedVariables false
set_option linter.unusedSimpArgs false

theorem own_at {h0 h : Heap} {z : List Value} {b c : Nat} {vs : List Value} (x : OwnL h0 h z (some ⟨b, 0, none⟩) c vs) : h0 b = none ∧ ∃ xs, At h b xs := by
  rcases x with ⟨_, e, _⟩ | ⟨r, sp, e, z0, a, _⟩
  · cases e
  · cases e; exact ⟨z0, _, a⟩
/-- limits of one's own, that grow -/
structure WL (H hh : Heap) (a : Option Addr) (C : Nat) (ws : List LmV) : Prop where
  base : H.le hh
  own : OwnL H hh [.slice none 0 0, .int .i64 0] a C (ws.flatMap lmV)
  each : ∀ y ∈ ws, OwnL H hh [.int .i64 0] y.a y.c (intsV .i64 y.l.sh) ∧ (∀ b, y.a = some ⟨b, 0, none⟩ → a ≠ some ⟨b, 0, none⟩) ∧ (∀ z ∈ y.l.sh, I64 z) ∧ I64 y.l.all
section
variable {K : Value → Heap → Prop} {H : Heap} {tp : Option Addr} {tn tc : Nat} {lq : Option Addr} {ls : List LmV} {ln lc : Nat} {q : Option Addr} {n qc : Nat} {mem cur am : Int}
theorem limits_1 {H1 : Heap} {y : LmV} (Iy : LmI H1 y) (h20 : y.l.sh.length ≤ 20) {yb : Nat} {A t33 t34 : Int} {wa : Option Addr} {wn wC : Nat} (zy : H1 yb = none)
    (k : ∀ g p c, H1.le g → At g yb [.slice p y.l.sh.length c, .int .i64 A] → OwnL H1 g [.int .i64 0] p c (intsV .i64 (y.l.sh.map big)) → L_law10_RiskLimits_1 tp tn tc lq ln lc q n qc mem cur am wa wn wC yb lq ln lc t33 t34 y.a y.l.sh.length y.c (y.l.sh.length : Int) ((y.l.sh.length : Nat) : Int) g K) :
    ∀ (d j : Nat) (g : Heap) (p : Option Addr) (c : Nat), d + j = y.l.sh.length → H1.le g → At g yb [.slice p j c, .int .i64 A] → OwnL H1 g [.int .i64 0] p c (intsV .i64 ((y.l.sh.map big).take j)) → p ≠ some ⟨yb, 0, none⟩ → L_law10_RiskLimits_1 tp tn tc lq ln lc q n qc mem cur am wa wn wC yb lq ln lc t33 t34 y.a y.l.sh.length y.c (y.l.sh.length : Int) (j : Int) g K := by
  intro d
  induction d with
  | zero =>
    intro j g p c hj l Ay own np
    obtain rfl : j = y.l.sh.length := by omega
    rw [List.take_of_length_le (by rw [List.length_map]; omega)] at own
    exact k g p c l Ay own
  | succ d ih =>
    intro j g p c hj l Ay own np
    refine L_law10_RiskLimits_1r _ _ _ _ _ _ _ _ _ _ _ _ _ _ _ _ _ _ _ _ _ _ _ _ _ _ _ _ ?_
    unfold L_law10_RiskLimits_1T
    have hx : y.l.sh[j]? = some (y.l.sh.getD j 0) := by rw [List.getD_eq_getElem?_getD, List.getElem?_eq_getElem (by omega)]; rfl
    have htk : intsV .i64 ((y.l.sh.map big).take (j + 1)) = intsV .i64 ((y.l.sh.map big).take j) ++ [.int .i64 (big (y.l.sh.getD j 0))] := by
      rw [List.take_add_one, List.getElem?_map, hx, intsV_append]; rfl
    refine Br.yes (by simp; omega) (ix (Iy.X.le l) rfl rfl hx ⟨_, _, _, Ay.cell rfl, push1 (ws := [.int .i64 (big (y.l.sh.getD j 0))]) own (by decide) l (by omega) rfl rfl (by rw [intsV_length, List.length_take, List.length_map]; simp; omega) fun r h1 p' c' h2 hr l1 l2 own' keep how => ?_⟩)
    have Ay2 := keepAt keep (Ay.le l1) np
    have np' := push_ne how (Ay.le l1) np
    refine ⟨Ay2.canSt (by simp), ?_⟩
    rw [w1 (by omega)]
    refine ih (j + 1) _ p' c' (by omega) (le_setN l2 zy) (Ay2.set (o := 0) (ws := [.slice p' (j + 1) c'])) ?_ np'
    rw [htk]
    exact own'.set_ne np'
theorem limits_0 (XL : Arr lmV H lq ls) (hls : ls.length = ln) (hl20 : ln ≤ 20) (hLI : ∀ y ∈ ls, LmI H y) (h20 : ∀ y ∈ ls, y.l.sh.length ≤ 20)
    (k : ∀ hh wa wC ws, WL H hh wa wC ws → ws.map (·.l) = ls.map (fun y => wideL y.l) → L_law10_RiskLimits_0 tp tn tc lq ln lc q n qc mem cur am wa ln wC lq ln lc (ln : Int) ((ln : Nat) : Int) hh K) :
    ∀ (d j : Nat) (hh : Heap) (wa : Option Addr) (wC : Nat) (ws : List LmV), d + j = ln → WL H hh wa wC ws → ws.length = j → ws.map (·.l) = (ls.take j).map (fun y => wideL y.l) → L_law10_RiskLimits_0 tp tn tc lq ln lc q n qc mem cur am wa j wC lq ln lc (ln : Int) (j : Int) hh K := by
  intro d
  induction d with
  | zero =>
    intro j hh wa wC ws hj I hl e
    obtain rfl : j = ln := by omega
    rw [List.take_of_length_le (by omega)] at e
    exact k hh wa wC ws I e
  | succ d ih =>
    intro j hh wa wC ws hj I hl e
    refine L_law10_RiskLimits_0r _ _ _ _ _ _ _ _ _ _ _ _ _ _ _ _ _ _ _ _ _ _ ?_
    unfold L_law10_RiskLimits_0T
    have hx : ls[j]? = some ls[j] := List.getElem?_eq_getElem (by omega)
    have hm : ls[j] ∈ ls := List.getElem_mem _
    have htk : ls.take (j + 1) = ls.take j ++ [ls[j]] := by rw [List.take_add_one, hx]; rfl
    generalize ls[j] = y at *
    have Iy := hLI y hm
    have y20 := h20 y hm
    refine Br.yes (by simp; omega) (lx (XL.le I.base) hls rfl hx (newB_cp (vs := [.slice y.a y.l.sh.length y.c, .int .i64 y.l.all]) rfl fun r h1 zr l1 Ar cs => ⟨cs, _, Ar.cell rfl, ?_⟩))
    generalize h1.setN r 0 [.slice y.a y.l.sh.length y.c, .int .i64 y.l.all] = H1 at *
    refine newB_cp (vs := [.slice none 0 0, .int .i64 (big y.l.all)]) rfl fun yb h2 zy l2 Ay cs2 => ⟨cs2, _, _, _, (Ar.le l2).cell rfl, ?_⟩
    have lH1 := Heap.le_trans I.base l1
    refine limits_1 (H1 := H1) (Iy.le lH1) y20 zy (fun g p c lg Ag own => ?_) y.l.sh.length 0 _ none 0 rfl l2 Ay (OwnL.nil _ _ _) (fun e => by cases e)
    refine L_law10_RiskLimits_1r _ _ _ _ _ _ _ _ _ _ _ _ _ _ _ _ _ _ _ _ _ _ _ _ _ _ _ _ ?_
    unfold L_law10_RiskLimits_1T
    have Ig : WL H g wa wC ws := ⟨Heap.le_trans lH1 lg, I.own.le (Heap.le_trans l1 lg), fun z hz => ⟨(I.each z hz).1.le (Heap.le_trans l1 lg), (I.each z hz).2⟩⟩
    have hv : (ws.flatMap lmV).length = ws.length * [Value.slice none 0 0, .int .i64 0].length := arr_len lmV_len ws
    have eL : y.l.sh.length = (wideL y.l).sh.length := by unfold wideL; rw [List.length_map]
    refine Br.no (by simp) ⟨_, _, _, Ag.cell rfl, _, Ag.cell rfl, ?_⟩
    subst hl
    refine push1 (ws := [.slice p y.l.sh.length c, .int .i64 (big y.l.all)]) Ig.own (by decide) Ig.base (by omega) rfl rfl hv fun r2 h3 a' C' h4 zr2 l3 l4 own' keep how => ?_
    rw [w1 (by omega)]
    have waH : ∀ b, wa = some ⟨b, 0, none⟩ → ∃ xs, At H1 b xs := fun b e => by
      have o := I.own
      rw [e] at o
      obtain ⟨_, xs, a⟩ := own_at o
      exact ⟨xs, a.le l1⟩
    have pw : ∀ b, p = some ⟨b, 0, none⟩ → wa ≠ some ⟨b, 0, none⟩ := fun b e e2 => by
      rw [e] at own
      obtain ⟨xs, a⟩ := waH b e2
      exact a.ne (own_at own).1 rfl
    refine ih (ws.length + 1) h4 a' C' (ws ++ [⟨p, c, wideL y.l⟩]) (by omega) ⟨l4, ?_, fun z hz => ?_⟩ (by rw [List.length_append, List.length_singleton]) (by rw [List.map_append, e, htk, List.map_append]; rfl)
    · rw [List.flatMap_append]
      have e1 : [LmV.mk p c (wideL y.l)].flatMap lmV = [.slice p y.l.sh.length c, .int .i64 (big y.l.all)] := by
        rw [eL]; rfl
      rw [e1]
      exact own'
    · rcases List.mem_append.1 hz with hz | hz
      · obtain ⟨o1, o2, o3, o4⟩ := Ig.each z hz
        refine ⟨(o1.le l3).mv fun b xs e a => keepAt keep a (o2 b e), fun b e => ?_, o3, o4⟩
        rw [e] at o1
        obtain ⟨_, xs, a⟩ := own_at o1
        exact push_ne how (a.le l3) (o2 b e)
      · rw [List.mem_singleton] at hz
        subst hz
        have own2 : OwnL H g [.int .i64 0] p c (intsV .i64 (wideL y.l).sh) := own_back own lH1
        refine ⟨(own2.le l3).mv fun b xs e a => keepAt keep a (pw b e), fun b e => ?_, fun v hv => ?_, big_I Iy.all⟩
        · have e : p = some ⟨b, 0, none⟩ := e
          rw [e] at own
          obtain ⟨_, xs, a⟩ := own_at own
          exact push_ne how (a.le l3) (pw b e)
        · obtain ⟨v', hv', rfl⟩ := List.mem_map.1 (show v ∈ y.l.sh.map big from hv)
          exact big_I (Iy.i v' hv')
end
section
variable {mem cur am : Int} {q : Option Addr} {l : List OpR} {n qc : Nat}
theorem limits_2 {he : Heap} (hm : I64 mem) (hc : I64 cur) (ha : I64 am) (X : Ops he q l) (hn : l.length = n) (hs : n ≤ 1000) (hI : ∀ y ∈ l, OpI y) :
    ∀ (d j : Nat) (h0 h : Heap) (x : GuF) (u : Gu) (y : GuF) (v : Gu), d + j = n → he.le h0 → Two h0 h x u y v → Rel u v → L_law10_RiskLimits_2 mem cur am (some ⟨x.g, 0, none⟩) (some ⟨y.g, 0, none⟩) q n qc (n : Int) (j : Int) h (GoodR he) := by
  intro d
  induction d with
  | zero =>
    intro j h0 h x u y v hj l0 T R
    refine L_law10_RiskLimits_2r _ _ _ _ _ _ _ _ _ _ _ _ ?_
    unfold L_law10_RiskLimits_2T
    have pI : ∀ y ∈ [(⟨mem, cur, -1000⟩ : Pst)], I64 y.a := fun y hy => by
      rw [List.mem_singleton] at hy; subst hy
      show I64 (-1000)
      exact ⟨by decide, by decide⟩
    refine Br.no (by simp; omega) (newB_at fun s1 h1 z1 l1 A1 => S_gFails (b := [⟨mem, cur, -1000⟩]) (T.gx.le l1) (at_rd0 A1) rfl (by decide) pI fun h2 l2 => ⟨_, rfl, newB_at fun s2 h3 z3 l3 A3 => ?_⟩)
    have l13 := Heap.le_trans l1 (Heap.le_trans l2 l3)
    refine S_gFails (b := [⟨mem, cur, -1000⟩]) (T.gy.le l13) (at_rd0 A3) rfl (by decide) pI fun h4 l4 => ⟨_, rfl, ?_⟩
    have T4 := T.le (Heap.le_trans l13 l4)
    have e1 := sub_and (fails_sub R T.gx.ok.tab mem [⟨mem, cur, -1000⟩])
    refine Br.no (by show (andI _ _ != 0) = false; rw [e1]; rfl) (S_gFails (b := []) T4.gx (.inl rfl) rfl (by decide) (fun y hy => by cases hy) fun h5 l5 => ⟨_, rfl, S_gIn (T4.gx.le l5) ha fun h6 x6 G6 e6 p6 => ⟨_, rfl, ?_⟩⟩)
    by_cases e2 : (rIn u mem cur am).1 ≠ 0
    · exact Br.yes (by simpa using e2) (goodR (Heap.le_trans l0 G6.b))
    have e2 : (rIn u mem cur am).1 = 0 := Classical.byContradiction e2
    rw [← e6]
    refine Br.no (by rw [e2]; rfl) (S_gFails (b := []) G6 (.inl rfl) rfl (by decide) (fun y hy => by cases hy) fun h7 l7 => ⟨_, rfl, ?_⟩)
    have e3 := sub_and (pay_sub T.gx.ok e2)
    show Ret h7 (GoodR he) (.bool (andI _ _ == 0))
    rw [e3]
    exact goodR (Heap.le_trans l0 (G6.le l7).b)
  | succ d ih =>
    intro j h0 h x u y v hj l0 T R
    refine L_law10_RiskLimits_2r _ _ _ _ _ _ _ _ _ _ _ _ ?_
    unfold L_law10_RiskLimits_2T
    have hx : l[j]? = some l[j] := List.getElem?_eq_getElem (by omega)
    have hmem : l[j] ∈ l := List.getElem_mem _
    generalize l[j] = o at *
    refine Br.yes (by simp; omega) (ox (X.le (Heap.le_trans l0 T.gx.b)) hn rfl hx (newB_cp (vs := opV1 o) rfl fun r h1 hr l1 A cs => ⟨cs, ?_⟩))
    show ∃ n_7, (h1.setN r 0 (opV1 o)).cell r 0 = some (.int .i64 n_7) ∧ Br (n_7 == 0) _ (L_law10_RiskLimits_2 mem cur am (some ⟨x.g, 0, none⟩) (some ⟨y.g, 0, none⟩) q n qc (n : Int) (IntKind.wrap .i64 ((j : Int) + 1)) (h1.setN r 0 (opV1 o)) (GoodR he))
    generalize hh : h1.setN r 0 (opV1 o) = H at *
    have hh2 : h1.setN r 0 [.int .i64 o.d, .int .i64 o.m, .int .i64 o.c, .int .i64 o.g, .int .i64 o.a, .int .i64 o.gv, .slice o.p o.b.length o.cp] = H := hh
    rw [hh2]
    have T1 := T.le l1
    have rE := T.gx.outE hr
    refine ⟨_, A.cell rfl, Br.intro (fun d0 => ?_) fun _ => ?_⟩
    · refine ⟨_, A.cell rfl, _, A.cell rfl, _, A.cell rfl, _, A.cell rfl, _, A.cell rfl, _, A.cell rfl, S_two T1 (hI o hmem).a fun h2 x2 y2 T2 e2 f2 keep => ⟨_, rfl, .inr fun b hb z hz => ?_, ?_⟩⟩
      · have hb : b = r := by simpa using hb
        subst hb
        exact keep b z hz rE
      · rw [← f2]
        refine S_two T2.symm (hI o hmem).a fun h3 y3 x3 T3 e3 f3 _ => ⟨_, rfl, ?_⟩
        obtain ⟨r1, r2⟩ := rIn_rel R o.m o.c o.a
        rw [r1]
        refine Br.no (by simp) ?_
        rw [← e2, ← f3, ← e3, w1 (by omega)]
        exact ih (j + 1) h0 h3 x3 _ y3 _ (by omega) l0 T3.symm r2
    · rw [w1 (by omega)]
      exact ih (j + 1) h0 H x u y v (by omega) l0 T1 R
end
theorem law10_RiskLimits_ok {h : Heap} {tp : Option Addr} {tn tc : Nat} (HT : curSh.Has h [.slice tp tn tc]) {lq : Option Addr} {ln lc : Nat} (HL : (Sh.sl lmSt).Has h [.slice lq ln lc]) {q : Option Addr} {n qc : Nat} (HO : opsSh.Has h [.slice q n qc]) {mem cur am : Int} (hm : I64 mem) (hc : I64 cur) (ha : I64 am) :
    CallA Try.prog fn_law10_RiskLimits [slice tp tn tc, slice lq ln lc, slice q n qc, .int .i64 mem, .int .i64 cur, .int .i64 am] h fun v h' => v = .bool true ∧ h.le h' := by
  obtain ⟨tmax, T, hT, CT, _⟩ := curs_of HT
  obtain ⟨lmax, ls, hls, XL, hLI⟩ := lm_of HL
  obtain ⟨omax, l, hl, X, hI, _⟩ := ops_of HO
  refine F_law10_RiskLimits _ _ _ _ _ _ _ _ _ _ _ _ _ _ ?_
  unfold F_law10_RiskLimitsT
  refine S_law10_awake fun h1 l1 => ⟨_, rfl, Br.no rfl (S_large10 (XL.le l1) hls lmax (X.le l1) hl omax fun b hb => ⟨_, rfl, ?_⟩)⟩
  cases b with
  | true => exact Br.yes rfl (goodR l1)
  | false =>
    obtain ⟨h30, t20, l20, hb20, hs20⟩ := hb rfl
    refine Br.no rfl (limits_0 (H := h1) (XL.le l1) hls l20 (fun y hy => (hLI y hy).le l1) hs20 (fun hh wa wC ws I em => ?_) ln 0 h1 none 0 [] rfl ⟨h1.le_refl, OwnL.nil _ _ _, fun y hy => (by cases hy)⟩ rfl rfl)
    refine L_law10_RiskLimits_0r _ _ _ _ _ _ _ _ _ _ _ _ _ _ _ _ _ _ _ _ _ _ ?_
    unfold L_law10_RiskLimits_0T
    have lh := Heap.le_trans l1 I.base
    have ew : ws.length = ln := by
      have := congrArg List.length em
      rw [List.length_map, List.length_map] at this
      omega
    have wI : ∀ y ∈ ws, LmI hh y := fun y hy => ⟨(I.each y hy).1.rd, (I.each y hy).2.2.1, (I.each y hy).2.2.2⟩
    have w20 : ∀ y ∈ ws, y.l.sh.length ≤ 1000000 := fun y hy => by
      have : y.l ∈ ls.map fun y => wideL y.l := by rw [← em]; exact List.mem_map_of_mem hy
      obtain ⟨z, hz, e⟩ := List.mem_map.1 this
      have := hs20 z hz
      rw [← e]
      unfold wideL
      rw [List.length_map]; omega
    have second : ∀ (g2 : Heap) (P : Value → Heap → Prop), hh.le g2 → (¬ (1 ≤ ln ∧ ln ≤ 16 ∧ newE T (newG ln tn) ws = 0) → ∀ h', g2.le h' → P (pointer none) h') → (∀ h' x, GD g2 h' x (newU T (newG ln tn) ws) → 1 ≤ ln → ln ≤ 16 → newE T (newG ln tn) ws = 0 → (∀ b, x.cB b → g2 b = none) → P (pointer (some ⟨x.g, 0, none⟩)) h') → CallA Try.prog fn_law10_made [slice tp tn tc, slice wa ln wC] g2 P := fun g2 P lg k0 k1 =>
      S_made10X (h0 := hh) lg (CT.le lh) hT (by omega) I.own.rd ew (by omega) wI w20 k0 k1
    refine Br.no (by simp) (S_made10X (h0 := h1) I.base (CT.le l1) hT (by omega) (XL.le l1) hls (by omega) (fun y hy => (hLI y hy).le l1) (fun y hy => by have := hs20 y hy; omega) (fun _ h2 l2 => ⟨_, rfl, second h2 _ l2 (fun _ h3 l3 => ⟨_, rfl, Br.yes rfl (goodR (Heap.le_trans lh (Heap.le_trans l2 l3)))⟩) fun h3 x G _ _ _ _ => ⟨_, rfl, Br.yes rfl (goodR (Heap.le_trans lh (Heap.le_trans l2 G.b)))⟩⟩) fun h2 x G n1 n16 ne fx => ⟨_, rfl, ?_⟩)
    refine second h2 _ G.b (fun nb h3 l3 => (nb ⟨n1, n16, new_wide em ne⟩).elim) fun h3 y Gy _ _ _ fy => ⟨_, rfl, Br.no rfl (Br.no rfl ?_)⟩
    have yz : ∀ b, y.E (newU T (newG ln tn) ws).S.M.length b = true → h2 b = none := fun b hb => none_of_le Gy.base (Gy.noneE hb)
    have TW : Two hh h3 x (newU T (newG ln tn) ls) { y with c := y.c.wo (x.E (newU T (newG ln tn) ls).S.M.length), k := y.k.wo (x.E (newU T (newG ln tn) ls).S.M.length) } (newU T (newG ln tn) ws) := by
      refine { gx := G.le Gy.b, gy := (Gy.back G.b).less _ (fun b hb => none_of_le G.base (G.noneE hb)) (fun b hb => G.outE (yz b hb)) (fun b hb => G.outE (fy b hb)), xy := fun b hb => ⟨wo_none hb, noD fun hd => ?_⟩, yx := fun b hb => ?_ }
      · have := G.outE (yz b hd)
        rw [hb] at this
        cases this
      · have hz := yz b hb
        exact ⟨none_of_le G.ch hz, G.outE hz⟩
    exact limits_2 hm hc ha X hl (by omega) hI n 0 hh h3 x (newU T (newG ln tn) ls) { y with c := y.c.wo (x.E (newU T (newG ln tn) ls).S.M.length), k := y.k.wo (x.E (newU T (newG ln tn) ls).S.M.length) } (newU T (newG ln tn) ws) rfl lh TW (new_rel T _ em)
end Go.Proofs.Ytghdadniddoboaa
