/- The reference's quotient and parted product. -/
import Derived.Test.YtkcogdmddhkldaaBigDiv
namespace Go.Proofs.Ytkcogdmddhkldaa
open Go Go.Sy Go.Value
set_option linter.unusedVariables false
set_option linter.unusedSimpArgs false

theorem S_Div_Big {va vb : Value} {x y : Int} {na nb : Nat} {h : Heap} (ha : BigR h va x na) (hb : BigR h vb y nb) (la : na ≤ 1000) (lb : nb ≤ 100) (hy : 0 < y) {up : Bool} {K : Value → Heap → Prop}
    (k : ∀ v h', h.le h' → BigN h' v (dv x y up) 1001 → K v h') : CallA Try.prog fn_ref01_Div [va, vb, .bool up] h K := by
  obtain ⟨n1, p1, c1, d1, rfl, r1, o1, hx, lc1, lb1⟩ := ha
  obtain ⟨n2, p2, c2, d2, rfl, r2, o2, hy2, lc2, lb2⟩ := hb
  have dn := dig_nonneg o2
  have e2 : n2 = false := by
    cases n2 with
    | false => rfl
    | true =>
      have : sg true d2 = -dig d2 := rfl
      omega
  subst e2
  have hy3 : y = dig d2 := hy2
  refine F_ref01_Div _ _ _ _ _ _ _ _ _ _ _ ?_
  unfold F_ref01_DivT
  intro r hr s hs t ht u hu
  have aa := (((At.new h r [.bool n1, slice p1 d1.length c1] 118).ins (x := .cells [.bool false, slice p2 d2.length c2].toArray 118 (0, 0)) hs).ins (x := .cells [.bool false, slice none 0 0].toArray 118 (0, 0)) ht)
  have ab := (At.new (h.ins r (.cells [.bool n1, slice p1 d1.length c1].toArray 118 (0, 0))) s [.bool false, slice p2 d2.length c2] 118).ins (x := .cells [.bool false, slice none 0 0].toArray 118 (0, 0)) ht
  have tt := At.new ((h.ins r (.cells [.bool n1, slice p1 d1.length c1].toArray 118 (0, 0))).ins s (.cells [.bool false, slice p2 d2.length c2].toArray 118 (0, 0))) t [.bool false, slice none 0 0] 118
  have l1 := le_ins2 (x := .cells [.bool false, slice p2 d2.length c2].toArray 118 (0, 0)) (le_ins hr (o := .cells [.bool n1, slice p1 d1.length c1].toArray 118 (0, 0))) hs
  have l2 := le_ins2 (x := .cells [.bool false, slice none 0 0].toArray 118 (0, 0)) l1 ht
  have et := none_of_le l1 ht
  generalize ((h.ins r (.cells [.bool n1, slice p1 d1.length c1].toArray 118 (0, 0))).ins s (.cells [.bool false, slice p2 d2.length c2].toArray 118 (0, 0))).ins t (.cells [.bool false, slice none 0 0].toArray 118 (0, 0)) = g2 at *
  have rr := At.new g2 u [.bool false, slice none 0 0] 118
  have m1 := aa.ne hu
  have m2 := ab.ne hu
  have m3 := tt.ne hu
  have aa := (aa.ins (x := .cells [.bool false, slice none 0 0].toArray 118 (0, 0)) hu).set_ne (o := 0) (ws := [.bool false, slice none 0 0]) m1
  have ab := (ab.ins (x := .cells [.bool false, slice none 0 0].toArray 118 (0, 0)) hu).set_ne (o := 0) (ws := [.bool false, slice none 0 0]) m2
  have tt := (tt.ins (x := .cells [.bool false, slice none 0 0].toArray 118 (0, 0)) hu).set_ne (o := 0) (ws := [.bool false, slice none 0 0]) m3
  have eu := none_of_le l2 hu
  have l3 := le_setN (o := 0) (ws := [.bool false, slice none 0 0]) (le_ins2 (x := .cells [.bool false, slice none 0 0].toArray 118 (0, 0)) l2 hu) eu
  refine ⟨rr.canSt (by simp), ?_⟩
  have rr : At ((g2.ins u (.cells [.bool false, slice none 0 0].toArray 118 (0, 0))).setN u 0 [.bool false, slice none 0 0]) u [.bool false, slice none 0 0] := rr.set
  generalize (g2.ins u (.cells [.bool false, slice none 0 0].toArray 118 (0, 0))).setN u 0 [.bool false, slice none 0 0] = g3 at *
  refine ⟨_, aa.cell rfl, _, _, _, aa.cell rfl, by omega, Int.le_refl _, by omega, by omega, ?_⟩
  rw [Int.toNat_natCast, repL_zeros]
  intro m hm o ho
  have am := (At.new g3 m (intsV .i64 (List.replicate d1.length 0)) 3).ins (x := .cells [.bool false, slice none 0 0].toArray 118 (0, 0)) ho
  have q0 : m ≠ o := (At.new _ _ _ _).ne ho
  have k1 := aa.ne hm
  have k2 := ab.ne hm
  have k3 := tt.ne hm
  have k4 := rr.ne hm
  have aa := aa.ins (x := .cells (intsV .i64 (List.replicate d1.length 0)).toArray 3 (0, 0)) hm
  have ab := ab.ins (x := .cells (intsV .i64 (List.replicate d1.length 0)).toArray 3 (0, 0)) hm
  have tt := tt.ins (x := .cells (intsV .i64 (List.replicate d1.length 0)).toArray 3 (0, 0)) hm
  have rr := rr.ins (x := .cells (intsV .i64 (List.replicate d1.length 0)).toArray 3 (0, 0)) hm
  have q1 := aa.ne ho
  have q2 := ab.ne ho
  have q3 := tt.ne ho
  have q4 := rr.ne ho
  have em := none_of_le l3 hm
  have l4 := le_ins2 (x := .cells (intsV .i64 (List.replicate d1.length 0)).toArray 3 (0, 0)) l3 hm
  have eo := none_of_le l4 ho
  have l5 := le_setN (o := 0) (ws := [.bool n1, slice (some ⟨m, 0, none⟩) d1.length d1.length]) (le_ins2 (x := .cells [.bool false, slice none 0 0].toArray 118 (0, 0)) l4 ho) eo
  have oo := At.new (g3.ins m (.cells (intsV .i64 (List.replicate d1.length 0)).toArray 3 (0, 0))) o [.bool false, slice none 0 0] 118
  have aa := (aa.ins (x := .cells [.bool false, slice none 0 0].toArray 118 (0, 0)) ho).set_ne (o := 0) (ws := [.bool n1, slice (some ⟨m, 0, none⟩) d1.length d1.length]) q1
  have ab := (ab.ins (x := .cells [.bool false, slice none 0 0].toArray 118 (0, 0)) ho).set_ne (o := 0) (ws := [.bool n1, slice (some ⟨m, 0, none⟩) d1.length d1.length]) q2
  have tt := (tt.ins (x := .cells [.bool false, slice none 0 0].toArray 118 (0, 0)) ho).set_ne (o := 0) (ws := [.bool n1, slice (some ⟨m, 0, none⟩) d1.length d1.length]) q3
  have rr := (rr.ins (x := .cells [.bool false, slice none 0 0].toArray 118 (0, 0)) ho).set_ne (o := 0) (ws := [.bool n1, slice (some ⟨m, 0, none⟩) d1.length d1.length]) q4
  have am := am.set_ne (o := 0) (ws := [.bool n1, slice (some ⟨m, 0, none⟩) d1.length d1.length]) q0
  refine ⟨oo.canSt (by simp), _, _, _, aa.cell rfl, ?_⟩
  rw [wrap_i64_id (by omega) (by omega)]
  have st : DivSt h r s t u o m n1 false p1 p2 c1 c2 d1 d2 (200 + 2 * (d1.length - d1.length)) (List.replicate d1.length 0) 0 ((Heap.ins (g3.ins m (.cells (intsV .i64 (List.replicate d1.length 0)).toArray 3 (0, 0))) o (.cells [.bool false, slice none 0 0].toArray 118 (0, 0))).setN o 0 [.bool n1, slice (some ⟨m, 0, none⟩) d1.length d1.length]) :=
    ⟨l5, aa, ab, tt, oo.set, am, by simp, okD_zeros _, none, 0, [], rr, .inl rfl, fun d hd => (by cases hd), rfl, by simp, by simp, fun _ => rfl⟩
  have hB : 0 < dig d2 := by omega
  refine div_rows (up := up) r1 o1 r2 o2 (by omega) lc2 em eu k1 k2 k3 (fun e => q0 e.symm) k4 m1 m2 m3 (fun e => q4 e.symm) (by omega) hB (fun qs R g sg2 r0 rlt e => ?_) d1.length _ 0 _ (Nat.le_refl _) st (Int.le_refl _) hB (fun j hj => ?_) ?_
  · refine div_end (up := up) et eo (fun e => q0 e.symm) q1 q4 q3 (by omega) hB (fun v h' l bn => k v h' l ?_) sg2 r0 rlt e
    rw [hx, hy3]; exact bn
  · rw [List.getD_eq_getElem?_getD, List.getElem?_replicate, if_pos hj]; rfl
  · rw [List.drop_of_length_le (by simp), List.drop_of_length_le (Nat.le_refl _)]; simp [dig]
theorem S_RMulDiv {a b c : Int} (ha : I64 a) (hb : I64 b) (hc : I64 c) {up : Bool} {h : Heap} {K : Value → Heap → Prop} (k : ∀ h', h.le h' → K (tuple #[int .i64 (md a b c up).1, int .i64 (md a b c up).2]) h') :
    CallA Try.prog fn_ref01_MulDiv [int .i64 a, int .i64 b, int .i64 c, .bool up] h K := by
  refine F_ref01_MulDiv _ _ _ _ _ _ ?_
  unfold F_ref01_MulDivT
  refine Br.dec (fun lt => Ret.mk ?_) (fun nlt => ?_)
  · have := k h h.le_refl
    unfold md at this
    rw [if_pos lt] at this
    exact this
  refine S_Of ha fun v1 h1 l1 bn1 => ?_
  have br1 := bn1.raw
  obtain ⟨n1, p1, c1, d1, rfl, _⟩ := bn1
  refine ⟨_, _, _, _, rfl, ?_⟩
  refine S_Of hb fun v2 h2 l2 bn2 => ?_
  have br2 := bn2.raw
  obtain ⟨n2, p2, c2, d2, rfl, _⟩ := bn2
  refine ⟨_, _, _, _, rfl, ?_⟩
  refine S_Mul_Big (br1.le l2) br2 (by omega) fun v3 h3 l3 bn3 => ?_
  have br3 := bn3.raw
  obtain ⟨n3, p3, c3, d3, rfl, _⟩ := bn3
  refine ⟨_, _, _, _, rfl, ?_⟩
  refine S_Of hc fun v4 h4 l4 bn4 => ?_
  have br4 := bn4.raw
  obtain ⟨n4, p4, c4, d4, rfl, _⟩ := bn4
  refine ⟨_, _, _, _, rfl, ?_⟩
  refine S_Div_Big (br3.le l4) br4 (by omega) (by omega) (by omega) fun v5 h5 l5 bn5 => ?_
  have br5 := bn5.raw
  obtain ⟨n5, p5, c5, d5, rfl, _⟩ := bn5
  refine ⟨_, _, _, _, rfl, ?_⟩
  refine S_Fit br5 (by omega) fun h6 l6 => ⟨_, _, rfl, Ret.mk ?_⟩
  have := k h6 (Heap.le_trans l1 (Heap.le_trans l2 (Heap.le_trans l3 (Heap.le_trans l4 (Heap.le_trans l5 l6)))))
  unfold md at this
  rw [if_neg nlt] at this
  exact this
end Go.Proofs.Ytkcogdmddhkldaa
