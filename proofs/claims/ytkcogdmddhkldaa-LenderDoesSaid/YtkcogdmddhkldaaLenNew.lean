/- Providers are made of lines. -/
import Derived.Test.YtkcogdmddhkldaaLenSpec
namespace Go.Proofs.Ytkcogdmddhkldaa
open Go Go.Sy Go.Value
set_option linter.unusedVariables false
set_option linter.unusedSimpArgs false

theorem S_CloneL {K : Value → Heap → Prop} {h : Heap} {p : Option Addr} {l : List Int} {n c : Nat} (I : Ints .i64 h p l) (hn : l.length = n) (hs : n ≤ 1000000) (h1 : 1 ≤ n) (k : ∀ r sp c' h', h.le h' → h r = none → At h' r (intsV .i64 l ++ sp) → K (slice (some ⟨r, 0, none⟩) n c') h') :
    CallA Try.prog fn_slices_Clone_int64_int64 [slice p n c] h K := by
  refine F_slices_Clone_int64_int64 _ _ _ _ _ ?_
  unfold F_slices_Clone_int64_int64T
  cases p with
  | none =>
    have : l = [] := by
      rcases I with e | ⟨b, o, e, _⟩
      · exact List.length_eq_zero_iff.1 (by rw [← intsV_length .i64, e]; rfl)
      · cases e
    subst this
    subst hn
    simp at h1
  | some a =>
    refine Br.no rfl ?_
    intro r hr
    refine (own_new (T := 2) (z := [int .i64 0]) hr).push (by decide) (le_ins hr) (by omega) (by rw [intsV_length, hn]; simp) (I.le (le_ins hr)) (allCells_ints _ _) (by simp) ?_
    intro p' c' h' l' w' _ _
    rw [Nat.zero_add]
    rw [List.nil_append] at w'
    rcases w' with ⟨e, _, _⟩ | ⟨s, sp, rfl, hs0, A, _⟩
    · have := congrArg List.length e
      rw [intsV_length, List.length_nil] at this
      omega
    · exact Ret.mk (k s sp c' h' l' hs0 A)
def newE (L : Mx) (w : Int) : Int := if 8 < L.length then 4 else if w < 1 then 1 else if 8 < w then 1 else if L.any (badRow w) = true then 1 else 0
structure NewI (h0 h : Heap) (x : Nat) (a : Option Addr) (C j : Nat) (R CC : Nat → Nat) (SP : Nat → List Value) (L : Mx) (w : Nat) : Prop where
  base : h0.le h
  ax : At h x [.slice a j C, .int .i64 (w : Int)]
  own : OwnL h0 h zPr a C (prV R CC w 0 (List.replicate j false))
  row : ∀ i, i < j → At h (R i) (intsV .i64 (L.getD i []) ++ SP i)
  nr : ∀ i, i < j → h0 (R i) = none
  nx : h0 x = none
  inj : ∀ i k, i < j → k < j → R i = R k → i = k
  nep : ∀ i, i < j → R i ≠ x
  na : ∀ i, i < j → a ≠ some ⟨R i, 0, none⟩
  nax : a ≠ some ⟨x, 0, none⟩
theorem allCells_prv {a : Addr} {n c : Nat} {b : Bool} : allCells [Value.slice (some a) n c, .bool b] = true := rfl
section
variable {h0 : Heap} {K : Value → Heap → Prop} {p : Option Addr} {NL : List NRow} {n c w : Nat}
theorem new_loop (X : Nets h0 p NL) (hn : NL.length = n) (hs : n ≤ 8) (w1 : 1 ≤ w) (w8 : w ≤ 8) (hI : ∀ x ∈ NL, ∀ v ∈ x.l, I64 v) (good : ∀ r ∈ mxOf NL, badRow (w : Int) r = false) {x : Nat}
    (k : ∀ h' f, h0.le h' → LenAt h' f ⟨mxOf NL, List.replicate n false, w⟩ → Fresh h0 f n → f.p = x → K (tuple #[.pointer (some ⟨x, 0, none⟩), .int .i64 0]) h') :
    ∀ (m j : Nat) (h : Heap) (a : Option Addr) (C : Nat) (R CC : Nat → Nat) (SP : Nat → List Value), m + j = n → NewI h0 h x a C j R CC SP (mxOf NL) w → L_lender_New_0 x p n c (n : Int) (j : Int) h K := by
  have hM : (mxOf NL).length = n := by unfold mxOf; rw [List.length_map, hn]
  have rowl : ∀ r ∈ mxOf NL, r.length = w ∧ ∀ v ∈ r, 0 ≤ v := fun r hr => by
    have := good r hr
    unfold badRow at this
    rw [Bool.or_eq_false_iff] at this
    refine ⟨by have := this.1; simp at this; omega, fun v hv => ?_⟩
    have := this.2
    rw [List.any_eq_false] at this
    have := this v hv
    simp at this; omega
  intro m
  induction m with
  | zero =>
    intro j h a C R CC SP hj I
    refine L_lender_New_0r _ _ _ _ _ _ _ _ ?_
    unfold L_lender_New_0T
    have hjn : j = n := by omega
    subst hjn
    have ok : (⟨mxOf NL, List.replicate j false, w⟩ : Ln).Ok := by
      have i64 : ∀ i d, I64 (rdM (mxOf NL) i d) ∧ 0 ≤ rdM (mxOf NL) i d := fun i d => by
        unfold rdM
        cases hx : (mxOf NL)[i]? with
        | none => rw [List.getD_eq_getElem?_getD (l := mxOf NL), hx]; exact ⟨I64_0, Int.le_refl 0⟩
        | some row =>
          rw [List.getD_eq_getElem?_getD (l := mxOf NL), hx]
          dsimp only [Option.getD_some]
          cases hv : row[d]? with
          | none => rw [List.getD_eq_getElem?_getD, hv]; exact ⟨I64_0, Int.le_refl 0⟩
          | some v =>
            rw [List.getD_eq_getElem?_getD, hv]
            have hr := List.mem_of_getElem? hx
            have h2 := (rowl row hr).2 v (List.mem_of_getElem? hv)
            unfold mxOf at hr
            obtain ⟨y, hy, rfl⟩ := List.mem_map.1 hr
            exact ⟨hI y hy v (List.mem_of_getElem? hv), h2⟩
      exact { n8 := by show (mxOf NL).length ≤ 8; omega, c1 := w1, c8 := w8, sh := ⟨rfl, fun r hr => (rowl r hr).1⟩, fl := by show (List.replicate j false).length = (mxOf NL).length; rw [List.length_replicate, hM], i64 := fun i d => (i64 i d).1, pos := fun i d => (i64 i d).2 }
    refine Br.no (by simp) (Ret.mk ?_)
    rcases I.own with ⟨e1, e2, e3⟩ | ⟨B, sp, e1, e2, AB, _⟩
    · have hj0 : j = 0 := by
        have := congrArg List.length e1
        rw [prV_length, List.length_replicate, List.length_nil] at this
        omega
      refine k h ⟨x, a, C, [], R, CC, SP⟩ I.base ⟨?_, .inl (by show (mxOf NL).length = 0; omega), ?_, ?_, ?_, ?_, ok⟩ ⟨I.nx, ?_, I.nr⟩ rfl
      · show At h x [.slice a (mxOf NL).length C, .int .i64 (w : Int)]
        rw [hM]; exact I.ax
      · intro B e; rw [e2] at e; cases e
      · show ∀ i, i < (mxOf NL).length → _
        rw [hM]; exact I.row
      · show ∀ i k, i < (mxOf NL).length → k < (mxOf NL).length → _
        rw [hM]; exact I.inj
      · show ∀ i, i < (mxOf NL).length → _
        rw [hM]; exact I.nep
      · intro B e _; rw [e2] at e; cases e
    · refine k h ⟨x, a, C, sp, R, CC, SP⟩ I.base ⟨?_, .inr ⟨B, e1, AB⟩, ?_, ?_, ?_, ?_, ok⟩ ⟨I.nx, ?_, I.nr⟩ rfl
      · show At h x [.slice a (mxOf NL).length C, .int .i64 (w : Int)]
        rw [hM]; exact I.ax
      · intro B' e
        rw [e1] at e; cases e
        refine ⟨fun e => I.nax (by dsimp only at e; rw [e1, e]), ?_⟩
        show ∀ i, i < (mxOf NL).length → _
        rw [hM]
        exact fun i hi e => I.na i hi (by dsimp only at e; rw [e1, e])
      · show ∀ i, i < (mxOf NL).length → _
        rw [hM]; exact I.row
      · show ∀ i k, i < (mxOf NL).length → k < (mxOf NL).length → _
        rw [hM]; exact I.inj
      · show ∀ i, i < (mxOf NL).length → _
        rw [hM]; exact I.nep
      · intro B' e _; rw [e1] at e; cases e; exact e2
  | succ m ih =>
    intro j h a C R CC SP hj I
    refine L_lender_New_0r _ _ _ _ _ _ _ _ ?_
    unfold L_lender_New_0T
    have hx : NL[j]? = some NL[j] := List.getElem?_eq_getElem (by omega)
    have hmem : NL[j] ∈ NL := List.getElem_mem _
    have hlM : j < (mxOf NL).length := by omega
    have hMx : (mxOf NL)[j] = NL[j].l := by simp [mxOf]
    have hMg : (mxOf NL).getD j [] = NL[j].l := by rw [List.getD_eq_getElem?_getD, List.getElem?_eq_getElem hlM, Option.getD_some, hMx]
    have hrl := (rowl (mxOf NL)[j] (List.getElem_mem _)).1
    rw [hMx] at hrl
    generalize NL[j] = y at *
    refine Br.yes (by simp; omega) (nx (X.le I.base) hn rfl hx ⟨_, _, _, I.ax.cell rfl, S_CloneL ((X.le I.base).2 y hmem) rfl (by omega) (by omega) fun r sp c' h1 l1 hr A1 => ⟨_, _, _, rfl, .inl l1, fun r2 hr2 => ?_⟩⟩)
    have l2 : h1.le (h1.ins r2 (.cells [Value.slice (some ⟨r, 0, none⟩) y.l.length c', .bool false].toArray 135 (0, 0))) := le_ins hr2
    have rd2 : rdL (h1.ins r2 (.cells [Value.slice (some ⟨r, 0, none⟩) y.l.length c', .bool false].toArray 135 (0, 0))) (some ⟨r2, 0, none⟩) [Value.slice (some ⟨r, 0, none⟩) y.l.length c', .bool false] := rdL_new _ _ _ _ _
    generalize h1.ins r2 (.cells [Value.slice (some ⟨r, 0, none⟩) y.l.length c', .bool false].toArray 135 (0, 0)) = h2 at *
    have l12 := Heap.le_trans l1 l2
    have l02 := Heap.le_trans I.base l12
    refine (I.own.le l12).push (by decide) l02 (by omega) (n := 1) (ws := [Value.slice (some ⟨r, 0, none⟩) y.l.length c', .bool false]) rfl rd2 rfl (by rw [prV_length, List.length_replicate]; rfl) ?_
    intro p' C' h3 l3 own keep how
    have Ax2 := I.ax.le l12
    have Ar2 := A1.le l2
    have hrx : r ≠ x := fun e => I.ax.ne hr e.symm
    have har : a ≠ some ⟨r, 0, none⟩ := fun e => by
      rcases I.own with ⟨_, q, _⟩ | ⟨B, sp', q, _, AB, _⟩
      · rw [q] at e; cases e
      · rw [q] at e; cases e; exact AB.ne hr rfl
    have hRr : ∀ i, i < j → R i ≠ r := fun i hi => (I.row i hi).ne hr
    have new_ne : ∀ b xs, At h2 b xs → a ≠ some ⟨b, 0, none⟩ → p' ≠ some ⟨b, 0, none⟩ := fun b xs ab ne e => by
      rcases how with e2 | ⟨s, e2, hs⟩
      · exact ne (by rw [← e2]; exact e)
      · rw [e2] at e; cases e; exact ab.ne hs rfl
    have Ax3 := keep x _ Ax2 I.nax
    have px := new_ne x _ Ax2 I.nax
    have w1' : IntKind.wrap .i64 ((j : Int) + 1) = ((j + 1 : Nat) : Int) := by rw [wrap_i64_id (by omega) (by omega)]; omega
    refine ⟨Ax3.canSt (by simp), ?_⟩
    rw [w1']
    have eP : prV (fun i => if i = j then r else R i) (fun i => if i = j then c' else CC i) w 0 (List.replicate (j + 1) false) = prV R CC w 0 (List.replicate j false) ++ [Value.slice (some ⟨r, 0, none⟩) y.l.length c', .bool false] := by
      rw [List.replicate_succ', prV_app]
      congr 1
      · exact prV_congr _ _ _ _ _ _ _ fun i h1 h2 => by
          rw [List.length_replicate] at h2
          rw [if_neg (by omega), if_neg (by omega)]
          exact ⟨rfl, rfl⟩
      · rw [List.length_replicate, Nat.zero_add, prV, prV, if_pos rfl, if_pos rfl, hrl]
    refine ih (j + 1) _ p' C' (fun i => if i = j then r else R i) (fun i => if i = j then c' else CC i) (fun i => if i = j then sp else SP i) (by omega) ⟨le_setN l3 I.nx, Ax3.set, ?_, fun i hi => ?_, fun i hi => ?_, I.nx, fun i q hi hq e => ?_, fun i hi => ?_, fun i hi => ?_, px⟩
    · rw [eP]
      exact own.set_ne px
    · by_cases e : i = j
      · subst e
        rw [if_pos rfl, if_pos rfl, hMg]
        exact (keep r _ Ar2 har).set_ne hrx
      · rw [if_neg e, if_neg e]
        exact (keep (R i) _ ((I.row i (by omega)).le l12) (I.na i (by omega))).set_ne (I.nep i (by omega))
    · by_cases e : i = j
      · rw [if_pos e]; exact none_of_le I.base hr
      · rw [if_neg e]; exact I.nr i (by omega)
    · by_cases e1 : i = j
      · by_cases e2 : q = j
        · omega
        · rw [if_pos e1, if_neg e2] at e
          exact (hRr q (by omega) e.symm).elim
      · by_cases e2 : q = j
        · rw [if_neg e1, if_pos e2] at e
          exact (hRr i (by omega) e).elim
        · rw [if_neg e1, if_neg e2] at e
          exact I.inj i q (by omega) (by omega) e
    · by_cases e : i = j
      · rw [if_pos e]; exact hrx
      · rw [if_neg e]; exact I.nep i (by omega)
    · by_cases e : i = j
      · rw [if_pos e]; exact new_ne r _ Ar2 har
      · rw [if_neg e]; exact new_ne (R i) _ ((I.row i (by omega)).le l12) (I.na i (by omega))
theorem S_nNew {h : Heap} {cu : Int} (X : Nets h p NL) (hn : NL.length = n) (hs : n ≤ 1000) (hI : ∀ x ∈ NL, ∀ v ∈ x.l, I64 v) (hr : ∀ x ∈ NL, x.l.length ≤ 1000000)
    (k0 : newE (mxOf NL) cu ≠ 0 → ∀ h', h.le h' → K (tuple #[.pointer none, .int .i64 (newE (mxOf NL) cu)]) h')
    (k1 : newE (mxOf NL) cu = 0 → ∀ w : Nat, cu = (w : Int) → ∀ h' f, h.le h' → LenAt h' f ⟨mxOf NL, List.replicate n false, w⟩ → Fresh h f n → K (tuple #[.pointer (some ⟨f.p, 0, none⟩), .int .i64 0]) h') :
    CallA Try.prog fn_lender_New [slice p n c, .int .i64 cu] h K := by
  have hM : (mxOf NL).length = n := by unfold mxOf; rw [List.length_map, hn]
  refine F_lender_New _ _ _ _ _ _ ?_
  unfold F_lender_NewT
  intro r hr0
  have Ar := At.new h r [.int .i64 cu] 3
  have l1 : h.le (h.ins r (.cells [.int .i64 cu].toArray 3 (0, 0))) := le_ins hr0
  generalize h.ins r (.cells [.int .i64 cu].toArray 3 (0, 0)) = h1 at *
  unfold newE at k0 k1
  rw [hM] at k0 k1
  refine Br.dec (fun g => ?_) fun g => ⟨_, Ar.cell rfl, Br.dec (fun g2 => ?_) fun g2 => ⟨_, Ar.cell rfl, Br.dec (fun g3 => ?_) fun g3 => ?_⟩⟩
  · rw [if_pos (by omega)] at k0
    exact Ret.mk (k0 (by decide) h1 l1)
  · rw [if_neg (by omega), if_pos g2] at k0
    exact Ret.mk (k0 (by decide) h1 l1)
  · rw [if_neg (by omega), if_neg g2, if_pos (by omega)] at k0
    exact Ret.mk (k0 (by decide) h1 l1)
  rw [if_neg (by omega), if_neg g2, if_neg (by omega)] at k0 k1
  refine S_anyBad (X.le l1) hn hs hr (Ar.cell rfl) ⟨_, rfl, ?_⟩
  cases hb : (mxOf NL).any (badRow cu) with
  | true =>
    rw [hb, if_pos rfl] at k0
    exact Br.yes rfl (Ret.mk (k0 (by decide) h1 l1))
  | false =>
    rw [hb, if_neg (by decide)] at k1
    obtain ⟨w, rfl⟩ : ∃ w : Nat, cu = w := ⟨cu.toNat, by omega⟩
    refine Br.no rfl ⟨_, Ar.cell rfl, fun x hx => ?_⟩
    have l2 : h1.le (h1.ins x (.cells [.slice none 0 0, .int .i64 (w : Int)].toArray 133 (0, 0))) := le_ins hx
    have Ax := At.new h1 x [.slice none 0 0, .int .i64 (w : Int)] 133
    generalize h1.ins x (.cells [.slice none 0 0, .int .i64 (w : Int)].toArray 133 (0, 0)) = h2 at *
    have l12 := Heap.le_trans l1 l2
    refine new_loop (h0 := h) X hn (by omega) (by omega) (by omega) hI (fun r hr => by
      rw [List.any_eq_false] at hb
      have := hb r hr
      simpa using this) (fun h' f l' A' fr e => ?_) n 0 h2 none 0 (fun _ => 0) (fun _ => 0) (fun _ => []) (by omega) ⟨l12, Ax, OwnL.nil _ _ _, fun i hi => absurd hi (by omega), fun i hi => absurd hi (by omega), none_of_le l1 hx, fun i k hi => absurd hi (by omega), fun i hi => absurd hi (by omega), fun i hi => absurd hi (by omega), fun e => by cases e⟩
    have := k1 rfl w rfl h' f l' A' fr
    rw [e] at this
    exact this
end
end Go.Proofs.Ytkcogdmddhkldaa
