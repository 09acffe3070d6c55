/- Providers in memory: each line in a block of its own. -/
import Derived.Test.YtkcogdmddhkldaaLenPure
import Derived.Test.YtkcogdmddhkldaaInMem
import Derived.Test.YtkcogdmddhkldaaGen
import Derived.Test.YtkcogdmddhkldaaEqLen
import Derived.Test.YtkcogdmddhkldaaEqIn
namespace Go.Proofs.Ytkcogdmddhkldaa
open Go Go.Sy Go.Value
set_option linter.unusedVariables false
set_option linter.unusedSimpArgs false

def zPr : List Value := [.slice none 0 0, .bool false]
def prV (R CC : Nat → Nat) (w : Nat) : Nat → List Bool → List Value
  | _, [] => []
  | i, f :: F => .slice (some ⟨R i, 0, none⟩) w (CC i) :: .bool f :: prV R CC w (i + 1) F
theorem prV_length (R CC : Nat → Nat) (w : Nat) : ∀ i F, (prV R CC w i F).length = F.length * 2
  | _, [] => rfl
  | i, f :: F => by simp only [prV, List.length_cons, prV_length R CC w (i + 1) F]; omega
theorem prV_get (R CC : Nat → Nat) (w : Nat) : ∀ (F : List Bool) (i j : Nat), j < F.length → (prV R CC w i F)[j * 2]? = some (.slice (some ⟨R (i + j), 0, none⟩) w (CC (i + j))) ∧ (prV R CC w i F)[j * 2 + 1]? = some (.bool (F.getD j false))
  | [], _, j, h => by simp at h
  | f :: F, i, 0, h => ⟨rfl, rfl⟩
  | f :: F, i, j + 1, h => by
    have := prV_get R CC w F (i + 1) j (by simpa using h)
    rw [show i + (j + 1) = i + 1 + j by omega, show (j + 1) * 2 = j * 2 + 1 + 1 by omega]
    simp only [prV, List.getElem?_cons_succ, List.getD_cons_succ]
    exact this
theorem prV_app (R CC : Nat → Nat) (w : Nat) : ∀ (F G : List Bool) (i : Nat), prV R CC w i (F ++ G) = prV R CC w i F ++ prV R CC w (i + F.length) G
  | [], G, i => rfl
  | f :: F, G, i => by
    simp only [List.cons_append, prV, prV_app R CC w F G (i + 1), List.length_cons]
    rw [show i + 1 + F.length = i + (F.length + 1) by omega]
theorem prV_congr (R R' CC CC' : Nat → Nat) (w : Nat) : ∀ (F : List Bool) (i : Nat), (∀ j, i ≤ j → j < i + F.length → R j = R' j ∧ CC j = CC' j) → prV R CC w i F = prV R' CC' w i F
  | [], _, _ => rfl
  | f :: F, i, h => by
    have h0 := h i (Nat.le_refl _) (by simp)
    rw [prV, prV, h0.1, h0.2, prV_congr R R' CC CC' w F (i + 1) fun j h1 h2 => h j (by omega) (by simp; omega)]
theorem prV_set (R CC : Nat → Nat) (w : Nat) (b : Bool) : ∀ (F : List Bool) (i j : Nat) (sp : List Value), j < F.length → setL (prV R CC w i F ++ sp) (j * 2 + 1) [.bool b] = prV R CC w i (F.set j b) ++ sp
  | [], _, j, _, h => by simp at h
  | f :: F, i, 0, sp, h => rfl
  | f :: F, i, j + 1, sp, h => by
    have := prV_set R CC w b F (i + 1) j sp (by simpa using h)
    rw [show (j + 1) * 2 + 1 = (j * 2 + 1) + 1 + 1 by omega]
    simp only [prV, List.cons_append, List.set_cons_succ]
    show _ :: _ :: setL (prV R CC w (i + 1) F ++ sp) (j * 2 + 1) [.bool b] = _
    rw [this]
structure Frm where
  p : Nat
  a : Option Addr
  C : Nat
  sp : List Value
  R : Nat → Nat
  CC : Nat → Nat
  SP : Nat → List Value
structure LenAt (h : Heap) (f : Frm) (S : Ln) : Prop where
  ap : At h f.p [.slice f.a S.L.length f.C, .int .i64 (S.cur : Int)]
  pr : S.L.length = 0 ∨ ∃ B, f.a = some ⟨B, 0, none⟩ ∧ At h B (prV f.R f.CC S.cur 0 S.F ++ f.sp)
  nb : ∀ B, f.a = some ⟨B, 0, none⟩ → f.p ≠ B ∧ ∀ i, i < S.L.length → f.R i ≠ B
  row : ∀ i, i < S.L.length → At h (f.R i) (intsV .i64 (S.L.getD i []) ++ f.SP i)
  inj : ∀ i j, i < S.L.length → j < S.L.length → f.R i = f.R j → i = j
  nep : ∀ i, i < S.L.length → f.R i ≠ f.p
  ok : S.Ok
/-- none of it was there before -/
structure Fresh (h0 : Heap) (f : Frm) (n : Nat) : Prop where
  p : h0 f.p = none
  a : ∀ B, f.a = some ⟨B, 0, none⟩ → 0 < n → h0 B = none
  r : ∀ i, i < n → h0 (f.R i) = none
section
variable {h h0 : Heap} {f : Frm} {S : Ln}
theorem LenAt.le {h' : Heap} (A : LenAt h f S) (l : h.le h') : LenAt h' f S := { A with ap := A.ap.le l, pr := A.pr.elim .inl fun ⟨B, e, a⟩ => .inr ⟨B, e, a.le l⟩, row := fun i hi => (A.row i hi).le l }
theorem LenAt.provs (A : LenAt h f S) : h.cell f.p 0 = some (.slice f.a S.L.length f.C) := A.ap.cell rfl
theorem LenAt.cur (A : LenAt h f S) : h.cell f.p 1 = some (.int .i64 (S.cur : Int)) := A.ap.cell rfl
theorem LenAt.prov (A : LenAt h f S) {i : Nat} (hi : i < S.L.length) : ∃ B, f.a = some ⟨B, 0, none⟩ ∧ At h B (prV f.R f.CC S.cur 0 S.F ++ f.sp) := A.pr.resolve_left (by omega)
theorem LenAt.line (A : LenAt h f S) {i B : Nat} (hi : i < S.L.length) (e : f.a = some ⟨B, 0, none⟩) : h.cell B (0 + i * 2) = some (.slice (some ⟨f.R i, 0, none⟩) S.cur (f.CC i)) := by
  obtain ⟨B', e', a⟩ := A.prov hi
  rw [e] at e'; cases e'
  have hf := A.ok.fl
  have g := (prV_get f.R f.CC S.cur S.F 0 i (by omega)).1
  refine a.cell ?_
  rw [Nat.zero_add, List.getElem?_append_left (by rw [prV_length]; omega), g, Nat.zero_add]
theorem LenAt.flag (A : LenAt h f S) {i B : Nat} (hi : i < S.L.length) (e : f.a = some ⟨B, 0, none⟩) : h.cell B (0 + i * 2 + 1) = some (.bool (S.F.getD i false)) := by
  obtain ⟨B', e', a⟩ := A.prov hi
  rw [e] at e'; cases e'
  have hf := A.ok.fl
  have g := (prV_get f.R f.CC S.cur S.F 0 i (by omega)).2
  refine a.cell ?_
  rw [Nat.zero_add, List.getElem?_append_left (by rw [prV_length]; omega), g]
theorem LenAt.amt (A : LenAt h f S) {i c : Nat} (hi : i < S.L.length) (hc : c < S.cur) : h.cell (f.R i) (0 + c) = some (.int .i64 (rdM S.L i c)) := by
  refine (A.row i hi).cell ?_
  have hl := A.ok.sh.row hi
  rw [Nat.zero_add, List.getElem?_append_left (by rw [intsV_length]; omega), intsV_map, List.getElem?_map, List.getElem?_eq_getElem (by omega)]
  unfold rdM
  simp only [Option.map_some]
  congr 2
  rw [List.getD_eq_getElem?_getD (l := S.L.getD i []), List.getElem?_eq_getElem (by omega)]; rfl
theorem LenAt.stR (A : LenAt h f S) {i c : Nat} (hi : i < S.L.length) (hc : c < S.cur) : h.canSt (f.R i) (0 + c) 1 := (A.row i hi).canSt (by rw [List.length_append, intsV_length, A.ok.sh.row hi]; omega)
theorem LenAt.stF (A : LenAt h f S) {i B : Nat} (hi : i < S.L.length) (e : f.a = some ⟨B, 0, none⟩) : h.canSt B (0 + i * 2 + 1) 1 := by
  obtain ⟨B', e', a⟩ := A.prov hi
  rw [e] at e'; cases e'
  exact a.canSt (by rw [List.length_append, prV_length, A.ok.fl]; omega)
theorem Ln.Ok.wr (o : S.Ok) {i c : Nat} {v : Int} (hi : i < S.L.length) (hc : c < S.cur) (hv : I64 v) (h0 : 0 ≤ v) : (⟨wrM S.L i c v, S.F, S.cur⟩ : Ln).Ok := by
  have hl : (wrM S.L i c v).length = S.L.length := (o.sh.wr hi).1
  refine { n8 := by show (wrM S.L i c v).length ≤ 8; rw [hl]; exact o.n8, c1 := o.c1, c8 := o.c8, sh := by show shM (wrM S.L i c v) (wrM S.L i c v).length S.cur; rw [hl]; exact o.sh.wr hi, fl := by show S.F.length = (wrM S.L i c v).length; rw [hl]; exact o.fl, i64 := fun j d => ?_, pos := fun j d => ?_ }
  · show I64 (rdM (wrM S.L i c v) j d)
    rw [rd_wr o.sh hi hc]; split
    · exact hv
    · exact o.i64 j d
  · show 0 ≤ rdM (wrM S.L i c v) j d
    rw [rd_wr o.sh hi hc]; split
    · exact h0
    · exact o.pos j d
theorem LenAt.wrR (A : LenAt h f S) {i c : Nat} {v : Int} (hi : i < S.L.length) (hc : c < S.cur) (hv : I64 v) (h0 : 0 ≤ v) : LenAt (h.setN (f.R i) (0 + c) [.int .i64 v]) f ⟨wrM S.L i c v, S.F, S.cur⟩ := by
  have hl : (wrM S.L i c v).length = S.L.length := (A.ok.sh.wr hi).1
  have hrow := A.ok.sh.row hi
  refine ⟨?_, ?_, ?_, ?_, ?_, ?_, A.ok.wr hi hc hv h0⟩
  · show At _ f.p [.slice f.a (wrM S.L i c v).length f.C, .int .i64 (S.cur : Int)]
    rw [hl]
    exact A.ap.set_ne (fun e => A.nep i hi e.symm)
  · obtain ⟨B, e, a⟩ := A.prov hi
    exact .inr ⟨B, e, a.set_ne (fun x => (A.nb B e).2 i hi x.symm)⟩
  · show ∀ B, f.a = some ⟨B, 0, none⟩ → f.p ≠ B ∧ ∀ j, j < (wrM S.L i c v).length → f.R j ≠ B
    rw [hl]; exact A.nb
  · show ∀ j, j < (wrM S.L i c v).length → _
    rw [hl]
    intro j hj
    by_cases e : j = i
    · subst e
      have := (A.row j hj).set (o := 0 + c) (ws := [.int .i64 v])
      rw [Nat.zero_add, setL_ints (by omega)] at this
      have eg : (wrM S.L j c v).getD j [] = (S.L.getD j []).set c v := by
        unfold wrM
        rw [List.getD_eq_getElem?_getD, List.getElem?_set_self hj]; rfl
      show At _ (f.R j) (intsV .i64 ((wrM S.L j c v).getD j []) ++ f.SP j)
      rw [eg, Nat.zero_add]
      exact this
    · have eg : (wrM S.L i c v).getD j [] = S.L.getD j [] := by
        unfold wrM
        rw [List.getD_eq_getElem?_getD, List.getElem?_set_ne (fun x => e x.symm), ← List.getD_eq_getElem?_getD]
      show At _ (f.R j) (intsV .i64 ((wrM S.L i c v).getD j []) ++ f.SP j)
      rw [eg]
      exact (A.row j hj).set_ne (fun x => e (A.inj j i hj hi x))
  · show ∀ j k, j < (wrM S.L i c v).length → k < (wrM S.L i c v).length → _
    rw [hl]; exact A.inj
  · show ∀ j, j < (wrM S.L i c v).length → _
    rw [hl]; exact A.nep
theorem LenAt.wrF (A : LenAt h f S) {i B : Nat} {b : Bool} (hi : i < S.L.length) (e : f.a = some ⟨B, 0, none⟩) : LenAt (h.setN B (0 + i * 2 + 1) [.bool b]) f ⟨S.L, S.F.set i b, S.cur⟩ := by
  obtain ⟨B', e', a⟩ := A.prov hi
  rw [e] at e'; cases e'
  have hf := A.ok.fl
  refine ⟨A.ap.set_ne (A.nb B e).1, .inr ⟨B, e, ?_⟩, A.nb, fun j hj => (A.row j hj).set_ne ((A.nb B e).2 j hj), A.inj, A.nep, { A.ok with fl := by show (S.F.set i b).length = _; rw [List.length_set]; exact hf }⟩
  have := a.set (o := 0 + i * 2 + 1) (ws := [.bool b])
  rw [Nat.zero_add, prV_set _ _ _ _ _ _ _ _ (by omega)] at this
  rw [Nat.zero_add]
  exact this
/-- reading an amount -/
theorem LenAt.get (A : LenAt h f S) {i c : Nat} (hi : i < S.L.length) (hc : c < S.cur) {Q : Int → Prop} (kk : Q (rdM S.L i c)) :
    withAddr (some ⟨f.p, 0, none⟩) fun b o => ∃ a n m, h.cell b o = some (.slice a n m) ∧ 0 ≤ (i : Int) ∧ (i : Int) < (n : Int) ∧
      withAddr a fun b o => ∃ a n m, h.cell b (o + (i : Int).toNat * 2) = some (.slice a n m) ∧ 0 ≤ (c : Int) ∧ (c : Int) < (n : Int) ∧ withAddr a fun b o => ∃ n, h.cell b (o + (c : Int).toNat) = some (.int .i64 n) ∧ Q n := by
  obtain ⟨B, e, _⟩ := A.prov hi
  exact withAddr_intro rfl ⟨_, _, _, A.provs, by omega, by omega, withAddr_intro e ⟨_, _, _, A.line hi e, by omega, by omega, withAddr_intro rfl ⟨_, A.amt hi hc, kk⟩⟩⟩
theorem LenAt.getF (A : LenAt h f S) {i : Nat} (hi : i < S.L.length) {Q : Bool → Prop} (kk : Q (S.F.getD i false)) :
    withAddr (some ⟨f.p, 0, none⟩) fun b o => ∃ a n m, h.cell b o = some (.slice a n m) ∧ 0 ≤ (i : Int) ∧ (i : Int) < (n : Int) ∧ withAddr a fun b o => ∃ b_1, h.cell b (o + (i : Int).toNat * 2 + 1) = some (.bool b_1) ∧ Q b_1 := by
  obtain ⟨B, e, _⟩ := A.prov hi
  exact withAddr_intro rfl ⟨_, _, _, A.provs, by omega, by omega, withAddr_intro e ⟨_, A.flag hi e, kk⟩⟩
end
/-! parts in memory -/
def ptV : List Prt → List Value
  | [] => []
  | x :: r => .int .i64 x.p :: .int .i64 x.a :: ptV r
theorem ptV_length : ∀ l, (ptV l).length = l.length * 2
  | [] => rfl
  | x :: l => by simp only [ptV, List.length_cons, ptV_length l]; omega
theorem ptV_append : ∀ l m, ptV (l ++ m) = ptV l ++ ptV m
  | [], m => rfl
  | x :: l, m => by simp only [List.cons_append, ptV, ptV_append l m]
theorem allCells_pt : ∀ l, allCells (ptV l) = true
  | [] => rfl
  | x :: l => allCells_pt l
theorem ptV_get : ∀ (l : List Prt) (j : Nat) (x : Prt), l[j]? = some x → (ptV l)[j * 2]? = some (.int .i64 x.p) ∧ (ptV l)[j * 2 + 1]? = some (.int .i64 x.a)
  | [], j, x, h => by simp at h
  | y :: l, 0, x, h => by
    simp at h
    subst h
    exact ⟨rfl, rfl⟩
  | y :: l, j + 1, x, h => by
    have := ptV_get l j x (by simpa using h)
    rw [show (j + 1) * 2 = j * 2 + 1 + 1 from by omega]
    simp only [ptV, List.getElem?_cons_succ]
    exact this
def Pts (h : Heap) (p : Option Addr) (l : List Prt) : Prop := rdL h p (ptV l)
theorem qx {h : Heap} {p : Option Addr} {l : List Prt} {N : Nat} (C : Pts h p l) (hn : l.length = N) {j : Nat} {i : Int} (hi : i = (j : Int)) {x : Prt} (hx : l[j]? = some x) {Q : Int → Int → Prop} (kk : Q x.p x.a) :
    0 ≤ i ∧ i < (N : Int) ∧ withAddr p fun b o => ∃ n, h.cell b (o + i.toNat * 2) = some (.int .i64 n) ∧ ∃ n1, h.cell b (o + i.toNat * 2 + 1) = some (.int .i64 n1) ∧ Q n n1 := by
  subst hi hn
  have hj : j < l.length := (List.getElem?_eq_some_iff.1 hx).1
  obtain ⟨g0, g1⟩ := ptV_get l j x hx
  rcases C with e | ⟨b, o, e, r⟩
  · have := congrArg List.length e
    rw [ptV_length, List.length_nil] at this
    omega
  · rw [Int.toNat_natCast]
    refine ⟨by omega, by omega, withAddr_intro e ⟨_, ?_, _, ?_, kk⟩⟩
    · rw [r _ (by rw [ptV_length]; omega), g0]
    · rw [Nat.add_assoc, r _ (by rw [ptV_length]; omega), g1]
def ptSh : Sh := .two (.int .i64) (.two (.int .i64) .nil)
theorem pts_of {h : Heap} {p : Option Addr} {n c : Nat} (H : (Sh.sl ptSh).Has h [.slice p n c]) : n ≤ c ∧ c ≤ 9223372036854775807 ∧ ∃ L : List Prt, L.length = n ∧ Pts h p L ∧ ∀ x ∈ L, I64 x.p ∧ I64 x.a := by
  obtain ⟨h1, h2, L, hL, hA, hR⟩ := Sh.Has.list H
  refine ⟨h1, h2, ?_⟩
  have : ∀ L : List (List Value), (∀ vs ∈ L, vs.length = ptSh.n ∧ ptSh.Has h vs) → ∃ l : List Prt, l.length = L.length ∧ L.flatten = ptV l ∧ ∀ x ∈ l, I64 x.p ∧ I64 x.a := by
    intro L
    induction L with
    | nil => exact fun _ => ⟨[], rfl, rfl, fun _ hn => (by cases hn)⟩
    | cons a L ih =>
      intro hA
      obtain ⟨l, e1, e2, e3⟩ := ih (fun vs hv => hA vs (List.mem_cons_of_mem _ hv))
      have ha := (hA a (List.mem_cons_self ..)).2
      obtain ⟨a1, r1, rfl, _, ⟨n1, rfl, w1⟩, a2, r2, rfl, _, ⟨n2, rfl, w2⟩, hnil⟩ := ha
      have hnil : r2 = [] := hnil
      subst hnil
      refine ⟨⟨n1, n2⟩ :: l, by simp [e1], ?_, fun x hx => ?_⟩
      · rw [List.flatten_cons, e2]; rfl
      · rcases List.mem_cons.1 hx with rfl | hx
        · exact ⟨I64.of_wf w1, I64.of_wf w2⟩
        · exact e3 x hx
  obtain ⟨l, e1, e2, e3⟩ := this L hA
  exact ⟨l, by rw [e1, hL], by unfold Pts; rw [← e2]; exact hR, e3⟩
end Go.Proofs.Ytkcogdmddhkldaa
