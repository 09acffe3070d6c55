/- What an argument of any shape holds, as the framework reads it: numbers, truths, texts, structs, and slices of all these. -/
import Derived.Test.YtghdadniddoboaaFwAt
import Derived.SizedLaws
import Derived.ChangeSlices
import Derived.DataReads
namespace Go.Sy
open Go.ChangeShapes Go.WideShapes
/-- shapes: a struct is its fields in a row, ended by 'nil' -/
inductive Sh where
  | int (k : IntKind) | bool | str | sl (e : Sh) | nil | two (a b : Sh)
def Sh.n : Sh → Nat
  | .int _ => 1
  | .bool => 1
  | .str => 1
  | .sl _ => 1
  | .nil => 0
  | .two a b => a.n + b.n
def Sh.Has (h : Heap) : Sh → List Value → Prop
  | .int k, cs => ∃ n : Int, cs = [.int k n] ∧ (Lit.int k n).wf = true
  | .bool, cs => ∃ b : Bool, cs = [.bool b]
  | .str, cs => ∃ s : ByteArray, cs = [.string s] ∧ s.size ≤ 9223372036854775807
  | .sl e, cs => ∃ (p : Option Addr) (len cap : Nat), cs = [.slice p len cap] ∧ len ≤ cap ∧ cap ≤ 9223372036854775807 ∧ (p = none → len = 0) ∧
      ∀ i, i < len → ∃ (b o : Nat) (vs : List Value), p = some ⟨b, o, none⟩ ∧ vs.length = e.n ∧ (∀ j, j < e.n → h.cell b (o + (i * e.n + j)) = vs[j]?) ∧ Sh.Has h e vs
  | .nil, cs => cs = []
  | .two a b, cs => ∃ xs ys, cs = xs ++ ys ∧ xs.length = a.n ∧ Sh.Has h a xs ∧ Sh.Has h b ys
theorem Sh.Has.length {h : Heap} : ∀ {s : Sh} {cs : List Value}, s.Has h cs → cs.length = s.n
  | .int k, cs, hs => by obtain ⟨n, rfl, _⟩ := hs; rfl
  | .bool, cs, hs => by obtain ⟨n, rfl⟩ := hs; rfl
  | .str, cs, hs => by obtain ⟨n, rfl, _⟩ := hs; rfl
  | .sl e, cs, hs => by obtain ⟨p, l, c, rfl, _⟩ := hs; rfl
  | .nil, cs, hs => by cases hs; rfl
  | .two a b, cs, hs => by
    obtain ⟨xs, ys, rfl, hx, _, hy⟩ := hs
    rw [List.length_append, hx, Sh.Has.length hy]; rfl
theorem Sh.Has.le {h h' : Heap} (l : h.le h') : ∀ {s : Sh} {cs : List Value}, s.Has h cs → s.Has h' cs
  | .int k, cs, hs => hs
  | .bool, cs, hs => hs
  | .str, cs, hs => hs
  | .nil, cs, hs => hs
  | .sl e, cs, hs => by
    obtain ⟨p, len, cap, rfl, h1, h2, h3, h4⟩ := hs
    refine ⟨p, len, cap, rfl, h1, h2, h3, fun i hi => ?_⟩
    obtain ⟨b, o, vs, e1, e2, e3, e4⟩ := h4 i hi
    refine ⟨b, o, vs, e1, e2, fun j hj => ?_, Sh.Has.le l e4⟩
    have := e3 j hj
    rw [List.getElem?_eq_getElem (by omega)] at this ⊢
    exact cell_le l this
  | .two a b, cs, hs => by
    obtain ⟨xs, ys, rfl, hx, h1, h2⟩ := hs
    exact ⟨xs, ys, rfl, hx, Sh.Has.le l h1, Sh.Has.le l h2⟩
mutual
def Sh.fits (P : Program) : Sh → TypeId → Bool
  | .int k, t => match P.underlying t with
    | some (.int k') => ikEq k' k
    | _ => false
  | .bool, t => match P.underlying t with
    | some .bool => true
    | _ => false
  | .str, t => match P.underlying t with
    | some .string => true
    | _ => false
  | .sl e, t => match P.underlying t with
    | some (.slice u) => match Nat.beq (P.cellsOf u) e.n, Nat.ble 1 e.n with
      | true, true => Sh.fits P e u
      | _, _ => false
    | _ => false
  | .two a b, t => match P.underlying t with
    | some (.struct fs) => match fs.toList with
      | f :: r => match Nat.beq f.offset 0, Nat.beq (P.cellsOf f.type) a.n, Nat.beq (P.cellsOf t) (a.n + b.n), Sh.fits P a f.type with
        | true, true, true, true => Sh.fitsF P b r a.n
        | _, _, _, _ => false
      | [] => false
    | _ => false
  | .nil, _ => false
def Sh.fitsF (P : Program) : Sh → List Field → Nat → Bool
  | .two a b, f :: r, off => match Nat.beq f.offset off, Nat.beq (P.cellsOf f.type) a.n, Sh.fits P a f.type with
    | true, true, true => Sh.fitsF P b r (off + a.n)
    | _, _, _ => false
  | .nil, [], _ => true
  | _, _, _ => false
end
theorem cell_of_world {W : World} {b o : Nat} {v : Option Value} (ci : W.cell? ⟨b, o, none⟩ = v) (hv : v.isSome = true) : (heapOf W).cell b o = v := by
  obtain ⟨x, rfl⟩ := Option.isSome_iff_exists.1 hv
  unfold World.cell? at ci
  unfold Heap.cell heapOf
  dsimp only at ci ⊢
  cases hb : W.heap[b]? with
  | none => rw [hb] at ci; cases ci
  | some y =>
    rw [hb] at ci
    cases y <;> first | cases ci | simpa using ci
theorem spot_of_world {W : World} {a : Addr} {v : Value} (c0 : W.cell? a = some v) : a.spot = none := by
  unfold World.cell? at c0
  split at c0
  · split at c0
    · cases c0
    · rename_i hs
      simpa using hs
  · cases c0
section
variable {H : Type} {enc : TypeId × Value → H} {P : Program} {W : World} {base : Nat} {spare : Nat → Bool} {held : Bool}
mutual
theorem Sh.of_trod : ∀ (s : Sh) (t : TypeId), s.fits P t = true → ∀ {fuel : Nat} {cs : List Value} {x : DataW H × List MemPlace}, DataW.trod enc P W base spare held fuel t cs = some x → s.Has (heapOf W) cs
  | .int k, t, hf, fuel, cs, x, ht => by
    unfold Sh.fits at hf
    split at hf
    · rename_i k' hu
      have := ikEq_eq hf
      subst this
      cases fuel with
      | zero => simp [DataW.trod] at ht
      | succ n =>
        unfold DataW.trod at ht
        rw [hu] at ht
        split at ht <;> simp_all
        exact ⟨_, rfl, ht.1.2⟩
    · cases hf
  | .bool, t, hf, fuel, cs, x, ht => by
    unfold Sh.fits at hf
    split at hf
    · rename_i hu
      cases fuel with
      | zero => simp [DataW.trod] at ht
      | succ n =>
        unfold DataW.trod at ht
        rw [hu] at ht
        split at ht <;> simp_all
        exact ⟨_, rfl⟩
    · cases hf
  | .str, t, hf, fuel, cs, x, ht => by
    unfold Sh.fits at hf
    split at hf
    · rename_i hu
      cases fuel with
      | zero => simp [DataW.trod] at ht
      | succ n =>
        unfold DataW.trod at ht
        rw [hu] at ht
        split at ht <;> simp_all
        exact ⟨_, rfl, ht.1⟩
    · cases hf
  | .sl e, t, hf, fuel, cs, x, ht => by
    unfold Sh.fits at hf
    split at hf
    · rename_i u hu
      split at hf
      · rename_i h1 h2
        have h1 := Nat.eq_of_beq_eq_true h1
        have h2 := Nat.le_of_ble_eq_true h2
        rcases DataW.trod_slice hu ht with ⟨rfl, _⟩ | ⟨a, len, cap, elems, rest, n, _, rfl, _, _, hl, hm, hlen, hel, _⟩
        · exact ⟨none, 0, 0, rfl, Nat.le_refl _, by omega, fun _ => rfl, fun i hi => absurd hi (by omega)⟩
        · refine ⟨some a, len, cap, rfl, hl, hm, fun e => (by cases e), fun i hi => ?_⟩
          have g := hel i hi
          rw [List.getElem?_eq_getElem (by omega)] at g
          obtain ⟨vs, hv, ht2⟩ := Option.bind_eq_some_iff.1 g
          obtain ⟨_, hcl, hat⟩ := World.cells?_some hv
          rw [h1] at hcl hat
          have hs := Sh.of_trod e u hf ht2
          have sp : a.spot = none := by
            have g0 := hel 0 (by omega)
            rw [List.getElem?_eq_getElem (by omega)] at g0
            obtain ⟨v0, hv0, _⟩ := Option.bind_eq_some_iff.1 g0
            obtain ⟨_, hcl0, hat0⟩ := World.cells?_some hv0
            have c0 := hat0 0 (by omega)
            rw [List.getElem?_eq_getElem (by omega), Nat.zero_mul] at c0
            exact spot_of_world c0
          obtain ⟨b, o, s⟩ := a
          dsimp only at sp
          subst sp
          refine ⟨b, o, vs, rfl, hcl, fun j hj => ?_, hs⟩
          have cj := hat j hj
          rw [Addr.add_none, Addr.add_none] at cj
          have := cell_of_world cj (by rw [List.getElem?_eq_getElem (by omega)]; rfl)
          rw [← this, Nat.add_assoc]
      · cases hf
    · cases hf
  | .nil, t, hf, _, _, _, _ => by cases hf
  | .two a b, t, hf, fuel, cs, x, ht => by
    unfold Sh.fits at hf
    split at hf
    · rename_i fs hu
      split at hf
      · rename_i f r hfs
        split at hf
        · rename_i h1 h2 h3 h4
          have h1 := Nat.eq_of_beq_eq_true h1
          have h2 := Nat.eq_of_beq_eq_true h2
          have h3 := Nat.eq_of_beq_eq_true h3
          obtain ⟨xs, n, _, _, hcl, hlen, hat⟩ := DataW.trod_struct hu ht
          have hsz : fs.size = r.length + 1 := by rw [← Array.length_toList, hfs]; rfl
          have g0 := hat 0 f (by rw [← Array.getElem?_toList, hfs]; rfl)
          rw [List.getElem?_eq_getElem (by omega), h1, h2, List.drop_zero] at g0
          refine ⟨cs.take a.n, cs.drop a.n, (List.take_append_drop _ _).symm, by rw [List.length_take]; omega, Sh.of_trod a f.type h4 g0, ?_⟩
          refine Sh.of_trodF b r a.n hf (cs := cs) (by omega) (fun i f' hf' => ?_)
          have := hat (i + 1) f' (by rw [← Array.getElem?_toList, hfs]; simpa using hf')
          have hi : i < r.length := (List.getElem?_eq_some_iff.1 hf').1
          rw [List.getElem?_eq_getElem (by omega)] at this
          exact ⟨_, _, this⟩
        · cases hf
      · cases hf
    · cases hf
theorem Sh.of_trodF : ∀ (s : Sh) (r : List Field) (off : Nat), s.fitsF P r off = true → ∀ {cs : List Value}, cs.length = off + s.n →
    (∀ (i : Nat) (f : Field), r[i]? = some f → ∃ (n : Nat) (x : DataW H × List MemPlace), DataW.trod enc P W base spare held n f.type ((cs.drop f.offset).take (P.cellsOf f.type)) = some x) → s.Has (heapOf W) (cs.drop off)
  | .two a b, [], off, hf, _, _, _ => by simp [Sh.fitsF] at hf
  | .two a b, f :: r, off, hf, cs, hl, hat => by
    unfold Sh.fitsF at hf
    split at hf
    · rename_i h1 h2 h4
      have h1 := Nat.eq_of_beq_eq_true h1
      have h2 := Nat.eq_of_beq_eq_true h2
      obtain ⟨n, x, g0⟩ := hat 0 f rfl
      rw [h1, h2] at g0
      have hl2 : cs.length = off + (a.n + b.n) := hl
      refine ⟨(cs.drop off).take a.n, (cs.drop off).drop a.n, (List.take_append_drop _ _).symm, by rw [List.length_take, List.length_drop]; omega, Sh.of_trod a f.type h4 g0, ?_⟩
      rw [List.drop_drop]
      exact Sh.of_trodF b r (off + a.n) hf (by omega) (fun i f' hf' => hat (i + 1) f' (by simpa using hf'))
    · cases hf
  | .nil, [], off, hf, cs, hl, _ => by
    have hl2 : cs.length = off + 0 := hl
    show cs.drop off = []
    exact List.drop_eq_nil_of_le (by omega)
  | .nil, f :: r, off, hf, _, _, _ => by simp [Sh.fitsF] at hf
  | .int k, r, off, hf, _, _, _ => by cases r <;> simp [Sh.fitsF] at hf
  | .bool, r, off, hf, _, _, _ => by cases r <;> simp [Sh.fitsF] at hf
  | .str, r, off, hf, _, _, _ => by cases r <;> simp [Sh.fitsF] at hf
  | .sl e, r, off, hf, _, _, _ => by cases r <;> simp [Sh.fitsF] at hf
end
end
/-- a slice, all its things in a row -/
theorem Sh.Has.list {h : Heap} {e : Sh} {p : Option Addr} {len cap : Nat} (hs : (Sh.sl e).Has h [.slice p len cap]) :
    len ≤ cap ∧ cap ≤ 9223372036854775807 ∧ ∃ L : List (List Value), L.length = len ∧ (∀ vs ∈ L, vs.length = e.n ∧ e.Has h vs) ∧ rdL h p L.flatten := by
  obtain ⟨p', len', cap', hc, h1, h2, h3, h4⟩ := hs
  cases hc
  refine ⟨h1, h2, ?_⟩
  have build : ∀ m, m ≤ len → ∃ L : List (List Value), L.length = m ∧ (∀ vs ∈ L, vs.length = e.n ∧ e.Has h vs) ∧
      ∀ b o, p = some ⟨b, o, none⟩ → ∀ j, j < L.flatten.length → h.cell b (o + j) = L.flatten[j]? := by
    intro m
    induction m with
    | zero => exact fun _ => ⟨[], rfl, fun _ hv => (by cases hv), fun _ _ _ j hj => absurd hj (by simp)⟩
    | succ m ih =>
      intro hm
      obtain ⟨L, hL, hA, hR⟩ := ih (by omega)
      obtain ⟨b, o, vs, e1, e2, e3, e4⟩ := h4 m (by omega)
      have hfl : ∀ L : List (List Value), (∀ vs ∈ L, vs.length = e.n ∧ e.Has h vs) → L.flatten.length = L.length * e.n := by
        intro L
        induction L with
        | nil => intro _; simp
        | cons a L ih2 =>
          intro hA
          rw [List.flatten_cons, List.length_append, ih2 (fun vs hv => hA vs (List.mem_cons_of_mem _ hv)), (hA a (List.mem_cons_self ..)).1, List.length_cons, Nat.succ_mul]
          omega
      refine ⟨L ++ [vs], by simp [hL], fun ws hw => ?_, fun b' o' e' j hj => ?_⟩
      · rcases List.mem_append.1 hw with hw | hw
        · exact hA ws hw
        · rw [List.mem_singleton] at hw; rw [hw]; exact ⟨e2, e4⟩
      · have hf := hfl L hA
        rw [List.flatten_append, List.flatten_singleton] at hj ⊢
        rw [List.length_append] at hj
        rw [e1] at e'
        cases e'
        by_cases hj2 : j < L.flatten.length
        · rw [List.getElem?_append_left hj2]; exact hR b o e1 j hj2
        · rw [List.getElem?_append_right (by omega), hf, hL]
          have g := e3 (j - m * e.n) (by rw [hf, hL] at hj2 hj; omega)
          rw [← g]
          congr 1
          rw [hf, hL] at hj2
          omega
  obtain ⟨L, hL, hA, hR⟩ := build len (Nat.le_refl _)
  refine ⟨L, hL, hA, ?_⟩
  cases hp : p with
  | none =>
    have := h3 hp
    have : L = [] := List.length_eq_zero_iff.1 (by omega)
    subst this
    exact .inl rfl
  | some a =>
    by_cases h0 : len = 0
    · have : L = [] := List.length_eq_zero_iff.1 (by omega)
      subst this
      exact .inl rfl
    · obtain ⟨b, o, vs, e1, _⟩ := h4 0 (by omega)
      rw [hp] at e1
      cases e1
      exact .inr ⟨b, o, rfl, hR b o hp⟩
theorem Sh.Has.ints {h : Heap} {k : IntKind} {p : Option Addr} {len cap : Nat} (hs : (Sh.sl (.int k)).Has h [.slice p len cap]) :
    len ≤ cap ∧ cap ≤ 9223372036854775807 ∧ ∃ l : List Int, l.length = len ∧ Ints k h p l ∧ ∀ n ∈ l, (Lit.int k n).wf = true := by
  obtain ⟨h1, h2, L, hL, hA, hR⟩ := hs.list
  refine ⟨h1, h2, ?_⟩
  have : ∀ L : List (List Value), (∀ vs ∈ L, vs.length = (Sh.int k).n ∧ (Sh.int k).Has h vs) → ∃ l : List Int, l.length = L.length ∧ L.flatten = intsV k l ∧ ∀ n ∈ l, (Lit.int k n).wf = true := by
    intro L
    induction L with
    | nil => exact fun _ => ⟨[], rfl, rfl, fun _ hn => (by cases hn)⟩
    | cons a L ih =>
      intro hA
      obtain ⟨l, e1, e2, e3⟩ := ih (fun vs hv => hA vs (List.mem_cons_of_mem _ hv))
      obtain ⟨n, rfl, hw⟩ := (hA a (List.mem_cons_self ..)).2
      refine ⟨n :: l, by simp [e1], by rw [List.flatten_cons, e2]; rfl, fun m hm => ?_⟩
      rcases List.mem_cons.1 hm with rfl | hm
      · exact hw
      · exact e3 m hm
  obtain ⟨l, e1, e2, e3⟩ := this L hA
  exact ⟨l, by rw [e1, hL], by unfold Ints; rw [← e2]; exact hR, e3⟩
end Go.Sy
