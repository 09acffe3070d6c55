/- Lists in memory, read by number; new lists; errors as numbers. -/
import Derived.Test.YtghdadniddoboaaFwOff
import Derived.Test.YtghdadniddoboaaFwShape
namespace Go.Proofs.Ytghdadniddoboaa
open Go Go.Sy Go.Value
set_option linter.unusedVariables false

/-- an element of a list in memory, read -/
theorem ix {k : IntKind} {h : Heap} {a : Option Addr} {l : List Int} {N : Nat} (I : Ints k h a l) (hn : l.length = N) {j : Nat} {i : Int} (hi : i = (j : Int)) {x : Int} (hx : l[j]? = some x) {Q : Int → Prop} (kk : Q x) :
    0 ≤ i ∧ i < (N : Int) ∧ withAddr a fun b o => ∃ n, h.cell b (o + i.toNat) = some (.int k n) ∧ Q n := by
  subst hi hn
  have hj : j < l.length := (List.getElem?_eq_some_iff.1 hx).1
  obtain ⟨b, o, e, hc⟩ := I.at hj
  refine ⟨by omega, by omega, withAddr_intro e ⟨x, ?_, kk⟩⟩
  have : l[j] = x := by rw [List.getElem?_eq_getElem hj] at hx; exact Option.some.inj hx
  rw [Int.toNat_natCast, hc, this]
theorem ix0 {k : IntKind} {h : Heap} {a : Option Addr} {l : List Int} {N : Nat} (I : Ints k h a l) (hn : l.length = N) {x : Int} (hx : l[0]? = some x) {Q : Int → Prop} (kk : Q x) :
    (0 : Int) ≤ 0 ∧ (0 : Int) < (N : Int) ∧ withAddr a fun b o => ∃ n, h.cell b o = some (.int k n) ∧ Q n := by
  have := ix I hn (i := 0) (j := 0) rfl hx kk
  exact this

def errB (b : Bool) : Int := if b then 0 else 1
theorem own_new {h : Heap} {r : Nat} {T : TypeId} {z : List Value} (hr : h r = none) : OwnL h (h.ins r (.cells [].toArray T (0, 0))) z (some ⟨r, 0, none⟩) 0 [] :=
  .inr ⟨r, [], rfl, hr, At.new h r [] T, by simp⟩
/-! rows of structs -/
def Arr {α : Type} (enc : α → List Value) (h : Heap) (p : Option Addr) (l : List α) : Prop := rdL h p (l.flatMap enc)
theorem Arr.le {α : Type} {enc : α → List Value} {h h' : Heap} {p : Option Addr} {l : List α} (a : Arr enc h p l) (e : h.le h') : Arr enc h' p l := rdL_le e a
theorem arr_len {α : Type} {enc : α → List Value} {w : Nat} (hw : ∀ x, (enc x).length = w) (l : List α) : (l.flatMap enc).length = l.length * w := by
  induction l with
  | nil => simp
  | cons a l ih => rw [List.flatMap_cons, List.length_append, ih, hw, List.length_cons, Nat.succ_mul]; omega
theorem arr_get {α : Type} {enc : α → List Value} {w : Nat} (hw : ∀ x, (enc x).length = w) : ∀ (l : List α) (j i : Nat) (x : α), l[j]? = some x → i < w → (l.flatMap enc)[j * w + i]? = (enc x)[i]?
  | [], j, _, x, h, _ => by simp at h
  | y :: l, 0, i, x, h, hi => by
    simp at h
    subst h
    rw [Nat.zero_mul, Nat.zero_add, List.flatMap_cons, List.getElem?_append_left (by rw [hw]; exact hi)]
  | y :: l, j + 1, i, x, h, hi => by
    rw [List.flatMap_cons, List.getElem?_append_right (by rw [hw, Nat.succ_mul]; omega), hw, show (j + 1) * w + i - w = j * w + i by rw [Nat.succ_mul]; omega]
    exact arr_get hw l j i x (by simpa using h) hi
theorem ax {α : Type} {enc : α → List Value} {w : Nat} (hw : ∀ x, (enc x).length = w) {h : Heap} {p : Option Addr} {l : List α} {N : Nat} (C : Arr enc h p l) (hn : l.length = N) {j : Nat} {i : Int} (hi : i = (j : Int)) {x : α} (hx : l[j]? = some x) (w0 : 0 < w) {Q : Nat → Nat → Prop}
    (kk : ∀ b o, p = some ⟨b, o, none⟩ → (∀ i, i < w → h.cell b (o + (j : Int).toNat * w + i) = (enc x)[i]?) → Q b o) : 0 ≤ i ∧ i < (N : Int) ∧ withAddr p Q := by
  subst hi hn
  have hj : j < l.length := (List.getElem?_eq_some_iff.1 hx).1
  have hjw : (j + 1) * w ≤ l.length * w := Nat.mul_le_mul_right _ hj
  rw [Nat.succ_mul] at hjw
  rcases C with e | ⟨b, o, e, r⟩
  · have := congrArg List.length e
    rw [arr_len hw, List.length_nil] at this
    omega
  · exact ⟨by omega, by omega, withAddr_intro e (kk b o e fun i hi => by rw [Int.toNat_natCast, Nat.add_assoc, r _ (by rw [arr_len hw]; omega), arr_get hw l j i x hx hi])⟩
theorem arr_of {α : Type} {enc : α → List Value} {P : α → Prop} {e : Sh} {h : Heap} {p : Option Addr} {n c : Nat} (H : (Sh.sl e).Has h [.slice p n c]) (dec : ∀ vs, e.Has h vs → ∃ x, vs = enc x ∧ P x) :
    n ≤ c ∧ c ≤ 9223372036854775807 ∧ ∃ l : List α, l.length = n ∧ Arr enc h p l ∧ ∀ x ∈ l, P x := by
  obtain ⟨h1, h2, L, hL, hA, hR⟩ := Sh.Has.list H
  refine ⟨h1, h2, ?_⟩
  have : ∀ L : List (List Value), (∀ vs ∈ L, vs.length = e.n ∧ e.Has h vs) → ∃ l : List α, l.length = L.length ∧ L.flatten = l.flatMap enc ∧ ∀ x ∈ l, P x := by
    intro L
    induction L with
    | nil => exact fun _ => ⟨[], rfl, rfl, fun _ hn => (by cases hn)⟩
    | cons a L ih =>
      intro hA
      obtain ⟨l, e1, e2, e3⟩ := ih (fun vs hv => hA vs (List.mem_cons_of_mem _ hv))
      obtain ⟨x, hx, px⟩ := dec a (hA a (List.mem_cons_self ..)).2
      refine ⟨x :: l, by simp [e1], by rw [List.flatten_cons, e2, List.flatMap_cons, hx], fun y hy => ?_⟩
      rcases List.mem_cons.1 hy with rfl | hy
      · exact px
      · exact e3 y hy
  obtain ⟨l, e1, e2, e3⟩ := this L hA
  exact ⟨l, by rw [e1, hL], by unfold Arr; rw [← e2]; exact hR, e3⟩
end Go.Proofs.Ytghdadniddoboaa
