/- Lists in memory, read by number; new lists; errors as numbers. -/
import Derived.Test.YtkcogdmddhkldaaFwOff
import Derived.Test.YtkcogdmddhkldaaFwShape
namespace Go.Proofs.Ytkcogdmddhkldaa
open Go Go.Sy Go.Value
set_option linter.unusedVariables false

/-- an element of a list in memory, read -/
theorem ix {k : IntKind} {h : Heap} {a : Option Addr} {l : List Int} {N : Nat} (I : Ints k h a l) (hn : l.length = N) {j : Nat} {i : Int} (hi : i = (j : Int)) {x : Int} (hx : l[j]? = some x) {Q : Int → Prop} (kk : Q x) :
    0 ≤ i ∧ i < (N : Int) ∧ withAddr a fun b o => ∃ n, h.cell b (o + i.toNat) = some (.int k n) ∧ Q n := by
  subst hi hn
  have hj : j < l.length := (List.getElem?_eq_some_iff.1 hx).1
  obtain ⟨b, o, e, hc⟩ := I.at hj
  refine ⟨by omega, by omega, withAddr_intro e ⟨x, ?_, kk⟩⟩
  have : l[j] = x := by rw [List.getElem?_eq_getElem hj] at hx; exact Option.some.inj hx
  rw [Int.toNat_natCast, hc, this]
theorem ix0 {k : IntKind} {h : Heap} {a : Option Addr} {l : List Int} {N : Nat} (I : Ints k h a l) (hn : l.length = N) {x : Int} (hx : l[0]? = some x) {Q : Int → Prop} (kk : Q x) :
    (0 : Int) ≤ 0 ∧ (0 : Int) < (N : Int) ∧ withAddr a fun b o => ∃ n, h.cell b o = some (.int k n) ∧ Q n := by
  have := ix I hn (i := 0) (j := 0) rfl hx kk
  exact this

def errB (b : Bool) : Int := if b then 0 else 1
theorem own_new {h : Heap} {r : Nat} {T : TypeId} {z : List Value} (hr : h r = none) : OwnL h (h.ins r (.cells [].toArray T (0, 0))) z (some ⟨r, 0, none⟩) 0 [] :=
  .inr ⟨r, [], rfl, hr, At.new h r [] T, by simp⟩
end Go.Proofs.Ytkcogdmddhkldaa
