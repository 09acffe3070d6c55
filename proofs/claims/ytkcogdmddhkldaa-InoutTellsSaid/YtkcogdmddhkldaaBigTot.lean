/- The reference's sum of many amounts, all at once and step by step. -/
import Derived.Test.YtkcogdmddhkldaaBigSum
namespace Go.Proofs.Ytkcogdmddhkldaa
open Go Go.Sy Go.Value
set_option linter.unusedVariables false
set_option linter.unusedSimpArgs false

theorem ints_set_box {h : Heap} {q : Option Addr} {l : List Int} {b : Nat} {x : Bool} {p : Option Addr} {n c : Nat} {ws : List Value} (r : Ints .i64 h q l) (a : At h b [.bool x, slice p n c]) : Ints .i64 (h.setN b 0 ws) q l := by
  by_cases hl : l = []
  · subst hl; exact .inl rfl
  have hq := ints_not_box r a hl
  rcases r with r | ⟨b', o, e, r⟩
  · exact .inl r
  · refine .inr ⟨b', o, e, fun j hj => ?_⟩
    have := r j hj
    unfold Heap.cell at this ⊢
    rw [setN_other (fun e2 => hq o (by rw [e, e2]))]
    exact this
end Go.Proofs.Ytkcogdmddhkldaa
