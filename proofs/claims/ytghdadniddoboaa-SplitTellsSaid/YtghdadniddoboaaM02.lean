import Derived.Test.YtghdadniddoboaaM01
import Derived.SizedLaws
import Derived.ChangeSlices
/- What a row hands over, as the framework reads it. -/
namespace Go.Sy
open Go.ChangeShapes Go.WideShapes
theorem open_ints_row {H : Type} {enc : TypeId × Value → H} {P : Program} {W : World} {base : Nat} {spare : Nat → Bool} {held : Bool} {t e : TypeId} {k : IntKind} {a : Option Addr} {len cap : Nat} {d : DataW H} {ps : List MemPlace} {ts : List TypeId} {ds : List (DataW H)} {j : Nat}
    (hsz : (DataW.weightsEach P ts ds).all (· ≤ reachBytes) = true) (ht : ts[j]? = some t) (hd : ds[j]? = some d) (hu : P.underlying t = some (.slice e)) (he : P.underlying e = some (.int k)) (hc : P.cellsOf e = 1) {B : Nat} (hB : P.bytesOf e = B)
    (h : DataW.Trod enc P W base spare held t (.slice a len cap) d ps) :
    ∃ l, Ints k (heapOf W) a l ∧ l.length = len ∧ len * B ≤ 140737488351232 ∧ ∀ n ∈ l, (Lit.int k n).wf = true := by
  obtain ⟨fuel, hf⟩ := h
  rcases open_ints hu he hc hf with ⟨hcs, _⟩ | ⟨x, l, c, zs, hcs, _, hl, _, hz, hx, hcell, hw⟩
  · simp [Value.cells] at hcs
    obtain ⟨rfl, rfl, rfl⟩ := hcs
    exact ⟨[], .inl rfl, rfl, by omega, fun n hn => by cases hn⟩
  · simp [Value.cells] at hcs
    obtain ⟨rfl, rfl, rfl⟩ := hcs
    obtain ⟨hx, _⟩ := Prod.mk.inj hx
    subst hx
    have z := sized_slice hsz ht hd hu
    rw [hB] at z
    have hl2 : len ≤ zs.length := by
      rw [hz]
      split
      · exact hl
      · exact Nat.le_refl _
    have h1 : (lits (H := H) k (zs.take len)).length + (lits (H := H) k (zs.drop len)).length = zs.length := by
      simp [lits]
      omega
    rw [h1] at z
    have hlen : (zs.take len).length = len := by rw [List.length_take]; omega
    refine ⟨zs.take len, ?_, hlen, Nat.le_trans (Nat.mul_le_mul_right _ hl2) z, fun n hn => hw n (List.mem_of_mem_take hn)⟩
    by_cases h0 : len = 0
    · subst h0; exact .inl rfl
    · have sp : x.spot = none := by
        have c0 := hcell 0 (by omega)
        unfold World.cell? at c0
        split at c0
        · split at c0
          · cases c0
          · rename_i hs
            have e0 : x.add 0 = x := rfl
            rw [e0] at hs
            simpa using hs
        · cases c0
      obtain ⟨b, o, s⟩ := x
      dsimp only at sp
      subst sp
      refine .inr ⟨b, o, rfl, fun i hi => ?_⟩
      rw [intsV_length, hlen] at hi
      have ci := hcell i (by omega)
      rw [Addr.add_none] at ci
      have c2 : (heapOf W).cell b (o + i) = some (.int k (zs.getD i 0)) := by
        unfold World.cell? at ci
        unfold Heap.cell heapOf
        dsimp only at ci ⊢
        cases hb : W.heap[b]? with
        | none => rw [hb] at ci; cases ci
        | some x =>
          rw [hb] at ci
          cases x <;> first | cases ci | simpa using ci
      rw [c2, intsV_map, List.getElem?_map, List.getElem?_take_of_lt hi, List.getD_eq_getElem?_getD]
      have : i < zs.length := by omega
      rw [List.getElem?_eq_getElem this]
      rfl
end Go.Sy
