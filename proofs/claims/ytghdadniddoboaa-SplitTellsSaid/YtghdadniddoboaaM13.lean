import Derived.Test.YtghdadniddoboaaM03
import Derived.Test.YtghdadniddoboaaM09
import Derived.Test.YtghdadniddoboaaM12
/- The law SplitTells: shares, evenly, and rooms filled, are as the document says. -/
namespace Go.Proofs.Ytghdadniddoboaa
open Go Go.Sy Go.Value
set_option linter.unusedVariables false
set_option linter.unusedSimpArgs false

theorem law02_SplitTells_ok {t : Int} (ht : I64 t) {l : List Int} {p : Option Addr} {ln c : Nat} {h : Heap} (i : Ints .i64 h p l) (hn : l.length = ln) (hl : ln * 8 ≤ 140737488351232)
    (hI : allI64 l) {parts : Int} (hp : I64 parts) : CallA Try.prog fn_law02_SplitTells [int .i64 t, slice p ln c, int .i64 parts] h fun v h' => v = .bool true ∧ h.le h' := by
  refine F_law02_SplitTells _ _ _ _ _ _ _ ?_
  unfold F_law02_SplitTellsT
  have fin : ∀ h', h.le h' → Ret h' (fun v h' => v = .bool true ∧ h.le h') (.bool true) := fun h' l => ⟨h', h'.le_refl, rfl, l⟩
  refine S_law02_awake fun h1 l1 => ⟨_, rfl, Br.no rfl (Br.dec (fun _ => fin _ l1) fun g => ?_)⟩
  refine S_Shares (i.le l1) hn (by omega) hI ht fun pa ca h2 l2 A => ⟨_, _, _, _, rfl, ?_⟩
  have l02 := Heap.le_trans l1 l2
  refine S_RShares (i.le l02) hn hI ht fun pb cb h3 l3 B => ⟨_, _, _, _, rfl, ?_⟩
  have l03 := Heap.le_trans l02 l3
  refine S_Even ht fun pc cc h4 l4 C => ⟨_, _, _, _, rfl, ?_⟩
  refine S_REven ht fun pd cd h5 l5 D => ⟨_, _, _, _, rfl, ?_⟩
  have l05 := Heap.le_trans l03 (Heap.le_trans l4 l5)
  refine S_FillS (i.le l05) hn (by omega) hI ht fun pe ce h6 l6 E => ⟨_, _, _, _, _, rfl, ?_⟩
  refine S_RFill ((i.le l05).le l6) hn hI ht fun pf cf h7 l7 F => ⟨_, _, _, _, _, rfl, ?_⟩
  have l57 := Heap.le_trans l6 l7
  have l47 := Heap.le_trans l5 l57
  have l37 := Heap.le_trans l4 l47
  have sh : ∀ x : List Int, x.length ≤ 1000 → x.length ≤ 1099511627776 := fun x h => by omega
  have len1 : (sharesR t l).1.length ≤ 1000 := by
    unfold sharesR
    split <;> (try split) <;> (try split) <;> (try split) <;> (try split) <;> simp only [List.length_nil, sharesL_len] <;> omega
  have len2 : (evenR t parts).1.length ≤ 1000 := by
    unfold evenR
    split
    · simp
    split
    · simp
    split
    · simp
    unfold sharesR
    have : (ones parts.toNat).length ≤ 64 := by simp [ones]; omega
    split <;> (try split) <;> (try split) <;> (try split) <;> (try split) <;> simp only [List.length_nil, sharesL_len] <;> omega
  have len3 : (fillR l t).1.length ≤ 1000 := by
    unfold fillR
    split <;> (try split) <;> (try split) <;> simp only [List.length_nil, fillS_len] <;> omega
  refine S_Same2 (A.le (Heap.le_trans l3 l37)) (B.le l37) rfl rfl (by omega) ⟨_, rfl, Br.yes (by simp) (Br.yes (by simp) ?_)⟩
  refine S_Same2 (C.le l47) (D.le l57) rfl rfl (by omega) ⟨_, rfl, Br.yes (by simp) (Br.yes (by simp) ?_)⟩
  refine S_Same2 (E.le l7) F rfl rfl (by omega) ⟨_, rfl, Br.yes (by simp) (Br.yes (by simp) ?_)⟩
  rw [show ((fillR l t).2.2 == (fillR l t).2.2) = true by simp]
  exact fin _ (Heap.le_trans l05 l57)
end Go.Proofs.Ytghdadniddoboaa
