/- A call that is shown nothing of a block can hand nothing back that lies in it. -/
import Derived.Test.YtghdadniddoboaaFwAt
namespace Go.Sy
/-- The frame, and that what the call doesn't know is in none of what it tells. -/
theorem CallA.frame2 {P : Program} {f : FuncId} {args : List Value} {h h0 : Heap} {K : Value → Heap → Prop} (c : CallA P f args h0 K) (l : h0.le h) :
    CallA P f args h fun v h' => ∃ h0', K v h0' ∧ h0'.le h' ∧ (∀ r o, h r = some o → h0 r = none → h' r = some o) ∧ (∀ r o, h r = some o → h0 r = none → h0' r = none) := fun w r =>
  ⟨(c w (r.le l)).1, (c w (r.le l)).2.mono fun _ w' ⟨v, h0', e, k, r', fr⟩ => by
    have hdis : ∀ x o, h x = some o → h0 x = none → h0' x = none := fun x o hx hn => fr.dom x (lt_of_rep r hx) hn
    refine ⟨v, fun x => match h0' x with | some o => some o | none => if h0 x = none then h x else none, e, ⟨h0', k, ?_, ?_, hdis⟩, ?_, ?_⟩
    · intro x o hx; simp only [hx]
    · intro x o hx hn; simp only [hdis x o hx hn, hn, if_true]; exact hx
    · intro x o hx
      dsimp only at hx
      cases h1 : h0' x with
      | some o1 => rw [h1] at hx; cases hx; exact r' _ _ h1
      | none =>
        rw [h1] at hx
        by_cases hn : h0 x = none
        · simp only [hn, if_true] at hx
          rw [fr.keep x (lt_of_rep r hx) hn]; exact r _ _ hx
        · simp only [hn, if_false] at hx; cases hx
    · refine ⟨fr.os, fr.tape, fr.output, fr.size, (fr.more l).keep, fun x hx hn => ?_⟩
      have h1 := (fr.more l).dom x hx hn
      simp only [h1, hn]
      split <;> rfl⟩
/-- without one block -/
def Heap.del (h : Heap) (m : Nat) : Heap := fun x => if x = m then none else h x
theorem del_le (h : Heap) (m : Nat) : (h.del m).le h := fun x o e => by
  unfold Heap.del at e
  split at e
  · cases e
  · exact e
theorem del_same (h : Heap) (m : Nat) : h.del m m = none := by unfold Heap.del; rw [if_pos rfl]
theorem le_del {h0 h : Heap} {m : Nat} (l : h0.le h) (e : h0 m = none) : h0.le (h.del m) := fun x o hx => by
  unfold Heap.del
  rw [if_neg (fun e2 => by rw [e2, e] at hx; cases hx)]
  exact l x o hx
theorem At.del {h : Heap} {b m : Nat} {vs : List Value} (a : At h b vs) (e : b ≠ m) : At (h.del m) b vs := by
  obtain ⟨T, ea⟩ := a
  exact ⟨T, by unfold Heap.del; rw [if_neg e]; exact ea⟩
/-- A call that isn't shown a block: what it tells lies elsewhere, and the block stays. -/
theorem CallA.off {P : Program} {f : FuncId} {args : List Value} {h : Heap} {m : Nat} {vs : List Value} {K : Value → Heap → Prop} (am : At h m vs)
    (c : CallA P f args (h.del m) fun v h' => ∀ h'', h'.le h'' → h' m = none → h'' m = h m → K v h'') : CallA P f args h K :=
  (c.frame2 (del_le h m)).mono fun v h' ⟨h0', k, l, keep, off⟩ => by
    obtain ⟨T, ea⟩ := am
    exact k h' l (off m _ ea (del_same h m)) (by rw [ea]; exact keep m _ ea (del_same h m))
theorem le_of_del {h h' : Heap} {m : Nat} (l : (h.del m).le h') (e : h' m = h m) : h.le h' := fun x o hx => by
  by_cases hm : x = m
  · rw [hm, e, ← hm]; exact hx
  · exact l x o (by unfold Heap.del; rw [if_neg hm]; exact hx)
theorem del_mono {h h' : Heap} {m : Nat} (l : h.le h') : (h.del m).le (h'.del m) := fun x o hx => by
  unfold Heap.del at hx ⊢
  split at hx
  · cases hx
  · rename_i hm
    rw [if_neg hm]; exact l x o hx
theorem del_set {h : Heap} {m o : Nat} {ws : List Value} : (h.setN m o ws).del m = h.del m := by
  funext x
  unfold Heap.del
  by_cases hm : x = m
  · rw [if_pos hm, if_pos hm]
  · rw [if_neg hm, if_neg hm, setN_other hm]
theorem del_setN {h : Heap} {b m o : Nat} {ws : List Value} (e : b ≠ m) : (h.setN b o ws).del m = (h.del m).setN b o ws := by
  funext x
  by_cases hm : x = m
  · rw [setN_other (fun e2 => e (by rw [← e2, hm]))]
    unfold Heap.del
    rw [if_pos hm, if_pos hm]
  · by_cases hb : x = b
    · subst hb
      unfold Heap.del Heap.setN
      simp [e]
    · rw [setN_other hb]
      unfold Heap.del
      rw [if_neg hm, if_neg hm, setN_other hb]
theorem rd_del {h : Heap} {m : Nat} {p : Option Addr} {vs : List Value} (r : rdL h p vs) (e : ∀ o, p ≠ some ⟨m, o, none⟩) : rdL (h.del m) p vs := by
  rcases r with r | ⟨b, o, hp, r⟩
  · exact .inl r
  · refine .inr ⟨b, o, hp, fun j hj => ?_⟩
    have := r j hj
    unfold Heap.cell at this ⊢
    unfold Heap.del
    rw [if_neg (fun e2 => e o (by rw [hp, e2]))]
    exact this
/-- without some blocks -/
def Heap.wo (h : Heap) (D : Nat → Bool) : Heap := fun x => if D x = true then none else h x
theorem wo_le (h : Heap) (D : Nat → Bool) : (h.wo D).le h := fun x o e => by
  unfold Heap.wo at e
  split at e
  · cases e
  · exact e
theorem wo_none {h : Heap} {D : Nat → Bool} {x : Nat} (e : D x = true) : h.wo D x = none := by unfold Heap.wo; rw [if_pos e]
theorem wo_get {h : Heap} {D : Nat → Bool} {x : Nat} (e : D x = false) : h.wo D x = h x := by unfold Heap.wo; rw [if_neg (by rw [e]; decide)]
theorem le_wo {g h : Heap} {D : Nat → Bool} (l : g.le h) (e : ∀ x, D x = true → g x = none) : g.le (h.wo D) := fun x o hx => by
  cases hd : D x with
  | true => rw [e x hd] at hx; cases hx
  | false => rw [wo_get hd]; exact l x o hx
theorem At.wo {h : Heap} {b : Nat} {vs : List Value} {D : Nat → Bool} (a : At h b vs) (e : D b = false) : At (h.wo D) b vs := by
  obtain ⟨T, ea⟩ := a
  exact ⟨T, by rw [wo_get e]; exact ea⟩
theorem rd_wo {h : Heap} {D : Nat → Bool} {p : Option Addr} {vs : List Value} (r : rdL h p vs) (e : ∀ b o, p = some ⟨b, o, none⟩ → D b = false) : rdL (h.wo D) p vs := by
  rcases r with r | ⟨b, o, hp, r⟩
  · exact .inl r
  · refine .inr ⟨b, o, hp, fun j hj => ?_⟩
    have := r j hj
    unfold Heap.cell at this ⊢
    rw [wo_get (e b o hp)]
    exact this
end Go.Sy
