/- Boxes in memory: what stands in them, when they are written, and lists that grow. -/
import Derived.Test.YtghdadniddoboaaFwLib
namespace Go.Sy
/-- a box, whole -/
def At (h : Heap) (b : Nat) (vs : List Value) : Prop := ∃ T, h b = some (.cells vs.toArray T (0, 0))
theorem At.le {h h' : Heap} {b : Nat} {vs : List Value} (a : At h b vs) (l : h.le h') : At h' b vs := a.elim fun T e => ⟨T, l _ _ e⟩
theorem At.cell {h : Heap} {b o : Nat} {vs : List Value} {v : Value} (a : At h b vs) (e : vs[o]? = some v) : h.cell b o = some v := by
  obtain ⟨T, ea⟩ := a
  unfold Heap.cell
  rw [ea]
  simpa using e
theorem At.canSt {h : Heap} {b o n : Nat} {vs : List Value} (a : At h b vs) (e : o + n ≤ vs.length) : h.canSt b o n := by
  obtain ⟨T, ea⟩ := a
  exact ⟨_, T, ea, by simpa using e⟩
theorem At.new (h : Heap) (r : Nat) (vs : List Value) (T : TypeId) : At (h.ins r (.cells vs.toArray T (0, 0))) r vs := ⟨T, by unfold Heap.ins; rw [if_pos rfl]⟩
theorem At.ins {h : Heap} {b r : Nat} {vs : List Value} {x : Obj} (a : At h b vs) (e : h r = none) : At (h.ins r x) b vs := a.le (le_ins e)
theorem At.ne {h : Heap} {b r : Nat} {vs : List Value} (a : At h b vs) (e : h r = none) : b ≠ r := fun x => by
  obtain ⟨T, ea⟩ := a
  rw [x, e] at ea; cases ea
theorem At.set {h : Heap} {b o : Nat} {vs ws : List Value} (a : At h b vs) : At (h.setN b o ws) b (setL vs o ws) := by
  obtain ⟨T, ea⟩ := a
  refine ⟨T, ?_⟩
  unfold Heap.setN
  rw [Nat.beq_refl, ea]
theorem At.set_ne {h : Heap} {b b' o : Nat} {vs ws : List Value} (a : At h b vs) (e : b ≠ b') : At (h.setN b' o ws) b vs := by
  obtain ⟨T, ea⟩ := a
  exact ⟨T, by rw [setN_other e]; exact ea⟩
/-- what was not there before may be written -/
theorem le_setN {h0 h : Heap} {b o : Nat} {ws : List Value} (l : h0.le h) (e : h0 b = none) : h0.le (h.setN b o ws) := fun x y hx => by
  rw [setN_other (fun e2 => by rw [e2, e] at hx; cases hx)]
  exact l x y hx
theorem le_ins2 {h0 h : Heap} {r : Nat} {x : Obj} (l : h0.le h) (e : h r = none) : h0.le (h.ins r x) := Heap.le_trans l (le_ins e)
theorem none_of_le {h0 h : Heap} {r : Nat} (l : h0.le h) (e : h r = none) : h0 r = none := by
  cases hx : h0 r with
  | none => rfl
  | some y => rw [l r y hx] at e; cases e
theorem At.toRd {h : Heap} {b : Nat} {vs ws : List Value} (a : At h b (vs ++ ws)) : rdL h (some ⟨b, 0, none⟩) vs := by
  refine .inr ⟨b, 0, rfl, fun j hj => ?_⟩
  rw [List.getElem?_eq_getElem hj, Nat.zero_add]
  exact a.cell (by rw [List.getElem?_append_left hj, List.getElem?_eq_getElem hj])

/-- A list of its own, that may grow: nothing that was there before holds it. -/
def OwnL (h0 h : Heap) (z : List Value) (p : Option Addr) (c : Nat) (vs : List Value) : Prop :=
  (vs = [] ∧ p = none ∧ c = 0) ∨ ∃ r sp, p = some ⟨r, 0, none⟩ ∧ h0 r = none ∧ At h r (vs ++ sp) ∧ c * z.length = (vs ++ sp).length
theorem OwnL.nil (h0 h : Heap) (z : List Value) : OwnL h0 h z none 0 [] := .inl ⟨rfl, rfl, rfl⟩
theorem OwnL.rd {h0 h : Heap} {z : List Value} {p : Option Addr} {c : Nat} {vs : List Value} (o : OwnL h0 h z p c vs) : rdL h p vs := by
  rcases o with ⟨rfl, _, _⟩ | ⟨r, sp, rfl, _, a, _⟩
  · exact .inl rfl
  · exact a.toRd
theorem OwnL.le {h0 h h' : Heap} {z : List Value} {p : Option Addr} {c : Nat} {vs : List Value} (o : OwnL h0 h z p c vs) (l : h.le h') : OwnL h0 h' z p c vs := by
  rcases o with o | ⟨r, sp, e, e0, a, k⟩
  · exact .inl o
  · exact .inr ⟨r, sp, e, e0, a.le l, k⟩
theorem OwnL.set_ne {h0 h : Heap} {z : List Value} {p : Option Addr} {c b o : Nat} {vs ws : List Value} (x : OwnL h0 h z p c vs) (e : p ≠ some ⟨b, 0, none⟩) : OwnL h0 (h.setN b o ws) z p c vs := by
  rcases x with x | ⟨r, sp, rfl, e0, a, k⟩
  · exact .inl x
  · exact .inr ⟨r, sp, rfl, e0, a.set_ne (fun e2 => e (by rw [e2])), k⟩
theorem setL_end : ∀ (ws old sp : List Value), ws.length ≤ sp.length → setL (old ++ sp) old.length ws = old ++ ws ++ sp.drop ws.length
  | [], old, sp, _ => by simp [setL]
  | w :: ws, old, s :: sp, h => by
    rw [setL, setT_eq]
    have e : (old ++ s :: sp).set old.length w = (old ++ [w]) ++ sp := by simp
    rw [e]
    have := setL_end ws (old ++ [w]) sp (by simpa using h)
    simp only [List.length_append, List.length_cons, List.length_nil] at this
    rw [Nat.zero_add] at this
    rw [this]
    simp
  | w :: ws, old, [], h => by simp at h
/-- One more behind it. -/
theorem OwnL.push2 {h0 h : Heap} {z : List Value} {t : TypeId} {p a : Option Addr} {len c n : Nat} {vs ws : List Value} {J : Option Addr → Nat → Heap → Prop} (x : OwnL h0 h z p c vs) (_hz : 0 < z.length)
    (l : h0.le h) (hlen : len + n ≤ 1073741824) (hw : ws.length = n * z.length) (rw' : rdL h a ws) (aw : allCells ws = true) (hv : vs.length = len * z.length)
    (k : ∀ p' c' h', h0.le h' → OwnL h0 h' z p' c' (vs ++ ws) → (∀ b y, h b = some y → p ≠ some ⟨b, 0, none⟩ → h' b = some y) → (p' = p ∨ ∃ r, p' = some ⟨r, 0, none⟩ ∧ h r = none) → J p' c' h') :
    AppA z t h p len c n a J := by
  refine AppA.mk vs ws hlen hw rw' aw hv x.rd ?_ ?_
  · intro hc
    rcases x with ⟨rfl, rfl, rfl⟩ | ⟨r, sp, rfl, e0, at', k2⟩
    · exact .inl (List.length_eq_zero_iff.1 (by rw [hw]; have : n = 0 := by omega
                                                subst this; omega))
    · refine .inr ⟨r, 0, rfl, at'.canSt ?_⟩
      rw [List.length_append] at *
      rw [Nat.zero_add, ← hv, hw]
      have : (len + n) * z.length ≤ c * z.length := Nat.mul_le_mul_right _ hc
      rw [Nat.add_mul] at this
      omega
  · intro p' c' h' hcap rd keep how
    rcases how with ⟨rfl, rfl, e⟩ | ⟨hgrow, r, rfl, hr, rfl⟩
    · rcases e with rfl | ⟨b, o, rfl, cs, rfl⟩
      · -- nothing written
        have : ws = [] ∨ ws ≠ [] := Classical.em _
        rcases this with rfl | hne
        · refine k _ _ _ l (by rw [List.append_nil]; exact x) (fun b y e _ => e) (.inl rfl)
        · refine k _ _ _ l ?_ (fun b y e _ => e) (.inl rfl)
          rcases x with ⟨rfl, rfl, rfl⟩ | ⟨r, sp, rfl, e0, at', k2⟩
          · rcases rd with rd | ⟨b, o, e, _⟩
            · exact (hne (by simpa using rd)).elim
            · cases e
          · refine .inr ⟨r, sp.drop ws.length, rfl, e0, ?_, ?_⟩
            · -- they stand there already
              have hroom : ws.length ≤ sp.length := by
                rw [List.length_append] at k2
                have : (len + n) * z.length ≤ c' * z.length := Nat.mul_le_mul_right _ hcap
                rw [Nat.add_mul] at this
                omega
              have e2 : vs ++ ws ++ sp.drop ws.length = vs ++ sp := by
                rcases rd with rd | ⟨b, o, e, rd⟩
                · exact (hne (List.append_eq_nil_iff.1 rd).2).elim
                · cases e
                  rw [List.append_assoc]
                  congr 1
                  refine List.ext_getElem? fun i => ?_
                  by_cases hi : i < ws.length
                  · rw [List.getElem?_append_left hi]
                    have g := rd (vs.length + i) (by rw [List.length_append]; omega)
                    rw [List.getElem?_append_right (by omega), Nat.add_sub_cancel_left, Nat.zero_add] at g
                    rw [← g]
                    have hi2 : i < sp.length := by omega
                    rw [List.getElem?_eq_getElem hi2]
                    exact at'.cell (by rw [List.getElem?_append_right (by omega), Nat.add_sub_cancel_left, List.getElem?_eq_getElem hi2])
                  · rw [List.getElem?_append_right (by omega), List.getElem?_drop]
                    congr 1; omega
              rw [e2]; exact at'
            · rw [k2]
              have hroom : ws.length ≤ sp.length := by
                rw [List.length_append] at k2
                have : (len + n) * z.length ≤ c' * z.length := Nat.mul_le_mul_right _ hcap
                rw [Nat.add_mul] at this
                omega
              simp only [List.length_append, List.length_drop]
              omega
      · rcases x with ⟨_, e, _⟩ | ⟨r, sp, e, e0, at', k2⟩
        · cases e
        · cases e
          have hroom : ws.length ≤ sp.length := by
            rw [List.length_append] at k2
            have : (len + n) * z.length ≤ c' * z.length := Nat.mul_le_mul_right _ hcap
            rw [Nat.add_mul] at this
            omega
          have at2 := at'.set (o := len * z.length) (ws := ws)
          rw [← hv, setL_end ws vs sp hroom] at at2
          rw [Nat.zero_add, ← hv]
          refine k _ _ _ (le_setN l e0) (.inr ⟨_, _, rfl, e0, at2, ?_⟩) (fun b y e hb => by rw [setN_other (fun e2 => hb (by rw [e2]))]; exact e) (.inl rfl)
          rw [k2]
          simp only [List.length_append, List.length_drop]
          omega
    · refine k _ _ _ (le_ins2 l hr) (.inr ⟨r, repL (c' - (len + n)) z, rfl, none_of_le l hr, At.new _ _ _ _, ?_⟩) (fun b y e _ => le_ins hr _ _ e) (.inr ⟨r, rfl, hr⟩)
      rw [List.length_append, List.length_append, repL_length, hv, hw, ← Nat.add_mul, ← Nat.add_mul]
      congr 1; omega
theorem OwnL.push {h0 h : Heap} {z : List Value} {t : TypeId} {p a : Option Addr} {len c n : Nat} {vs ws : List Value} {J : Option Addr → Nat → Heap → Prop} (x : OwnL h0 h z p c vs) (_hz : 0 < z.length)
    (l : h0.le h) (hlen : len + n ≤ 1073741824) (hw : ws.length = n * z.length) (rw' : rdL h a ws) (aw : allCells ws = true) (hv : vs.length = len * z.length)
    (k : ∀ p' c' h', h0.le h' → OwnL h0 h' z p' c' (vs ++ ws) → (∀ b xs, At h b xs → p ≠ some ⟨b, 0, none⟩ → At h' b xs) → (p' = p ∨ ∃ r, p' = some ⟨r, 0, none⟩ ∧ h r = none) → J p' c' h') :
    AppA z t h p len c n a J := x.push2 _hz l hlen hw rw' aw hv fun p' c' h' l' w' keep how => k p' c' h' l' w' (fun b _ a hb => a.elim fun T e => ⟨T, keep b _ e hb⟩) how
/-- a box of one's own, written at once; new ones; a list that grows by one -/
theorem newB_cp {h : Heap} {z vs : List Value} {T : TypeId} {J : Nat → Heap → Prop} (hv : vs.length = z.length) (k : ∀ r h1, h r = none → h.le (h1.setN r 0 vs) → At (h1.setN r 0 vs) r vs → h1.canSt r 0 z.length → J r h1) : newB h z T J := fun r hr => by
  refine k r _ hr (le_setN (le_ins hr) hr) ?_ (canSt_ins _ _ _ _ _ _ (by omega))
  have := (At.new h r z T).set (o := 0) (ws := vs)
  have e := setL_end vs [] z (by omega)
  rw [List.nil_append, List.nil_append, hv, List.drop_length, List.append_nil] at e
  rw [show ([] : List Value).length = 0 from rfl] at e
  rw [e] at this
  exact this
theorem newB_at {h : Heap} {z : List Value} {T : TypeId} {J : Nat → Heap → Prop} (k : ∀ r h1, h r = none → h.le h1 → At h1 r z → J r h1) : newB h z T J := fun r hr => k r _ hr (le_ins hr) (At.new h r z T)
theorem push1 {h0 h : Heap} {z ws : List Value} {T t : TypeId} {p : Option Addr} {len c : Nat} {vs : List Value} {J : Nat → Heap → Option Addr → Nat → Heap → Prop} (x : OwnL h0 h z p c vs) (hz : 0 < z.length) (l : h0.le h) (hlen : len + 1 ≤ 1073741824)
    (hw : ws.length = z.length) (aw : allCells ws = true) (hv : vs.length = len * z.length)
    (k : ∀ r h1 p' c' h', h r = none → h.le h1 → h0.le h' → OwnL h0 h' z p' c' (vs ++ ws) → (∀ b y, h1 b = some y → p ≠ some ⟨b, 0, none⟩ → h' b = some y) → (p' = p ∨ ∃ s, p' = some ⟨s, 0, none⟩ ∧ h1 s = none) → J r h1 p' c' h') :
    newB h ws T fun r h1 => AppA z t h1 p len c 1 (some ⟨r, 0, none⟩) (J r h1) := fun r hr =>
  (x.le (le_ins hr)).push2 hz (Heap.le_trans l (le_ins hr)) hlen (by omega) (rdL_new _ _ _ _ _) aw hv fun p' c' h' l' w' keep how => k r _ p' c' h' hr (le_ins hr) l' w' keep how
theorem keepAt {h h' : Heap} {p : Option Addr} (keep : ∀ b y, h b = some y → p ≠ some ⟨b, 0, none⟩ → h' b = some y) {b : Nat} {xs : List Value} (a : At h b xs) (e : p ≠ some ⟨b, 0, none⟩) : At h' b xs := a.elim fun T e2 => ⟨T, keep b _ e2 e⟩
theorem push_ne {h : Heap} {p p' : Option Addr} {b : Nat} {xs : List Value} (how : p' = p ∨ ∃ s, p' = some ⟨s, 0, none⟩ ∧ h s = none) (a : At h b xs) (e : p ≠ some ⟨b, 0, none⟩) : p' ≠ some ⟨b, 0, none⟩ := fun e2 => by
  rcases how with rfl | ⟨s, e3, hs⟩
  · exact e e2
  · rw [e3] at e2; cases e2; exact a.ne hs rfl
theorem OwnL.mv {h0 h h' : Heap} {z : List Value} {p : Option Addr} {c : Nat} {vs : List Value} (x : OwnL h0 h z p c vs) (k : ∀ b xs, p = some ⟨b, 0, none⟩ → At h b xs → At h' b xs) : OwnL h0 h' z p c vs := by
  rcases x with x | ⟨r, sp, e, e0, a, q⟩
  · exact .inl x
  · exact .inr ⟨r, sp, e, e0, k _ _ e a, q⟩
theorem OwnL.fresh {h0 h : Heap} {z : List Value} {p : Option Addr} {c r : Nat} {vs : List Value} (x : OwnL h0 h z p c vs) (hr : h r = none) : p ≠ some ⟨r, 0, none⟩ := fun e => by
  rcases x with ⟨_, q, _⟩ | ⟨s, sp, q, _, a, _⟩
  · rw [q] at e; cases e
  · rw [q] at e; cases e; exact a.ne hr rfl
theorem w1 {j : Nat} (h : j ≤ 4000000000000000000) : IntKind.wrap .i64 ((j : Int) + 1) = ((j + 1 : Nat) : Int) := by rw [wrap_i64_id (by omega) (by omega)]; omega
end Go.Sy
