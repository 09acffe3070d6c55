import Derived.Test.YtgjeecaombnmiaaGreatM01
import Derived.SizedLaws
import Derived.ChangeSlices
import Derived.DataReads
import Derived.RangeFuncRecord
import Derived.LoopNIn
import Derived.Scope
/- Boxes in memory: what stands in them, when they are written, and lists that grow. -/
namespace Go.Sy
def At (h : Heap) (b : Nat) (vs : List Value) : Prop := ∃ T, h b = some (.cells vs.toArray T (0, 0))
theorem At.le {h h' : Heap} {b : Nat} {vs : List Value} (a : At h b vs) (l : h.le h') : At h' b vs := a.elim fun T e => ⟨T, l _ _ e⟩
theorem At.cell {h : Heap} {b o : Nat} {vs : List Value} {v : Value} (a : At h b vs) (e : vs[o]? = some v) : h.cell b o = some v := by
  obtain ⟨T, ea⟩ := a
  unfold Heap.cell
  rw [ea]
  simpa using e
theorem At.canSt {h : Heap} {b o n : Nat} {vs : List Value} (a : At h b vs) (e : o + n ≤ vs.length) : h.canSt b o n := by
  obtain ⟨T, ea⟩ := a
  exact ⟨_, T, ea, by simpa using e⟩
theorem At.new (h : Heap) (r : Nat) (vs : List Value) (T : TypeId) : At (h.ins r (.cells vs.toArray T (0, 0))) r vs := ⟨T, by unfold Heap.ins; rw [if_pos rfl]⟩
theorem At.ins {h : Heap} {b r : Nat} {vs : List Value} {x : Obj} (a : At h b vs) (e : h r = none) : At (h.ins r x) b vs := a.le (qb e)
theorem At.ne {h : Heap} {b r : Nat} {vs : List Value} (a : At h b vs) (e : h r = none) : b ≠ r := fun x => by
  obtain ⟨T, ea⟩ := a
  rw [x, e] at ea; cases ea
theorem At.set {h : Heap} {b o : Nat} {vs ws : List Value} (a : At h b vs) : At (h.setN b o ws) b (qh vs o ws) := by
  obtain ⟨T, ea⟩ := a
  refine ⟨T, ?_⟩
  unfold Heap.setN
  rw [Nat.beq_refl, ea]
theorem At.set_ne {h : Heap} {b b' o : Nat} {vs ws : List Value} (a : At h b vs) (e : b ≠ b') : At (h.setN b' o ws) b vs := by
  obtain ⟨T, ea⟩ := a
  exact ⟨T, by rw [q3 e]; exact ea⟩
theorem qS {h0 h : Heap} {b o : Nat} {ws : List Value} (l : h0.le h) (e : h0 b = none) : h0.le (h.setN b o ws) := fun x y hx => by
  rw [q3 (fun e2 => by rw [e2, e] at hx; cases hx)]
  exact l x y hx
theorem qHw {h0 h : Heap} {r : Nat} {x : Obj} (l : h0.le h) (e : h r = none) : h0.le (h.ins r x) := Heap.le_trans l (qb e)
theorem qJ {h0 h : Heap} {r : Nat} (l : h0.le h) (e : h r = none) : h0 r = none := by
  cases hx : h0 r with
  | none => rfl
  | some y => rw [l r y hx] at e; cases e
theorem At.toRd {h : Heap} {b : Nat} {vs ws : List Value} (a : At h b (vs ++ ws)) : rdL h (some ⟨b, 0, none⟩) vs := by
  refine .inr ⟨b, 0, rfl, fun j hj => ?_⟩
  rw [List.getElem?_eq_getElem hj, Nat.zero_add]
  exact a.cell (by rw [List.getElem?_append_left hj, List.getElem?_eq_getElem hj])

def OwnL (h0 h : Heap) (z : List Value) (p : Option Addr) (c : Nat) (vs : List Value) : Prop :=
  (vs = [] ∧ p = none ∧ c = 0) ∨ ∃ r sp, p = some ⟨r, 0, none⟩ ∧ h0 r = none ∧ At h r (vs ++ sp) ∧ c * z.length = (vs ++ sp).length
theorem OwnL.nil (h0 h : Heap) (z : List Value) : OwnL h0 h z none 0 [] := .inl ⟨rfl, rfl, rfl⟩
theorem OwnL.rd {h0 h : Heap} {z : List Value} {p : Option Addr} {c : Nat} {vs : List Value} (o : OwnL h0 h z p c vs) : rdL h p vs := by
  rcases o with ⟨rfl, _, _⟩ | ⟨r, sp, rfl, _, a, _⟩
  · exact .inl rfl
  · exact a.toRd
theorem OwnL.le {h0 h h' : Heap} {z : List Value} {p : Option Addr} {c : Nat} {vs : List Value} (o : OwnL h0 h z p c vs) (l : h.le h') : OwnL h0 h' z p c vs := by
  rcases o with o | ⟨r, sp, e, e0, a, k⟩
  · exact .inl o
  · exact .inr ⟨r, sp, e, e0, a.le l, k⟩
theorem OwnL.set_ne {h0 h : Heap} {z : List Value} {p : Option Addr} {c b o : Nat} {vs ws : List Value} (x : OwnL h0 h z p c vs) (e : p ≠ some ⟨b, 0, none⟩) : OwnL h0 (h.setN b o ws) z p c vs := by
  rcases x with x | ⟨r, sp, rfl, e0, a, k⟩
  · exact .inl x
  · exact .inr ⟨r, sp, rfl, e0, a.set_ne (fun e2 => e (by rw [e2])), k⟩
theorem qGo : ∀ (ws old sp : List Value), ws.length ≤ sp.length → qh (old ++ sp) old.length ws = old ++ ws ++ sp.drop ws.length
  | [], old, sp, _ => by simp [qh]
  | w :: ws, old, s :: sp, h => by
    rw [qh, qBR]
    have e : (old ++ s :: sp).set old.length w = (old ++ [w]) ++ sp := by simp
    rw [e]
    have := qGo ws (old ++ [w]) sp (by simpa using h)
    simp only [List.length_append, List.length_cons, List.length_nil] at this
    rw [Nat.zero_add] at this
    rw [this]
    simp
  | w :: ws, old, [], h => by simp at h
theorem OwnL.push2 {h0 h : Heap} {z : List Value} {t : TypeId} {p a : Option Addr} {len c n : Nat} {vs ws : List Value} {J : Option Addr → Nat → Heap → Prop} (x : OwnL h0 h z p c vs) (_hz : 0 < z.length)
    (l : h0.le h) (hlen : len + n ≤ 1073741824) (hw : ws.length = n * z.length) (rw' : rdL h a ws) (aw : qAG ws = true) (hv : vs.length = len * z.length)
    (k : ∀ p' c' h', h0.le h' → OwnL h0 h' z p' c' (vs ++ ws) → (∀ b y, h b = some y → p ≠ some ⟨b, 0, none⟩ → h' b = some y) → (p' = p ∨ ∃ r, p' = some ⟨r, 0, none⟩ ∧ h r = none) → J p' c' h') :
    AppA z t h p len c n a J := by
  refine AppA.mk vs ws hlen hw rw' aw hv x.rd ?_ ?_
  · intro hc
    rcases x with ⟨rfl, rfl, rfl⟩ | ⟨r, sp, rfl, e0, at', k2⟩
    · exact .inl (List.length_eq_zero_iff.1 (by rw [hw]; have : n = 0 := by omega
                                                subst this; omega))
    · refine .inr ⟨r, 0, rfl, at'.canSt ?_⟩
      rw [List.length_append] at *
      rw [Nat.zero_add, ← hv, hw]
      have : (len + n) * z.length ≤ c * z.length := Nat.mul_le_mul_right _ hc
      rw [Nat.add_mul] at this
      omega
  · intro p' c' h' hcap rd keep how
    rcases how with ⟨rfl, rfl, e⟩ | ⟨hgrow, r, rfl, hr, rfl⟩
    · rcases e with rfl | ⟨b, o, rfl, cs, rfl⟩
      · -- nothing written
        have : ws = [] ∨ ws ≠ [] := Classical.em _
        rcases this with rfl | hne
        · refine k _ _ _ l (by rw [List.append_nil]; exact x) (fun b y e _ => e) (.inl rfl)
        · refine k _ _ _ l ?_ (fun b y e _ => e) (.inl rfl)
          rcases x with ⟨rfl, rfl, rfl⟩ | ⟨r, sp, rfl, e0, at', k2⟩
          · rcases rd with rd | ⟨b, o, e, _⟩
            · exact (hne (by simpa using rd)).elim
            · cases e
          · refine .inr ⟨r, sp.drop ws.length, rfl, e0, ?_, ?_⟩
            · -- they stand there already
              have hroom : ws.length ≤ sp.length := by
                rw [List.length_append] at k2
                have : (len + n) * z.length ≤ c' * z.length := Nat.mul_le_mul_right _ hcap
                rw [Nat.add_mul] at this
                omega
              have e2 : vs ++ ws ++ sp.drop ws.length = vs ++ sp := by
                rcases rd with rd | ⟨b, o, e, rd⟩
                · exact (hne (List.append_eq_nil_iff.1 rd).2).elim
                · cases e
                  rw [List.append_assoc]
                  congr 1
                  refine List.ext_getElem? fun i => ?_
                  by_cases hi : i < ws.length
                  · rw [List.getElem?_append_left hi]
                    have g := rd (vs.length + i) (by rw [List.length_append]; omega)
                    rw [List.getElem?_append_right (by omega), Nat.add_sub_cancel_left, Nat.zero_add] at g
                    rw [← g]
                    have hi2 : i < sp.length := by omega
                    rw [List.getElem?_eq_getElem hi2]
                    exact at'.cell (by rw [List.getElem?_append_right (by omega), Nat.add_sub_cancel_left, List.getElem?_eq_getElem hi2])
                  · rw [List.getElem?_append_right (by omega), List.getElem?_drop]
                    congr 1; omega
              rw [e2]; exact at'
            · rw [k2]
              have hroom : ws.length ≤ sp.length := by
                rw [List.length_append] at k2
                have : (len + n) * z.length ≤ c' * z.length := Nat.mul_le_mul_right _ hcap
                rw [Nat.add_mul] at this
                omega
              simp only [List.length_append, List.length_drop]
              omega
      · rcases x with ⟨_, e, _⟩ | ⟨r, sp, e, e0, at', k2⟩
        · cases e
        · cases e
          have hroom : ws.length ≤ sp.length := by
            rw [List.length_append] at k2
            have : (len + n) * z.length ≤ c' * z.length := Nat.mul_le_mul_right _ hcap
            rw [Nat.add_mul] at this
            omega
          have at2 := at'.set (o := len * z.length) (ws := ws)
          rw [← hv, qGo ws vs sp hroom] at at2
          rw [Nat.zero_add, ← hv]
          refine k _ _ _ (qS l e0) (.inr ⟨_, _, rfl, e0, at2, ?_⟩) (fun b y e hb => by rw [q3 (fun e2 => hb (by rw [e2]))]; exact e) (.inl rfl)
          rw [k2]
          simp only [List.length_append, List.length_drop]
          omega
    · refine k _ _ _ (qHw l hr) (.inr ⟨r, q4 (c' - (len + n)) z, rfl, qJ l hr, At.new _ _ _ _, ?_⟩) (fun b y e _ => qb hr _ _ e) (.inr ⟨r, rfl, hr⟩)
      rw [List.length_append, List.length_append, qCS, hv, hw, ← Nat.add_mul, ← Nat.add_mul]
      congr 1; omega
theorem OwnL.push {h0 h : Heap} {z : List Value} {t : TypeId} {p a : Option Addr} {len c n : Nat} {vs ws : List Value} {J : Option Addr → Nat → Heap → Prop} (x : OwnL h0 h z p c vs) (_hz : 0 < z.length)
    (l : h0.le h) (hlen : len + n ≤ 1073741824) (hw : ws.length = n * z.length) (rw' : rdL h a ws) (aw : qAG ws = true) (hv : vs.length = len * z.length)
    (k : ∀ p' c' h', h0.le h' → OwnL h0 h' z p' c' (vs ++ ws) → (∀ b xs, At h b xs → p ≠ some ⟨b, 0, none⟩ → At h' b xs) → (p' = p ∨ ∃ r, p' = some ⟨r, 0, none⟩ ∧ h r = none) → J p' c' h') :
    AppA z t h p len c n a J := x.push2 _hz l hlen hw rw' aw hv fun p' c' h' l' w' keep how => k p' c' h' l' w' (fun b _ a hb => a.elim fun T e => ⟨T, keep b _ e hb⟩) how
theorem qEE {h : Heap} {z vs : List Value} {T : TypeId} {J : Nat → Heap → Prop} (hv : vs.length = z.length) (k : ∀ r h1, h r = none → h.le (h1.setN r 0 vs) → At (h1.setN r 0 vs) r vs → h1.canSt r 0 z.length → J r h1) : qQ h z T J := fun r hr => by
  refine k r _ hr (qS (qb hr) hr) ?_ (qIC _ _ _ _ _ _ (by omega))
  have := (At.new h r z T).set (o := 0) (ws := vs)
  have e := qGo vs [] z (by omega)
  rw [List.nil_append, List.nil_append, hv, List.drop_length, List.append_nil] at e
  rw [show ([] : List Value).length = 0 from rfl] at e
  rw [e] at this
  exact this
theorem ql {h : Heap} {z : List Value} {T : TypeId} {J : Nat → Heap → Prop} (k : ∀ r h1, h r = none → h.le h1 → At h1 r z → J r h1) : qQ h z T J := fun r hr => k r _ hr (qb hr) (At.new h r z T)
theorem qJw {h0 h : Heap} {z ws : List Value} {T t : TypeId} {p : Option Addr} {len c : Nat} {vs : List Value} {J : Nat → Heap → Option Addr → Nat → Heap → Prop} (x : OwnL h0 h z p c vs) (hz : 0 < z.length) (l : h0.le h) (hlen : len + 1 ≤ 1073741824)
    (hw : ws.length = z.length) (aw : qAG ws = true) (hv : vs.length = len * z.length)
    (k : ∀ r h1 p' c' h', h r = none → h.le h1 → h0.le h' → OwnL h0 h' z p' c' (vs ++ ws) → (∀ b y, h1 b = some y → p ≠ some ⟨b, 0, none⟩ → h' b = some y) → (p' = p ∨ ∃ s, p' = some ⟨s, 0, none⟩ ∧ h1 s = none) → J r h1 p' c' h') :
    qQ h ws T fun r h1 => AppA z t h1 p len c 1 (some ⟨r, 0, none⟩) (J r h1) := fun r hr =>
  (x.le (qb hr)).push2 hz (Heap.le_trans l (qb hr)) hlen (by omega) (qI4 _ _ _ _ _) aw hv fun p' c' h' l' w' keep how => k r _ p' c' h' hr (qb hr) l' w' keep how
theorem qEH {h h' : Heap} {p : Option Addr} (keep : ∀ b y, h b = some y → p ≠ some ⟨b, 0, none⟩ → h' b = some y) {b : Nat} {xs : List Value} (a : At h b xs) (e : p ≠ some ⟨b, 0, none⟩) : At h' b xs := a.elim fun T e2 => ⟨T, keep b _ e2 e⟩
theorem qF8 {h : Heap} {p p' : Option Addr} {b : Nat} {xs : List Value} (how : p' = p ∨ ∃ s, p' = some ⟨s, 0, none⟩ ∧ h s = none) (a : At h b xs) (e : p ≠ some ⟨b, 0, none⟩) : p' ≠ some ⟨b, 0, none⟩ := fun e2 => by
  rcases how with rfl | ⟨s, e3, hs⟩
  · exact e e2
  · rw [e3] at e2; cases e2; exact a.ne hs rfl
theorem OwnL.mv {h0 h h' : Heap} {z : List Value} {p : Option Addr} {c : Nat} {vs : List Value} (x : OwnL h0 h z p c vs) (k : ∀ b xs, p = some ⟨b, 0, none⟩ → At h b xs → At h' b xs) : OwnL h0 h' z p c vs := by
  rcases x with x | ⟨r, sp, e, e0, a, q⟩
  · exact .inl x
  · exact .inr ⟨r, sp, e, e0, k _ _ e a, q⟩
theorem OwnL.fresh {h0 h : Heap} {z : List Value} {p : Option Addr} {c r : Nat} {vs : List Value} (x : OwnL h0 h z p c vs) (hr : h r = none) : p ≠ some ⟨r, 0, none⟩ := fun e => by
  rcases x with ⟨_, q, _⟩ | ⟨s, sp, q, _, a, _⟩
  · rw [q] at e; cases e
  · rw [q] at e; cases e; exact a.ne hr rfl
theorem w1 {j : Nat} (h : j ≤ 4000000000000000000) : IntKind.wrap .i64 ((j : Int) + 1) = ((j + 1 : Nat) : Int) := by rw [qO (by omega) (by omega)]; omega
end Go.Sy

/- A call that is shown nothing of a block can hand nothing back that lies in it. -/
namespace Go.Sy
theorem CallA.frame2 {P : Program} {f : FuncId} {args : List Value} {h h0 : Heap} {K : Value → Heap → Prop} (c : CallA P f args h0 K) (l : h0.le h) :
    CallA P f args h fun v h' => ∃ h0', K v h0' ∧ h0'.le h' ∧ (∀ r o, h r = some o → h0 r = none → h' r = some o) ∧ (∀ r o, h r = some o → h0 r = none → h0' r = none) := fun w r =>
  ⟨(c w (r.le l)).1, (c w (r.le l)).2.mono fun _ w' ⟨v, h0', e, k, r', fr⟩ => by
    have hdis : ∀ x o, h x = some o → h0 x = none → h0' x = none := fun x o hx hn => fr.dom x (qEL r hx) hn
    refine ⟨v, fun x => match h0' x with | some o => some o | none => if h0 x = none then h x else none, e, ⟨h0', k, ?_, ?_, hdis⟩, ?_, ?_⟩
    · intro x o hx; simp only [hx]
    · intro x o hx hn; simp only [hdis x o hx hn, hn, if_true]; exact hx
    · intro x o hx
      dsimp only at hx
      cases h1 : h0' x with
      | some o1 => rw [h1] at hx; cases hx; exact r' _ _ h1
      | none =>
        rw [h1] at hx
        by_cases hn : h0 x = none
        · simp only [hn, if_true] at hx
          rw [fr.keep x (qEL r hx) hn]; exact r _ _ hx
        · simp only [hn, if_false] at hx; cases hx
    · refine ⟨fr.os, fr.tape, fr.output, fr.size, (fr.more l).keep, fun x hx hn => ?_⟩
      have h1 := (fr.more l).dom x hx hn
      simp only [h1, hn]
      split <;> rfl⟩
def Heap.del (h : Heap) (m : Nat) : Heap := fun x => if x = m then none else h x
theorem qXj (h : Heap) (m : Nat) : (h.del m).le h := fun x o e => by
  unfold Heap.del at e
  split at e
  · cases e
  · exact e
theorem qQu (h : Heap) (m : Nat) : h.del m m = none := by unfold Heap.del; rw [if_pos rfl]
theorem At.del {h : Heap} {b m : Nat} {vs : List Value} (a : At h b vs) (e : b ≠ m) : At (h.del m) b vs := by
  obtain ⟨T, ea⟩ := a
  exact ⟨T, by unfold Heap.del; rw [if_neg e]; exact ea⟩
theorem CallA.off {P : Program} {f : FuncId} {args : List Value} {h : Heap} {m : Nat} {vs : List Value} {K : Value → Heap → Prop} (am : At h m vs)
    (c : CallA P f args (h.del m) fun v h' => ∀ h'', h'.le h'' → h' m = none → h'' m = h m → K v h'') : CallA P f args h K :=
  (c.frame2 (qXj h m)).mono fun v h' ⟨h0', k, l, keep, off⟩ => by
    obtain ⟨T, ea⟩ := am
    exact k h' l (off m _ ea (qQu h m)) (by rw [ea]; exact keep m _ ea (qQu h m))
def Heap.wo (h : Heap) (D : Nat → Bool) : Heap := fun x => if D x = true then none else h x
theorem qMl (h : Heap) (D : Nat → Bool) : (h.wo D).le h := fun x o e => by
  unfold Heap.wo at e
  split at e
  · cases e
  · exact e
theorem qF3 {h : Heap} {D : Nat → Bool} {x : Nat} (e : D x = true) : h.wo D x = none := by unfold Heap.wo; rw [if_pos e]
theorem qJS {h : Heap} {D : Nat → Bool} {x : Nat} (e : D x = false) : h.wo D x = h x := by unfold Heap.wo; rw [if_neg (by rw [e]; decide)]
theorem qJd {g h : Heap} {D : Nat → Bool} (l : g.le h) (e : ∀ x, D x = true → g x = none) : g.le (h.wo D) := fun x o hx => by
  cases hd : D x with
  | true => rw [e x hd] at hx; cases hx
  | false => rw [qJS hd]; exact l x o hx
theorem At.wo {h : Heap} {b : Nat} {vs : List Value} {D : Nat → Bool} (a : At h b vs) (e : D b = false) : At (h.wo D) b vs := by
  obtain ⟨T, ea⟩ := a
  exact ⟨T, by rw [qJS e]; exact ea⟩
theorem qPy {h : Heap} {D : Nat → Bool} {p : Option Addr} {vs : List Value} (r : rdL h p vs) (e : ∀ b o, p = some ⟨b, o, none⟩ → D b = false) : rdL (h.wo D) p vs := by
  rcases r with r | ⟨b, o, hp, r⟩
  · exact .inl r
  · refine .inr ⟨b, o, hp, fun j hj => ?_⟩
    have := r j hj
    unfold Heap.cell at this ⊢
    rw [qJS (e b o hp)]
    exact this
end Go.Sy

/- What an argument of any shape holds, as the framework reads it: numbers, truths, texts, structs, and slices of all these. -/
namespace Go.Sy
open Go.ChangeShapes Go.WideShapes
inductive Sh where
  | int (k : IntKind) | bool | str | sl (e : Sh) | nil | two (a b : Sh)
def Sh.n : Sh → Nat
  | .int _ => 1
  | .bool => 1
  | .str => 1
  | .sl _ => 1
  | .nil => 0
  | .two a b => a.n + b.n
def Sh.Has (h : Heap) : Sh → List Value → Prop
  | .int k, cs => ∃ n : Int, cs = [.int k n] ∧ (Lit.int k n).wf = true
  | .bool, cs => ∃ b : Bool, cs = [.bool b]
  | .str, cs => ∃ s : ByteArray, cs = [.string s] ∧ s.size ≤ 9223372036854775807
  | .sl e, cs => ∃ (p : Option Addr) (len cap : Nat), cs = [.slice p len cap] ∧ len ≤ cap ∧ cap ≤ 9223372036854775807 ∧ (p = none → len = 0) ∧
      ∀ i, i < len → ∃ (b o : Nat) (vs : List Value), p = some ⟨b, o, none⟩ ∧ vs.length = e.n ∧ (∀ j, j < e.n → h.cell b (o + (i * e.n + j)) = vs[j]?) ∧ Sh.Has h e vs
  | .nil, cs => cs = []
  | .two a b, cs => ∃ xs ys, cs = xs ++ ys ∧ xs.length = a.n ∧ Sh.Has h a xs ∧ Sh.Has h b ys
theorem Sh.Has.length {h : Heap} : ∀ {s : Sh} {cs : List Value}, s.Has h cs → cs.length = s.n
  | .int k, cs, hs => by obtain ⟨n, rfl, _⟩ := hs; rfl
  | .bool, cs, hs => by obtain ⟨n, rfl⟩ := hs; rfl
  | .str, cs, hs => by obtain ⟨n, rfl, _⟩ := hs; rfl
  | .sl e, cs, hs => by obtain ⟨p, l, c, rfl, _⟩ := hs; rfl
  | .nil, cs, hs => by cases hs; rfl
  | .two a b, cs, hs => by
    obtain ⟨xs, ys, rfl, hx, _, hy⟩ := hs
    rw [List.length_append, hx, Sh.Has.length hy]; rfl
theorem Sh.Has.le {h h' : Heap} (l : h.le h') : ∀ {s : Sh} {cs : List Value}, s.Has h cs → s.Has h' cs
  | .int k, cs, hs => hs
  | .bool, cs, hs => hs
  | .str, cs, hs => hs
  | .nil, cs, hs => hs
  | .sl e, cs, hs => by
    obtain ⟨p, len, cap, rfl, h1, h2, h3, h4⟩ := hs
    refine ⟨p, len, cap, rfl, h1, h2, h3, fun i hi => ?_⟩
    obtain ⟨b, o, vs, e1, e2, e3, e4⟩ := h4 i hi
    refine ⟨b, o, vs, e1, e2, fun j hj => ?_, Sh.Has.le l e4⟩
    have := e3 j hj
    rw [List.getElem?_eq_getElem (by omega)] at this ⊢
    exact qSG l this
  | .two a b, cs, hs => by
    obtain ⟨xs, ys, rfl, hx, h1, h2⟩ := hs
    exact ⟨xs, ys, rfl, hx, Sh.Has.le l h1, Sh.Has.le l h2⟩
mutual
def Sh.fits (P : Program) : Sh → TypeId → Bool
  | .int k, t => match P.underlying t with
    | some (.int k') => qNk k' k
    | _ => false
  | .bool, t => match P.underlying t with
    | some .bool => true
    | _ => false
  | .str, t => match P.underlying t with
    | some .string => true
    | _ => false
  | .sl e, t => match P.underlying t with
    | some (.slice u) => match Nat.beq (P.cellsOf u) e.n, Nat.ble 1 e.n with
      | true, true => Sh.fits P e u
      | _, _ => false
    | _ => false
  | .two a b, t => match P.underlying t with
    | some (.struct fs) => match fs.toList with
      | f :: r => match Nat.beq f.offset 0, Nat.beq (P.cellsOf f.type) a.n, Nat.beq (P.cellsOf t) (a.n + b.n), Sh.fits P a f.type with
        | true, true, true, true => Sh.fitsF P b r a.n
        | _, _, _, _ => false
      | [] => false
    | _ => false
  | .nil, _ => false
def Sh.fitsF (P : Program) : Sh → List Field → Nat → Bool
  | .two a b, f :: r, off => match Nat.beq f.offset off, Nat.beq (P.cellsOf f.type) a.n, Sh.fits P a f.type with
    | true, true, true => Sh.fitsF P b r (off + a.n)
    | _, _, _ => false
  | .nil, [], _ => true
  | _, _, _ => false
end
theorem qPk {W : World} {b o : Nat} {v : Option Value} (ci : W.cell? ⟨b, o, none⟩ = v) (hv : v.isSome = true) : (qHd W).cell b o = v := by
  obtain ⟨x, rfl⟩ := Option.isSome_iff_exists.1 hv
  unfold World.cell? at ci
  unfold Heap.cell qHd
  dsimp only at ci ⊢
  cases hb : W.heap[b]? with
  | none => rw [hb] at ci; cases ci
  | some y =>
    rw [hb] at ci
    cases y <;> first | cases ci | simpa using ci
theorem qPi {W : World} {a : Addr} {v : Value} (c0 : W.cell? a = some v) : a.spot = none := by
  unfold World.cell? at c0
  split at c0
  · split at c0
    · cases c0
    · rename_i hs
      simpa using hs
  · cases c0
section
variable {H : Type} {enc : TypeId × Value → H} {P : Program} {W : World} {base : Nat} {spare : Nat → Bool} {held : Bool}
mutual
theorem Sh.of_trod : ∀ (s : Sh) (t : TypeId), s.fits P t = true → ∀ {fuel : Nat} {cs : List Value} {x : DataW H × List MemPlace}, DataW.trod enc P W base spare held fuel t cs = some x → s.Has (qHd W) cs
  | .int k, t, hf, fuel, cs, x, ht => by
    unfold Sh.fits at hf
    split at hf
    · rename_i k' hu
      have := qI5 hf
      subst this
      cases fuel with
      | zero => simp [DataW.trod] at ht
      | succ n =>
        unfold DataW.trod at ht
        rw [hu] at ht
        split at ht <;> simp_all
        exact ⟨_, rfl, ht.1.2⟩
    · cases hf
  | .bool, t, hf, fuel, cs, x, ht => by
    unfold Sh.fits at hf
    split at hf
    · rename_i hu
      cases fuel with
      | zero => simp [DataW.trod] at ht
      | succ n =>
        unfold DataW.trod at ht
        rw [hu] at ht
        split at ht <;> simp_all
        exact ⟨_, rfl⟩
    · cases hf
  | .str, t, hf, fuel, cs, x, ht => by
    unfold Sh.fits at hf
    split at hf
    · rename_i hu
      cases fuel with
      | zero => simp [DataW.trod] at ht
      | succ n =>
        unfold DataW.trod at ht
        rw [hu] at ht
        split at ht <;> simp_all
        exact ⟨_, rfl, ht.1⟩
    · cases hf
  | .sl e, t, hf, fuel, cs, x, ht => by
    unfold Sh.fits at hf
    split at hf
    · rename_i u hu
      split at hf
      · rename_i h1 h2
        have h1 := Nat.eq_of_beq_eq_true h1
        have h2 := Nat.le_of_ble_eq_true h2
        rcases DataW.trod_slice hu ht with ⟨rfl, _⟩ | ⟨a, len, cap, elems, rest, n, _, rfl, _, _, hl, hm, hlen, hel, _⟩
        · exact ⟨none, 0, 0, rfl, Nat.le_refl _, by omega, fun _ => rfl, fun i hi => absurd hi (by omega)⟩
        · refine ⟨some a, len, cap, rfl, hl, hm, fun e => (by cases e), fun i hi => ?_⟩
          have g := hel i hi
          rw [List.getElem?_eq_getElem (by omega)] at g
          obtain ⟨vs, hv, ht2⟩ := Option.bind_eq_some_iff.1 g
          obtain ⟨_, hcl, hat⟩ := World.cells?_some hv
          rw [h1] at hcl hat
          have hs := Sh.of_trod e u hf ht2
          have sp : a.spot = none := by
            have g0 := hel 0 (by omega)
            rw [List.getElem?_eq_getElem (by omega)] at g0
            obtain ⟨v0, hv0, _⟩ := Option.bind_eq_some_iff.1 g0
            obtain ⟨_, hcl0, hat0⟩ := World.cells?_some hv0
            have c0 := hat0 0 (by omega)
            rw [List.getElem?_eq_getElem (by omega), Nat.zero_mul] at c0
            exact qPi c0
          obtain ⟨b, o, s⟩ := a
          dsimp only at sp
          subst sp
          refine ⟨b, o, vs, rfl, hcl, fun j hj => ?_, hs⟩
          have cj := hat j hj
          rw [Addr.add_none, Addr.add_none] at cj
          have := qPk cj (by rw [List.getElem?_eq_getElem (by omega)]; rfl)
          rw [← this, Nat.add_assoc]
      · cases hf
    · cases hf
  | .nil, t, hf, _, _, _, _ => by cases hf
  | .two a b, t, hf, fuel, cs, x, ht => by
    unfold Sh.fits at hf
    split at hf
    · rename_i fs hu
      split at hf
      · rename_i f r hfs
        split at hf
        · rename_i h1 h2 h3 h4
          have h1 := Nat.eq_of_beq_eq_true h1
          have h2 := Nat.eq_of_beq_eq_true h2
          have h3 := Nat.eq_of_beq_eq_true h3
          obtain ⟨xs, n, _, _, hcl, hlen, hat⟩ := DataW.trod_struct hu ht
          have hsz : fs.size = r.length + 1 := by rw [← Array.length_toList, hfs]; rfl
          have g0 := hat 0 f (by rw [← Array.getElem?_toList, hfs]; rfl)
          rw [List.getElem?_eq_getElem (by omega), h1, h2, List.drop_zero] at g0
          refine ⟨cs.take a.n, cs.drop a.n, (List.take_append_drop _ _).symm, by rw [List.length_take]; omega, Sh.of_trod a f.type h4 g0, ?_⟩
          refine Sh.of_trodF b r a.n hf (cs := cs) (by omega) (fun i f' hf' => ?_)
          have := hat (i + 1) f' (by rw [← Array.getElem?_toList, hfs]; simpa using hf')
          have hi : i < r.length := (List.getElem?_eq_some_iff.1 hf').1
          rw [List.getElem?_eq_getElem (by omega)] at this
          exact ⟨_, _, this⟩
        · cases hf
      · cases hf
    · cases hf
theorem Sh.of_trodF : ∀ (s : Sh) (r : List Field) (off : Nat), s.fitsF P r off = true → ∀ {cs : List Value}, cs.length = off + s.n →
    (∀ (i : Nat) (f : Field), r[i]? = some f → ∃ (n : Nat) (x : DataW H × List MemPlace), DataW.trod enc P W base spare held n f.type ((cs.drop f.offset).take (P.cellsOf f.type)) = some x) → s.Has (qHd W) (cs.drop off)
  | .two a b, [], off, hf, _, _, _ => by simp [Sh.fitsF] at hf
  | .two a b, f :: r, off, hf, cs, hl, hat => by
    unfold Sh.fitsF at hf
    split at hf
    · rename_i h1 h2 h4
      have h1 := Nat.eq_of_beq_eq_true h1
      have h2 := Nat.eq_of_beq_eq_true h2
      obtain ⟨n, x, g0⟩ := hat 0 f rfl
      rw [h1, h2] at g0
      have hl2 : cs.length = off + (a.n + b.n) := hl
      refine ⟨(cs.drop off).take a.n, (cs.drop off).drop a.n, (List.take_append_drop _ _).symm, by rw [List.length_take, List.length_drop]; omega, Sh.of_trod a f.type h4 g0, ?_⟩
      rw [List.drop_drop]
      exact Sh.of_trodF b r (off + a.n) hf (by omega) (fun i f' hf' => hat (i + 1) f' (by simpa using hf'))
    · cases hf
  | .nil, [], off, hf, cs, hl, _ => by
    have hl2 : cs.length = off + 0 := hl
    show cs.drop off = []
    exact List.drop_eq_nil_of_le (by omega)
  | .nil, f :: r, off, hf, _, _, _ => by simp [Sh.fitsF] at hf
  | .int k, r, off, hf, _, _, _ => by cases r <;> simp [Sh.fitsF] at hf
  | .bool, r, off, hf, _, _, _ => by cases r <;> simp [Sh.fitsF] at hf
  | .str, r, off, hf, _, _, _ => by cases r <;> simp [Sh.fitsF] at hf
  | .sl e, r, off, hf, _, _, _ => by cases r <;> simp [Sh.fitsF] at hf
end
end
theorem Sh.Has.list {h : Heap} {e : Sh} {p : Option Addr} {len cap : Nat} (hs : (Sh.sl e).Has h [.slice p len cap]) :
    len ≤ cap ∧ cap ≤ 9223372036854775807 ∧ ∃ L : List (List Value), L.length = len ∧ (∀ vs ∈ L, vs.length = e.n ∧ e.Has h vs) ∧ rdL h p L.flatten := by
  obtain ⟨p', len', cap', hc, h1, h2, h3, h4⟩ := hs
  cases hc
  refine ⟨h1, h2, ?_⟩
  have build : ∀ m, m ≤ len → ∃ L : List (List Value), L.length = m ∧ (∀ vs ∈ L, vs.length = e.n ∧ e.Has h vs) ∧
      ∀ b o, p = some ⟨b, o, none⟩ → ∀ j, j < L.flatten.length → h.cell b (o + j) = L.flatten[j]? := by
    intro m
    induction m with
    | zero => exact fun _ => ⟨[], rfl, fun _ hv => (by cases hv), fun _ _ _ j hj => absurd hj (by simp)⟩
    | succ m ih =>
      intro hm
      obtain ⟨L, hL, hA, hR⟩ := ih (by omega)
      obtain ⟨b, o, vs, e1, e2, e3, e4⟩ := h4 m (by omega)
      have hfl : ∀ L : List (List Value), (∀ vs ∈ L, vs.length = e.n ∧ e.Has h vs) → L.flatten.length = L.length * e.n := by
        intro L
        induction L with
        | nil => intro _; simp
        | cons a L ih2 =>
          intro hA
          rw [List.flatten_cons, List.length_append, ih2 (fun vs hv => hA vs (List.mem_cons_of_mem _ hv)), (hA a (List.mem_cons_self ..)).1, List.length_cons, Nat.succ_mul]
          omega
      refine ⟨L ++ [vs], by simp [hL], fun ws hw => ?_, fun b' o' e' j hj => ?_⟩
      · rcases List.mem_append.1 hw with hw | hw
        · exact hA ws hw
        · rw [List.mem_singleton] at hw; rw [hw]; exact ⟨e2, e4⟩
      · have hf := hfl L hA
        rw [List.flatten_append, List.flatten_singleton] at hj ⊢
        rw [List.length_append] at hj
        rw [e1] at e'
        cases e'
        by_cases hj2 : j < L.flatten.length
        · rw [List.getElem?_append_left hj2]; exact hR b o e1 j hj2
        · rw [List.getElem?_append_right (by omega), hf, hL]
          have g := e3 (j - m * e.n) (by rw [hf, hL] at hj2 hj; omega)
          rw [← g]
          congr 1
          rw [hf, hL] at hj2
          omega
  obtain ⟨L, hL, hA, hR⟩ := build len (Nat.le_refl _)
  refine ⟨L, hL, hA, ?_⟩
  cases hp : p with
  | none =>
    have := h3 hp
    have : L = [] := List.length_eq_zero_iff.1 (by omega)
    subst this
    exact .inl rfl
  | some a =>
    by_cases h0 : len = 0
    · have : L = [] := List.length_eq_zero_iff.1 (by omega)
      subst this
      exact .inl rfl
    · obtain ⟨b, o, vs, e1, _⟩ := h4 0 (by omega)
      rw [hp] at e1
      cases e1
      exact .inr ⟨b, o, rfl, hR b o hp⟩
theorem Sh.Has.ints {h : Heap} {k : IntKind} {p : Option Addr} {len cap : Nat} (hs : (Sh.sl (.int k)).Has h [.slice p len cap]) :
    len ≤ cap ∧ cap ≤ 9223372036854775807 ∧ ∃ l : List Int, l.length = len ∧ Ints k h p l ∧ ∀ n ∈ l, (Lit.int k n).wf = true := by
  obtain ⟨h1, h2, L, hL, hA, hR⟩ := hs.list
  refine ⟨h1, h2, ?_⟩
  have : ∀ L : List (List Value), (∀ vs ∈ L, vs.length = (Sh.int k).n ∧ (Sh.int k).Has h vs) → ∃ l : List Int, l.length = L.length ∧ L.flatten = qK k l ∧ ∀ n ∈ l, (Lit.int k n).wf = true := by
    intro L
    induction L with
    | nil => exact fun _ => ⟨[], rfl, rfl, fun _ hn => (by cases hn)⟩
    | cons a L ih =>
      intro hA
      obtain ⟨l, e1, e2, e3⟩ := ih (fun vs hv => hA vs (List.mem_cons_of_mem _ hv))
      obtain ⟨n, rfl, hw⟩ := (hA a (List.mem_cons_self ..)).2
      refine ⟨n :: l, by simp [e1], by rw [List.flatten_cons, e2]; rfl, fun m hm => ?_⟩
      rcases List.mem_cons.1 hm with rfl | hm
      · exact hw
      · exact e3 m hm
  obtain ⟨l, e1, e2, e3⟩ := this L hA
  exact ⟨l, by rw [e1, hL], by unfold Ints; rw [← e2]; exact hR, e3⟩
end Go.Sy

/- Memory of one's own: a map from blocks to what stands in them, over what was there before. -/
namespace Go.Sy
abbrev Lay := Nat → Option (List Value)
def Lay.none : Lay := fun _ => Option.none
def Lay.upd (L : Lay) (b : Nat) (vs : List Value) : Lay := fun x => if x = b then some vs else L x
theorem Lay.upd_same (L : Lay) (b : Nat) (vs : List Value) : L.upd b vs b = some vs := by unfold Lay.upd; rw [if_pos rfl]
theorem Lay.upd_ne (L : Lay) {b x : Nat} (vs : List Value) (e : x ≠ b) : L.upd b vs x = L x := by unfold Lay.upd; rw [if_neg e]
theorem Lay.ne {L : Lay} {a b : Nat} {vs : List Value} (h1 : L a = some vs) (h2 : L b = Option.none) : a ≠ b := fun e => by rw [e, h2] at h1; cases h1
structure Own (h0 h : Heap) (L : Lay) : Prop where
  base : h0.le h
  new : ∀ b vs, L b = some vs → h0 b = Option.none
  has : ∀ b vs, L b = some vs → At h b vs
theorem Own.start (h : Heap) : Own h h Lay.none := ⟨h.le_refl, fun _ _ e => (by cases e), fun _ _ e => (by cases e)⟩
theorem Own.le {h0 h h' : Heap} {L : Lay} (o : Own h0 h L) (l : h.le h') : Own h0 h' L := ⟨Heap.le_trans o.base l, o.new, fun b vs e => (o.has b vs e).le l⟩
theorem Own.free {h0 h : Heap} {L : Lay} (o : Own h0 h L) {r : Nat} (hr : h r = Option.none) : L r = Option.none := by
  cases e : L r with
  | none => rfl
  | some vs => exact ((o.has r vs e).ne hr rfl).elim
theorem Own.ins {h0 h : Heap} {L : Lay} (o : Own h0 h L) {r : Nat} {vs : List Value} {T : TypeId} (hr : h r = Option.none) : Own h0 (h.ins r (.cells vs.toArray T (0, 0))) (L.upd r vs) := by
  have hf := o.free hr
  refine ⟨qHw o.base hr, fun b ws e => ?_, fun b ws e => ?_⟩
  · by_cases hb : b = r
    · subst hb; exact qJ o.base hr
    · rw [Lay.upd_ne _ _ hb] at e; exact o.new b ws e
  · by_cases hb : b = r
    · subst hb
      rw [Lay.upd_same] at e
      cases e
      exact At.new h _ _ _
    · rw [Lay.upd_ne _ _ hb] at e; exact (o.has b ws e).ins hr
theorem Own.set {h0 h : Heap} {L : Lay} (o : Own h0 h L) {b i : Nat} {vs ws : List Value} (e : L b = some vs) : Own h0 (h.setN b i ws) (L.upd b (qh vs i ws)) := by
  refine ⟨qS o.base (o.new b vs e), fun x us e2 => ?_, fun x us e2 => ?_⟩
  · by_cases hb : x = b
    · subst hb; exact o.new x vs e
    · rw [Lay.upd_ne _ _ hb] at e2; exact o.new x us e2
  · by_cases hb : x = b
    · subst hb
      rw [Lay.upd_same] at e2
      cases e2
      exact (o.has x vs e).set
    · rw [Lay.upd_ne _ _ hb] at e2; exact (o.has x us e2).set_ne hb
theorem Own.less {h0 h : Heap} {L L' : Lay} (o : Own h0 h L) (s : ∀ b vs, L' b = some vs → L b = some vs) : Own h0 h L' :=
  ⟨o.base, fun b vs e => o.new b vs (s b vs e), fun b vs e => o.has b vs (s b vs e)⟩
theorem Own.cell {h0 h : Heap} {L : Lay} (o : Own h0 h L) {b i : Nat} {vs : List Value} {v : Value} (e : L b = some vs) (g : vs[i]? = some v) : h.cell b i = some v := (o.has b vs e).cell g
theorem Own.canSt {h0 h : Heap} {L : Lay} (o : Own h0 h L) {b i n : Nat} {vs : List Value} (e : L b = some vs) (g : i + n ≤ vs.length) : h.canSt b i n := (o.has b vs e).canSt g
def Lst (L : Lay) (z : List Value) (p : Option Addr) (c : Nat) (vs : List Value) : Prop :=
  (vs = [] ∧ p = Option.none ∧ c = 0) ∨ ∃ r sp, p = some ⟨r, 0, Option.none⟩ ∧ L r = some (vs ++ sp) ∧ c * z.length = (vs ++ sp).length
theorem Lst.nil (L : Lay) (z : List Value) : Lst L z Option.none 0 [] := .inl ⟨rfl, rfl, rfl⟩
theorem Lst.rd {h0 h : Heap} {L : Lay} {z : List Value} {p : Option Addr} {c : Nat} {vs : List Value} (x : Lst L z p c vs) (o : Own h0 h L) : rdL h p vs := by
  rcases x with ⟨rfl, _, _⟩ | ⟨r, sp, rfl, e, _⟩
  · exact .inl rfl
  · exact (o.has r _ e).toRd
theorem Lst.keep {L L' : Lay} {z : List Value} {p : Option Addr} {c : Nat} {vs : List Value} (x : Lst L z p c vs) (k : ∀ r, p = some ⟨r, 0, Option.none⟩ → L' r = L r) : Lst L' z p c vs := by
  rcases x with x | ⟨r, sp, e, hr, k2⟩
  · exact .inl x
  · exact .inr ⟨r, sp, e, by rw [k r e]; exact hr, k2⟩
theorem Lst.push {h0 h : Heap} {L : Lay} {z : List Value} {t : TypeId} {p a : Option Addr} {len c n : Nat} {vs ws : List Value} {J : Option Addr → Nat → Heap → Prop} (x : Lst L z p c vs) (o : Own h0 h L) (hz : 0 < z.length)
    (hlen : len + n ≤ 1073741824) (hw : ws.length = n * z.length) (rw' : rdL h a ws) (aw : qAG ws = true) (hv : vs.length = len * z.length)
    (k : ∀ p' c' h' L', Own h0 h' L' → Lst L' z p' c' (vs ++ ws) → (∀ b us, L b = some us → p ≠ some ⟨b, 0, Option.none⟩ → L' b = some us) → (p' = p ∨ ∃ r, p' = some ⟨r, 0, Option.none⟩ ∧ L r = Option.none) → J p' c' h') :
    AppA z t h p len c n a J := by
  have own : OwnL h0 h z p c vs := by
    rcases x with x | ⟨r, sp, e, hr, k2⟩
    · exact .inl x
    · exact .inr ⟨r, sp, e, o.new r _ hr, o.has r _ hr, k2⟩
  refine own.push hz o.base hlen hw rw' aw hv fun p' c' h' l' w' keep how => ?_
  have how' : p' = p ∨ ∃ r, p' = some ⟨r, 0, Option.none⟩ ∧ L r = Option.none := by
    rcases how with e | ⟨r, e, hr⟩
    · exact .inl e
    · exact .inr ⟨r, e, o.free hr⟩
  rcases w' with ⟨e1, e2, e3⟩ | ⟨r, sp, e1, e2, A, e4⟩
  · have ep : p = Option.none := by
      rcases how with rfl | ⟨r, e5, _⟩
      · exact e2
      · rw [e2] at e5; cases e5
    exact k p' c' h' L ⟨l', o.new, fun b us e => keep b us (o.has b us e) (by rw [ep]; intro e6; cases e6)⟩ (.inl ⟨e1, e2, e3⟩) (fun b us e _ => e) how'
  · subst e1
    have hne : ∀ b us, L b = some us → p ≠ some ⟨b, 0, Option.none⟩ → b ≠ r := fun b us e hp hb => by
      subst hb
      rcases how' with e5 | ⟨r', e5, hr'⟩
      · exact hp e5.symm
      · cases e5; rw [e] at hr'; cases hr'
    refine k _ c' h' (fun x => if x = r then some (vs ++ ws ++ sp) else if p = some ⟨x, 0, Option.none⟩ then Option.none else L x) ⟨l', fun b us e => ?_, fun b us e => ?_⟩ (.inr ⟨r, sp, rfl, if_pos rfl, e4⟩) (fun b us e hp => ?_) how'
    · split at e
      · rename_i hb; rw [hb]; exact e2
      · split at e
        · cases e
        · exact o.new b us e
    · split at e
      · rename_i hb; cases e; rw [hb]; exact A
      · split at e
        · cases e
        · rename_i hp
          exact keep b us (o.has b us e) hp
    · rw [if_neg (hne b us e hp), if_neg hp]; exact e
theorem MapF.ne {h : Heap} {r : Nat} {kk vk : IntKind} {fm : Int → Option Int} {b : Nat} {vs : List Value} (M : MapF h r kk vk fm) (a : At h b vs) : b ≠ r := fun e => by
  obtain ⟨l, es, c, h1, _⟩ := M
  obtain ⟨T, h2⟩ := a
  rw [e, h1] at h2; cases h2
theorem MapF.le {h h' : Heap} {r : Nat} {kk vk : IntKind} {fm : Int → Option Int} (M : MapF h r kk vk fm) (l : h.le h') : MapF h' r kk vk fm := by
  obtain ⟨es, e, c, h1, h2⟩ := M
  exact ⟨es, e, c, l _ _ h1, h2⟩
theorem MapF.set {h : Heap} {r b o : Nat} {ws vs : List Value} {kk vk : IntKind} {fm : Int → Option Int} (M : MapF h r kk vk fm) (a : At h b vs) : MapF (h.setN b o ws) r kk vk fm := by
  have := M.ne a
  obtain ⟨es, e, c, h1, h2⟩ := M
  exact ⟨es, e, c, by rw [q3 (fun x => this x.symm)]; exact h1, h2⟩
theorem At.insM {h : Heap} {b r : Nat} {vs : List Value} {o : Obj} (a : At h b vs) (e : b ≠ r) : At (h.ins r o) b vs := by
  obtain ⟨T, h2⟩ := a
  exact ⟨T, by unfold Heap.ins; rw [if_neg e]; exact h2⟩
end Go.Sy

/- A range over a function, over partial heaps: pieces of code in any frame; a call of yield; the statement; a function that holds one. -/
namespace Go.Sy
set_option linter.unusedVariables false
variable {P : Program}

abbrev FWd (ro : Option Nat) : Fence := { Fence.wide with round := ro }
theorem qT8 {ro : Option Nat} {n : Nat} {f : FuncId} {args : Array Value} {w : World} {R : Ending → World → Prop} (c : Calls P f args w R) : CallsIn (FWd ro) n P f args w R :=
  (callsIn_wide (n := n)).2 c

/-! ### one operation, a call of yield among them -/
def qMB (P : Program) (r : Result Next) (h : Heap) (w : World) (K : Value → Heap → Prop) : Prop := match r with
  | .ok (.round l f tmps assign body) w' => RoundIn Fence.wide 0 P l f tmps assign body w' fun e w'' => ∃ v h', e = .returned v ∧ K v h' ∧ Rep h' w'' ∧ Fr h w h' w''
  | r => resOK P r h w K
def SR (P : Program) (ρ : Operand → Value) (o : Oper) (h : Heap) (K : Value → Heap → Prop) : Prop := ∀ w, Rep h w → qMB P ((execOp ρ o).run P w) h w K
theorem resOK.r {r : Result Next} {h : Heap} {w : World} {K : Value → Heap → Prop} (k : resOK P r h w K) : qMB P r h w K := by
  unfold qMB
  split
  · exact k.elim
  · exact k
theorem SOp.sr {ρ : Operand → Value} {o : Oper} {h : Heap} {K : Value → Heap → Prop} (k : SOp P ρ o h K) : SR P ρ o h K := fun w r => (k w r).r
def qTY : Op → Bool
  | .defer _ => false
  | _ => true
theorem qVP {o : Op} (h : qTY o = true) : ∀ c, o ≠ .defer c := fun c e => by rw [e] at h; cases h
theorem qQD (t : List Value) (ds : List Deferred) (d : Option Tmp) (v : Value) : (Act.mk t.toArray ds).put d v = ⟨(qAZ t d v).toArray, ds⟩ := by
  cases d with
  | none => rfl
  | some d => simp [Act.put, qAZ, qBR]
theorem evD (t : List Value) (ds : List Deferred) : (Act.mk t.toArray ds).eval = evO t := funext fun x => by
  cases x with
  | tmp i => exact qKd t i
  | const v => rfl
  | global g => rfl
  | func f => rfl
theorem SR.wpIn {ro : Option Nat} {n : Nat} {t : List Value} {ds : List Deferred} {o : Oper} {h : Heap} {K : Value → Heap → Prop} (k : SR P (evO t) o h K) (hd : qTY o.op = true) {w : World} (r : Rep h w) {next : Act → World → Prop} {Q : Exit → Act → World → Prop}
    (nx : ∀ v h' w', K v h' → Rep h' w' → Fr h w h' w' → next ⟨(qAZ t o.dst v).toArray, ds⟩ w') : o.wpIn (FWd ro) n P ⟨t.toArray, ds⟩ w next Q := by
  refine ⟨fun f _ => trivial, ?_⟩
  rw [Oper.semAt_eq _ _ _ (qVP hd), evD]
  have k1 := k w r
  generalize (execOp (evO t) o).run P w = res at k1 ⊢
  unfold qMB at k1
  split at k1
  · rename_i l f tmps assign body w'
    rw [Oper.uponIn_round]
    refine ⟨fun h => (by cases h), trivial, fun c cs _ => ?_⟩
    obtain ⟨e1, w'', ⟨v, h', rfl, a, b, c'⟩, st⟩ := k1.2 c cs (room_wide _)
    exact ⟨.returned v, w'', by dsimp only; rw [qQD]; exact nx _ _ _ a b c', st⟩
  · unfold resOK at k1
    split at k1
    · obtain ⟨h', a, b, c⟩ := k1
      rw [Oper.uponIn_value, qQD]; exact nx _ _ _ a b c
    · obtain ⟨h', a, b, c⟩ := k1
      rw [Oper.uponIn_skip, qQD]; exact nx _ _ _ a b c
    · rw [Oper.uponIn_enter]
      refine ⟨fun h => (by cases h), qT8 (k1.mono fun e w'' ⟨v, h', e1, a, b, c⟩ => ?_)⟩
      subst e1
      dsimp only
      rw [qQD]; exact nx _ _ _ a b c
    · exact k1.elim
def qSE (t : List Value) (o : Oper) : Option (Nat × List Value) := match qKQ o.op with
  | some c => match c.callee with
    | .value f => match evO t f with
      | .func (.yield l) ⟨[]⟩ ⟨[]⟩ => some (l, qHX t c.args.toList)
      | _ => none
    | _ => none
  | none => none
def YieldR (P : Program) (l : Nat) (args : List Value) (h : Heap) (J : Value → Heap → Prop) : Prop := ∀ w, Rep h w → qMB P ((Instr.yield l args.toArray).run P w) h w J
def opR (P : Program) (t : List Value) (o : Oper) (h : Heap) (J : Value → Heap → Prop) : Prop := match qSE t o with
  | some (l, args) => YieldR P l args h fun v h' => qPz P o.type fun u => v = u ∧ J u h'
  | none => opA P t o h J
theorem qPc {r : Result Next} {h : Heap} {w : World} {K K' : Value → Heap → Prop} (m : ∀ v h', K v h' → K' v h') (k : qMB P r h w K) : qMB P r h w K' := by
  unfold qMB at *
  split at k
  · exact k.mono fun e w'' ⟨v, h', e1, a, b⟩ => ⟨v, h', e1, m _ _ a, b⟩
  · exact qKw m k
theorem qYG {t : List Value} {o : Oper} {h : Heap} {J : Value → Heap → Prop} (k : opR P t o h J) : SR P (evO t) o h J := by
  unfold opR at k
  split at k
  · rename_i l args hy
    intro w r
    unfold qSE at hy
    split at hy
    · rename_i c hc
      have ho : o.op = .call c := by
        cases e : o.op <;> rw [e] at hc <;> simp only [qKQ] at hc <;> try (cases hc; done)
        split at hc
        · cases hc
        · cases hc; rfl
      split at hy
      · rename_i f hf
        split at hy
        · rename_i l' hv
          cases hy
          have e2 : (execOp (evO t) o).run P w = (Instr.yield l (qHX t c.args.toList).toArray).run P w := by
            have e1 : c.args.map (evO t) = (qHX t c.args.toList).toArray := by
              apply Array.toList_inj.1
              rw [qI0]
              simp
            rw [← e1]
            unfold execOp
            simp only [ho, resolve, hf, hv, Deferred.ofValue, Sem.run_bind, Sem.run_pure, Result.andThen_ok, invoke]
            simp
          rw [e2]
          exact qPc (fun v h' q => by
            obtain ⟨u, rfl, j⟩ := qOW q
            exact j) (k w r)
        · cases hy
      · cases hy
    · cases hy
  · exact (qKT k).sr

/-! ### a region in the text's order -/
def qBn (P : Program) (all : List Oper) : List Oper → List Value → Heap → (List Value → Heap → Prop) → Prop
  | [], t, h, J => J t h
  | o :: os, t, h, J => match qTY o.op with
    | false => False
    | true => qI9 all o t
      (fun t => opR P t o h fun v h' => fcP t o.dst v fun t' => qBn P all os t' h' J)
      (fun t => fcP t o.dst undef fun t' => qBn P all os t' h J)
def qWA (ds : List Deferred) (J : List Value → Heap → Prop) (h0 : Heap) (w0 : World) (e : Exit) (a : Act) (w : World) : Prop :=
  e = .normal ∧ ∃ t h, a = ⟨t.toArray, ds⟩ ∧ J t h ∧ Rep h w ∧ Fr h0 w0 h w
theorem qKt {ro : Option Nat} {n : Nat} {ds : List Deferred} (ops : Array Oper) (J : List Value → Heap → Prop) (h0 : Heap) (w0 : World) : ∀ (os : List Oper) (k : Nat) (t : List Value) (h : Heap) (w : World),
    ops.toList.drop k = os → qBn P ops.toList os t h J → Rep h w → Fr h0 w0 h w → wpOpsIn (FWd ro) n P ops (qWA ds J h0 w0) (List.range' k os.length) ⟨t.toArray, ds⟩ w
  | [], k, t, h, w, _, q, r, f => ⟨rfl, t, h, rfl, q, r, f⟩
  | o :: os, k, t, h, w, hd, q, r, f => by
    have ho : ops[k]? = some o := by
      have : ops.toList[k]? = some o := by
        have := congrArg (·[0]?) hd
        simpa using this
      simpa using this
    have hd' : ops.toList.drop (k + 1) = os := by
      have := congrArg (List.drop 1) hd
      simpa [List.drop_drop, Nat.add_comm] using this
    rw [List.length_cons, List.range'_succ]
    unfold wpOpsIn
    simp only [ho]
    rw [qMj]
    unfold qBn at q
    split at q
    · exact q.elim
    rename_i hnd
    rw [qJt] at q
    rcases qFu q with ⟨hw, q⟩ | ⟨hw, q⟩
    · rw [hw]
      simp only [if_true]
      refine (qYG q).wpIn hnd r fun v h' w' q' r' f' => ?_
      rw [qLt] at q'
      exact qKt ops J h0 w0 os (k + 1) _ h' w' hd' q' r' (f.trans f')
    · rw [hw]
      simp only [Bool.false_eq_true, if_false, qQD]
      rw [qLt] at q
      exact ⟨fun _ _ => trivial, qKt ops J h0 w0 os (k + 1) _ h w hd' q r f⟩

/-! ### code -/
def mkD (D : Nat) : Deferred := { target := .collected D, args := #[] }
structure Mks (Ds : List Nat) (w : World) (h' : Heap) (w' : World) : Prop where
  nd : Ds.Nodup
  m : ∀ D ∈ Ds, w.heap.size ≤ D ∧ h' D = none ∧ w'.heap[D]? = some (.deferred (some []))
theorem Mks.nil (w : World) (h' : Heap) (w' : World) : Mks [] w h' w' := ⟨List.nodup_nil, fun _ h => by cases h⟩
theorem qPR {w : World} {D : Nat} {o : Obj} (h : w.heap[D]? = some o) : D < w.heap.size := (Array.getElem?_eq_some_iff.1 h).1
theorem Mks.app {A B : List Nat} {w w1 w2 : World} {h1 h2 : Heap} (a : Mks A w h1 w1) (b : Mks B w1 h2 w2) (f : Fr h1 w1 h2 w2) (s : w.heap.size ≤ w1.heap.size) : Mks (B ++ A) w h2 w2 := by
  refine ⟨?_, fun D hD => ?_⟩
  · rw [List.Nodup, List.pairwise_append]
    refine ⟨b.nd, a.nd, fun x hx y hy e => ?_⟩
    subst e
    have h1 := (b.m x hx).1
    have h2 := qPR (a.m x hy).2.2
    omega
  · rcases List.mem_append.1 hD with hD | hD
    · obtain ⟨x, y⟩ := b.m D hD
      exact ⟨Nat.le_trans s x, y⟩
    · obtain ⟨x, y, z⟩ := a.m D hD
      have hlt := qPR z
      exact ⟨x, f.dom D hlt y, (f.keep D hlt y).trans z⟩
def Post (J : Exit → List Value → Heap → Prop) (ds : List Deferred) (h : Heap) (w : World) (e : Exit) (a : Act) (w' : World) : Prop :=
  ∃ (Ds : List Nat) (t' : List Value) (h' : Heap), a = ⟨t'.toArray, Ds.map mkD ++ ds⟩ ∧ J e t' h' ∧ Rep h' w' ∧ Fr h w h' w' ∧ Mks Ds w h' w'
def CE (P : Program) (ro : Option Nat) (c : Code) (t : List Value) (h : Heap) (J : Exit → List Value → Heap → Prop) : Prop :=
  ∀ (ds : List Deferred) (n : Nat) (w : World), Rep h w → c.wpIn (FWd ro) n P (Post J ds h w) ⟨t.toArray, ds⟩ w
theorem Post.start {J : Exit → List Value → Heap → Prop} {ds : List Deferred} {h : Heap} {w : World} {e : Exit} {t : List Value} (k : J e t h) (r : Rep h w) : Post J ds h w e ⟨t.toArray, ds⟩ w :=
  ⟨[], t, h, rfl, k, r, Fr.refl h w, .nil w h w⟩
theorem Post.mono {J J' : Exit → List Value → Heap → Prop} {ds : List Deferred} {h : Heap} {w w' : World} {e : Exit} {a : Act} (k : Post J ds h w e a w') (m : ∀ e t h, J e t h → J' e t h) : Post J' ds h w e a w' := by
  obtain ⟨Ds, t', h', x, y, z⟩ := k
  exact ⟨Ds, t', h', x, m _ _ _ y, z⟩
theorem Post.trans {J J' : Exit → List Value → Heap → Prop} {ds : List Deferred} {h h1 : Heap} {w w1 w' : World} {e : Exit} {a : Act} {Ds : List Nat} (f : Fr h w h1 w1) (m : Mks Ds w h1 w1) (k : Post J (Ds.map mkD ++ ds) h1 w1 e a w') (mj : ∀ e t h, J e t h → J' e t h) : Post J' ds h w e a w' := by
  obtain ⟨Es, t', h', x, y, z, f', m'⟩ := k
  refine ⟨Es ++ Ds, t', h', by rw [x, List.map_append, List.append_assoc], mj _ _ _ y, z, f.trans f', m.app m' f' f.size⟩
section
variable {ro : Option Nat} {t : List Value} {h : Heap} {J : Exit → List Value → Heap → Prop}
theorem CE.mono {c : Code} {J' : Exit → List Value → Heap → Prop} (k : CE P ro c t h J) (m : ∀ e t h, J e t h → J' e t h) : CE P ro c t h J' := fun ds n w r => wpIn_mono (k ds n w r) fun _ _ _ q => q.mono m
theorem CE.skip (k : J .normal t h) : CE P ro .skip t h J := fun ds n w r => wpIn_skip (Post.start k r)
theorem CE.label {l : Nat} (k : J .normal t h) : CE P ro (.label l) t h J := fun ds n w r => wpIn_label (Post.start k r)
theorem CE.exit {id : Nat} (k : J (.exit id) t h) : CE P ro (.exit id) t h J := fun ds n w r => wpIn_exit (Post.start k r)
theorem CE.ret (k : J .ret t h) : CE P ro .ret t h J := fun ds n w r => wpIn_ret (Post.start k r)
def qMu (nx : List Value → Heap → Prop) (J : Exit → List Value → Heap → Prop) : Exit → List Value → Heap → Prop
  | .normal, t, h => nx t h
  | e, t, h => J e t h
def qOR (id : Nat) (J : Exit → List Value → Heap → Prop) : Exit → List Value → Heap → Prop
  | .exit id', t, h => if id' = id then J .normal t h else J (.exit id') t h
  | e, t, h => J e t h
theorem CE.seq {x y : Code} (k : CE P ro x t h (qMu (fun t h => CE P ro y t h J) J)) : CE P ro (.seq x y) t h J := fun ds n w r => by
  refine wpIn_seq (wpIn_mono (k ds n w r) fun e a w' q => ?_)
  obtain ⟨Ds, t', h', rfl, y1, r1, f1, m1⟩ := q
  cases e <;> first | exact ⟨Ds, t', h', rfl, y1, r1, f1, m1⟩ | skip
  exact wpIn_mono (y1 (Ds.map mkD ++ ds) n w' r1) fun e a w2 q2 => q2.trans f1 m1 fun _ _ _ j => j
theorem CE.cond {c : Operand} {x y : Code} {b : Bool} (hb : evO t c = .bool b) (k : Br b (CE P ro x t h J) (CE P ro y t h J)) : CE P ro (.cond c x y) t h J := fun ds n w r => by
  rcases k.elim with ⟨rfl, k⟩ | ⟨rfl, k⟩
  · exact wpIn_cond (t := true) (by rw [evD]; exact hb) (k ds n w r)
  · exact wpIn_cond (t := false) (by rw [evD]; exact hb) (k ds n w r)
theorem CE.block {id : Nat} {c : Code} (k : CE P ro c t h (qOR id J)) : CE P ro (.block id c) t h J := fun ds n w r => by
  refine wpIn_block (wpIn_mono (k ds n w r) fun e a w' q => ?_)
  obtain ⟨Ds, t', h', rfl, y1, z⟩ := q
  cases e <;> first | exact ⟨Ds, t', h', rfl, y1, z⟩ | skip
  rename_i id'
  show if id' = id then Post J ds h w .normal _ _ else Post J ds h w (.exit id') _ _
  have y1 : if id' = id then J .normal t' h' else J (.exit id') t' h' := y1
  by_cases g : id' = id
  · rw [if_pos g] at y1
    rw [if_pos g]
    exact ⟨Ds, t', h', rfl, y1, z⟩
  · rw [if_neg g] at y1
    rw [if_neg g]
    exact ⟨Ds, t', h', rfl, y1, z⟩
theorem CE.region {id : Nat} {ops : Array Oper} (k : qBn P ops.toList ops.toList t h (J .normal)) : CE P ro (.region id ops false) t h J := fun ds n w r => by
  have := qKt (ro := ro) (n := n) (ds := ds) ops _ h w ops.toList 0 t h w (by simp) k r (Fr.refl h w)
  have : wpOpsIn (FWd ro) n P ops (qWA ds (J .normal) h w) (List.range ops.size) ⟨t.toArray, ds⟩ w := by
    rw [List.range_eq_range']
    simpa using this
  refine wpIn_mono (wpIn_region this) fun e a w' q => ?_
  obtain ⟨rfl, t', h', rfl, j, r', f'⟩ := q
  exact ⟨[], t', h', rfl, j, r', f', .nil _ _ _⟩
theorem CE.scope {c : Code} (k : CE P none c t h J) (hg : ∀ l t h, ¬ J (.goto l) t h) : CE P none (.scope c) t h J := fun ds n w r => by
  refine (wpIn_wide (n := n)).2 (wp_scope_straight (wp_mono ((wpIn_wide (n := n)).1 (k ds n w r)) fun e a w q => ?_))
  cases e <;> first | exact q | skip
  obtain ⟨_, _, _, _, j, _⟩ := q
  exact hg _ _ _ j
def qJi (P : Program) (ro : Option Nat) (c : Code) (J : Exit → List Value → Heap → Prop) : Nat → List Value → Heap → Prop
  | 0, _, _ => False
  | m + 1, t, h => CE P ro c t h (qMu (qJi P ro c J m) J)
theorem CE.loop {c : Code} (m : Nat) (k : qJi P ro c J m t h) : CE P ro (.loop c) t h J := fun ds n w r => by
  have key : ∀ (m : Nat) (t1 : List Value) (h1 : Heap) (w1 : World) (Ds : List Nat), qJi P ro c J m t1 h1 → Rep h1 w1 → Fr h w h1 w1 → Mks Ds w h1 w1 → Code.roundsIn (FWd ro) n P c (Post J ds h w) m ⟨t1.toArray, Ds.map mkD ++ ds⟩ w1 := by
    intro m
    induction m with
    | zero => exact fun _ _ _ _ k _ _ _ => k.elim
    | succ m ih =>
      intro t1 h1 w1 Ds k r1 f1 m1
      rw [roundsIn_succ]
      have k : CE P ro c t1 h1 (qMu (qJi P ro c J m) J) := k
      refine wpIn_mono (k (Ds.map mkD ++ ds) n w1 r1) fun e a w' q => ?_
      obtain ⟨Es, t', h', rfl, y, r', f', m'⟩ := q
      have e2 : Es.map mkD ++ (Ds.map mkD ++ ds) = (Es ++ Ds).map mkD ++ ds := by rw [List.map_append, List.append_assoc]
      rw [e2]
      have f2 := f1.trans f'
      have m2 := m1.app m' f' f1.size
      cases e <;> first | exact ⟨Es ++ Ds, t', h', rfl, y, r', f2, m2⟩ | skip
      exact ih t' h' w' (Es ++ Ds) y r' f2 m2
  exact wpIn_loop_rounds m (key m t h w [] k r (Fr.refl h w) (.nil w h w))
/-! ### regions by their numbers -/
def orC : Option Code → Option Code → Option Code
  | some c, _ => some c
  | none, x => x
def qIX (n : Nat) : Code → Option Code
  | .region id ops d => match Nat.beq id n with
    | true => some (.region id ops d)
    | false => none
  | .seq a b => orC (qIX n a) (qIX n b)
  | .cond _ a b => orC (qIX n a) (qIX n b)
  | .block _ b => qIX n b
  | .loop b => qIX n b
  | .scope b => qIX n b
  | .rangeFunc _ _ a b => orC (qIX n a) (qIX n b)
  | _ => none
def qDQ (f : Func) (n : Nat) : Code := match qIX n (qJI f) with
  | some c => c
  | none => .skip
def qn (f : Func) (n : Nat) : List Oper := match qIX n (qJI f) with
  | some (.region _ ops _) => ops.toList
  | _ => []
theorem CE.reg {f : Func} {n : Nat} (e : qIX n (qJI f) = some (.region n (qn f n).toArray false)) (k : qBn P (qn f n) (qn f n) t h (J .normal)) : CE P ro (qDQ f n) t h J := by
  unfold qDQ
  rw [e]
  refine CE.region ?_
  simpa using k
/-! ### the loop's record -/
theorem qOj {h : Heap} {w : World} {l : Nat} {o o' : Obj} (r : Rep h w) (e : h l = some o) : Rep (h.ins l o') (w.putObj l o') := fun x y hx => by
  unfold Heap.ins at hx
  by_cases g : x = l
  · subst g
    rw [if_pos rfl] at hx
    cases hx
    exact World.putObj_heap_same (qEL r e)
  · rw [if_neg g] at hx
    rw [World.putObj_heap_other g]
    exact r _ _ hx
theorem qTq {h : Heap} {w : World} {l : Nat} {o o' : Obj} (e : h l = some o) : Fr h w (h.ins l o') (w.putObj l o') :=
  ⟨rfl, rfl, rfl, by simp, fun x _ hn => World.putObj_heap_other fun g => (by rw [g, e] at hn; cases hn), fun x _ hn => by
    unfold Heap.ins
    rw [if_neg fun g => (by rw [g, e] at hn; cases hn)]
    exact hn⟩
def qIb (fn : FuncId) (t : List Value) (ps : Array Tmp) (assign body : Code) (D : Nat) (st : LoopState) : Loop := { state := st, pending := none, fn, tmps := t.toArray, params := ps, assign, body, defers := D }
theorem CE.range {g : Operand} {ps : Array Tmp} {assign body : Code} {gf : FuncId} {lb : List Value} (hg : evO t g = .func (.func gf) #[] lb.toArray)
    (hc : ∀ (a : Array Value) (w : World), (callFunc gf a).run P w = .ok (.enter gf a) w)
    (k : ∀ fn l D, h l = none → CallA P gf (.func (.yield l) #[] #[] :: lb) (h.ins l (.loop (qIb fn t ps assign body D .ready))) fun v h2 =>
      h2 l = some (.loop (qIb fn t ps assign body D .ready)) ∧ J .normal t (h2.ins l (.loop (qIb fn t ps assign body D .exhausted)))) :
    CE P none (.rangeFunc g ps assign body) t h J := fun ds n w r => by
  refine wpIn_rangeFunc fun fn _ => ?_
  obtain ⟨R, hR⟩ : ∃ R, qIb fn t ps assign body w.heap.size .ready = R := ⟨_, rfl⟩
  obtain ⟨W1, hW1⟩ : ∃ W1, (w.alloc (.deferred (some []))).alloc (.loop R) = W1 := ⟨_, rfl⟩
  have hL1 : W1.heap[w.heap.size + 1]? = some (.loop R) := by
    rw [← hW1]
    have := World.alloc_heap_new (w.alloc (.deferred (some []))) (.loop R)
    rwa [World.size_alloc] at this
  have hp : W1.heap = (w.heap.push (.deferred (some []))).push (.loop R) := by rw [← hW1]; rfl
  have hn1 : h (w.heap.size + 1) = none := by
    cases e : h (w.heap.size + 1) with
    | none => rfl
    | some o => have := qEL r e; omega
  have old : ∀ x, x < w.heap.size → W1.heap[x]? = w.heap[x]? := fun x hx => by
    rw [hp, Array.getElem?_push, if_neg (by simp; omega), Array.getElem?_push, if_neg (by omega)]
  have hK1 : W1.heap[w.heap.size]? = some (.deferred (some [])) := by
    rw [hp, Array.getElem?_push, if_neg (by simp), Array.getElem?_push, if_pos rfl]
  have hs1 : W1.heap.size = w.heap.size + 2 := by rw [hp]; simp
  have r1 : Rep (h.ins (w.heap.size + 1) (.loop R)) W1 := fun x o hx => by
    unfold Heap.ins at hx
    by_cases g : x = w.heap.size + 1
    · rw [if_pos g] at hx
      cases hx
      rw [g]; exact hL1
    · rw [if_neg g] at hx
      rw [old x (qEL r hx)]
      exact r _ _ hx
  refine ⟨w.heap.size + 1, [{ target := .collected w.heap.size, args := #[] }], W1, { target := .fn (.func gf) lb.toArray, args := #[.func (.yield (w.heap.size + 1)) #[] #[]] }, W1, gf,
    #[.func (.yield (w.heap.size + 1)) #[] #[]] ++ lb.toArray, W1, ?_, ?_, fun _ _ => trivial, ?_, fun h => (by cases h), ?_⟩
  · rw [← hW1, ← hR]; exact run_enterLoop_outer _ _ _ _ _
  · simp only [resolve, evD, hg]
    simp [go_sem]
    rfl
  · simp [invoke, hc]
  · have c := (k fn (w.heap.size + 1) w.heap.size hn1 W1 (by rw [hR]; exact r1)).2
    refine qT8 ?_
    have ea : (#[Value.func (.yield (w.heap.size + 1)) #[] #[]] ++ lb.toArray : Array Value) = (Value.func (.yield (w.heap.size + 1)) #[] #[] :: lb).toArray := by simp
    rw [ea]
    refine c.mono fun e w' q => ?_
    obtain ⟨v, h2, rfl, ⟨hl, j⟩, r2, f2⟩ := q
    rw [hR] at f2 hl
    have hl2 := r2 _ _ hl
    have hb : R.state ≠ .busy := by rw [← hR]; exact fun e => by cases e
    have he : (Obj.loop { state := .exhausted, pending := none, fn := R.fn, tmps := R.tmps, params := R.params, assign := R.assign, body := R.body, defers := R.defers }) = .loop (qIb fn t ps assign body w.heap.size .exhausted) := by rw [← hR]; rfl
    refine ⟨none, _, by have := run_endLoop (P := P) hl2 hb; rw [show R.pending = none by rw [← hR]; rfl] at this; exact this, ?_⟩
    rw [he]
    have ne : ∀ x, x < w.heap.size + 1 → x ≠ w.heap.size + 1 := fun x hx => by omega
    have insn : ∀ x, x < w.heap.size + 1 → h x = none → (h.ins (w.heap.size + 1) (.loop R)) x = none := fun x hx hn => by
      unfold Heap.ins
      rw [if_neg (ne x hx)]; exact hn
    have ins2 : ∀ x o, x < w.heap.size + 1 → h2 x = none → (h2.ins (w.heap.size + 1) o) x = none := fun x o hx hn => by
      unfold Heap.ins
      rw [if_neg (ne x hx)]; exact hn
    have hnD : h w.heap.size = none := qQ9 r
    refine ⟨[w.heap.size], t, _, rfl, j, qOj r2 hl, ⟨?_, ?_, ?_, ?_, fun x hx hn => ?_, fun x hx hn => ?_⟩, ⟨by simp, fun D hD => ?_⟩⟩
    · have := f2.os
      rw [← hW1] at this
      exact this
    · have := f2.tape
      rw [← hW1] at this
      exact this
    · have := f2.output
      rw [← hW1] at this
      exact this
    · have := f2.size
      rw [World.putObj_size]; omega
    · rw [World.putObj_heap_other (ne x (by omega)), f2.keep x (by omega) (insn x (by omega) hn), old x hx]
    · exact ins2 x _ (by omega) (f2.dom x (by omega) (insn x (by omega) hn))
    · rw [List.mem_singleton] at hD
      subst hD
      refine ⟨Nat.le_refl _, ins2 _ _ (by omega) (f2.dom _ (by omega) (insn _ (by omega) hnD)), ?_⟩
      rw [World.putObj_heap_other (ne _ (by omega)), f2.keep _ (by omega) (insn _ (by omega) hnD), hK1]
end
theorem YieldR.of {l : Nat} {args : List Value} {h : Heap} {J : Value → Heap → Prop} {R : Loop} (hl : h l = some (.loop R)) (hr : R.state = .ready) (hp : R.pending = none) (hs : args.length = R.params.size) {t : List Value}
    (ht : (R.params.zip args.toArray).foldl (fun tmps (t, a) => tmps.setIfInBounds t a) R.tmps = t.toArray)
    (k : CE P (some l) R.assign t h fun e t1 h1 => e = .normal ∧ h1 l = some (.loop R) ∧ CE P (some l) R.body t1 (h1.ins l (.loop { R with state := .busy })) fun e t2 h2 =>
      e = .normal ∧ h2 l = some (.loop { R with state := .busy }) ∧ J (.bool true) (h2.ins l (.loop R))) : YieldR P l args h J := fun w r => by
  have hy := run_yield (P := P) (args := args.toArray) (r _ _ hl) (by simpa using hs)
  rw [hy, ht]
  show RoundIn Fence.wide 0 P l R.fn t.toArray R.assign R.body w _
  refine roundIn_of_wpIn trivial (wpIn_mono (k [] 0 w r) fun e a w1 q => ?_)
  obtain ⟨Ds, t1, h1, rfl, ⟨rfl, hl1, k2⟩, r1, f1, m1⟩ := q
  refine ⟨_, run_beginRound (r1 _ _ hl1) hr, ?_⟩
  refine wpIn_mono (k2 (Ds.map mkD ++ []) 0 _ (qOj r1 hl1)) fun e a w3 q => ?_
  obtain ⟨Es, t2, h2, rfl, ⟨rfl, hl2, j⟩, r3, f3, m3⟩ := q
  have eR : ({ R with state := if (none : Option Code).isNone then .ready else .done, pending := none } : Loop) = R := by
    cases R
    dsimp only at hr hp
    subst hr hp
    rfl
  have he := run_endRound (P := P) none (r3 _ _ hl2)
  dsimp only at he
  rw [eR] at he
  exact ⟨_, _, he, .bool true, h2.ins l (.loop R), rfl, j, qOj r3 hl2, ((f1.trans (qTq hl1)).trans f3).trans (qTq hl2)⟩
theorem CallA.of_CE {f : FuncId} {fn : Func} {c : Code} {args : List Value} {h : Heap} {K : Value → Heap → Prop} (hf : P.funcs[f]? = some fn) (hb : fn.body = some c) (hc : ∀ (a : Array Value) (w : World), (callFunc f a).run P w = .ok (.enter f a) w) (hl : Nat.ble args.length fn.ntmps = true)
    (k : CE P none c (qMJ fn.ntmps args) h fun e t' h' => (e = .normal ∨ e = .ret) ∧ qLi P fn t' h' K) : CallA P f args h K := by
  intro w r
  refine ⟨hc _ _, (callsIn_wide (n := 0)).1 (callsIn_of_wp_marks (F := Fence.wide) hf hb trivial ?_)⟩
  have k1 := k [] 0 w r
  rw [qOv _ _ (Nat.le_of_ble_eq_true hl)] at k1
  have ea : (args ++ List.replicate (fn.ntmps - args.length) undef).toArray = args.toArray ++ Array.replicate (fn.ntmps - args.toArray.size) undef := by simp
  rw [ea] at k1
  refine wpIn_mono k1 fun e a w' q => ?_
  obtain ⟨Ds, t', h', rfl, ⟨he, hr⟩, r', f', m'⟩ := q
  obtain ⟨v, h0, ev, hl0, kv⟩ := qNr hr
  have leaves : ∀ (Ds : List Nat) (w1 : World), Ds.Nodup → (∀ D ∈ Ds, w.heap.size ≤ D ∧ h' D = none ∧ w1.heap[D]? = some (.deferred (some []))) → Rep h' w1 → Fr h w h' w1 →
      LeavesInM Fence.wide 0 P fn t'.toArray (fun e w' => ∃ v h', e = .returned v ∧ K v h' ∧ Rep h' w' ∧ Fr h w h' w') (Ds.map mkD ++ []) .returning w1 := by
    intro Ds
    induction Ds with
    | nil => exact fun w1 _ _ r1 f1 => ⟨v, ev w1 r1, v, h0, rfl, kv, r1.le hl0, f1.less hl0⟩
    | cons D Ds ih =>
      intro w1 nd m1 r1 f1
      obtain ⟨x, y, z⟩ := m1 D (List.mem_cons_self ..)
      rw [List.nodup_cons] at nd
      refine ⟨fun e => (by cases e), .inl ⟨D, _, rfl, run_takeDeferred z, ih _ nd.2 (fun E hE => ?_) (fun a o ha => ?_) ⟨f1.os, f1.tape, f1.output, by rw [World.putObj_size]; exact f1.size, fun a ha hn => ?_, f1.dom⟩⟩⟩
      · obtain ⟨x2, y2, z2⟩ := m1 E (List.mem_cons_of_mem _ hE)
        exact ⟨x2, y2, (World.putObj_heap_other fun e => nd.1 (by rw [← e]; exact hE)).trans z2⟩
      · rw [World.putObj_heap_other fun e => (by rw [e, y] at ha; cases ha)]
        exact r1 _ _ ha
      · rw [World.putObj_heap_other (by omega)]
        exact f1.keep a ha hn
  have := leaves Ds w' m'.nd m'.m r' f'
  rcases he with rfl | rfl
  · exact this
  · exact this
end Go.Sy
