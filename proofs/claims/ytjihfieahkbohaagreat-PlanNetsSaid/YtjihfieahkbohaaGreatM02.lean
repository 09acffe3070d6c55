import Derived.Test.YtjihfieahkbohaaGreatM01
import Derived.SizedLaws
import Derived.ChangeSlices
import Derived.DataReads
/- Boxes in memory: what stands in them, when they are written, and lists that grow. -/
namespace Go.Sy
def At (h : Heap) (b : Nat) (vs : List Value) : Prop := ∃ T, h b = some (.cells vs.toArray T (0, 0))
theorem At.le {h h' : Heap} {b : Nat} {vs : List Value} (a : At h b vs) (l : h.le h') : At h' b vs := a.elim fun T e => ⟨T, l _ _ e⟩
theorem At.cell {h : Heap} {b o : Nat} {vs : List Value} {v : Value} (a : At h b vs) (e : vs[o]? = some v) : h.cell b o = some v := by
  obtain ⟨T, ea⟩ := a
  unfold Heap.cell
  rw [ea]
  simpa using e
theorem At.canSt {h : Heap} {b o n : Nat} {vs : List Value} (a : At h b vs) (e : o + n ≤ vs.length) : h.canSt b o n := by
  obtain ⟨T, ea⟩ := a
  exact ⟨_, T, ea, by simpa using e⟩
theorem At.new (h : Heap) (r : Nat) (vs : List Value) (T : TypeId) : At (h.ins r (.cells vs.toArray T (0, 0))) r vs := ⟨T, by unfold Heap.ins; rw [if_pos rfl]⟩
theorem At.ins {h : Heap} {b r : Nat} {vs : List Value} {x : Obj} (a : At h b vs) (e : h r = none) : At (h.ins r x) b vs := a.le (qt e)
theorem At.ne {h : Heap} {b r : Nat} {vs : List Value} (a : At h b vs) (e : h r = none) : b ≠ r := fun x => by
  obtain ⟨T, ea⟩ := a
  rw [x, e] at ea; cases ea
theorem At.set {h : Heap} {b o : Nat} {vs ws : List Value} (a : At h b vs) : At (h.setN b o ws) b (qBQ vs o ws) := by
  obtain ⟨T, ea⟩ := a
  refine ⟨T, ?_⟩
  unfold Heap.setN
  rw [Nat.beq_refl, ea]
theorem At.set_ne {h : Heap} {b b' o : Nat} {vs ws : List Value} (a : At h b vs) (e : b ≠ b') : At (h.setN b' o ws) b vs := by
  obtain ⟨T, ea⟩ := a
  exact ⟨T, by rw [qEK e]; exact ea⟩
theorem qAf {h0 h : Heap} {b o : Nat} {ws : List Value} (l : h0.le h) (e : h0 b = none) : h0.le (h.setN b o ws) := fun x y hx => by
  rw [qEK (fun e2 => by rw [e2, e] at hx; cases hx)]
  exact l x y hx
theorem qFv {h0 h : Heap} {r : Nat} {x : Obj} (l : h0.le h) (e : h r = none) : h0.le (h.ins r x) := Heap.le_trans l (qt e)
theorem qAk {h0 h : Heap} {r : Nat} (l : h0.le h) (e : h r = none) : h0 r = none := by
  cases hx : h0 r with
  | none => rfl
  | some y => rw [l r y hx] at e; cases e
theorem At.toRd {h : Heap} {b : Nat} {vs ws : List Value} (a : At h b (vs ++ ws)) : rdL h (some ⟨b, 0, none⟩) vs := by
  refine .inr ⟨b, 0, rfl, fun j hj => ?_⟩
  rw [List.getElem?_eq_getElem hj, Nat.zero_add]
  exact a.cell (by rw [List.getElem?_append_left hj, List.getElem?_eq_getElem hj])

def OwnL (h0 h : Heap) (z : List Value) (p : Option Addr) (c : Nat) (vs : List Value) : Prop :=
  (vs = [] ∧ p = none ∧ c = 0) ∨ ∃ r sp, p = some ⟨r, 0, none⟩ ∧ h0 r = none ∧ At h r (vs ++ sp) ∧ c * z.length = (vs ++ sp).length
theorem OwnL.nil (h0 h : Heap) (z : List Value) : OwnL h0 h z none 0 [] := .inl ⟨rfl, rfl, rfl⟩
theorem OwnL.rd {h0 h : Heap} {z : List Value} {p : Option Addr} {c : Nat} {vs : List Value} (o : OwnL h0 h z p c vs) : rdL h p vs := by
  rcases o with ⟨rfl, _, _⟩ | ⟨r, sp, rfl, _, a, _⟩
  · exact .inl rfl
  · exact a.toRd
theorem OwnL.le {h0 h h' : Heap} {z : List Value} {p : Option Addr} {c : Nat} {vs : List Value} (o : OwnL h0 h z p c vs) (l : h.le h') : OwnL h0 h' z p c vs := by
  rcases o with o | ⟨r, sp, e, e0, a, k⟩
  · exact .inl o
  · exact .inr ⟨r, sp, e, e0, a.le l, k⟩
theorem OwnL.set_ne {h0 h : Heap} {z : List Value} {p : Option Addr} {c b o : Nat} {vs ws : List Value} (x : OwnL h0 h z p c vs) (e : p ≠ some ⟨b, 0, none⟩) : OwnL h0 (h.setN b o ws) z p c vs := by
  rcases x with x | ⟨r, sp, rfl, e0, a, k⟩
  · exact .inl x
  · exact .inr ⟨r, sp, rfl, e0, a.set_ne (fun e2 => e (by rw [e2])), k⟩
theorem qLR : ∀ (ws old sp : List Value), ws.length ≤ sp.length → qBQ (old ++ sp) old.length ws = old ++ ws ++ sp.drop ws.length
  | [], old, sp, _ => by simp [qBQ]
  | w :: ws, old, s :: sp, h => by
    rw [qBQ, qFu]
    have e : (old ++ s :: sp).set old.length w = (old ++ [w]) ++ sp := by simp
    rw [e]
    have := qLR ws (old ++ [w]) sp (by simpa using h)
    simp only [List.length_append, List.length_cons, List.length_nil] at this
    rw [Nat.zero_add] at this
    rw [this]
    simp
  | w :: ws, old, [], h => by simp at h
theorem OwnL.push2 {h0 h : Heap} {z : List Value} {t : TypeId} {p a : Option Addr} {len c n : Nat} {vs ws : List Value} {J : Option Addr → Nat → Heap → Prop} (x : OwnL h0 h z p c vs) (_hz : 0 < z.length)
    (l : h0.le h) (hlen : len + n ≤ 1073741824) (hw : ws.length = n * z.length) (rw' : rdL h a ws) (aw : qv ws = true) (hv : vs.length = len * z.length)
    (k : ∀ p' c' h', h0.le h' → OwnL h0 h' z p' c' (vs ++ ws) → (∀ b y, h b = some y → p ≠ some ⟨b, 0, none⟩ → h' b = some y) → (p' = p ∨ ∃ r, p' = some ⟨r, 0, none⟩ ∧ h r = none) → J p' c' h') :
    AppA z t h p len c n a J := by
  refine AppA.mk vs ws hlen hw rw' aw hv x.rd ?_ ?_
  · intro hc
    rcases x with ⟨rfl, rfl, rfl⟩ | ⟨r, sp, rfl, e0, at', k2⟩
    · exact .inl (List.length_eq_zero_iff.1 (by rw [hw]; have : n = 0 := by omega
                                                subst this; omega))
    · refine .inr ⟨r, 0, rfl, at'.canSt ?_⟩
      rw [List.length_append] at *
      rw [Nat.zero_add, ← hv, hw]
      have : (len + n) * z.length ≤ c * z.length := Nat.mul_le_mul_right _ hc
      rw [Nat.add_mul] at this
      omega
  · intro p' c' h' hcap rd keep how
    rcases how with ⟨rfl, rfl, e⟩ | ⟨hgrow, r, rfl, hr, rfl⟩
    · rcases e with rfl | ⟨b, o, rfl, cs, rfl⟩
      · -- nothing written
        have : ws = [] ∨ ws ≠ [] := Classical.em _
        rcases this with rfl | hne
        · refine k _ _ _ l (by rw [List.append_nil]; exact x) (fun b y e _ => e) (.inl rfl)
        · refine k _ _ _ l ?_ (fun b y e _ => e) (.inl rfl)
          rcases x with ⟨rfl, rfl, rfl⟩ | ⟨r, sp, rfl, e0, at', k2⟩
          · rcases rd with rd | ⟨b, o, e, _⟩
            · exact (hne (by simpa using rd)).elim
            · cases e
          · refine .inr ⟨r, sp.drop ws.length, rfl, e0, ?_, ?_⟩
            · -- they stand there already
              have hroom : ws.length ≤ sp.length := by
                rw [List.length_append] at k2
                have : (len + n) * z.length ≤ c' * z.length := Nat.mul_le_mul_right _ hcap
                rw [Nat.add_mul] at this
                omega
              have e2 : vs ++ ws ++ sp.drop ws.length = vs ++ sp := by
                rcases rd with rd | ⟨b, o, e, rd⟩
                · exact (hne (List.append_eq_nil_iff.1 rd).2).elim
                · cases e
                  rw [List.append_assoc]
                  congr 1
                  refine List.ext_getElem? fun i => ?_
                  by_cases hi : i < ws.length
                  · rw [List.getElem?_append_left hi]
                    have g := rd (vs.length + i) (by rw [List.length_append]; omega)
                    rw [List.getElem?_append_right (by omega), Nat.add_sub_cancel_left, Nat.zero_add] at g
                    rw [← g]
                    have hi2 : i < sp.length := by omega
                    rw [List.getElem?_eq_getElem hi2]
                    exact at'.cell (by rw [List.getElem?_append_right (by omega), Nat.add_sub_cancel_left, List.getElem?_eq_getElem hi2])
                  · rw [List.getElem?_append_right (by omega), List.getElem?_drop]
                    congr 1; omega
              rw [e2]; exact at'
            · rw [k2]
              have hroom : ws.length ≤ sp.length := by
                rw [List.length_append] at k2
                have : (len + n) * z.length ≤ c' * z.length := Nat.mul_le_mul_right _ hcap
                rw [Nat.add_mul] at this
                omega
              simp only [List.length_append, List.length_drop]
              omega
      · rcases x with ⟨_, e, _⟩ | ⟨r, sp, e, e0, at', k2⟩
        · cases e
        · cases e
          have hroom : ws.length ≤ sp.length := by
            rw [List.length_append] at k2
            have : (len + n) * z.length ≤ c' * z.length := Nat.mul_le_mul_right _ hcap
            rw [Nat.add_mul] at this
            omega
          have at2 := at'.set (o := len * z.length) (ws := ws)
          rw [← hv, qLR ws vs sp hroom] at at2
          rw [Nat.zero_add, ← hv]
          refine k _ _ _ (qAf l e0) (.inr ⟨_, _, rfl, e0, at2, ?_⟩) (fun b y e hb => by rw [qEK (fun e2 => hb (by rw [e2]))]; exact e) (.inl rfl)
          rw [k2]
          simp only [List.length_append, List.length_drop]
          omega
    · refine k _ _ _ (qFv l hr) (.inr ⟨r, qAm (c' - (len + n)) z, rfl, qAk l hr, At.new _ _ _ _, ?_⟩) (fun b y e _ => qt hr _ _ e) (.inr ⟨r, rfl, hr⟩)
      rw [List.length_append, List.length_append, qCz, hv, hw, ← Nat.add_mul, ← Nat.add_mul]
      congr 1; omega
theorem OwnL.push {h0 h : Heap} {z : List Value} {t : TypeId} {p a : Option Addr} {len c n : Nat} {vs ws : List Value} {J : Option Addr → Nat → Heap → Prop} (x : OwnL h0 h z p c vs) (_hz : 0 < z.length)
    (l : h0.le h) (hlen : len + n ≤ 1073741824) (hw : ws.length = n * z.length) (rw' : rdL h a ws) (aw : qv ws = true) (hv : vs.length = len * z.length)
    (k : ∀ p' c' h', h0.le h' → OwnL h0 h' z p' c' (vs ++ ws) → (∀ b xs, At h b xs → p ≠ some ⟨b, 0, none⟩ → At h' b xs) → (p' = p ∨ ∃ r, p' = some ⟨r, 0, none⟩ ∧ h r = none) → J p' c' h') :
    AppA z t h p len c n a J := x.push2 _hz l hlen hw rw' aw hv fun p' c' h' l' w' keep how => k p' c' h' l' w' (fun b _ a hb => a.elim fun T e => ⟨T, keep b _ e hb⟩) how
theorem qGU {h : Heap} {z vs : List Value} {T : TypeId} {J : Nat → Heap → Prop} (hv : vs.length = z.length) (k : ∀ r h1, h r = none → h.le (h1.setN r 0 vs) → At (h1.setN r 0 vs) r vs → h1.canSt r 0 z.length → J r h1) : qO h z T J := fun r hr => by
  refine k r _ hr (qAf (qt hr) hr) ?_ (qOD _ _ _ _ _ _ (by omega))
  have := (At.new h r z T).set (o := 0) (ws := vs)
  have e := qLR vs [] z (by omega)
  rw [List.nil_append, List.nil_append, hv, List.drop_length, List.append_nil] at e
  rw [show ([] : List Value).length = 0 from rfl] at e
  rw [e] at this
  exact this
theorem qr {h : Heap} {z : List Value} {T : TypeId} {J : Nat → Heap → Prop} (k : ∀ r h1, h r = none → h.le h1 → At h1 r z → J r h1) : qO h z T J := fun r hr => k r _ hr (qt hr) (At.new h r z T)
theorem qJi {h0 h : Heap} {z ws : List Value} {T t : TypeId} {p : Option Addr} {len c : Nat} {vs : List Value} {J : Nat → Heap → Option Addr → Nat → Heap → Prop} (x : OwnL h0 h z p c vs) (hz : 0 < z.length) (l : h0.le h) (hlen : len + 1 ≤ 1073741824)
    (hw : ws.length = z.length) (aw : qv ws = true) (hv : vs.length = len * z.length)
    (k : ∀ r h1 p' c' h', h r = none → h.le h1 → h0.le h' → OwnL h0 h' z p' c' (vs ++ ws) → (∀ b y, h1 b = some y → p ≠ some ⟨b, 0, none⟩ → h' b = some y) → (p' = p ∨ ∃ s, p' = some ⟨s, 0, none⟩ ∧ h1 s = none) → J r h1 p' c' h') :
    qO h ws T fun r h1 => AppA z t h1 p len c 1 (some ⟨r, 0, none⟩) (J r h1) := fun r hr =>
  (x.le (qt hr)).push2 hz (Heap.le_trans l (qt hr)) hlen (by omega) (qMZ _ _ _ _ _) aw hv fun p' c' h' l' w' keep how => k r _ p' c' h' hr (qt hr) l' w' keep how
theorem qKD {h h' : Heap} {p : Option Addr} (keep : ∀ b y, h b = some y → p ≠ some ⟨b, 0, none⟩ → h' b = some y) {b : Nat} {xs : List Value} (a : At h b xs) (e : p ≠ some ⟨b, 0, none⟩) : At h' b xs := a.elim fun T e2 => ⟨T, keep b _ e2 e⟩
theorem qK3 {h : Heap} {p p' : Option Addr} {b : Nat} {xs : List Value} (how : p' = p ∨ ∃ s, p' = some ⟨s, 0, none⟩ ∧ h s = none) (a : At h b xs) (e : p ≠ some ⟨b, 0, none⟩) : p' ≠ some ⟨b, 0, none⟩ := fun e2 => by
  rcases how with rfl | ⟨s, e3, hs⟩
  · exact e e2
  · rw [e3] at e2; cases e2; exact a.ne hs rfl
theorem OwnL.mv {h0 h h' : Heap} {z : List Value} {p : Option Addr} {c : Nat} {vs : List Value} (x : OwnL h0 h z p c vs) (k : ∀ b xs, p = some ⟨b, 0, none⟩ → At h b xs → At h' b xs) : OwnL h0 h' z p c vs := by
  rcases x with x | ⟨r, sp, e, e0, a, q⟩
  · exact .inl x
  · exact .inr ⟨r, sp, e, e0, k _ _ e a, q⟩
theorem OwnL.fresh {h0 h : Heap} {z : List Value} {p : Option Addr} {c r : Nat} {vs : List Value} (x : OwnL h0 h z p c vs) (hr : h r = none) : p ≠ some ⟨r, 0, none⟩ := fun e => by
  rcases x with ⟨_, q, _⟩ | ⟨s, sp, q, _, a, _⟩
  · rw [q] at e; cases e
  · rw [q] at e; cases e; exact a.ne hr rfl
theorem w1 {j : Nat} (h : j ≤ 4000000000000000000) : IntKind.wrap .i64 ((j : Int) + 1) = ((j + 1 : Nat) : Int) := by rw [qK (by omega) (by omega)]; omega
end Go.Sy

/- A call that is shown nothing of a block can hand nothing back that lies in it. -/
namespace Go.Sy
theorem CallA.frame2 {P : Program} {f : FuncId} {args : List Value} {h h0 : Heap} {K : Value → Heap → Prop} (c : CallA P f args h0 K) (l : h0.le h) :
    CallA P f args h fun v h' => ∃ h0', K v h0' ∧ h0'.le h' ∧ (∀ r o, h r = some o → h0 r = none → h' r = some o) ∧ (∀ r o, h r = some o → h0 r = none → h0' r = none) := fun w r =>
  ⟨(c w (r.le l)).1, (c w (r.le l)).2.mono fun _ w' ⟨v, h0', e, k, r', fr⟩ => by
    have hdis : ∀ x o, h x = some o → h0 x = none → h0' x = none := fun x o hx hn => fr.dom x (qId r hx) hn
    refine ⟨v, fun x => match h0' x with | some o => some o | none => if h0 x = none then h x else none, e, ⟨h0', k, ?_, ?_, hdis⟩, ?_, ?_⟩
    · intro x o hx; simp only [hx]
    · intro x o hx hn; simp only [hdis x o hx hn, hn, if_true]; exact hx
    · intro x o hx
      dsimp only at hx
      cases h1 : h0' x with
      | some o1 => rw [h1] at hx; cases hx; exact r' _ _ h1
      | none =>
        rw [h1] at hx
        by_cases hn : h0 x = none
        · simp only [hn, if_true] at hx
          rw [fr.keep x (qId r hx) hn]; exact r _ _ hx
        · simp only [hn, if_false] at hx; cases hx
    · refine ⟨fr.os, fr.tape, fr.output, fr.size, (fr.more l).keep, fun x hx hn => ?_⟩
      have h1 := (fr.more l).dom x hx hn
      simp only [h1, hn]
      split <;> rfl⟩
def Heap.del (h : Heap) (m : Nat) : Heap := fun x => if x = m then none else h x
theorem qPb (h : Heap) (m : Nat) : (h.del m).le h := fun x o e => by
  unfold Heap.del at e
  split at e
  · cases e
  · exact e
theorem qMy (h : Heap) (m : Nat) : h.del m m = none := by unfold Heap.del; rw [if_pos rfl]
theorem qUa {h0 h : Heap} {m : Nat} (l : h0.le h) (e : h0 m = none) : h0.le (h.del m) := fun x o hx => by
  unfold Heap.del
  rw [if_neg (fun e2 => by rw [e2, e] at hx; cases hx)]
  exact l x o hx
theorem At.del {h : Heap} {b m : Nat} {vs : List Value} (a : At h b vs) (e : b ≠ m) : At (h.del m) b vs := by
  obtain ⟨T, ea⟩ := a
  exact ⟨T, by unfold Heap.del; rw [if_neg e]; exact ea⟩
theorem CallA.off {P : Program} {f : FuncId} {args : List Value} {h : Heap} {m : Nat} {vs : List Value} {K : Value → Heap → Prop} (am : At h m vs)
    (c : CallA P f args (h.del m) fun v h' => ∀ h'', h'.le h'' → h' m = none → h'' m = h m → K v h'') : CallA P f args h K :=
  (c.frame2 (qPb h m)).mono fun v h' ⟨h0', k, l, keep, off⟩ => by
    obtain ⟨T, ea⟩ := am
    exact k h' l (off m _ ea (qMy h m)) (by rw [ea]; exact keep m _ ea (qMy h m))
theorem qXo {h : Heap} {m o : Nat} {ws : List Value} : (h.setN m o ws).del m = h.del m := by
  funext x
  unfold Heap.del
  by_cases hm : x = m
  · rw [if_pos hm, if_pos hm]
  · rw [if_neg hm, if_neg hm, qEK hm]
theorem qU4 {h : Heap} {m : Nat} {p : Option Addr} {vs : List Value} (r : rdL h p vs) (e : ∀ o, p ≠ some ⟨m, o, none⟩) : rdL (h.del m) p vs := by
  rcases r with r | ⟨b, o, hp, r⟩
  · exact .inl r
  · refine .inr ⟨b, o, hp, fun j hj => ?_⟩
    have := r j hj
    unfold Heap.cell at this ⊢
    unfold Heap.del
    rw [if_neg (fun e2 => e o (by rw [hp, e2]))]
    exact this
end Go.Sy

/- What an argument of any shape holds, as the framework reads it: numbers, truths, texts, structs, and slices of all these. -/
namespace Go.Sy
open Go.ChangeShapes Go.WideShapes
inductive Sh where
  | int (k : IntKind) | bool | str | sl (e : Sh) | nil | two (a b : Sh)
def Sh.n : Sh → Nat
  | .int _ => 1
  | .bool => 1
  | .str => 1
  | .sl _ => 1
  | .nil => 0
  | .two a b => a.n + b.n
def Sh.Has (h : Heap) : Sh → List Value → Prop
  | .int k, cs => ∃ n : Int, cs = [.int k n] ∧ (Lit.int k n).wf = true
  | .bool, cs => ∃ b : Bool, cs = [.bool b]
  | .str, cs => ∃ s : ByteArray, cs = [.string s] ∧ s.size ≤ 9223372036854775807
  | .sl e, cs => ∃ (p : Option Addr) (len cap : Nat), cs = [.slice p len cap] ∧ len ≤ cap ∧ cap ≤ 9223372036854775807 ∧ (p = none → len = 0) ∧
      ∀ i, i < len → ∃ (b o : Nat) (vs : List Value), p = some ⟨b, o, none⟩ ∧ vs.length = e.n ∧ (∀ j, j < e.n → h.cell b (o + (i * e.n + j)) = vs[j]?) ∧ Sh.Has h e vs
  | .nil, cs => cs = []
  | .two a b, cs => ∃ xs ys, cs = xs ++ ys ∧ xs.length = a.n ∧ Sh.Has h a xs ∧ Sh.Has h b ys
theorem Sh.Has.length {h : Heap} : ∀ {s : Sh} {cs : List Value}, s.Has h cs → cs.length = s.n
  | .int k, cs, hs => by obtain ⟨n, rfl, _⟩ := hs; rfl
  | .bool, cs, hs => by obtain ⟨n, rfl⟩ := hs; rfl
  | .str, cs, hs => by obtain ⟨n, rfl, _⟩ := hs; rfl
  | .sl e, cs, hs => by obtain ⟨p, l, c, rfl, _⟩ := hs; rfl
  | .nil, cs, hs => by cases hs; rfl
  | .two a b, cs, hs => by
    obtain ⟨xs, ys, rfl, hx, _, hy⟩ := hs
    rw [List.length_append, hx, Sh.Has.length hy]; rfl
theorem Sh.Has.le {h h' : Heap} (l : h.le h') : ∀ {s : Sh} {cs : List Value}, s.Has h cs → s.Has h' cs
  | .int k, cs, hs => hs
  | .bool, cs, hs => hs
  | .str, cs, hs => hs
  | .nil, cs, hs => hs
  | .sl e, cs, hs => by
    obtain ⟨p, len, cap, rfl, h1, h2, h3, h4⟩ := hs
    refine ⟨p, len, cap, rfl, h1, h2, h3, fun i hi => ?_⟩
    obtain ⟨b, o, vs, e1, e2, e3, e4⟩ := h4 i hi
    refine ⟨b, o, vs, e1, e2, fun j hj => ?_, Sh.Has.le l e4⟩
    have := e3 j hj
    rw [List.getElem?_eq_getElem (by omega)] at this ⊢
    exact qP5 l this
  | .two a b, cs, hs => by
    obtain ⟨xs, ys, rfl, hx, h1, h2⟩ := hs
    exact ⟨xs, ys, rfl, hx, Sh.Has.le l h1, Sh.Has.le l h2⟩
mutual
def Sh.fits (P : Program) : Sh → TypeId → Bool
  | .int k, t => match P.underlying t with
    | some (.int k') => qNd k' k
    | _ => false
  | .bool, t => match P.underlying t with
    | some .bool => true
    | _ => false
  | .str, t => match P.underlying t with
    | some .string => true
    | _ => false
  | .sl e, t => match P.underlying t with
    | some (.slice u) => match Nat.beq (P.cellsOf u) e.n, Nat.ble 1 e.n with
      | true, true => Sh.fits P e u
      | _, _ => false
    | _ => false
  | .two a b, t => match P.underlying t with
    | some (.struct fs) => match fs.toList with
      | f :: r => match Nat.beq f.offset 0, Nat.beq (P.cellsOf f.type) a.n, Nat.beq (P.cellsOf t) (a.n + b.n), Sh.fits P a f.type with
        | true, true, true, true => Sh.fitsF P b r a.n
        | _, _, _, _ => false
      | [] => false
    | _ => false
  | .nil, _ => false
def Sh.fitsF (P : Program) : Sh → List Field → Nat → Bool
  | .two a b, f :: r, off => match Nat.beq f.offset off, Nat.beq (P.cellsOf f.type) a.n, Sh.fits P a f.type with
    | true, true, true => Sh.fitsF P b r (off + a.n)
    | _, _, _ => false
  | .nil, [], _ => true
  | _, _, _ => false
end
theorem qQ4 {W : World} {b o : Nat} {v : Option Value} (ci : W.cell? ⟨b, o, none⟩ = v) (hv : v.isSome = true) : (qIu W).cell b o = v := by
  obtain ⟨x, rfl⟩ := Option.isSome_iff_exists.1 hv
  unfold World.cell? at ci
  unfold Heap.cell qIu
  dsimp only at ci ⊢
  cases hb : W.heap[b]? with
  | none => rw [hb] at ci; cases ci
  | some y =>
    rw [hb] at ci
    cases y <;> first | cases ci | simpa using ci
theorem qQ7 {W : World} {a : Addr} {v : Value} (c0 : W.cell? a = some v) : a.spot = none := by
  unfold World.cell? at c0
  split at c0
  · split at c0
    · cases c0
    · rename_i hs
      simpa using hs
  · cases c0
section
variable {H : Type} {enc : TypeId × Value → H} {P : Program} {W : World} {base : Nat} {spare : Nat → Bool} {held : Bool}
mutual
theorem Sh.of_trod : ∀ (s : Sh) (t : TypeId), s.fits P t = true → ∀ {fuel : Nat} {cs : List Value} {x : DataW H × List MemPlace}, DataW.trod enc P W base spare held fuel t cs = some x → s.Has (qIu W) cs
  | .int k, t, hf, fuel, cs, x, ht => by
    unfold Sh.fits at hf
    split at hf
    · rename_i k' hu
      have := qK4 hf
      subst this
      cases fuel with
      | zero => simp [DataW.trod] at ht
      | succ n =>
        unfold DataW.trod at ht
        rw [hu] at ht
        split at ht <;> simp_all
        exact ⟨_, rfl, ht.1.2⟩
    · cases hf
  | .bool, t, hf, fuel, cs, x, ht => by
    unfold Sh.fits at hf
    split at hf
    · rename_i hu
      cases fuel with
      | zero => simp [DataW.trod] at ht
      | succ n =>
        unfold DataW.trod at ht
        rw [hu] at ht
        split at ht <;> simp_all
        exact ⟨_, rfl⟩
    · cases hf
  | .str, t, hf, fuel, cs, x, ht => by
    unfold Sh.fits at hf
    split at hf
    · rename_i hu
      cases fuel with
      | zero => simp [DataW.trod] at ht
      | succ n =>
        unfold DataW.trod at ht
        rw [hu] at ht
        split at ht <;> simp_all
        exact ⟨_, rfl, ht.1⟩
    · cases hf
  | .sl e, t, hf, fuel, cs, x, ht => by
    unfold Sh.fits at hf
    split at hf
    · rename_i u hu
      split at hf
      · rename_i h1 h2
        have h1 := Nat.eq_of_beq_eq_true h1
        have h2 := Nat.le_of_ble_eq_true h2
        rcases DataW.trod_slice hu ht with ⟨rfl, _⟩ | ⟨a, len, cap, elems, rest, n, _, rfl, _, _, hl, hm, hlen, hel, _⟩
        · exact ⟨none, 0, 0, rfl, Nat.le_refl _, by omega, fun _ => rfl, fun i hi => absurd hi (by omega)⟩
        · refine ⟨some a, len, cap, rfl, hl, hm, fun e => (by cases e), fun i hi => ?_⟩
          have g := hel i hi
          rw [List.getElem?_eq_getElem (by omega)] at g
          obtain ⟨vs, hv, ht2⟩ := Option.bind_eq_some_iff.1 g
          obtain ⟨_, hcl, hat⟩ := World.cells?_some hv
          rw [h1] at hcl hat
          have hs := Sh.of_trod e u hf ht2
          have sp : a.spot = none := by
            have g0 := hel 0 (by omega)
            rw [List.getElem?_eq_getElem (by omega)] at g0
            obtain ⟨v0, hv0, _⟩ := Option.bind_eq_some_iff.1 g0
            obtain ⟨_, hcl0, hat0⟩ := World.cells?_some hv0
            have c0 := hat0 0 (by omega)
            rw [List.getElem?_eq_getElem (by omega), Nat.zero_mul] at c0
            exact qQ7 c0
          obtain ⟨b, o, s⟩ := a
          dsimp only at sp
          subst sp
          refine ⟨b, o, vs, rfl, hcl, fun j hj => ?_, hs⟩
          have cj := hat j hj
          rw [Addr.add_none, Addr.add_none] at cj
          have := qQ4 cj (by rw [List.getElem?_eq_getElem (by omega)]; rfl)
          rw [← this, Nat.add_assoc]
      · cases hf
    · cases hf
  | .nil, t, hf, _, _, _, _ => by cases hf
  | .two a b, t, hf, fuel, cs, x, ht => by
    unfold Sh.fits at hf
    split at hf
    · rename_i fs hu
      split at hf
      · rename_i f r hfs
        split at hf
        · rename_i h1 h2 h3 h4
          have h1 := Nat.eq_of_beq_eq_true h1
          have h2 := Nat.eq_of_beq_eq_true h2
          have h3 := Nat.eq_of_beq_eq_true h3
          obtain ⟨xs, n, _, _, hcl, hlen, hat⟩ := DataW.trod_struct hu ht
          have hsz : fs.size = r.length + 1 := by rw [← Array.length_toList, hfs]; rfl
          have g0 := hat 0 f (by rw [← Array.getElem?_toList, hfs]; rfl)
          rw [List.getElem?_eq_getElem (by omega), h1, h2, List.drop_zero] at g0
          refine ⟨cs.take a.n, cs.drop a.n, (List.take_append_drop _ _).symm, by rw [List.length_take]; omega, Sh.of_trod a f.type h4 g0, ?_⟩
          refine Sh.of_trodF b r a.n hf (cs := cs) (by omega) (fun i f' hf' => ?_)
          have := hat (i + 1) f' (by rw [← Array.getElem?_toList, hfs]; simpa using hf')
          have hi : i < r.length := (List.getElem?_eq_some_iff.1 hf').1
          rw [List.getElem?_eq_getElem (by omega)] at this
          exact ⟨_, _, this⟩
        · cases hf
      · cases hf
    · cases hf
theorem Sh.of_trodF : ∀ (s : Sh) (r : List Field) (off : Nat), s.fitsF P r off = true → ∀ {cs : List Value}, cs.length = off + s.n →
    (∀ (i : Nat) (f : Field), r[i]? = some f → ∃ (n : Nat) (x : DataW H × List MemPlace), DataW.trod enc P W base spare held n f.type ((cs.drop f.offset).take (P.cellsOf f.type)) = some x) → s.Has (qIu W) (cs.drop off)
  | .two a b, [], off, hf, _, _, _ => by simp [Sh.fitsF] at hf
  | .two a b, f :: r, off, hf, cs, hl, hat => by
    unfold Sh.fitsF at hf
    split at hf
    · rename_i h1 h2 h4
      have h1 := Nat.eq_of_beq_eq_true h1
      have h2 := Nat.eq_of_beq_eq_true h2
      obtain ⟨n, x, g0⟩ := hat 0 f rfl
      rw [h1, h2] at g0
      have hl2 : cs.length = off + (a.n + b.n) := hl
      refine ⟨(cs.drop off).take a.n, (cs.drop off).drop a.n, (List.take_append_drop _ _).symm, by rw [List.length_take, List.length_drop]; omega, Sh.of_trod a f.type h4 g0, ?_⟩
      rw [List.drop_drop]
      exact Sh.of_trodF b r (off + a.n) hf (by omega) (fun i f' hf' => hat (i + 1) f' (by simpa using hf'))
    · cases hf
  | .nil, [], off, hf, cs, hl, _ => by
    have hl2 : cs.length = off + 0 := hl
    show cs.drop off = []
    exact List.drop_eq_nil_of_le (by omega)
  | .nil, f :: r, off, hf, _, _, _ => by simp [Sh.fitsF] at hf
  | .int k, r, off, hf, _, _, _ => by cases r <;> simp [Sh.fitsF] at hf
  | .bool, r, off, hf, _, _, _ => by cases r <;> simp [Sh.fitsF] at hf
  | .str, r, off, hf, _, _, _ => by cases r <;> simp [Sh.fitsF] at hf
  | .sl e, r, off, hf, _, _, _ => by cases r <;> simp [Sh.fitsF] at hf
end
end
theorem Sh.Has.list {h : Heap} {e : Sh} {p : Option Addr} {len cap : Nat} (hs : (Sh.sl e).Has h [.slice p len cap]) :
    len ≤ cap ∧ cap ≤ 9223372036854775807 ∧ ∃ L : List (List Value), L.length = len ∧ (∀ vs ∈ L, vs.length = e.n ∧ e.Has h vs) ∧ rdL h p L.flatten := by
  obtain ⟨p', len', cap', hc, h1, h2, h3, h4⟩ := hs
  cases hc
  refine ⟨h1, h2, ?_⟩
  have build : ∀ m, m ≤ len → ∃ L : List (List Value), L.length = m ∧ (∀ vs ∈ L, vs.length = e.n ∧ e.Has h vs) ∧
      ∀ b o, p = some ⟨b, o, none⟩ → ∀ j, j < L.flatten.length → h.cell b (o + j) = L.flatten[j]? := by
    intro m
    induction m with
    | zero => exact fun _ => ⟨[], rfl, fun _ hv => (by cases hv), fun _ _ _ j hj => absurd hj (by simp)⟩
    | succ m ih =>
      intro hm
      obtain ⟨L, hL, hA, hR⟩ := ih (by omega)
      obtain ⟨b, o, vs, e1, e2, e3, e4⟩ := h4 m (by omega)
      have hfl : ∀ L : List (List Value), (∀ vs ∈ L, vs.length = e.n ∧ e.Has h vs) → L.flatten.length = L.length * e.n := by
        intro L
        induction L with
        | nil => intro _; simp
        | cons a L ih2 =>
          intro hA
          rw [List.flatten_cons, List.length_append, ih2 (fun vs hv => hA vs (List.mem_cons_of_mem _ hv)), (hA a (List.mem_cons_self ..)).1, List.length_cons, Nat.succ_mul]
          omega
      refine ⟨L ++ [vs], by simp [hL], fun ws hw => ?_, fun b' o' e' j hj => ?_⟩
      · rcases List.mem_append.1 hw with hw | hw
        · exact hA ws hw
        · rw [List.mem_singleton] at hw; rw [hw]; exact ⟨e2, e4⟩
      · have hf := hfl L hA
        rw [List.flatten_append, List.flatten_singleton] at hj ⊢
        rw [List.length_append] at hj
        rw [e1] at e'
        cases e'
        by_cases hj2 : j < L.flatten.length
        · rw [List.getElem?_append_left hj2]; exact hR b o e1 j hj2
        · rw [List.getElem?_append_right (by omega), hf, hL]
          have g := e3 (j - m * e.n) (by rw [hf, hL] at hj2 hj; omega)
          rw [← g]
          congr 1
          rw [hf, hL] at hj2
          omega
  obtain ⟨L, hL, hA, hR⟩ := build len (Nat.le_refl _)
  refine ⟨L, hL, hA, ?_⟩
  cases hp : p with
  | none =>
    have := h3 hp
    have : L = [] := List.length_eq_zero_iff.1 (by omega)
    subst this
    exact .inl rfl
  | some a =>
    by_cases h0 : len = 0
    · have : L = [] := List.length_eq_zero_iff.1 (by omega)
      subst this
      exact .inl rfl
    · obtain ⟨b, o, vs, e1, _⟩ := h4 0 (by omega)
      rw [hp] at e1
      cases e1
      exact .inr ⟨b, o, rfl, hR b o hp⟩
end Go.Sy

/- Memory of one's own: a map from blocks to what stands in them, over what was there before. -/
namespace Go.Sy
abbrev Lay := Nat → Option (List Value)
def Lay.none : Lay := fun _ => Option.none
def Lay.upd (L : Lay) (b : Nat) (vs : List Value) : Lay := fun x => if x = b then some vs else L x
theorem Lay.upd_same (L : Lay) (b : Nat) (vs : List Value) : L.upd b vs b = some vs := by unfold Lay.upd; rw [if_pos rfl]
theorem Lay.upd_ne (L : Lay) {b x : Nat} (vs : List Value) (e : x ≠ b) : L.upd b vs x = L x := by unfold Lay.upd; rw [if_neg e]
theorem Lay.ne {L : Lay} {a b : Nat} {vs : List Value} (h1 : L a = some vs) (h2 : L b = Option.none) : a ≠ b := fun e => by rw [e, h2] at h1; cases h1
structure Own (h0 h : Heap) (L : Lay) : Prop where
  base : h0.le h
  new : ∀ b vs, L b = some vs → h0 b = Option.none
  has : ∀ b vs, L b = some vs → At h b vs
theorem Own.start (h : Heap) : Own h h Lay.none := ⟨h.le_refl, fun _ _ e => (by cases e), fun _ _ e => (by cases e)⟩
theorem Own.le {h0 h h' : Heap} {L : Lay} (o : Own h0 h L) (l : h.le h') : Own h0 h' L := ⟨Heap.le_trans o.base l, o.new, fun b vs e => (o.has b vs e).le l⟩
theorem Own.free {h0 h : Heap} {L : Lay} (o : Own h0 h L) {r : Nat} (hr : h r = Option.none) : L r = Option.none := by
  cases e : L r with
  | none => rfl
  | some vs => exact ((o.has r vs e).ne hr rfl).elim
theorem Own.ins {h0 h : Heap} {L : Lay} (o : Own h0 h L) {r : Nat} {vs : List Value} {T : TypeId} (hr : h r = Option.none) : Own h0 (h.ins r (.cells vs.toArray T (0, 0))) (L.upd r vs) := by
  have hf := o.free hr
  refine ⟨qFv o.base hr, fun b ws e => ?_, fun b ws e => ?_⟩
  · by_cases hb : b = r
    · subst hb; exact qAk o.base hr
    · rw [Lay.upd_ne _ _ hb] at e; exact o.new b ws e
  · by_cases hb : b = r
    · subst hb
      rw [Lay.upd_same] at e
      cases e
      exact At.new h _ _ _
    · rw [Lay.upd_ne _ _ hb] at e; exact (o.has b ws e).ins hr
theorem Own.set {h0 h : Heap} {L : Lay} (o : Own h0 h L) {b i : Nat} {vs ws : List Value} (e : L b = some vs) : Own h0 (h.setN b i ws) (L.upd b (qBQ vs i ws)) := by
  refine ⟨qAf o.base (o.new b vs e), fun x us e2 => ?_, fun x us e2 => ?_⟩
  · by_cases hb : x = b
    · subst hb; exact o.new x vs e
    · rw [Lay.upd_ne _ _ hb] at e2; exact o.new x us e2
  · by_cases hb : x = b
    · subst hb
      rw [Lay.upd_same] at e2
      cases e2
      exact (o.has x vs e).set
    · rw [Lay.upd_ne _ _ hb] at e2; exact (o.has x us e2).set_ne hb
theorem Own.less {h0 h : Heap} {L L' : Lay} (o : Own h0 h L) (s : ∀ b vs, L' b = some vs → L b = some vs) : Own h0 h L' :=
  ⟨o.base, fun b vs e => o.new b vs (s b vs e), fun b vs e => o.has b vs (s b vs e)⟩
theorem Own.cell {h0 h : Heap} {L : Lay} (o : Own h0 h L) {b i : Nat} {vs : List Value} {v : Value} (e : L b = some vs) (g : vs[i]? = some v) : h.cell b i = some v := (o.has b vs e).cell g
theorem Own.canSt {h0 h : Heap} {L : Lay} (o : Own h0 h L) {b i n : Nat} {vs : List Value} (e : L b = some vs) (g : i + n ≤ vs.length) : h.canSt b i n := (o.has b vs e).canSt g
def Lst (L : Lay) (z : List Value) (p : Option Addr) (c : Nat) (vs : List Value) : Prop :=
  (vs = [] ∧ p = Option.none ∧ c = 0) ∨ ∃ r sp, p = some ⟨r, 0, Option.none⟩ ∧ L r = some (vs ++ sp) ∧ c * z.length = (vs ++ sp).length
theorem Lst.nil (L : Lay) (z : List Value) : Lst L z Option.none 0 [] := .inl ⟨rfl, rfl, rfl⟩
theorem Lst.rd {h0 h : Heap} {L : Lay} {z : List Value} {p : Option Addr} {c : Nat} {vs : List Value} (x : Lst L z p c vs) (o : Own h0 h L) : rdL h p vs := by
  rcases x with ⟨rfl, _, _⟩ | ⟨r, sp, rfl, e, _⟩
  · exact .inl rfl
  · exact (o.has r _ e).toRd
theorem Lst.keep {L L' : Lay} {z : List Value} {p : Option Addr} {c : Nat} {vs : List Value} (x : Lst L z p c vs) (k : ∀ r, p = some ⟨r, 0, Option.none⟩ → L' r = L r) : Lst L' z p c vs := by
  rcases x with x | ⟨r, sp, e, hr, k2⟩
  · exact .inl x
  · exact .inr ⟨r, sp, e, by rw [k r e]; exact hr, k2⟩
theorem Lst.push {h0 h : Heap} {L : Lay} {z : List Value} {t : TypeId} {p a : Option Addr} {len c n : Nat} {vs ws : List Value} {J : Option Addr → Nat → Heap → Prop} (x : Lst L z p c vs) (o : Own h0 h L) (hz : 0 < z.length)
    (hlen : len + n ≤ 1073741824) (hw : ws.length = n * z.length) (rw' : rdL h a ws) (aw : qv ws = true) (hv : vs.length = len * z.length)
    (k : ∀ p' c' h' L', Own h0 h' L' → Lst L' z p' c' (vs ++ ws) → (∀ b us, L b = some us → p ≠ some ⟨b, 0, Option.none⟩ → L' b = some us) → (p' = p ∨ ∃ r, p' = some ⟨r, 0, Option.none⟩ ∧ L r = Option.none) → J p' c' h') :
    AppA z t h p len c n a J := by
  have own : OwnL h0 h z p c vs := by
    rcases x with x | ⟨r, sp, e, hr, k2⟩
    · exact .inl x
    · exact .inr ⟨r, sp, e, o.new r _ hr, o.has r _ hr, k2⟩
  refine own.push hz o.base hlen hw rw' aw hv fun p' c' h' l' w' keep how => ?_
  have how' : p' = p ∨ ∃ r, p' = some ⟨r, 0, Option.none⟩ ∧ L r = Option.none := by
    rcases how with e | ⟨r, e, hr⟩
    · exact .inl e
    · exact .inr ⟨r, e, o.free hr⟩
  rcases w' with ⟨e1, e2, e3⟩ | ⟨r, sp, e1, e2, A, e4⟩
  · have ep : p = Option.none := by
      rcases how with rfl | ⟨r, e5, _⟩
      · exact e2
      · rw [e2] at e5; cases e5
    exact k p' c' h' L ⟨l', o.new, fun b us e => keep b us (o.has b us e) (by rw [ep]; intro e6; cases e6)⟩ (.inl ⟨e1, e2, e3⟩) (fun b us e _ => e) how'
  · subst e1
    have hne : ∀ b us, L b = some us → p ≠ some ⟨b, 0, Option.none⟩ → b ≠ r := fun b us e hp hb => by
      subst hb
      rcases how' with e5 | ⟨r', e5, hr'⟩
      · exact hp e5.symm
      · cases e5; rw [e] at hr'; cases hr'
    refine k _ c' h' (fun x => if x = r then some (vs ++ ws ++ sp) else if p = some ⟨x, 0, Option.none⟩ then Option.none else L x) ⟨l', fun b us e => ?_, fun b us e => ?_⟩ (.inr ⟨r, sp, rfl, if_pos rfl, e4⟩) (fun b us e hp => ?_) how'
    · split at e
      · rename_i hb; rw [hb]; exact e2
      · split at e
        · cases e
        · exact o.new b us e
    · split at e
      · rename_i hb; cases e; rw [hb]; exact A
      · split at e
        · cases e
        · rename_i hp
          exact keep b us (o.has b us e) hp
    · rw [if_neg (hne b us e hp), if_neg hp]; exact e
theorem qSt {h0 h : Heap} {r : Nat} {o : Obj} (l : h0.le h) (e : h0 r = none) : h0.le (h.ins r o) := fun x y hx => by
  unfold Heap.ins
  rw [if_neg (fun e2 => by rw [e2, e] at hx; cases hx)]; exact l x y hx
theorem MapF.ne {h : Heap} {r : Nat} {kk vk : IntKind} {fm : Int → Option Int} {b : Nat} {vs : List Value} (M : MapF h r kk vk fm) (a : At h b vs) : b ≠ r := fun e => by
  obtain ⟨l, es, c, h1, _⟩ := M
  obtain ⟨T, h2⟩ := a
  rw [e, h1] at h2; cases h2
theorem MapF.le {h h' : Heap} {r : Nat} {kk vk : IntKind} {fm : Int → Option Int} (M : MapF h r kk vk fm) (l : h.le h') : MapF h' r kk vk fm := by
  obtain ⟨es, e, c, h1, h2⟩ := M
  exact ⟨es, e, c, l _ _ h1, h2⟩
theorem MapF.set {h : Heap} {r b o : Nat} {ws vs : List Value} {kk vk : IntKind} {fm : Int → Option Int} (M : MapF h r kk vk fm) (a : At h b vs) : MapF (h.setN b o ws) r kk vk fm := by
  have := M.ne a
  obtain ⟨es, e, c, h1, h2⟩ := M
  exact ⟨es, e, c, by rw [qEK (fun x => this x.symm)]; exact h1, h2⟩
theorem At.insM {h : Heap} {b r : Nat} {vs : List Value} {o : Obj} (a : At h b vs) (e : b ≠ r) : At (h.ins r o) b vs := by
  obtain ⟨T, h2⟩ := a
  exact ⟨T, by unfold Heap.ins; rw [if_neg e]; exact h2⟩
end Go.Sy
