import Derived.Test.YtghdadniddoboaaGreatM01
/- Memory of one's own: a map from blocks to what stands in them, over what was there before. -/
namespace Go.Sy
abbrev Lay := Nat → Option (List Value)
def Lay.none : Lay := fun _ => Option.none
def Lay.upd (L : Lay) (b : Nat) (vs : List Value) : Lay := fun x => if x = b then some vs else L x
theorem Lay.upd_same (L : Lay) (b : Nat) (vs : List Value) : L.upd b vs b = some vs := by unfold Lay.upd; rw [if_pos rfl]
theorem Lay.upd_ne (L : Lay) {b x : Nat} (vs : List Value) (e : x ≠ b) : L.upd b vs x = L x := by unfold Lay.upd; rw [if_neg e]
theorem Lay.ne {L : Lay} {a b : Nat} {vs : List Value} (h1 : L a = some vs) (h2 : L b = Option.none) : a ≠ b := fun e => by rw [e, h2] at h1; cases h1
structure Own (h0 h : Heap) (L : Lay) : Prop where
  base : h0.le h
  new : ∀ b vs, L b = some vs → h0 b = Option.none
  has : ∀ b vs, L b = some vs → At h b vs
theorem Own.start (h : Heap) : Own h h Lay.none := ⟨h.le_refl, fun _ _ e => (by cases e), fun _ _ e => (by cases e)⟩
theorem Own.le {h0 h h' : Heap} {L : Lay} (o : Own h0 h L) (l : h.le h') : Own h0 h' L := ⟨Heap.le_trans o.base l, o.new, fun b vs e => (o.has b vs e).le l⟩
theorem Own.free {h0 h : Heap} {L : Lay} (o : Own h0 h L) {r : Nat} (hr : h r = Option.none) : L r = Option.none := by
  cases e : L r with
  | none => rfl
  | some vs => exact ((o.has r vs e).ne hr rfl).elim
theorem Own.ins {h0 h : Heap} {L : Lay} (o : Own h0 h L) {r : Nat} {vs : List Value} {T : TypeId} (hr : h r = Option.none) : Own h0 (h.ins r (.cells vs.toArray T (0, 0))) (L.upd r vs) := by
  have hf := o.free hr
  refine ⟨le_ins2 o.base hr, fun b ws e => ?_, fun b ws e => ?_⟩
  · by_cases hb : b = r
    · subst hb; exact none_of_le o.base hr
    · rw [Lay.upd_ne _ _ hb] at e; exact o.new b ws e
  · by_cases hb : b = r
    · subst hb
      rw [Lay.upd_same] at e
      cases e
      exact At.new h _ _ _
    · rw [Lay.upd_ne _ _ hb] at e; exact (o.has b ws e).ins hr
theorem Own.set {h0 h : Heap} {L : Lay} (o : Own h0 h L) {b i : Nat} {vs ws : List Value} (e : L b = some vs) : Own h0 (h.setN b i ws) (L.upd b (setL vs i ws)) := by
  refine ⟨le_setN o.base (o.new b vs e), fun x us e2 => ?_, fun x us e2 => ?_⟩
  · by_cases hb : x = b
    · subst hb; exact o.new x vs e
    · rw [Lay.upd_ne _ _ hb] at e2; exact o.new x us e2
  · by_cases hb : x = b
    · subst hb
      rw [Lay.upd_same] at e2
      cases e2
      exact (o.has x vs e).set
    · rw [Lay.upd_ne _ _ hb] at e2; exact (o.has x us e2).set_ne hb
theorem Own.less {h0 h : Heap} {L L' : Lay} (o : Own h0 h L) (s : ∀ b vs, L' b = some vs → L b = some vs) : Own h0 h L' :=
  ⟨o.base, fun b vs e => o.new b vs (s b vs e), fun b vs e => o.has b vs (s b vs e)⟩
theorem Own.cell {h0 h : Heap} {L : Lay} (o : Own h0 h L) {b i : Nat} {vs : List Value} {v : Value} (e : L b = some vs) (g : vs[i]? = some v) : h.cell b i = some v := (o.has b vs e).cell g
theorem Own.canSt {h0 h : Heap} {L : Lay} (o : Own h0 h L) {b i n : Nat} {vs : List Value} (e : L b = some vs) (g : i + n ≤ vs.length) : h.canSt b i n := (o.has b vs e).canSt g
def Lst (L : Lay) (z : List Value) (p : Option Addr) (c : Nat) (vs : List Value) : Prop :=
  (vs = [] ∧ p = Option.none ∧ c = 0) ∨ ∃ r sp, p = some ⟨r, 0, Option.none⟩ ∧ L r = some (vs ++ sp) ∧ c * z.length = (vs ++ sp).length
theorem Lst.nil (L : Lay) (z : List Value) : Lst L z Option.none 0 [] := .inl ⟨rfl, rfl, rfl⟩
theorem Lst.rd {h0 h : Heap} {L : Lay} {z : List Value} {p : Option Addr} {c : Nat} {vs : List Value} (x : Lst L z p c vs) (o : Own h0 h L) : rdL h p vs := by
  rcases x with ⟨rfl, _, _⟩ | ⟨r, sp, rfl, e, _⟩
  · exact .inl rfl
  · exact (o.has r _ e).toRd
theorem Lst.keep {L L' : Lay} {z : List Value} {p : Option Addr} {c : Nat} {vs : List Value} (x : Lst L z p c vs) (k : ∀ r, p = some ⟨r, 0, Option.none⟩ → L' r = L r) : Lst L' z p c vs := by
  rcases x with x | ⟨r, sp, e, hr, k2⟩
  · exact .inl x
  · exact .inr ⟨r, sp, e, by rw [k r e]; exact hr, k2⟩
theorem Lst.push {h0 h : Heap} {L : Lay} {z : List Value} {t : TypeId} {p a : Option Addr} {len c n : Nat} {vs ws : List Value} {J : Option Addr → Nat → Heap → Prop} (x : Lst L z p c vs) (o : Own h0 h L) (hz : 0 < z.length)
    (hlen : len + n ≤ 1073741824) (hw : ws.length = n * z.length) (rw' : rdL h a ws) (aw : allCells ws = true) (hv : vs.length = len * z.length)
    (k : ∀ p' c' h' L', Own h0 h' L' → Lst L' z p' c' (vs ++ ws) → (∀ b us, L b = some us → p ≠ some ⟨b, 0, Option.none⟩ → L' b = some us) → (p' = p ∨ ∃ r, p' = some ⟨r, 0, Option.none⟩ ∧ L r = Option.none) → J p' c' h') :
    AppA z t h p len c n a J := by
  have own : OwnL h0 h z p c vs := by
    rcases x with x | ⟨r, sp, e, hr, k2⟩
    · exact .inl x
    · exact .inr ⟨r, sp, e, o.new r _ hr, o.has r _ hr, k2⟩
  refine own.push hz o.base hlen hw rw' aw hv fun p' c' h' l' w' keep how => ?_
  have how' : p' = p ∨ ∃ r, p' = some ⟨r, 0, Option.none⟩ ∧ L r = Option.none := by
    rcases how with e | ⟨r, e, hr⟩
    · exact .inl e
    · exact .inr ⟨r, e, o.free hr⟩
  rcases w' with ⟨e1, e2, e3⟩ | ⟨r, sp, e1, e2, A, e4⟩
  · have ep : p = Option.none := by
      rcases how with rfl | ⟨r, e5, _⟩
      · exact e2
      · rw [e2] at e5; cases e5
    exact k p' c' h' L ⟨l', o.new, fun b us e => keep b us (o.has b us e) (by rw [ep]; intro e6; cases e6)⟩ (.inl ⟨e1, e2, e3⟩) (fun b us e _ => e) how'
  · subst e1
    have hne : ∀ b us, L b = some us → p ≠ some ⟨b, 0, Option.none⟩ → b ≠ r := fun b us e hp hb => by
      subst hb
      rcases how' with e5 | ⟨r', e5, hr'⟩
      · exact hp e5.symm
      · cases e5; rw [e] at hr'; cases hr'
    refine k _ c' h' (fun x => if x = r then some (vs ++ ws ++ sp) else if p = some ⟨x, 0, Option.none⟩ then Option.none else L x) ⟨l', fun b us e => ?_, fun b us e => ?_⟩ (.inr ⟨r, sp, rfl, if_pos rfl, e4⟩) (fun b us e hp => ?_) how'
    · split at e
      · rename_i hb; rw [hb]; exact e2
      · split at e
        · cases e
        · exact o.new b us e
    · split at e
      · rename_i hb; cases e; rw [hb]; exact A
      · split at e
        · cases e
        · rename_i hp
          exact keep b us (o.has b us e) hp
    · rw [if_neg (hne b us e hp), if_neg hp]; exact e
theorem MapF.ne {h : Heap} {r : Nat} {kk vk : IntKind} {fm : Int → Option Int} {b : Nat} {vs : List Value} (M : MapF h r kk vk fm) (a : At h b vs) : b ≠ r := fun e => by
  obtain ⟨l, es, c, h1, _⟩ := M
  obtain ⟨T, h2⟩ := a
  rw [e, h1] at h2; cases h2
theorem MapF.le {h h' : Heap} {r : Nat} {kk vk : IntKind} {fm : Int → Option Int} (M : MapF h r kk vk fm) (l : h.le h') : MapF h' r kk vk fm := by
  obtain ⟨es, e, c, h1, h2⟩ := M
  exact ⟨es, e, c, l _ _ h1, h2⟩
theorem MapF.set {h : Heap} {r b o : Nat} {ws vs : List Value} {kk vk : IntKind} {fm : Int → Option Int} (M : MapF h r kk vk fm) (a : At h b vs) : MapF (h.setN b o ws) r kk vk fm := by
  have := M.ne a
  obtain ⟨es, e, c, h1, h2⟩ := M
  exact ⟨es, e, c, by rw [setN_other (fun x => this x.symm)]; exact h1, h2⟩
end Go.Sy
