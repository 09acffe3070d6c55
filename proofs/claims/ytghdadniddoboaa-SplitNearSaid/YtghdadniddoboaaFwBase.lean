/- A weakest-precondition calculus over partial heaps, sound for the kit's 'Calls': heaps, the handler of 'Sem', calls and runs. -/
import Derived.Calls
import Derived.Orders
import Derived.KernelRfl
namespace Go.Sy

abbrev Heap := Nat → Option Obj

def Heap.le (h h' : Heap) : Prop := ∀ r o, h r = some o → h' r = some o
theorem Heap.le_refl (h : Heap) : h.le h := fun _ _ e => e
theorem Heap.le_trans {a b c : Heap} (x : a.le b) (y : b.le c) : a.le c := fun r o e => y r o (x r o e)

def Rep (h : Heap) (w : World) : Prop := ∀ r o, h r = some o → w.heap[r]? = some o
theorem Rep.le {h h' : Heap} {w : World} (r : Rep h' w) (l : h.le h') : Rep h w := fun x o e => r x o (l x o e)

/-- What a run from (h, w) to (h', w') leaves alone: all that h doesn't know. -/
structure Fr (h : Heap) (w : World) (h' : Heap) (w' : World) : Prop where
  os : w'.os = w.os
  tape : w'.tape = w.tape
  output : w'.output = w.output
  size : w.heap.size ≤ w'.heap.size
  keep : ∀ r, r < w.heap.size → h r = none → w'.heap[r]? = w.heap[r]?
  dom : ∀ r, r < w.heap.size → h r = none → h' r = none

theorem Fr.refl (h : Heap) (w : World) : Fr h w h w := ⟨rfl, rfl, rfl, Nat.le_refl _, fun _ _ _ => rfl, fun _ _ e => e⟩
theorem Fr.trans {h h1 h2 : Heap} {w w1 w2 : World} (a : Fr h w h1 w1) (b : Fr h1 w1 h2 w2) : Fr h w h2 w2 :=
  ⟨b.os.trans a.os, b.tape.trans a.tape, b.output.trans a.output, Nat.le_trans a.size b.size,
   fun r hr e => (b.keep r (Nat.lt_of_lt_of_le hr a.size) (a.dom r hr e)).trans (a.keep r hr e),
   fun r hr e => b.dom r (Nat.lt_of_lt_of_le hr a.size) (a.dom r hr e)⟩
/-- Less known ahead: what is left alone is more. -/
theorem Fr.more {h0 h h' : Heap} {w w' : World} (a : Fr h0 w h' w') (l : h0.le h) : Fr h w h' w' :=
  have none_of : ∀ r, h r = none → h0 r = none := fun r e => by
    cases h1 : h0 r with
    | none => rfl
    | some o => rw [l r o h1] at e; cases e
  ⟨a.os, a.tape, a.output, a.size, fun r hr e => a.keep r hr (none_of r e), fun r hr e => a.dom r hr (none_of r e)⟩
/-- Less known behind. -/
theorem Fr.less {h h' h2 : Heap} {w w' : World} (a : Fr h w h' w') (l : h2.le h') : Fr h w h2 w' :=
  ⟨a.os, a.tape, a.output, a.size, a.keep, fun r hr e => by
    cases h1 : h2 r with
    | none => rfl
    | some o => have := l r o h1; rw [a.dom r hr e] at this; cases this⟩
theorem Fr.drew {h h' : Heap} {w w' : World} (n : Nat) (a : Fr h { w with drawn := n } h' w') : Fr h w h' w' := ⟨a.os, a.tape, a.output, a.size, a.keep, a.dom⟩

def Heap.cellA (h : Heap) (a : Addr) : Option Value :=
  match h a.block with
  | some (.cells c _ _) => if a.spot.isSome then none else c[a.off]?
  | _ => none
def Heap.frozenA (h : Heap) (a : Addr) : Bool :=
  match h a.block with
  | some (.cells _ _ (lo, hi)) => lo ≤ a.off && a.off < hi
  | _ => false
def Heap.ins (h : Heap) (r : Nat) (o : Obj) : Heap := fun x => if x = r then some o else h x
def setObjCell (a : Addr) (v : Value) : Obj → Obj
  | .cells c e f => .cells (if a.spot.isSome then c else c.setIfInBounds a.off v) e f
  | o => o
def Heap.setA (h : Heap) (a : Addr) (v : Value) : Heap := fun x => if x = a.block then (h x).map (setObjCell a v) else h x
def freezeObj (a : Addr) (n : Nat) : Obj → Obj
  | .cells c elem (lo, hi) => .cells c elem (if lo == hi then (a.off, a.off + n) else (min lo a.off, max hi (a.off + n)))
  | o => o
def Heap.freezeA (h : Heap) (a : Addr) (n : Nat) : Heap := if n = 0 then h else fun x => if x = a.block then (h x).map (freezeObj a n) else h x
def shapeOf : Obj → Option (TypeId × Nat)
  | .cells c elem _ => some (elem, c.size)
  | _ => none
def isCells : Obj → Bool
  | .cells .. => true
  | _ => false
def isCellV : Value → Bool
  | .agg _ | .tuple _ => false
  | _ => true

theorem cell_of {h : Heap} {w : World} {a : Addr} {v : Value} (r : Rep h w) (e : h.cellA a = some v) : w.cell? a = some v := by
  unfold Heap.cellA at e
  unfold World.cell?
  cases hb : h a.block with
  | none => rw [hb] at e; cases e
  | some o =>
    rw [hb] at e
    rw [r _ _ hb]
    cases o <;> first | exact e | cases e
theorem frozen_of {h : Heap} {w : World} {a : Addr} {o : Obj} (r : Rep h w) (e : h a.block = some o) : w.frozen? a = h.frozenA a := by
  unfold Heap.frozenA World.frozen?
  rw [e, r _ _ e]
  cases o <;> rfl
theorem shape_of {h : Heap} {w : World} {b : Nat} {o : Obj} (r : Rep h w) (e : h b = some o) : w.shape? b = shapeOf o := by
  unfold World.shape?
  rw [r _ _ e]
  cases o <;> rfl
theorem lt_of_rep {h : Heap} {w : World} {b : Nat} {o : Obj} (r : Rep h w) (e : h b = some o) : b < w.heap.size := by
  have := r _ _ e
  exact (Array.getElem?_eq_some_iff.1 this).1
theorem new_none {h : Heap} {w : World} (r : Rep h w) : h w.heap.size = none := by
  cases e : h w.heap.size with
  | none => rfl
  | some o => have := lt_of_rep r e; omega

theorem rep_modify {h : Heap} {w w' : World} {b : Nat} {f : Obj → Obj} (r : Rep h w) (e : w'.heap = w.heap.modify b f) :
    Rep (fun x => if x = b then (h x).map f else h x) w' := by
  intro x o hx
  rw [e, Array.getElem?_modify]
  dsimp only at hx
  by_cases hxb : x = b
  · rw [if_pos hxb] at hx
    rw [if_pos hxb.symm]
    cases h1 : h x with
    | none => rw [h1] at hx; cases hx
    | some o1 =>
      rw [h1] at hx
      rw [r _ _ h1]
      exact hx
  · rw [if_neg hxb] at hx
    rw [if_neg (fun e => hxb e.symm)]
    exact r _ _ hx
theorem fr_modify {h : Heap} {w w' : World} {b : Nat} {o : Obj} {f : Obj → Obj} (e : w'.heap = w.heap.modify b f) (hb : h b = some o)
    (h1 : w'.os = w.os) (h2 : w'.tape = w.tape) (h3 : w'.output = w.output) :
    Fr h w (fun x => if x = b then (h x).map f else h x) w' := by
  refine ⟨h1, h2, h3, by rw [e]; simp, fun r _ hr => ?_, fun r _ hr => ?_⟩
  · rw [e, Array.getElem?_modify]
    by_cases hrb : b = r
    · rw [hrb] at hb; rw [hb] at hr; cases hr
    · rw [if_neg hrb]
  · by_cases hrb : r = b
    · rw [← hrb] at hb; rw [hb] at hr; cases hr
    · simp only [if_neg hrb]; exact hr
theorem rep_push {h : Heap} {w w' : World} {o : Obj} (r : Rep h w) (e : w'.heap = w.heap.push o) : Rep (h.ins w.heap.size o) w' := by
  intro x o' hx
  rw [e, Array.getElem?_push]
  unfold Heap.ins at hx
  by_cases hxs : x = w.heap.size
  · rw [if_pos hxs] at hx; rw [if_pos hxs]; exact hx
  · rw [if_neg hxs] at hx; rw [if_neg hxs]; exact r _ _ hx
theorem fr_push {h : Heap} {w w' : World} {o : Obj} (e : w'.heap = w.heap.push o)
    (h1 : w'.os = w.os) (h2 : w'.tape = w.tape) (h3 : w'.output = w.output) : Fr h w (h.ins w.heap.size o) w' := by
  refine ⟨h1, h2, h3, by rw [e]; simp, fun r hr _ => ?_, fun r hr hn => ?_⟩
  · rw [e, Array.getElem?_push, if_neg (by omega)]
  · unfold Heap.ins; rw [if_neg (by omega)]; exact hn

/-- The handler: what holds behind 's', run over all that h knows. -/
def swp (P : Program) (q : Bool) {α : Type} : Sem α → Heap → (α → Heap → Prop) → Prop
  | .pure a, h, Q => Q a h
  | .load _ a k, h, Q => ∃ v, h.cellA a = some v ∧ swp P q (k v) h Q
  | .store _ a v k, h, Q => q = false ∧ isCellV v = true ∧ (∃ u, h.cellA a = some u) ∧ h.frozenA a = false ∧ swp P q k (h.setA a v) Q
  | .new o k, h, Q => q = false ∧ ∀ r, h r = none → swp P q (k r) (h.ins r o) Q
  | .shape r k, h, Q => ∃ o, h r = some o ∧ swp P q (k (shapeOf o)) h Q
  | .freeze a n k, h, Q => q = false ∧ (∃ o, h a.block = some o) ∧ swp P q k (h.freezeA a n) Q
  | .frozen a k, h, Q => (∃ o, h a.block = some o) ∧ swp P q (k (h.frozenA a)) h Q
  | .getObj r k, h, Q => ∃ o, h r = some o ∧ isCells o = false ∧ swp P q (k o) h Q
  | .setObj r o k, h, Q => q = false ∧ ∃ o', h r = some o' ∧ isCells o' = false ∧ swp P q k (h.ins r o) Q
  | .choose qu k, h, Q => (qu.forced = true → swp P q (k 0) h Q) ∧ (qu.forced = false → q = false ∧ ∀ t, swp P q (k (qu.cut t)) h Q)
  | .sys _ _, _, _ => False
  | .program k, h, Q => swp P q (k P) h Q
  | .mark _ k, h, Q => swp P q k h Q
  | .halt _, _, _ => False

theorem swp_sound {P : Program} {q : Bool} {α : Type} (s : Sem α) : ∀ (h : Heap) (Q : α → Heap → Prop) (w : World), swp P q s h Q → Rep h w →
    ∃ a h' w', s.run P w = .ok a w' ∧ Q a h' ∧ Rep h' w' ∧ Fr h w h' w' := by
  induction s with
  | pure a => exact fun h Q w hs r => ⟨a, h, w, rfl, hs, r, Fr.refl _ _⟩
  | load m a k ih =>
    rintro h Q w ⟨v, hv, hs⟩ r
    obtain ⟨x, h', w', e, qq, r', f⟩ := ih v h Q w hs r
    exact ⟨x, h', w', by simp only [Sem.run, cell_of r hv]; exact e, qq, r', f⟩
  | store m a v k ih =>
    rintro h Q w ⟨_, hc, ⟨u, hu⟩, hf, hs⟩ r
    have hcell := cell_of r hu
    obtain ⟨o, ho⟩ : ∃ o, h a.block = some o := by
      unfold Heap.cellA at hu
      cases e : h a.block with
      | none => rw [e] at hu; cases hu
      | some o => exact ⟨o, rfl⟩
    have hfz : w.frozen? a = false := (frozen_of r ho).trans hf
    have hh : (w.setCell a v).heap = w.heap.modify a.block (setObjCell a v) := by
      unfold World.setCell setObjCell
      rfl
    have r1 : Rep (h.setA a v) (w.setCell a v) := rep_modify r hh
    have f1 : Fr h w (h.setA a v) (w.setCell a v) := fr_modify hh ho rfl rfl rfl
    obtain ⟨x, h', w', e, qq, r', f⟩ := ih (h.setA a v) Q (w.setCell a v) hs r1
    refine ⟨x, h', w', ?_, qq, r', f1.trans f⟩
    cases v <;> first | (simp only [isCellV, Bool.false_eq_true] at hc; done) | (simp only [Sem.run, hcell, hfz]; exact e)
  | new o k ih =>
    intro h Q w hs r
    have hs := hs.2 w.heap.size (new_none r)
    obtain ⟨x, h', w', e, qq, r', f⟩ := ih _ _ Q { w with heap := w.heap.push o } hs (rep_push r rfl)
    exact ⟨x, h', w', e, qq, r', (fr_push (w := w) (w' := { w with heap := w.heap.push o }) rfl rfl rfl rfl).trans f⟩
  | shape b k ih =>
    rintro h Q w ⟨o, ho, hs⟩ r
    obtain ⟨x, h', w', e, qq, r', f⟩ := ih _ h Q w hs r
    exact ⟨x, h', w', by simp only [Sem.run, shape_of r ho]; exact e, qq, r', f⟩
  | freeze a n k ih =>
    rintro h Q w ⟨_, ⟨o, ho⟩, hs⟩ r
    by_cases hn : n = 0
    · unfold Heap.freezeA at hs
      rw [if_pos hn] at hs
      obtain ⟨x, h', w', e, qq, r', f⟩ := ih h Q w hs r
      exact ⟨x, h', w', by simp only [Sem.run, World.freeze, hn, if_true]; exact e, qq, r', f⟩
    · have hh : (w.freeze a n).heap = w.heap.modify a.block (freezeObj a n) := by
        unfold World.freeze freezeObj
        rw [if_neg hn]
        rfl
      unfold Heap.freezeA at hs
      rw [if_neg hn] at hs
      have ho1 : (w.freeze a n).os = w.os := by unfold World.freeze; rw [if_neg hn]
      have ho2 : (w.freeze a n).tape = w.tape := by unfold World.freeze; rw [if_neg hn]
      have ho3 : (w.freeze a n).output = w.output := by unfold World.freeze; rw [if_neg hn]
      obtain ⟨x, h', w', e, qq, r', f⟩ := ih _ Q (w.freeze a n) hs (rep_modify r hh)
      exact ⟨x, h', w', e, qq, r', (fr_modify hh ho ho1 ho2 ho3).trans f⟩
  | frozen a k ih =>
    rintro h Q w ⟨⟨o, ho⟩, hs⟩ r
    obtain ⟨x, h', w', e, qq, r', f⟩ := ih _ h Q w hs r
    exact ⟨x, h', w', by simp only [Sem.run, frozen_of r ho]; exact e, qq, r', f⟩
  | getObj b k ih =>
    rintro h Q w ⟨o, ho, hc, hs⟩ r
    obtain ⟨x, h', w', e, qq, r', f⟩ := ih _ h Q w hs r
    refine ⟨x, h', w', ?_, qq, r', f⟩
    have := r _ _ ho
    cases o <;> first | (simp only [isCells, Bool.true_eq_false] at hc; done) | (simp only [Sem.run, this]; exact e)
  | setObj b o k ih =>
    rintro h Q w ⟨_, o', ho, hc, hs⟩ r
    have hb := r _ _ ho
    have hlt := lt_of_rep r ho
    have r1 : Rep (h.ins b o) { w with heap := w.heap.setIfInBounds b o } := by
      intro x u hx
      unfold Heap.ins at hx
      show (w.heap.setIfInBounds b o)[x]? = _
      by_cases hxb : x = b
      · rw [if_pos hxb] at hx
        rw [hxb, Array.getElem?_setIfInBounds_self_of_lt hlt]; exact hx
      · rw [if_neg hxb] at hx
        rw [Array.getElem?_setIfInBounds_ne (fun e => hxb e.symm)]; exact r _ _ hx
    have f1 : Fr h w (h.ins b o) { w with heap := w.heap.setIfInBounds b o } := by
      refine ⟨rfl, rfl, rfl, by simp, fun x _ hn => ?_, fun x _ hn => ?_⟩
      · have hxb : b ≠ x := by rintro rfl; rw [ho] at hn; cases hn
        show (w.heap.setIfInBounds b o)[x]? = _
        rw [Array.getElem?_setIfInBounds_ne hxb]
      · have hxb : x ≠ b := by rintro rfl; rw [ho] at hn; cases hn
        unfold Heap.ins; rw [if_neg hxb]; exact hn
    obtain ⟨x, h', w', e, qq, r', f⟩ := ih _ Q _ hs r1
    refine ⟨x, h', w', ?_, qq, r', f1.trans f⟩
    cases o' <;> first | (simp only [isCells, Bool.true_eq_false] at hc; done) | (simp only [Sem.run, hb]; exact e)
  | choose qu k ih =>
    rintro h Q w ⟨h1, h2⟩ r
    cases hq : qu.forced with
    | true =>
      obtain ⟨x, h', w', e, qq, r', f⟩ := ih 0 h Q w (h1 hq) r
      exact ⟨x, h', w', by simp only [Sem.run, hq, if_true]; exact e, qq, r', f⟩
    | false =>
      obtain ⟨x, h', w', e, qq, r', f⟩ := ih _ h Q { w with drawn := w.drawn + 1 } ((h2 hq).2 (w.tape w.drawn qu)) r
      exact ⟨x, h', w', by simp only [Sem.run, hq, Bool.false_eq_true, if_false]; exact e, qq, r', Fr.drew _ f⟩
  | sys c k ih => exact fun h Q w hs => hs.elim
  | program k ih =>
    intro h Q w hs r
    obtain ⟨x, h', w', e, qq, r', f⟩ := ih P h Q w hs r
    exact ⟨x, h', w', by simp only [Sem.run]; exact e, qq, r', f⟩
  | mark m k ih =>
    intro h Q w hs r
    obtain ⟨x, h', w', e, qq, r', f⟩ := ih h Q w hs r
    exact ⟨x, h', w', by simp only [Sem.run]; exact e, qq, r', f⟩
  | halt x => exact fun h Q w hs => hs.elim

theorem swp_bind {P : Program} {q : Bool} {α β : Type} (s : Sem α) (f : α → Sem β) (Q : β → Heap → Prop) : ∀ h : Heap,
    swp P q (s.bind f) h Q ↔ swp P q s h (fun a h' => swp P q (f a) h' Q) := by
  induction s with
  | pure a => exact fun h => Iff.rfl
  | load m a k ih => exact fun h => by simp only [Sem.bind, swp, ih]
  | store m a v k ih => exact fun h => by simp only [Sem.bind, swp, ih]
  | new o k ih => exact fun h => by simp only [Sem.bind, swp, ih]
  | shape r k ih => exact fun h => by simp only [Sem.bind, swp, ih]
  | freeze a n k ih => exact fun h => by simp only [Sem.bind, swp, ih]
  | frozen a k ih => exact fun h => by simp only [Sem.bind, swp, ih]
  | getObj r k ih => exact fun h => by simp only [Sem.bind, swp, ih]
  | setObj r o k ih => exact fun h => by simp only [Sem.bind, swp, ih]
  | choose q k ih => exact fun h => by simp only [Sem.bind, swp, ih]
  | sys c k ih => exact fun h => by simp only [Sem.bind, swp]
  | program k ih => exact fun h => by simp only [Sem.bind, swp, ih]
  | mark m k ih => exact fun h => by simp only [Sem.bind, swp, ih]
  | halt x => exact fun h => Iff.rfl
theorem swp_mono {P : Program} {q : Bool} {α : Type} (s : Sem α) : ∀ (h : Heap) (Q Q' : α → Heap → Prop), (∀ a h', Q a h' → Q' a h') → swp P q s h Q → swp P q s h Q' := by
  induction s with
  | pure a => exact fun h Q Q' f x => f _ _ x
  | load m a k ih => exact fun h Q Q' f ⟨v, hv, x⟩ => ⟨v, hv, ih v _ _ _ f x⟩
  | store m a v k ih => exact fun h Q Q' f ⟨a0, a1, a2, a3, x⟩ => ⟨a0, a1, a2, a3, ih _ _ _ f x⟩
  | new o k ih => exact fun h Q Q' f x => ⟨x.1, fun r hr => ih r _ _ _ f (x.2 r hr)⟩
  | shape r k ih => exact fun h Q Q' f ⟨o, ho, x⟩ => ⟨o, ho, ih _ _ _ _ f x⟩
  | freeze a n k ih => exact fun h Q Q' f ⟨h0, ho, x⟩ => ⟨h0, ho, ih _ _ _ f x⟩
  | frozen a k ih => exact fun h Q Q' f ⟨ho, x⟩ => ⟨ho, ih _ _ _ _ f x⟩
  | getObj r k ih => exact fun h Q Q' f ⟨o, ho, hc, x⟩ => ⟨o, ho, hc, ih _ _ _ _ f x⟩
  | setObj r o k ih => exact fun h Q Q' f ⟨h0, o, ho, hc, x⟩ => ⟨h0, o, ho, hc, ih _ _ _ f x⟩
  | choose q k ih => exact fun h Q Q' f ⟨x, y⟩ => ⟨fun e => ih _ _ _ _ f (x e), fun e => ⟨(y e).1, fun t => ih _ _ _ _ f ((y e).2 t)⟩⟩
  | sys c k ih => exact fun h Q Q' f x => x
  | program k ih => exact fun h Q Q' f x => ih _ _ _ _ f x
  | mark m k ih => exact fun h Q Q' f x => ih _ _ _ f x
  | halt x => exact fun h Q Q' f x => x

/-- In the quiet mode the world stays, and the answer hangs on what h knows alone. -/
theorem swq_sound {P : Program} {α : Type} (s : Sem α) : ∀ (h : Heap) (Q : α → Heap → Prop), swp P true s h Q →
    ∃ a, (∀ w, Rep h w → s.run P w = .ok a w) ∧ Q a h := by
  induction s with
  | pure a => exact fun h Q hs => ⟨a, fun w _ => rfl, hs⟩
  | load m a k ih =>
    rintro h Q ⟨v, hv, hs⟩
    obtain ⟨x, e, qq⟩ := ih v h Q hs
    exact ⟨x, fun w r => by simp only [Sem.run, cell_of r hv]; exact e w r, qq⟩
  | store m a v k ih => exact fun h Q hs => (by cases hs.1)
  | new o k ih => exact fun h Q hs => (by cases hs.1)
  | shape b k ih =>
    rintro h Q ⟨o, ho, hs⟩
    obtain ⟨x, e, qq⟩ := ih _ h Q hs
    exact ⟨x, fun w r => by simp only [Sem.run, shape_of r ho]; exact e w r, qq⟩
  | freeze a n k ih => exact fun h Q hs => (by cases hs.1)
  | frozen a k ih =>
    rintro h Q ⟨⟨o, ho⟩, hs⟩
    obtain ⟨x, e, qq⟩ := ih _ h Q hs
    exact ⟨x, fun w r => by simp only [Sem.run, frozen_of r ho]; exact e w r, qq⟩
  | getObj b k ih =>
    rintro h Q ⟨o, ho, hc, hs⟩
    obtain ⟨x, e, qq⟩ := ih _ h Q hs
    refine ⟨x, fun w r => ?_, qq⟩
    have := r _ _ ho
    cases o <;> first | (simp only [isCells, Bool.true_eq_false] at hc; done) | (simp only [Sem.run, this]; exact e w r)
  | setObj b o k ih => exact fun h Q hs => (by cases hs.1)
  | choose qu k ih =>
    rintro h Q ⟨h1, h2⟩
    cases hq : qu.forced with
    | true =>
      obtain ⟨x, e, qq⟩ := ih 0 h Q (h1 hq)
      exact ⟨x, fun w r => by simp only [Sem.run, hq, if_true]; exact e w r, qq⟩
    | false => cases (h2 hq).1
  | sys c k ih => exact fun h Q hs => hs.elim
  | program k ih =>
    intro h Q hs
    obtain ⟨x, e, qq⟩ := ih P h Q hs
    exact ⟨x, fun w r => by simp only [Sem.run]; exact e w r, qq⟩
  | mark m k ih =>
    intro h Q hs
    obtain ⟨x, e, qq⟩ := ih h Q hs
    exact ⟨x, fun w r => by simp only [Sem.run]; exact e w r, qq⟩
  | halt x => exact fun h Q hs => hs.elim

/-- A call of function f: it returns, and K holds of what it returns and of the heap then. -/
def CallA (P : Program) (f : FuncId) (args : List Value) (h : Heap) (K : Value → Heap → Prop) : Prop :=
  ∀ w, Rep h w → (callFunc f args.toArray).run P w = .ok (.enter f args.toArray) w ∧
    Calls P f args.toArray w fun e w' => ∃ v h', e = .returned v ∧ K v h' ∧ Rep h' w' ∧ Fr h w h' w'

def fbase (f : FuncId) : Frame := { (default : Frame) with fn := f, kind := .normal }
/-- The rest of a call of f: it returns, and K holds then. -/
def Run (P : Program) (f : FuncId) (k : List Item) (t : List Value) (h : Heap) (K : Value → Heap → Prop) : Prop :=
  ∀ w cs, Rep h w → ∃ v h' w' fr, K v h' ∧ Rep h' w' ∧ Fr h w h' w' ∧
    Steps P (lone ((fbase f).at ⟨t.toArray, []⟩ k) cs w) (lone fr cs w') ∧ fr.fn = f ∧ fr.leaving P w' (.returned v)

theorem CallA.mono {P : Program} {f : FuncId} {args : List Value} {h : Heap} {K K' : Value → Heap → Prop} (c : CallA P f args h K)
    (m : ∀ v h', K v h' → K' v h') : CallA P f args h K' := fun w r =>
  ⟨(c w r).1, (c w r).2.mono fun _ _ ⟨v, h', e, k, x⟩ => ⟨v, h', e, m _ _ k, x⟩⟩
theorem CallA.drop {P : Program} {f : FuncId} {args : List Value} {h h0 : Heap} {K : Value → Heap → Prop} (c : CallA P f args h0 K) (l : h0.le h) :
    CallA P f args h K := fun w r =>
  ⟨(c w (r.le l)).1, (c w (r.le l)).2.mono fun _ _ ⟨v, h', e, k, r', fr⟩ => ⟨v, h', e, k, r', fr.more l⟩⟩
theorem Run.mono {P : Program} {f : FuncId} {k : List Item} {t : List Value} {h : Heap} {K K' : Value → Heap → Prop} (c : Run P f k t h K)
    (m : ∀ v h', K v h' → K' v h') : Run P f k t h K' := fun w cs r =>
  let ⟨v, h', w', fr, kk, x⟩ := c w cs r
  ⟨v, h', w', fr, m _ _ kk, x⟩
theorem Run.drop {P : Program} {f : FuncId} {k : List Item} {t : List Value} {h h0 : Heap} {K : Value → Heap → Prop} (c : Run P f k t h0 K) (l : h0.le h) :
    Run P f k t h K := fun w cs r =>
  let ⟨v, h', w', fr, kk, r', f', x⟩ := c w cs (r.le l)
  ⟨v, h', w', fr, kk, r', f'.more l, x⟩
/-- The frame: what a call doesn't know stays. -/
theorem CallA.frame {P : Program} {f : FuncId} {args : List Value} {h h0 : Heap} {K : Value → Heap → Prop} (c : CallA P f args h0 K) (l : h0.le h) :
    CallA P f args h fun v h' => ∃ h0', K v h0' ∧ h0'.le h' ∧ (∀ r o, h r = some o → h0 r = none → h' r = some o) := fun w r =>
  ⟨(c w (r.le l)).1, (c w (r.le l)).2.mono fun _ w' ⟨v, h0', e, k, r', fr⟩ => by
    have hdis : ∀ x o, h x = some o → h0 x = none → h0' x = none := fun x o hx hn => fr.dom x (lt_of_rep r hx) hn
    refine ⟨v, fun x => match h0' x with | some o => some o | none => if h0 x = none then h x else none, e, ⟨h0', k, ?_, ?_⟩, ?_, ?_⟩
    · intro x o hx; simp only [hx]
    · intro x o hx hn; simp only [hdis x o hx hn, hn, if_true]; exact hx
    · intro x o hx
      dsimp only at hx
      cases h1 : h0' x with
      | some o1 => rw [h1] at hx; cases hx; exact r' _ _ h1
      | none =>
        rw [h1] at hx
        by_cases hn : h0 x = none
        · simp only [hn, if_true] at hx
          rw [fr.keep x (lt_of_rep r hx) hn]; exact r _ _ hx
        · simp only [hn, if_false] at hx; cases hx
    · refine ⟨fr.os, fr.tape, fr.output, fr.size, (fr.more l).keep, fun x hx hn => ?_⟩
      have h1 := (fr.more l).dom x hx hn
      simp only [h1, hn]
      split <;> rfl⟩

/-- A function with a body: its run is the call. -/
theorem CallA.of_run {P : Program} {f : FuncId} {fn : Func} {c : Code} {args : List Value} {h : Heap} {K : Value → Heap → Prop}
    (hf : P.funcs[f]? = some fn) (hb : fn.body = some c) (hc : ∀ (a : Array Value) (w : World), (callFunc f a).run P w = .ok (.enter f a) w)
    (hr : Run P f [.code c] (args ++ List.replicate (fn.ntmps - args.length) undef) h K) : CallA P f args h K := by
  intro w r
  refine ⟨hc _ _, fun cs => ?_⟩
  have henter : Frame.enter P f args.toArray .normal = (fbase f).at ⟨(args ++ List.replicate (fn.ntmps - args.length) undef).toArray, []⟩ [.code c] := by
    simp [Frame.enter, Frame.at, hf, hb, fbase]
  obtain ⟨v, h', w', fr, kk, r', f', st, e1, e2⟩ := hr w cs r
  exact ⟨.returned v, w', fr, ⟨v, h', rfl, kk, r', f'⟩, by rw [henter]; exact st, e1, e2⟩

end Go.Sy
