import Derived.Calls
import Derived.Orders
import Derived.KernelRfl
import Derived.Laws.Tables
import Derived.DeepKeys3
import Derived.WideKeyMaps
/- A weakest-precondition calculus over partial heaps, sound for the kit's 'Calls': heaps, the handler of 'Sem', calls and runs. -/
namespace Go.Sy

abbrev Heap := Nat → Option Obj

def Heap.le (h h' : Heap) : Prop := ∀ r o, h r = some o → h' r = some o
theorem Heap.le_refl (h : Heap) : h.le h := fun _ _ e => e
theorem Heap.le_trans {a b c : Heap} (x : a.le b) (y : b.le c) : a.le c := fun r o e => y r o (x r o e)

def Rep (h : Heap) (w : World) : Prop := ∀ r o, h r = some o → w.heap[r]? = some o
theorem Rep.le {h h' : Heap} {w : World} (r : Rep h' w) (l : h.le h') : Rep h w := fun x o e => r x o (l x o e)

structure Fr (h : Heap) (w : World) (h' : Heap) (w' : World) : Prop where
  os : w'.os = w.os
  tape : w'.tape = w.tape
  output : w'.output = w.output
  size : w.heap.size ≤ w'.heap.size
  keep : ∀ r, r < w.heap.size → h r = none → w'.heap[r]? = w.heap[r]?
  dom : ∀ r, r < w.heap.size → h r = none → h' r = none

theorem Fr.refl (h : Heap) (w : World) : Fr h w h w := ⟨rfl, rfl, rfl, Nat.le_refl _, fun _ _ _ => rfl, fun _ _ e => e⟩
theorem Fr.trans {h h1 h2 : Heap} {w w1 w2 : World} (a : Fr h w h1 w1) (b : Fr h1 w1 h2 w2) : Fr h w h2 w2 :=
  ⟨b.os.trans a.os, b.tape.trans a.tape, b.output.trans a.output, Nat.le_trans a.size b.size,
   fun r hr e => (b.keep r (Nat.lt_of_lt_of_le hr a.size) (a.dom r hr e)).trans (a.keep r hr e),
   fun r hr e => b.dom r (Nat.lt_of_lt_of_le hr a.size) (a.dom r hr e)⟩
theorem Fr.more {h0 h h' : Heap} {w w' : World} (a : Fr h0 w h' w') (l : h0.le h) : Fr h w h' w' :=
  have none_of : ∀ r, h r = none → h0 r = none := fun r e => by
    cases h1 : h0 r with
    | none => rfl
    | some o => rw [l r o h1] at e; cases e
  ⟨a.os, a.tape, a.output, a.size, fun r hr e => a.keep r hr (none_of r e), fun r hr e => a.dom r hr (none_of r e)⟩
theorem Fr.less {h h' h2 : Heap} {w w' : World} (a : Fr h w h' w') (l : h2.le h') : Fr h w h2 w' :=
  ⟨a.os, a.tape, a.output, a.size, a.keep, fun r hr e => by
    cases h1 : h2 r with
    | none => rfl
    | some o => have := l r o h1; rw [a.dom r hr e] at this; cases this⟩
theorem Fr.drew {h h' : Heap} {w w' : World} (n : Nat) (a : Fr h { w with drawn := n } h' w') : Fr h w h' w' := ⟨a.os, a.tape, a.output, a.size, a.keep, a.dom⟩

def Heap.cellA (h : Heap) (a : Addr) : Option Value :=
  match h a.block with
  | some (.cells c _ _) => if a.spot.isSome then none else c[a.off]?
  | _ => none
def Heap.frozenA (h : Heap) (a : Addr) : Bool :=
  match h a.block with
  | some (.cells _ _ (lo, hi)) => lo ≤ a.off && a.off < hi
  | _ => false
def Heap.ins (h : Heap) (r : Nat) (o : Obj) : Heap := fun x => if x = r then some o else h x
def qHW (a : Addr) (v : Value) : Obj → Obj
  | .cells c e f => .cells (if a.spot.isSome then c else c.setIfInBounds a.off v) e f
  | o => o
def Heap.setA (h : Heap) (a : Addr) (v : Value) : Heap := fun x => if x = a.block then (h x).map (qHW a v) else h x
def qJ5 (a : Addr) (n : Nat) : Obj → Obj
  | .cells c elem (lo, hi) => .cells c elem (if lo == hi then (a.off, a.off + n) else (min lo a.off, max hi (a.off + n)))
  | o => o
def Heap.freezeA (h : Heap) (a : Addr) (n : Nat) : Heap := if n = 0 then h else fun x => if x = a.block then (h x).map (qJ5 a n) else h x
def qKV : Obj → Option (TypeId × Nat)
  | .cells c elem _ => some (elem, c.size)
  | _ => none
def qGs : Obj → Bool
  | .cells .. => true
  | _ => false
def qMq : Value → Bool
  | .agg _ | .tuple _ => false
  | _ => true

theorem qFP {h : Heap} {w : World} {a : Addr} {v : Value} (r : Rep h w) (e : h.cellA a = some v) : w.cell? a = some v := by
  unfold Heap.cellA at e
  unfold World.cell?
  cases hb : h a.block with
  | none => rw [hb] at e; cases e
  | some o =>
    rw [hb] at e
    rw [r _ _ hb]
    cases o <;> first | exact e | cases e
theorem qML {h : Heap} {w : World} {a : Addr} {o : Obj} (r : Rep h w) (e : h a.block = some o) : w.frozen? a = h.frozenA a := by
  unfold Heap.frozenA World.frozen?
  rw [e, r _ _ e]
  cases o <;> rfl
theorem qQg {h : Heap} {w : World} {b : Nat} {o : Obj} (r : Rep h w) (e : h b = some o) : w.shape? b = qKV o := by
  unfold World.shape?
  rw [r _ _ e]
  cases o <;> rfl
theorem qEL {h : Heap} {w : World} {b : Nat} {o : Obj} (r : Rep h w) (e : h b = some o) : b < w.heap.size := by
  have := r _ _ e
  exact (Array.getElem?_eq_some_iff.1 this).1
theorem qQ9 {h : Heap} {w : World} (r : Rep h w) : h w.heap.size = none := by
  cases e : h w.heap.size with
  | none => rfl
  | some o => have := qEL r e; omega

theorem qNp {h : Heap} {w w' : World} {b : Nat} {f : Obj → Obj} (r : Rep h w) (e : w'.heap = w.heap.modify b f) :
    Rep (fun x => if x = b then (h x).map f else h x) w' := by
  intro x o hx
  rw [e, Array.getElem?_modify]
  dsimp only at hx
  by_cases hxb : x = b
  · rw [if_pos hxb] at hx
    rw [if_pos hxb.symm]
    cases h1 : h x with
    | none => rw [h1] at hx; cases hx
    | some o1 =>
      rw [h1] at hx
      rw [r _ _ h1]
      exact hx
  · rw [if_neg hxb] at hx
    rw [if_neg (fun e => hxb e.symm)]
    exact r _ _ hx
theorem qPb {h : Heap} {w w' : World} {b : Nat} {o : Obj} {f : Obj → Obj} (e : w'.heap = w.heap.modify b f) (hb : h b = some o)
    (h1 : w'.os = w.os) (h2 : w'.tape = w.tape) (h3 : w'.output = w.output) :
    Fr h w (fun x => if x = b then (h x).map f else h x) w' := by
  refine ⟨h1, h2, h3, by rw [e]; simp, fun r _ hr => ?_, fun r _ hr => ?_⟩
  · rw [e, Array.getElem?_modify]
    by_cases hrb : b = r
    · rw [hrb] at hb; rw [hb] at hr; cases hr
    · rw [if_neg hrb]
  · by_cases hrb : r = b
    · rw [← hrb] at hb; rw [hb] at hr; cases hr
    · simp only [if_neg hrb]; exact hr
theorem qVI {h : Heap} {w w' : World} {o : Obj} (r : Rep h w) (e : w'.heap = w.heap.push o) : Rep (h.ins w.heap.size o) w' := by
  intro x o' hx
  rw [e, Array.getElem?_push]
  unfold Heap.ins at hx
  by_cases hxs : x = w.heap.size
  · rw [if_pos hxs] at hx; rw [if_pos hxs]; exact hx
  · rw [if_neg hxs] at hx; rw [if_neg hxs]; exact r _ _ hx
theorem qW7 {h : Heap} {w w' : World} {o : Obj} (e : w'.heap = w.heap.push o)
    (h1 : w'.os = w.os) (h2 : w'.tape = w.tape) (h3 : w'.output = w.output) : Fr h w (h.ins w.heap.size o) w' := by
  refine ⟨h1, h2, h3, by rw [e]; simp, fun r hr _ => ?_, fun r hr hn => ?_⟩
  · rw [e, Array.getElem?_push, if_neg (by omega)]
  · unfold Heap.ins; rw [if_neg (by omega)]; exact hn

def swp (P : Program) (q : Bool) {α : Type} : Sem α → Heap → (α → Heap → Prop) → Prop
  | .pure a, h, Q => Q a h
  | .load _ a k, h, Q => ∃ v, h.cellA a = some v ∧ swp P q (k v) h Q
  | .store _ a v k, h, Q => q = false ∧ qMq v = true ∧ (∃ u, h.cellA a = some u) ∧ h.frozenA a = false ∧ swp P q k (h.setA a v) Q
  | .new o k, h, Q => q = false ∧ ∀ r, h r = none → swp P q (k r) (h.ins r o) Q
  | .shape r k, h, Q => ∃ o, h r = some o ∧ swp P q (k (qKV o)) h Q
  | .freeze a n k, h, Q => q = false ∧ (∃ o, h a.block = some o) ∧ swp P q k (h.freezeA a n) Q
  | .frozen a k, h, Q => (∃ o, h a.block = some o) ∧ swp P q (k (h.frozenA a)) h Q
  | .getObj r k, h, Q => ∃ o, h r = some o ∧ qGs o = false ∧ swp P q (k o) h Q
  | .setObj r o k, h, Q => q = false ∧ ∃ o', h r = some o' ∧ qGs o' = false ∧ swp P q k (h.ins r o) Q
  | .choose qu k, h, Q => (qu.forced = true → swp P q (k 0) h Q) ∧ (qu.forced = false → q = false ∧ ∀ t, swp P q (k (qu.cut t)) h Q)
  | .sys _ _, _, _ => False
  | .program k, h, Q => swp P q (k P) h Q
  | .mark _ k, h, Q => swp P q k h Q
  | .halt _, _, _ => False

theorem qUK {P : Program} {q : Bool} {α : Type} (s : Sem α) : ∀ (h : Heap) (Q : α → Heap → Prop) (w : World), swp P q s h Q → Rep h w →
    ∃ a h' w', s.run P w = .ok a w' ∧ Q a h' ∧ Rep h' w' ∧ Fr h w h' w' := by
  induction s with
  | pure a => exact fun h Q w hs r => ⟨a, h, w, rfl, hs, r, Fr.refl _ _⟩
  | load m a k ih =>
    rintro h Q w ⟨v, hv, hs⟩ r
    obtain ⟨x, h', w', e, qq, r', f⟩ := ih v h Q w hs r
    exact ⟨x, h', w', by simp only [Sem.run, qFP r hv]; exact e, qq, r', f⟩
  | store m a v k ih =>
    rintro h Q w ⟨_, hc, ⟨u, hu⟩, hf, hs⟩ r
    have hcell := qFP r hu
    obtain ⟨o, ho⟩ : ∃ o, h a.block = some o := by
      unfold Heap.cellA at hu
      cases e : h a.block with
      | none => rw [e] at hu; cases hu
      | some o => exact ⟨o, rfl⟩
    have hfz : w.frozen? a = false := (qML r ho).trans hf
    have hh : (w.setCell a v).heap = w.heap.modify a.block (qHW a v) := by
      unfold World.setCell qHW
      rfl
    have r1 : Rep (h.setA a v) (w.setCell a v) := qNp r hh
    have f1 : Fr h w (h.setA a v) (w.setCell a v) := qPb hh ho rfl rfl rfl
    obtain ⟨x, h', w', e, qq, r', f⟩ := ih (h.setA a v) Q (w.setCell a v) hs r1
    refine ⟨x, h', w', ?_, qq, r', f1.trans f⟩
    cases v <;> first | (simp only [qMq, Bool.false_eq_true] at hc; done) | (simp only [Sem.run, hcell, hfz]; exact e)
  | new o k ih =>
    intro h Q w hs r
    have hs := hs.2 w.heap.size (qQ9 r)
    obtain ⟨x, h', w', e, qq, r', f⟩ := ih _ _ Q { w with heap := w.heap.push o } hs (qVI r rfl)
    exact ⟨x, h', w', e, qq, r', (qW7 (w := w) (w' := { w with heap := w.heap.push o }) rfl rfl rfl rfl).trans f⟩
  | shape b k ih =>
    rintro h Q w ⟨o, ho, hs⟩ r
    obtain ⟨x, h', w', e, qq, r', f⟩ := ih _ h Q w hs r
    exact ⟨x, h', w', by simp only [Sem.run, qQg r ho]; exact e, qq, r', f⟩
  | freeze a n k ih =>
    rintro h Q w ⟨_, ⟨o, ho⟩, hs⟩ r
    by_cases hn : n = 0
    · unfold Heap.freezeA at hs
      rw [if_pos hn] at hs
      obtain ⟨x, h', w', e, qq, r', f⟩ := ih h Q w hs r
      exact ⟨x, h', w', by simp only [Sem.run, World.freeze, hn, if_true]; exact e, qq, r', f⟩
    · have hh : (w.freeze a n).heap = w.heap.modify a.block (qJ5 a n) := by
        unfold World.freeze qJ5
        rw [if_neg hn]
        rfl
      unfold Heap.freezeA at hs
      rw [if_neg hn] at hs
      have ho1 : (w.freeze a n).os = w.os := by unfold World.freeze; rw [if_neg hn]
      have ho2 : (w.freeze a n).tape = w.tape := by unfold World.freeze; rw [if_neg hn]
      have ho3 : (w.freeze a n).output = w.output := by unfold World.freeze; rw [if_neg hn]
      obtain ⟨x, h', w', e, qq, r', f⟩ := ih _ Q (w.freeze a n) hs (qNp r hh)
      exact ⟨x, h', w', e, qq, r', (qPb hh ho ho1 ho2 ho3).trans f⟩
  | frozen a k ih =>
    rintro h Q w ⟨⟨o, ho⟩, hs⟩ r
    obtain ⟨x, h', w', e, qq, r', f⟩ := ih _ h Q w hs r
    exact ⟨x, h', w', by simp only [Sem.run, qML r ho]; exact e, qq, r', f⟩
  | getObj b k ih =>
    rintro h Q w ⟨o, ho, hc, hs⟩ r
    obtain ⟨x, h', w', e, qq, r', f⟩ := ih _ h Q w hs r
    refine ⟨x, h', w', ?_, qq, r', f⟩
    have := r _ _ ho
    cases o <;> first | (simp only [qGs, Bool.true_eq_false] at hc; done) | (simp only [Sem.run, this]; exact e)
  | setObj b o k ih =>
    rintro h Q w ⟨_, o', ho, hc, hs⟩ r
    have hb := r _ _ ho
    have hlt := qEL r ho
    have r1 : Rep (h.ins b o) { w with heap := w.heap.setIfInBounds b o } := by
      intro x u hx
      unfold Heap.ins at hx
      show (w.heap.setIfInBounds b o)[x]? = _
      by_cases hxb : x = b
      · rw [if_pos hxb] at hx
        rw [hxb, Array.getElem?_setIfInBounds_self_of_lt hlt]; exact hx
      · rw [if_neg hxb] at hx
        rw [Array.getElem?_setIfInBounds_ne (fun e => hxb e.symm)]; exact r _ _ hx
    have f1 : Fr h w (h.ins b o) { w with heap := w.heap.setIfInBounds b o } := by
      refine ⟨rfl, rfl, rfl, by simp, fun x _ hn => ?_, fun x _ hn => ?_⟩
      · have hxb : b ≠ x := by rintro rfl; rw [ho] at hn; cases hn
        show (w.heap.setIfInBounds b o)[x]? = _
        rw [Array.getElem?_setIfInBounds_ne hxb]
      · have hxb : x ≠ b := by rintro rfl; rw [ho] at hn; cases hn
        unfold Heap.ins; rw [if_neg hxb]; exact hn
    obtain ⟨x, h', w', e, qq, r', f⟩ := ih _ Q _ hs r1
    refine ⟨x, h', w', ?_, qq, r', f1.trans f⟩
    cases o' <;> first | (simp only [qGs, Bool.true_eq_false] at hc; done) | (simp only [Sem.run, hb]; exact e)
  | choose qu k ih =>
    rintro h Q w ⟨h1, h2⟩ r
    cases hq : qu.forced with
    | true =>
      obtain ⟨x, h', w', e, qq, r', f⟩ := ih 0 h Q w (h1 hq) r
      exact ⟨x, h', w', by simp only [Sem.run, hq, if_true]; exact e, qq, r', f⟩
    | false =>
      obtain ⟨x, h', w', e, qq, r', f⟩ := ih _ h Q { w with drawn := w.drawn + 1 } ((h2 hq).2 (w.tape w.drawn qu)) r
      exact ⟨x, h', w', by simp only [Sem.run, hq, Bool.false_eq_true, if_false]; exact e, qq, r', Fr.drew _ f⟩
  | sys c k ih => exact fun h Q w hs => hs.elim
  | program k ih =>
    intro h Q w hs r
    obtain ⟨x, h', w', e, qq, r', f⟩ := ih P h Q w hs r
    exact ⟨x, h', w', by simp only [Sem.run]; exact e, qq, r', f⟩
  | mark m k ih =>
    intro h Q w hs r
    obtain ⟨x, h', w', e, qq, r', f⟩ := ih h Q w hs r
    exact ⟨x, h', w', by simp only [Sem.run]; exact e, qq, r', f⟩
  | halt x => exact fun h Q w hs => hs.elim

theorem qUx {P : Program} {q : Bool} {α β : Type} (s : Sem α) (f : α → Sem β) (Q : β → Heap → Prop) : ∀ h : Heap,
    swp P q (s.bind f) h Q ↔ swp P q s h (fun a h' => swp P q (f a) h' Q) := by
  induction s with
  | pure a => exact fun h => Iff.rfl
  | load m a k ih => exact fun h => by simp only [Sem.bind, swp, ih]
  | store m a v k ih => exact fun h => by simp only [Sem.bind, swp, ih]
  | new o k ih => exact fun h => by simp only [Sem.bind, swp, ih]
  | shape r k ih => exact fun h => by simp only [Sem.bind, swp, ih]
  | freeze a n k ih => exact fun h => by simp only [Sem.bind, swp, ih]
  | frozen a k ih => exact fun h => by simp only [Sem.bind, swp, ih]
  | getObj r k ih => exact fun h => by simp only [Sem.bind, swp, ih]
  | setObj r o k ih => exact fun h => by simp only [Sem.bind, swp, ih]
  | choose q k ih => exact fun h => by simp only [Sem.bind, swp, ih]
  | sys c k ih => exact fun h => by simp only [Sem.bind, swp]
  | program k ih => exact fun h => by simp only [Sem.bind, swp, ih]
  | mark m k ih => exact fun h => by simp only [Sem.bind, swp, ih]
  | halt x => exact fun h => Iff.rfl
theorem qEV {P : Program} {q : Bool} {α : Type} (s : Sem α) : ∀ (h : Heap) (Q Q' : α → Heap → Prop), (∀ a h', Q a h' → Q' a h') → swp P q s h Q → swp P q s h Q' := by
  induction s with
  | pure a => exact fun h Q Q' f x => f _ _ x
  | load m a k ih => exact fun h Q Q' f ⟨v, hv, x⟩ => ⟨v, hv, ih v _ _ _ f x⟩
  | store m a v k ih => exact fun h Q Q' f ⟨a0, a1, a2, a3, x⟩ => ⟨a0, a1, a2, a3, ih _ _ _ f x⟩
  | new o k ih => exact fun h Q Q' f x => ⟨x.1, fun r hr => ih r _ _ _ f (x.2 r hr)⟩
  | shape r k ih => exact fun h Q Q' f ⟨o, ho, x⟩ => ⟨o, ho, ih _ _ _ _ f x⟩
  | freeze a n k ih => exact fun h Q Q' f ⟨h0, ho, x⟩ => ⟨h0, ho, ih _ _ _ f x⟩
  | frozen a k ih => exact fun h Q Q' f ⟨ho, x⟩ => ⟨ho, ih _ _ _ _ f x⟩
  | getObj r k ih => exact fun h Q Q' f ⟨o, ho, hc, x⟩ => ⟨o, ho, hc, ih _ _ _ _ f x⟩
  | setObj r o k ih => exact fun h Q Q' f ⟨h0, o, ho, hc, x⟩ => ⟨h0, o, ho, hc, ih _ _ _ f x⟩
  | choose q k ih => exact fun h Q Q' f ⟨x, y⟩ => ⟨fun e => ih _ _ _ _ f (x e), fun e => ⟨(y e).1, fun t => ih _ _ _ _ f ((y e).2 t)⟩⟩
  | sys c k ih => exact fun h Q Q' f x => x
  | program k ih => exact fun h Q Q' f x => ih _ _ _ _ f x
  | mark m k ih => exact fun h Q Q' f x => ih _ _ _ f x
  | halt x => exact fun h Q Q' f x => x

theorem qFw {P : Program} {α : Type} (s : Sem α) : ∀ (h : Heap) (Q : α → Heap → Prop), swp P true s h Q →
    ∃ a, (∀ w, Rep h w → s.run P w = .ok a w) ∧ Q a h := by
  induction s with
  | pure a => exact fun h Q hs => ⟨a, fun w _ => rfl, hs⟩
  | load m a k ih =>
    rintro h Q ⟨v, hv, hs⟩
    obtain ⟨x, e, qq⟩ := ih v h Q hs
    exact ⟨x, fun w r => by simp only [Sem.run, qFP r hv]; exact e w r, qq⟩
  | store m a v k ih => exact fun h Q hs => (by cases hs.1)
  | new o k ih => exact fun h Q hs => (by cases hs.1)
  | shape b k ih =>
    rintro h Q ⟨o, ho, hs⟩
    obtain ⟨x, e, qq⟩ := ih _ h Q hs
    exact ⟨x, fun w r => by simp only [Sem.run, qQg r ho]; exact e w r, qq⟩
  | freeze a n k ih => exact fun h Q hs => (by cases hs.1)
  | frozen a k ih =>
    rintro h Q ⟨⟨o, ho⟩, hs⟩
    obtain ⟨x, e, qq⟩ := ih _ h Q hs
    exact ⟨x, fun w r => by simp only [Sem.run, qML r ho]; exact e w r, qq⟩
  | getObj b k ih =>
    rintro h Q ⟨o, ho, hc, hs⟩
    obtain ⟨x, e, qq⟩ := ih _ h Q hs
    refine ⟨x, fun w r => ?_, qq⟩
    have := r _ _ ho
    cases o <;> first | (simp only [qGs, Bool.true_eq_false] at hc; done) | (simp only [Sem.run, this]; exact e w r)
  | setObj b o k ih => exact fun h Q hs => (by cases hs.1)
  | choose qu k ih =>
    rintro h Q ⟨h1, h2⟩
    cases hq : qu.forced with
    | true =>
      obtain ⟨x, e, qq⟩ := ih 0 h Q (h1 hq)
      exact ⟨x, fun w r => by simp only [Sem.run, hq, if_true]; exact e w r, qq⟩
    | false => cases (h2 hq).1
  | sys c k ih => exact fun h Q hs => hs.elim
  | program k ih =>
    intro h Q hs
    obtain ⟨x, e, qq⟩ := ih P h Q hs
    exact ⟨x, fun w r => by simp only [Sem.run]; exact e w r, qq⟩
  | mark m k ih =>
    intro h Q hs
    obtain ⟨x, e, qq⟩ := ih h Q hs
    exact ⟨x, fun w r => by simp only [Sem.run]; exact e w r, qq⟩
  | halt x => exact fun h Q hs => hs.elim

def CallA (P : Program) (f : FuncId) (args : List Value) (h : Heap) (K : Value → Heap → Prop) : Prop :=
  ∀ w, Rep h w → (callFunc f args.toArray).run P w = .ok (.enter f args.toArray) w ∧
    Calls P f args.toArray w fun e w' => ∃ v h', e = .returned v ∧ K v h' ∧ Rep h' w' ∧ Fr h w h' w'

def qIt (f : FuncId) : Frame := { (default : Frame) with fn := f, kind := .normal }
def Run (P : Program) (f : FuncId) (k : List Item) (t : List Value) (h : Heap) (K : Value → Heap → Prop) : Prop :=
  ∀ w cs, Rep h w → ∃ v h' w' fr, K v h' ∧ Rep h' w' ∧ Fr h w h' w' ∧
    Steps P (lone ((qIt f).at ⟨t.toArray, []⟩ k) cs w) (lone fr cs w') ∧ fr.fn = f ∧ fr.leaving P w' (.returned v)

theorem CallA.mono {P : Program} {f : FuncId} {args : List Value} {h : Heap} {K K' : Value → Heap → Prop} (c : CallA P f args h K)
    (m : ∀ v h', K v h' → K' v h') : CallA P f args h K' := fun w r =>
  ⟨(c w r).1, (c w r).2.mono fun _ _ ⟨v, h', e, k, x⟩ => ⟨v, h', e, m _ _ k, x⟩⟩
theorem CallA.drop {P : Program} {f : FuncId} {args : List Value} {h h0 : Heap} {K : Value → Heap → Prop} (c : CallA P f args h0 K) (l : h0.le h) :
    CallA P f args h K := fun w r =>
  ⟨(c w (r.le l)).1, (c w (r.le l)).2.mono fun _ _ ⟨v, h', e, k, r', fr⟩ => ⟨v, h', e, k, r', fr.more l⟩⟩
theorem Run.mono {P : Program} {f : FuncId} {k : List Item} {t : List Value} {h : Heap} {K K' : Value → Heap → Prop} (c : Run P f k t h K)
    (m : ∀ v h', K v h' → K' v h') : Run P f k t h K' := fun w cs r =>
  let ⟨v, h', w', fr, kk, x⟩ := c w cs r
  ⟨v, h', w', fr, m _ _ kk, x⟩
theorem Run.drop {P : Program} {f : FuncId} {k : List Item} {t : List Value} {h h0 : Heap} {K : Value → Heap → Prop} (c : Run P f k t h0 K) (l : h0.le h) :
    Run P f k t h K := fun w cs r =>
  let ⟨v, h', w', fr, kk, r', f', x⟩ := c w cs (r.le l)
  ⟨v, h', w', fr, kk, r', f'.more l, x⟩
theorem CallA.frame {P : Program} {f : FuncId} {args : List Value} {h h0 : Heap} {K : Value → Heap → Prop} (c : CallA P f args h0 K) (l : h0.le h) :
    CallA P f args h fun v h' => ∃ h0', K v h0' ∧ h0'.le h' ∧ (∀ r o, h r = some o → h0 r = none → h' r = some o) := fun w r =>
  ⟨(c w (r.le l)).1, (c w (r.le l)).2.mono fun _ w' ⟨v, h0', e, k, r', fr⟩ => by
    have hdis : ∀ x o, h x = some o → h0 x = none → h0' x = none := fun x o hx hn => fr.dom x (qEL r hx) hn
    refine ⟨v, fun x => match h0' x with | some o => some o | none => if h0 x = none then h x else none, e, ⟨h0', k, ?_, ?_⟩, ?_, ?_⟩
    · intro x o hx; simp only [hx]
    · intro x o hx hn; simp only [hdis x o hx hn, hn, if_true]; exact hx
    · intro x o hx
      dsimp only at hx
      cases h1 : h0' x with
      | some o1 => rw [h1] at hx; cases hx; exact r' _ _ h1
      | none =>
        rw [h1] at hx
        by_cases hn : h0 x = none
        · simp only [hn, if_true] at hx
          rw [fr.keep x (qEL r hx) hn]; exact r _ _ hx
        · simp only [hn, if_false] at hx; cases hx
    · refine ⟨fr.os, fr.tape, fr.output, fr.size, (fr.more l).keep, fun x hx hn => ?_⟩
      have h1 := (fr.more l).dom x hx hn
      simp only [h1, hn]
      split <;> rfl⟩

theorem CallA.of_run {P : Program} {f : FuncId} {fn : Func} {c : Code} {args : List Value} {h : Heap} {K : Value → Heap → Prop}
    (hf : P.funcs[f]? = some fn) (hb : fn.body = some c) (hc : ∀ (a : Array Value) (w : World), (callFunc f a).run P w = .ok (.enter f a) w)
    (hr : Run P f [.code c] (args ++ List.replicate (fn.ntmps - args.length) undef) h K) : CallA P f args h K := by
  intro w r
  refine ⟨hc _ _, fun cs => ?_⟩
  have henter : Frame.enter P f args.toArray .normal = (qIt f).at ⟨(args ++ List.replicate (fn.ntmps - args.length) undef).toArray, []⟩ [.code c] := by
    simp [Frame.enter, Frame.at, hf, hb, qIt]
  obtain ⟨v, h', w', fr, kk, r', f', st, e1, e2⟩ := hr w cs r
  exact ⟨.returned v, w', fr, ⟨v, h', rfl, kk, r', f'⟩, by rw [henter]; exact st, e1, e2⟩

end Go.Sy

/- The operations, read over partial heaps, typed by the program's tables, and that they are sound. -/
namespace Go.Sy

/-! ### values in slots -/
def qA3 : List Value → Nat → Value
  | [], _ => undef
  | v :: _, 0 => v
  | _ :: t, n + 1 => qA3 t n
def setT : List Value → Nat → Value → List Value
  | [], _, _ => []
  | _ :: t, 0, v => v :: t
  | u :: t, n + 1, v => u :: setT t n v
def qAZ (t : List Value) (d : Option Nat) (v : Value) : List Value :=
  match d with
  | some d => setT t d v
  | none => t
def evO (t : List Value) : Operand → Value
  | .tmp i => qA3 t i
  | .const v => v
  | .global g => .pointer (some ⟨g, 0, none⟩)
  | .func f => .func (.func f) #[] #[]

theorem qKd : ∀ (t : List Value) (i : Nat), t.toArray.getD i undef = qA3 t i
  | [], i => by simp [qA3]
  | v :: t, 0 => by simp [qA3]
  | v :: t, n + 1 => by
    have := qKd t n
    simp [qA3, Array.getD] at this ⊢
    exact this
theorem qBR : ∀ (t : List Value) (i : Nat) (v : Value), setT t i v = t.set i v
  | [], _, _ => rfl
  | _ :: _, 0, _ => rfl
  | u :: t, n + 1, v => by simp [setT, qBR t n v]
theorem qQB (t : List Value) (x : Operand) : (Act.mk t.toArray []).eval x = evO t x := by
  cases x with
  | tmp i => exact qKd t i
  | const v => rfl
  | global g => rfl
  | func f => rfl
theorem qKf (t : List Value) (d : Option Tmp) (v : Value) : (Act.mk t.toArray []).put d v = ⟨(qAZ t d v).toArray, []⟩ := by
  cases d with
  | none => rfl
  | some d => simp [Act.put, qAZ, qBR]

/-! ### kinds -/
inductive Sc where
  | int (k : IntKind) | bool | str | ptr | sl | map | fn | nili | any
def qU7 : TypeDesc → Sc
  | .bool => .bool
  | .int k => .int k
  | .string => .str
  | .pointer _ => .ptr
  | .slice _ => .sl
  | .map _ _ => .map
  | .func _ _ _ => .fn
  | .interface _ => .nili
  | _ => .any
def qLB : TypeDesc → Bool
  | .struct _ => true
  | .array _ _ => true
  | _ => false
def qTQ (P : Program) (t : TypeId) : Bool := ((P.underlying t).map qLB).getD false
def rep {α : Type} : Nat → List α → List α
  | 0, _ => []
  | n + 1, l => l ++ rep n l
def qGv (P : Program) : Nat → TypeId → List Sc
  | 0, _ => []
  | d + 1, t => match P.underlying t with
    | some (.struct fs) => fs.toList.flatMap fun f => qGv P d f.type
    | some (.array n e) => rep n (qGv P d e)
    | some x => [qU7 x]
    | none => []

def qQG : Sc → (Value → Prop) → Prop
  | .int k, Q => ∃ n : Int, Q (.int k n)
  | .bool, Q => ∃ b : Bool, Q (.bool b)
  | .str, Q => ∃ s : ByteArray, Q (.string s)
  | .ptr, Q => ∃ a : Option Addr, Q (.pointer a)
  | .sl, Q => ∃ (a : Option Addr) (n m : Nat), Q (.slice a n m)
  | .map, Q => ∃ r : Option Nat, Q (.map r)
  | .fn, Q => ∃ (f : Fn) (x y : Array Value), Q (.func f x y)
  | .nili, Q => Q .nilIface
  | .any, Q => ∃ v : Value, Q v
theorem qJf {s : Sc} {Q : Value → Prop} (h : qQG s Q) : ∃ v, Q v := by
  cases s with
  | int k => exact h.elim fun n q => ⟨_, q⟩
  | bool => exact h.elim fun n q => ⟨_, q⟩
  | str => exact h.elim fun n q => ⟨_, q⟩
  | ptr => exact h.elim fun n q => ⟨_, q⟩
  | sl => obtain ⟨a, n, m, q⟩ := h; exact ⟨_, q⟩
  | map => exact h.elim fun n q => ⟨_, q⟩
  | fn => obtain ⟨a, n, m, q⟩ := h; exact ⟨_, q⟩
  | nili => exact ⟨_, h⟩
  | any => exact h
def qS9 : List Sc → (List Value → Prop) → Prop
  | [], Q => Q []
  | s :: ss, Q => qQG s fun v => qS9 ss fun vs => Q (v :: vs)
theorem qOZ : ∀ {ss : List Sc} {Q : List Value → Prop}, qS9 ss Q → ∃ vs, Q vs
  | [], _, h => ⟨_, h⟩
  | _ :: _, _, h => let ⟨_, h1⟩ := qJf h; let ⟨_, h2⟩ := qOZ h1; ⟨_, h2⟩
def qSb (P : Program) (t : TypeId) (Q : Value → Prop) : Prop :=
  match qTQ P t with
  | true => qS9 (qGv P 20 t) fun vs => Q (.agg vs.toArray)
  | false => match P.underlying t with
    | some d => qQG (qU7 d) Q
    | none => False
theorem qPX {P : Program} {t : TypeId} {Q : Value → Prop} (h : qSb P t Q) : ∃ v, Q v := by
  unfold qSb at h
  split at h
  · exact (qOZ h).elim fun _ q => ⟨_, q⟩
  · split at h
    · exact qJf h
    · exact h.elim
def qTL (P : Program) : List TypeId → (List Value → Prop) → Prop
  | [], Q => Q []
  | t :: ts, Q => qSb P t fun v => qTL P ts fun vs => Q (v :: vs)
theorem qNq {P : Program} : ∀ {ts : List TypeId} {Q : List Value → Prop}, qTL P ts Q → ∃ vs, Q vs
  | [], _, h => ⟨_, h⟩
  | _ :: _, _, h => let ⟨_, h1⟩ := qPX h; let ⟨_, h2⟩ := qNq h1; ⟨_, h2⟩
def qPz (P : Program) (t : TypeId) (Q : Value → Prop) : Prop :=
  match P.underlying t with
  | some (.tuple ts) => qTL P ts.toList fun vs => Q (.tuple vs.toArray)
  | _ => qSb P t Q
theorem qOW {P : Program} {t : TypeId} {Q : Value → Prop} (h : qPz P t Q) : ∃ v, Q v := by
  unfold qPz at h
  split at h
  · exact (qNq h).elim fun _ q => ⟨_, q⟩
  · exact qPX h

/-! ### branches, addresses, cells -/
def Br (b : Bool) (A B : Prop) : Prop := match b with
  | true => A
  | false => B
theorem Br.intro {b : Bool} {A B : Prop} (h1 : b = true → A) (h2 : b = false → B) : Br b A B := by
  cases b
  · exact h2 rfl
  · exact h1 rfl
theorem Br.elim {b : Bool} {A B : Prop} (h : Br b A B) : (b = true ∧ A) ∨ (b = false ∧ B) := by
  cases b
  · exact .inr ⟨rfl, h⟩
  · exact .inl ⟨rfl, h⟩
def qA (a : Option Addr) (K : Nat → Nat → Prop) : Prop := match a with
  | some ⟨b, o, none⟩ => K b o
  | _ => False
theorem qAU {a : Option Addr} {K : Nat → Nat → Prop} (h : qA a K) : ∃ b o, a = some ⟨b, o, none⟩ ∧ K b o := by
  unfold qA at h
  split at h
  · exact ⟨_, _, rfl, h⟩
  · exact h.elim
theorem qB {a : Option Addr} {K : Nat → Nat → Prop} {b o : Nat} (e : a = some ⟨b, o, none⟩) (h : K b o) : qA a K := by
  subst e; exact h

def Heap.cell (h : Heap) (b o : Nat) : Option Value := match h b with
  | some (.cells c _ _) => c[o]?
  | _ => none
theorem qIz (h : Heap) (b o : Nat) : h.cellA ⟨b, o, none⟩ = h.cell b o := by
  unfold Heap.cellA Heap.cell
  cases h b with
  | none => rfl
  | some x => cases x <;> rfl
def qQW (o i : Nat) : Nat := match Nat.beq i 0 with
  | true => o
  | false => o + i
theorem qOm (o i : Nat) : qQW o i = o + i := by
  unfold qQW
  split
  · rename_i h; have := Nat.eq_of_beq_eq_true h; omega
  · rfl
theorem Addr.add_none (b o n : Nat) : (⟨b, o, none⟩ : Addr).add n = ⟨b, o + n, none⟩ := by
  unfold Addr.add
  split
  · subst_vars; rfl
  · rfl

def qI2 : List Sc → Heap → Nat → Nat → Nat → (List Value → Prop) → Prop
  | [], _, _, _, _, K => K []
  | s :: ss, h, b, o, i, K => qQG s fun v => h.cell b (qQW o i) = some v ∧ qI2 ss h b o (i + 1) fun vs => K (v :: vs)
theorem qL3 : ∀ {ss : List Sc} {h : Heap} {b o i : Nat} {K : List Value → Prop}, qI2 ss h b o i K →
    ∃ vs, vs.length = ss.length ∧ (∀ j, j < vs.length → h.cell b (o + (i + j)) = vs[j]?) ∧ K vs
  | [], _, _, _, _, _, k => ⟨[], rfl, fun j hj => by simp at hj, k⟩
  | s :: ss, h, b, o, i, K, k => by
    obtain ⟨v, hv, k1⟩ := qJf k
    obtain ⟨vs, hl, hc, hk⟩ := qL3 k1
    refine ⟨v :: vs, by simp [hl], fun j hj => ?_, hk⟩
    cases j with
    | zero => rw [qOm] at hv; simpa using hv
    | succ j =>
      have := hc j (by simpa using hj)
      rw [show o + (i + (j + 1)) = o + (i + 1 + j) from by omega]
      simpa using this

/-! ### the handler at the model's words -/
section
variable {P : Program} {q : Bool}
theorem qD {α β : Type} (s : Sem α) (f : α → Sem β) (h : Heap) (Q : β → Heap → Prop) :
    swp P q (s >>= f) h Q ↔ swp P q s h (fun a h' => swp P q (f a) h' Q) := qUx s f Q h
theorem qd {α : Type} (a : α) (h : Heap) (Q : α → Heap → Prop) : swp P q (pure a) h Q ↔ Q a h := Iff.rfl
theorem qE {t : TypeId} {d : TypeDesc} (e : P.underlying t = some d) {Q : TypeDesc → Heap → Prop} {h : Heap} :
    swp P q (underlying t) h Q ↔ Q d h := by
  show swp P q (match P.underlying t with | some d => pure d | none => stuck "no such type") h Q ↔ _
  rw [e]; exact Iff.rfl
theorem qHc {t : TypeId} {d : TypeDesc} (e : P.underlying t = some d) : ∃ i, P.info? t = some i := by
  unfold Program.underlying at e
  cases hi : P.info? t with
  | none => rw [hi] at e; cases e
  | some i => exact ⟨i, rfl⟩
theorem qB1 {t : TypeId} {i : TypeInfo} (e : P.info? t = some i) {Q : TypeInfo → Heap → Prop} {h : Heap} :
    swp P q (typeInfo t) h Q ↔ Q i h := by
  show swp P q (match P.info? t with | some i => pure i | none => stuck "no such type") h Q ↔ _
  rw [e]; exact Iff.rfl
theorem qAX {t : TypeId} {i : TypeInfo} (e : P.info? t = some i) {Q : Nat → Heap → Prop} {h : Heap} :
    swp P q (sizeOf t) h Q ↔ Q i.size h := by
  unfold sizeOf
  rw [qD, qB1 e]; exact Iff.rfl
theorem qLy {t : TypeId} {d : TypeDesc} (e : P.underlying t = some d) {Q : Bool → Heap → Prop} {h : Heap} :
    swp P q (isAgg t) h Q ↔ Q (qLB d) h := by
  unfold isAgg
  rw [qD, qE e]
  cases d <;> exact Iff.rfl
theorem qCr {t : TypeId} {i : TypeInfo} {z : Value} (e : P.info? t = some i) (hz : i.zero = some z) {Q : Value → Heap → Prop} {h : Heap} :
    swp P q (zeroValue t) h Q ↔ Q z h := by
  unfold zeroValue
  rw [qD, qB1 e, hz]; exact Iff.rfl
theorem qVj {a : Addr} {h : Heap} {Q : Value → Heap → Prop} : swp P q (load a) h Q ↔ ∃ v, h.cellA a = some v ∧ Q v h := Iff.rfl

theorem qEj {b o : Nat} {h : Heap} {Q : Array Value → Heap → Prop} : ∀ (n i : Nat) (acc : Array Value) (vs : List Value),
    vs.length = n → (∀ j, j < n → h.cell b (o + (i + j)) = vs[j]?) → Q (acc ++ vs.toArray) h → swp P q (loadCellsFrom ⟨b, o, none⟩ i n acc) h Q
  | 0, i, acc, vs, hl, _, q => by
    have : vs = [] := List.length_eq_zero_iff.1 hl
    subst this
    simpa [loadCellsFrom, qd] using q
  | n + 1, i, acc, vs, hl, hc, q => by
    cases vs with
    | nil => simp at hl
    | cons v vs =>
      simp only [loadCellsFrom]
      rw [qD, qVj]
      refine ⟨v, ?_, qEj n (i + 1) (acc.push v) vs (by simpa using hl) (fun j hj => ?_) (by simpa using q)⟩
      · rw [Addr.add_none, qIz]
        have := hc 0 (by omega)
        simpa using this
      · have := hc (j + 1) (by omega)
        rw [show o + (i + 1 + j) = o + (i + (j + 1)) from by omega]
        simpa using this
end

def qNh (P : Program) (t : TypeId) (h : Heap) (b o : Nat) (K : Value → Prop) : Prop :=
  match qTQ P t with
  | true => match Nat.beq (qGv P 20 t).length (P.cellsOf t) with
    | true => qI2 (qGv P 20 t) h b o 0 fun vs => K (.agg vs.toArray)
    | false => False
  | false => match P.underlying t with
    | some d => qQG (qU7 d) fun v => h.cell b o = some v ∧ K v
    | none => False
theorem qOK {P : Program} {q : Bool} {t : TypeId} {h : Heap} {b o : Nat} {K : Value → Prop} (k : qNh P t h b o K) :
    swp P q (loadVar t ⟨b, o, none⟩) h (fun v h' => h' = h ∧ K v) := by
  unfold qNh at k
  unfold loadVar
  rw [qD]
  split at k
  · rename_i ha
    split at k
    · rename_i hl
      have hl := Nat.eq_of_beq_eq_true hl
      have hu : ∃ d, P.underlying t = some d ∧ qLB d = true := by
        unfold qTQ at ha
        cases e : P.underlying t with
        | none => rw [e] at ha; cases ha
        | some d => rw [e] at ha; exact ⟨d, rfl, ha⟩
      obtain ⟨d, hd, hag⟩ := hu
      obtain ⟨i, hi⟩ := qHc hd
      rw [qLy hd, hag, if_pos rfl, qD, qAX hi, qD]
      obtain ⟨vs, h1, h2, h3⟩ := qL3 k
      have hsz : i.size = vs.length := by
        rw [h1, hl]; unfold Program.cellsOf; rw [hi]; rfl
      unfold loadCells
      rw [hsz]
      refine qEj _ 0 #[] vs rfl (fun j hj => h2 j hj) ?_
      simpa [qd] using h3
    · exact k.elim
  · rename_i ha
    split at k
    · rename_i d hd
      have hag : qLB d = false := by unfold qTQ at ha; rw [hd] at ha; exact ha
      rw [qLy hd, hag]
      simp only [Bool.false_eq_true, if_false]
      obtain ⟨v, hv, kv⟩ := qJf k
      exact ⟨v, by rw [qIz]; exact hv, rfl, kv⟩
    · exact k.elim

/-! ### stores -/
def qh : List Value → Nat → List Value → List Value
  | c, _, [] => c
  | c, i, v :: vs => qh (setT c i v) (i + 1) vs
def Heap.setN (h : Heap) (b o : Nat) (vs : List Value) : Heap := fun x => match Nat.beq x b with
  | true => match h b with
    | some (.cells c T f) => some (.cells (qh c.toList o vs).toArray T f)
    | y => y
  | false => h x
def Heap.canSt (h : Heap) (b o n : Nat) : Prop := ∃ c T, h b = some (.cells c T (0, 0)) ∧ o + n ≤ c.size
def qCE : Value → List Value
  | .agg cs => cs.toList
  | v => [v]
theorem qIE (v : Value) : v.cells.toList = qCE v := by cases v <;> rfl
def qAG : List Value → Bool
  | [] => true
  | v :: vs => match qMq v with
    | true => qAG vs
    | false => false
theorem qLM {v : Value} {vs : List Value} (h : qAG (v :: vs) = true) : qMq v = true ∧ qAG vs = true := by
  unfold qAG at h
  split at h
  · exact ⟨‹_›, h⟩
  · cases h

theorem qT1 {h : Heap} {b o : Nat} {v : Value} {vs : List Value} {c : Array Value} {T : TypeId} (hb : h b = some (.cells c T (0, 0))) :
    (h.setA ⟨b, o, none⟩ v).setN b (o + 1) vs = h.setN b o (v :: vs) := by
  funext x
  unfold Heap.setN Heap.setA
  cases hx : Nat.beq x b with
  | true =>
    simp only [if_true, hb, Option.map_some, qHW, Option.isSome_none, Bool.false_eq_true, if_false, qh, qBR]
    simp
  | false =>
    have : x ≠ b := fun e => by rw [e, Nat.beq_refl] at hx; cases hx
    simp only [this, if_false]
theorem qEo {P : Program} {b o : Nat} {Q : Unit → Heap → Prop} : ∀ (vs : List Value) (i : Nat) (h : Heap), qAG vs = true →
    h.canSt b (o + i) vs.length → Q () (h.setN b (o + i) vs) → swp P false (storeCells ⟨b, o, none⟩ vs i) h Q
  | [], i, h, _, _, q => by
    have : h.setN b (o + i) [] = h := by
      funext x
      unfold Heap.setN
      split
      · rename_i hx
        have := Nat.eq_of_beq_eq_true hx
        subst this
        split <;> simp_all [qh]
      · rfl
    rw [this] at q
    exact q
  | v :: vs, i, h, ha, hc, q => by
    obtain ⟨c, T, hb, hl⟩ := hc
    obtain ⟨h1, h2⟩ := qLM ha
    simp only [List.length_cons] at hl
    show swp P false (storeCells ⟨b, o, none⟩ (v :: vs) i) h Q
    simp only [storeCells]
    rw [qD, Addr.add_none]
    refine ⟨rfl, h1, ?_, ?_, ?_⟩
    · rw [qIz]
      unfold Heap.cell
      rw [hb]
      exact ⟨_, Array.getElem?_eq_getElem (by omega)⟩
    · unfold Heap.frozenA
      rw [hb]
      simp
    · refine qEo vs (i + 1) _ h2 ?_ ?_
      · refine ⟨c.setIfInBounds (o + i) v, T, ?_, by simp; omega⟩
        unfold Heap.setA
        simp [hb, qHW]
      · rw [show o + (i + 1) = o + i + 1 from by omega, qT1 hb]
        exact q
def qU3 (P : Program) (t : TypeId) (h : Heap) (b o : Nat) (v : Value) (K : Heap → Prop) : Prop :=
  match Nat.beq (qCE v).length (P.cellsOf t), qAG (qCE v), (P.info? t).isSome with
  | true, true, true => h.canSt b o (P.cellsOf t) ∧ K (h.setN b o (qCE v))
  | _, _, _ => False
theorem qSm {P : Program} {t : TypeId} {h : Heap} {b o : Nat} {v : Value} {K : Heap → Prop} (k : qU3 P t h b o v K) :
    swp P false (storeVar t ⟨b, o, none⟩ v) h (fun _ h' => K h') := by
  unfold qU3 at k
  split at k
  · rename_i h1 h2 h3
    have h1 := Nat.eq_of_beq_eq_true h1
    obtain ⟨i, hi⟩ := Option.isSome_iff_exists.1 h3
    have hsz : P.cellsOf t = i.size := by unfold Program.cellsOf; rw [hi]; rfl
    unfold storeVar
    rw [qD, qAX hi]
    have hl : v.cells.size = i.size := by
      rw [← hsz, ← h1, ← qIE]; simp
    simp only [hl, ne_eq, not_true_eq_false, if_false]
    rw [qIE]
    refine qEo _ 0 h h2 ?_ ?_
    · rw [Nat.add_zero, h1]; exact k.1
    · rw [Nat.add_zero]; exact k.2
  · exact k.elim
end Go.Sy

/- What each operation does, typed, over partial heaps; and that it is sound for the model's own. -/
namespace Go.Sy

def qNk (a b : IntKind) : Bool := match a, b with
  | .i8, .i8 | .i16, .i16 | .i32, .i32 | .i64, .i64 | .u8, .u8 | .u16, .u16 | .u32, .u32 | .u64, .u64 => true
  | _, _ => false
theorem qI5 {a b : IntKind} (h : qNk a b = true) : a = b := by cases a <;> cases b <;> first | rfl | cases h

def qVA (op : BinOp) (k : IntKind) (a b : Int) (J : Value → Prop) : Prop := match op with
  | .add => J (.int k (k.wrap (a + b)))
  | .sub => J (.int k (k.wrap (a - b)))
  | .mul => J (.int k (k.wrap (a * b)))
  | .quo => Br (b == 0) False (J (.int k (k.wrap (a.tdiv b))))
  | .rem => Br (b == 0) False (J (.int k (a.tmod b)))
  | .and => J (.int k (k.wrap ((BitVec.ofInt k.bits a &&& BitVec.ofInt k.bits b).toNat : Int)))
  | .or => J (.int k (k.wrap ((BitVec.ofInt k.bits a ||| BitVec.ofInt k.bits b).toNat : Int)))
  | .xor => J (.int k (k.wrap ((BitVec.ofInt k.bits a ^^^ BitVec.ofInt k.bits b).toNat : Int)))
  | .andNot => J (.int k (k.wrap ((BitVec.ofInt k.bits a &&& ~~~ BitVec.ofInt k.bits b).toNat : Int)))
  | .shl => Br (decide (0 ≤ b)) (J (.int k (k.wrap (a * 2 ^ min b.toNat k.bits)))) False
  | .shr => Br (decide (0 ≤ b)) (J (.int k (a.fdiv (2 ^ min b.toNat k.bits)))) False
  | .eql => J (.bool (a == b))
  | .neq => J (.bool (a != b))
  | .lss => J (.bool (decide (a < b)))
  | .leq => J (.bool (decide (a ≤ b)))
  | .gtr => J (.bool (decide (a > b)))
  | .geq => J (.bool (decide (a ≥ b)))
def qOq : BinOp → Bool
  | .shl | .shr => true
  | _ => false
def qY6 (op : BinOp) (a b : ByteArray) (J : Value → Prop) : Prop := match op with
  | .add => ((a.size + b.size : Nat) : Int) ≤ 9223372036854775807 ∧ J (.string (a ++ b))
  | .eql => J (.bool (a.toList == b.toList))
  | .neq => J (.bool (!(a.toList == b.toList)))
  | _ => False
def eqN (op : BinOp) (b : Bool) (J : Value → Prop) : Prop := match op with
  | .eql => J (.bool b)
  | .neq => J (.bool (!b))
  | _ => False
def qVT (P : Program) (op : BinOp) (xT : TypeId) (x y : Value) (J : Value → Prop) : Prop := match x with
  | .int k a => match y with
    | .int k' b => match qOq op, qNk k k' with
      | true, _ => qVA op k a b J
      | false, true => qVA op k a b J
      | false, false => False
    | _ => False
  | .bool a => match y with
    | .bool b => match P.underlying xT with
      | some .bool => eqN op (a == b) J
      | _ => False
    | _ => False
  | .string a => match y with
    | .string b => qY6 op a b J
    | _ => False
  | .pointer a => match y with
    | .pointer none => match P.underlying xT with
      | some (.pointer _) => eqN op a.isNone J
      | _ => False
    | _ => False
  | .slice a _ _ => match y with
    | .slice none _ _ => match P.underlying xT with
      | some (.slice _) => eqN op a.isNone J
      | _ => False
    | _ => False
  | .map a => match y with
    | .map none => match P.underlying xT with
      | some (.map _ _) => eqN op a.isNone J
      | _ => False
    | _ => False
  | _ => False

def qYA : Value → Bool
  | .agg _ | .nilIface => false
  | _ => true
theorem qBp {P : Program} {q : Bool} {op : BinOp} {t : TypeId} {ox oy : Operand} {a b : Value} {h : Heap} {Q : Unit → Heap → Prop}
    (ha : qYA a = true) (qq : Q () h) : swp P q (eqGuard op t ox oy a b) h Q := by
  have e : eqGuard op t ox oy a b = pure () := by
    unfold eqGuard
    cases op <;> simp only [Bool.not_false, Bool.not_true, if_true, Bool.false_eq_true, if_false] <;> cases a <;> first | rfl | cases ha
  rw [e]; exact qq

theorem qN4 {P : Program} {q : Bool} {op : BinOp} {xT : TypeId} {k1 k2 : IntKind} {a b : Int} {J : Value → Prop} {h : Heap}
    (hs : qOq op = true ∨ k1 = k2) (k : qVA op k1 a b J) : swp P q (binOp op xT (.int k1 a) (.int k2 b)) h (fun v h' => h' = h ∧ J v) := by
  cases op
  case shl =>
    obtain ⟨k0, kk⟩ := k.elim.resolve_right (fun x => x.2)
    have k0 : 0 ≤ b := of_decide_eq_true k0
    simp only [binOp, Op.shift, Int.not_lt.2 k0, if_false, qd, true_and]; exact kk
  case shr =>
    obtain ⟨k0, kk⟩ := k.elim.resolve_right (fun x => x.2)
    have k0 : 0 ≤ b := of_decide_eq_true k0
    simp only [binOp, Op.shift, Int.not_lt.2 k0, if_false, qd, true_and]; exact kk
  all_goals
    have hk : k1 = k2 := hs.resolve_left (by simp [qOq])
    cases hk
  case quo =>
    obtain ⟨k0, kk⟩ := k.elim.resolve_left (fun x => x.2)
    have k0 : ¬ b = 0 := by simpa using k0
    simp only [binOp, ne_eq, not_true_eq_false, if_false, Op.intDiv, k0, qd, true_and]; exact kk
  case rem =>
    obtain ⟨k0, kk⟩ := k.elim.resolve_left (fun x => x.2)
    have k0 : ¬ b = 0 := by simpa using k0
    simp only [binOp, ne_eq, not_true_eq_false, if_false, Op.intDiv, k0, qd, true_and]; exact kk
  all_goals
    simp only [binOp, ne_eq, not_true_eq_false, if_false, Op.intArith, Op.intBits, Op.intCmp, qd, true_and]
    exact k

theorem qIJ {P : Program} {q : Bool} {op : BinOp} {xT : TypeId} {x y : Value} {c : Bool} {J : Value → Prop} {h : Heap}
    (e : ∀ Q : Bool → Heap → Prop, Q c h → swp P q (Op.equal xT x y) h Q) (k : eqN op c J)
    (hx : ∀ op, op = .eql → binOp op xT x y = (do pure (.bool (← Op.equal xT x y)))) (hy : ∀ op, op = .neq → binOp op xT x y = (do pure (.bool (!(← Op.equal xT x y))))) :
    swp P q (binOp op xT x y) h (fun v h' => h' = h ∧ J v) := by
  cases op <;> first
    | exact k.elim
    | (rw [hx _ rfl, qD]; exact e _ ⟨rfl, k⟩)
    | (rw [hy _ rfl, qD]; exact e _ ⟨rfl, k⟩)

theorem qTC {P : Program} {q : Bool} {xT : TypeId} {a b : Bool} {h : Heap} (hu : P.underlying xT = some .bool) (Q : Bool → Heap → Prop) (qq : Q (a == b) h) :
    swp P q (Op.equal xT (.bool a) (.bool b)) h Q := by
  have key : ∀ d : Nat, swp P q (Op.equalIn (d + 1) xT (.bool a) (.bool b)) h Q := fun d => by
    rw [Op.equalIn, qD, qE hu]; exact qq
  exact key 9999
theorem qUD {P : Program} {q : Bool} {xT e : TypeId} {a : Option Addr} {h : Heap} (hu : P.underlying xT = some (.pointer e)) (Q : Bool → Heap → Prop) (qq : Q a.isNone h) :
    swp P q (Op.equal xT (.pointer a) (.pointer none)) h Q := by
  have key : ∀ d : Nat, swp P q (Op.equalIn (d + 1) xT (.pointer a) (.pointer none)) h Q := fun d => by
    rw [Op.equalIn, qD, qE hu]; cases a <;> exact qq
  exact key 9999
theorem qVm {P : Program} {q : Bool} {xT e : TypeId} {a : Option Addr} {n m n' m' : Nat} {h : Heap} (hu : P.underlying xT = some (.slice e)) (Q : Bool → Heap → Prop) (qq : Q a.isNone h) :
    swp P q (Op.equal xT (.slice a n m) (.slice none n' m')) h Q := by
  have key : ∀ d : Nat, swp P q (Op.equalIn (d + 1) xT (.slice a n m) (.slice none n' m')) h Q := fun d => by
    rw [Op.equalIn, qD, qE hu]; cases a <;> exact qq
  exact key 9999
theorem qUL {P : Program} {q : Bool} {xT e e' : TypeId} {a : Option Nat} {h : Heap} (hu : P.underlying xT = some (.map e e')) (Q : Bool → Heap → Prop) (qq : Q a.isNone h) :
    swp P q (Op.equal xT (.map a) (.map none)) h Q := by
  have key : ∀ d : Nat, swp P q (Op.equalIn (d + 1) xT (.map a) (.map none)) h Q := fun d => by
    rw [Op.equalIn, qD, qE hu]; cases a <;> exact qq
  exact key 9999

theorem qTa {P : Program} {q : Bool} {op : BinOp} {xT : TypeId} {x y : Value} {J : Value → Prop} {ox oy : Operand} {h : Heap} (k : qVT P op xT x y J) :
    swp P q (do eqGuard op xT ox oy x y; binOp op xT x y) h (fun v h' => h' = h ∧ J v) := by
  rw [qD]
  unfold qVT at k
  split at k
  · split at k
    · refine qBp rfl ?_
      split at k
      · rename_i hs
        exact qN4 (.inl hs) k
      · rename_i hk
        exact qN4 (.inr (qI5 hk)) k
      · exact k.elim
    · exact k.elim
  · split at k
    · split at k
      · rename_i hu
        exact qBp rfl (qIJ (qTC hu) k (fun _ e => by subst e; rfl) (fun _ e => by subst e; rfl))
      · exact k.elim
    · exact k.elim
  · split at k
    · refine qBp rfl ?_
      cases op <;> first
        | exact k.elim
        | (simp only [binOp, Op.stringOp, qd, true_and]; exact k)
        | (obtain ⟨k0, kk⟩ := k
           simp only [binOp, Op.stringOp]
           rw [if_neg (by simp only [IntKind.max, IntKind.signed, IntKind.bits]; simp; simp at k0; omega)]
           exact ⟨rfl, kk⟩)
    · exact k.elim
  · split at k
    · split at k
      · rename_i hu
        exact qBp rfl (qIJ (qUD hu) k (fun _ e => by subst e; rfl) (fun _ e => by subst e; rfl))
      · exact k.elim
    · exact k.elim
  · split at k
    · split at k
      · rename_i hu
        exact qBp rfl (qIJ (qVm hu) k (fun _ e => by subst e; rfl) (fun _ e => by subst e; rfl))
      · exact k.elim
    · exact k.elim
  · split at k
    · split at k
      · rename_i hu
        exact qBp rfl (qIJ (qUL hu) k (fun _ e => by subst e; rfl) (fun _ e => by subst e; rfl))
      · exact k.elim
    · exact k.elim
  · exact k.elim

end Go.Sy

/- Building, new memory, slices and lengths, read over partial heaps; and that it is sound. -/
namespace Go.Sy

def ssp (P : Program) {α : Type} (s : Sem α) (h : Heap) (Q : α → Heap → Prop) : Prop :=
  ∀ w, Rep h w → ∃ a h' w', s.run P w = .ok a w' ∧ Q a h' ∧ Rep h' w' ∧ Fr h w h' w'
theorem qDA {P : Program} {q : Bool} {α : Type} {s : Sem α} {h : Heap} {Q : α → Heap → Prop} (k : swp P q s h Q) : ssp P s h Q :=
  fun w r => qUK s h Q w k r
theorem qLA {P : Program} {α : Type} {s : Sem α} {h : Heap} {Q : α → Heap → Prop} {a : α} (e : ∀ w, s.run P w = .ok a w) (q : Q a h) : ssp P s h Q :=
  fun w r => ⟨a, h, w, e w, q, r, Fr.refl _ _⟩
theorem qDT {P : Program} {α β : Type} {s : Sem α} {f : α → Sem β} {h : Heap} {Q : β → Heap → Prop} (k : ssp P s h fun a h' => ssp P (f a) h' Q) : ssp P (s >>= f) h Q :=
  fun w r => by
    obtain ⟨a, h1, w1, e1, k1, r1, f1⟩ := k w r
    obtain ⟨b, h2, w2, e2, k2, r2, f2⟩ := k1 w1 r1
    exact ⟨b, h2, w2, by rw [Sem.run_bind, e1]; exact e2, k2, r2, f1.trans f2⟩
theorem qK1 {P : Program} {α : Type} {a : α} {h : Heap} {Q : α → Heap → Prop} (qq : Q a h) : ssp P (pure a) h Q := qDA (q := false) qq

/-! ### build -/
def qJv (pl : List (Nat × Nat)) : List Value → List (Nat × Value) → Option (List Value)
  | cells, [] => some cells
  | cells, (i, v) :: rest => match pl[i]? with
    | none => none
    | some (off, sz) => match Nat.beq (qCE v).length sz, Nat.ble (off + (qCE v).length) cells.length with
      | true, true => qJv pl (qh cells off (qCE v)) rest
      | _, _ => none
theorem qNt : ∀ (vs : List Value) (off k : Nat) (cells : Array Value),
    (vs.zipIdx k).foldl (fun cs (x : Value × Nat) => cs.setIfInBounds (off + x.2) x.1) cells = (qh cells.toList (off + k) vs).toArray
  | [], _, _, _ => by simp [qh]
  | v :: vs, off, k, cells => by
    rw [List.zipIdx_cons, List.foldl_cons, qNt vs off (k + 1)]
    simp only [qh, qBR, Array.toList_setIfInBounds, Nat.add_assoc]
theorem qMm {pl : List (Nat × Nat)} (place : Nat → Option (Nat × Nat)) (hp : ∀ i x, pl[i]? = some x → place i = some x) : ∀ (parts : List (Nat × Value)) (cells out : List Value), qJv pl cells parts = some out →
    Instr.fill place cells.toArray parts = some out.toArray
  | [], cells, out, h => by cases h; rfl
  | (i, v) :: rest, cells, out, h => by
    unfold qJv at h
    split at h
    · cases h
    · rename_i off sz hpl
      split at h
      · rename_i h1 h2
        have h1 := Nat.eq_of_beq_eq_true h1
        have h2 := Nat.le_of_ble_eq_true h2
        have hsz : v.cells.size = (qCE v).length := by rw [← qIE]; simp
        unfold Instr.fill
        simp only [hp i _ hpl]
        rw [if_neg (by simp only [hsz, h1, List.size_toArray]; simp; omega)]
        have : (v.cells.zipIdx.foldl (fun cs (x : Value × Nat) => cs.setIfInBounds (off + x.2) x.1) cells.toArray) = (qh cells off (qCE v)).toArray := by
          have := qNt (qCE v) off 0 cells.toArray
          rw [← qIE] at this ⊢
          rw [← Array.foldl_toList, Array.toList_zipIdx]
          simpa using this
        rw [this]
        exact qMm place hp rest _ out h
      · cases h
def qBT (P : Program) (t : TypeId) : Option (List Value) := match P.info? t with
  | some i => match i.zero with
    | some z => some (qCE z)
    | none => none
  | none => none
def qK6 (P : Program) : List Field → List (Nat × Nat)
  | [] => []
  | f :: fs => (f.offset, P.cellsOf f.type) :: qK6 P fs
def qMk (P : Program) : List Field → Bool
  | [] => true
  | f :: fs => match (P.info? f.type).isSome with
    | true => qMk P fs
    | false => false
def qFQ (size : Nat) : Nat → Nat → List (Nat × Nat)
  | _, 0 => []
  | i, n + 1 => (i * size, size) :: qFQ size (i + 1) n
theorem qKD (size : Nat) : ∀ (n i j : Nat) (x : Nat × Nat), (qFQ size i n)[j]? = some x → x = ((i + j) * size, size)
  | 0, _, _, _, h => by simp [qFQ] at h
  | n + 1, i, 0, x, h => by simp [qFQ] at h; rw [← h]; simp
  | n + 1, i, j + 1, x, h => by
    have := qKD size n (i + 1) j x (by simpa [qFQ] using h)
    rw [this, show i + 1 + j = i + (j + 1) from by omega]
theorem qPM {P : Program} : ∀ (fs : List Field), qMk P fs = true → fs.mapM (fun f => (P.info? f.type).map fun i => (f.offset, i.size)) = some (qK6 P fs)
  | [], _ => rfl
  | f :: fs, h => by
    unfold qMk at h
    split at h
    · rename_i hi
      obtain ⟨i, hi⟩ := Option.isSome_iff_exists.1 hi
      rw [List.mapM_cons, qPM fs h, hi]
      simp [qK6, Program.cellsOf, hi]
    · cases h
def qQC (P : Program) (t : TypeId) (parts : List (Nat × Value)) : Option (List Value) := match qBT P t, P.underlying t with
  | some z, some (.struct fs) => match qMk P fs.toList with
    | true => qJv (qK6 P fs.toList) z parts
    | false => none
  | some z, some (.array n e) => match (P.info? e).isSome with
    | true => qJv (qFQ (P.cellsOf e) 0 n) z parts
    | false => none
  | _, _ => none
theorem qBf (v : Value) : (qCE v).toArray = v.cells := by rw [← qIE]
theorem qTp {P : Program} {t : TypeId} {parts : List (Nat × Value)} {out : List Value} (h : qQC P t parts = some out) : P.built t parts = some out.toArray := by
  unfold qQC qBT at h
  unfold Program.built
  cases hi : P.info? t with
  | none => rw [hi] at h; cases h
  | some it =>
    rw [hi] at h
    dsimp only at h
    cases hz : it.zero with
    | none => rw [hz] at h; cases h
    | some z =>
      rw [hz] at h
      dsimp only at h
      cases hu : P.underlying t with
      | none => rw [hu] at h; cases h
      | some d =>
        rw [hu] at h
        cases d <;> try (cases h; done)
        case struct fs =>
          dsimp only at h ⊢
          split at h
          · rename_i hinf
            rw [hz]
            simp only [qPM _ hinf]
            rw [← qBf]
            exact qMm _ (fun i x hx => by simpa using hx) _ _ _ h
          · cases h
        case array n e =>
          dsimp only at h ⊢
          split at h
          · rename_i he
            obtain ⟨ie, hie⟩ := Option.isSome_iff_exists.1 he
            rw [hz, hie]
            dsimp only
            rw [← qBf]
            refine qMm _ (fun i x hx => ?_) _ _ _ h
            have := qKD _ _ _ _ _ hx
            rw [this]
            simp [Program.cellsOf, hie]
          · cases h

/-! ### new memory -/
def qQ (h : Heap) (cells : List Value) (t : TypeId) (J : Nat → Heap → Prop) : Prop := ∀ r, h r = none → J r (h.ins r (.cells cells.toArray t (0, 0)))
def qKS (P : Program) (t : TypeId) (h : Heap) (J : Value → Heap → Prop) : Prop := match qBT P t with
  | some z => qQ h z t fun r h' => J (.pointer (some ⟨r, 0, none⟩)) h'
  | none => False
theorem qRM {P : Program} {t : TypeId} {h : Heap} {J : Value → Heap → Prop} (k : qKS P t h J) : swp P false (Instr.alloc t true (.tuple #[])) h J := by
  unfold qKS qBT at k
  cases hi : P.info? t with
  | none => rw [hi] at k; exact k.elim
  | some i =>
    rw [hi] at k
    dsimp only at k
    cases hz : i.zero with
    | none => rw [hz] at k; exact k.elim
    | some z =>
      rw [hz] at k
      unfold Instr.alloc
      rw [qD, qCr hi hz]
      refine ⟨rfl, fun r hr => ?_⟩
      have := k r hr
      rw [qBf] at this
      exact this
theorem qTb {P : Program} {t : TypeId} {v : Value} {h : Heap} {J : Value → Heap → Prop} (k : qQ h (qCE v) t fun r h' => J (.pointer (some ⟨r, 0, none⟩)) h') :
    swp P false (Instr.box t v) h J := by
  refine ⟨rfl, fun r hr => ?_⟩
  have := k r hr
  rw [qBf] at this
  exact this
def q4 : Nat → List Value → List Value
  | 0, _ => []
  | n + 1, z => z ++ q4 n z
theorem qCS (z : List Value) : ∀ n, (q4 n z).length = n * z.length
  | 0 => by simp [q4]
  | n + 1 => by rw [q4, List.length_append, qCS z n, Nat.succ_mul]; omega
theorem qQS (z : List Value) : ∀ (n i : Nat), i < n * z.length → (q4 n z)[i]? = z[i % z.length]?
  | 0, i, h => by simp at h
  | n + 1, i, h => by
    rw [q4]
    by_cases hi : i < z.length
    · rw [List.getElem?_append_left hi, Nat.mod_eq_of_lt hi]
    · rw [List.getElem?_append_right (by omega), qQS z n (i - z.length) (by rw [Nat.succ_mul] at h; omega)]
      congr 1
      conv => rhs; rw [show i = (i - z.length) + z.length from by omega, Nat.add_mod_right]
theorem qOh (z : List Value) (n : Nat) : (Array.range (n * z.length)).map (fun i => z.toArray[i % z.toArray.size]!) = (q4 n z).toArray := by
  apply Array.ext
  · simp [qCS]
  · intro i h1 h2
    simp only [List.size_toArray, qCS] at h2
    have h0 : 0 < z.length := by
      rcases Nat.eq_zero_or_pos z.length with e | e
      · rw [e] at h2; simp at h2
      · exact e
    have hm : i % z.length < z.length := Nat.mod_lt _ h0
    have h3 := qQS z n i h2
    rw [List.getElem?_eq_getElem (by rw [qCS]; exact h2), List.getElem?_eq_getElem hm] at h3
    have h4 := Option.some.inj h3
    simp only [Array.getElem_map, Array.getElem_range, List.size_toArray, List.getElem_toArray]
    rw [h4, getElem!_pos _ _ (by simpa using hm)]
    simp
def qM4 (P : Program) (t : TypeId) (l c : Value) (h : Heap) (J : Value → Heap → Prop) : Prop := match l, c, P.underlying t with
  | .int _ l, .int _ c, some (.slice e) => match P.info? e, qBT P e with
    | some i, some z => match Nat.beq z.length i.size with
      | true => 0 ≤ l ∧ l ≤ c ∧ c ≤ 281474976710656 ∧ (i.bytes : Int) * c ≤ 281474976710656 ∧ qQ h (q4 c.toNat z) e fun r h' => J (.slice (some ⟨r, 0, none⟩) l.toNat c.toNat) h'
      | false => False
    | _, _ => False
  | _, _, _ => False
theorem qO2 {n : Int} (h0 : 0 ≤ n) (h1 : n ≤ 281474976710656) : IntKind.i64.wrap n = n := by
  have e : n % (2 ^ IntKind.i64.bits : Int) = n := Int.emod_eq_of_lt h0 (by show n < 18446744073709551616; omega)
  have d : ¬ ((IntKind.i64.signed && decide (n % (2 ^ IntKind.i64.bits : Int) ≥ (2 ^ (IntKind.i64.bits - 1) : Int))) = true) := by
    rw [e]
    show ¬ ((true && decide (n ≥ 9223372036854775808)) = true)
    simp; omega
  show (if _ then _ else _) = n
  rw [if_neg d, e]
theorem qRX {P : Program} {t : TypeId} {l c : Value} {h : Heap} {J : Value → Heap → Prop} (k : qM4 P t l c h J) : swp P false (Instr.makeSlice t l c) h J := by
  unfold qM4 at k
  split at k
  · rename_i _ l _ c e hu
    split at k
    · rename_i i z hi hz
      split at k
      · rename_i hl
        have hl := Nat.eq_of_beq_eq_true hl
        obtain ⟨k1, k2, k3, k4, k5⟩ := k
        have w1 := qO2 k1 (by omega)
        have w2 := qO2 (Int.le_trans k1 k2) k3
        unfold qBT at hz
        rw [hi] at hz
        dsimp only at hz
        cases hzz : i.zero with
        | none => rw [hzz] at hz; cases hz
        | some zv =>
          rw [hzz] at hz
          have hzv : qCE zv = z := by injection hz
          unfold Instr.makeSlice
          rw [qD, qE hu]
          simp only [qD, asInt, asIntOf, qd, qB1 hi, w1, w2]
          rw [if_neg (by simp; omega)]
          have mk : ∀ (zc : Array Value), (if c.toNat * i.size = 0 then zc = #[] else zc = zv.cells) →
              swp P false (do let a ← newRow e ((Array.range (c.toNat * i.size)).map (fun x => zc[x % zc.size]!)); pure (Value.slice (some a) l.toNat c.toNat)) h J := by
            intro zc hzc
            refine ⟨rfl, fun r hr => ?_⟩
            have := k5 r hr
            have hcells : (Array.range (c.toNat * i.size)).map (fun x => zc[x % zc.size]!) = (q4 c.toNat z).toArray := by
              by_cases h0 : c.toNat * i.size = 0
              · have : q4 c.toNat z = [] := List.length_eq_zero_iff.1 (by rw [qCS, hl]; exact h0)
                rw [this, h0]; simp
              · rw [if_neg h0] at hzc
                rw [hzc, ← qBf, hzv, ← hl]
                exact qOh z _
            rw [hcells]; exact this
          have room : ∀ (n : Nat) (Q : Unit → Heap → Prop), Q () h → swp P false (askRoom n) h Q := by
            intro n Q q
            unfold askRoom
            split <;> exact q
          rw [qD]
          refine room _ _ ?_
          rw [qD, qAX hi]
          split
          · rename_i h0
            exact mk #[] (by rw [if_pos h0])
          · rename_i h0
            rw [qD, qCr hi hzz]
            exact mk zv.cells (by rw [if_neg h0])
      · exact k.elim
    · exact k.elim
  · exact k.elim
def qI6 (P : Program) (t : TypeId) (len : Nat) (parts : List (Nat × Value)) (h : Heap) (J : Value → Heap → Prop) : Prop := match P.underlying t with
  | some (.slice e) => match P.info? e, qBT P e with
    | some i, some z => match Nat.beq z.length i.size, Nat.ble (len * i.size) 16777216 with
      | true, true => match qJv (qFQ i.size 0 len) (q4 len z) parts with
        | some cells => qQ h cells e fun r h' => J (.slice (some ⟨r, 0, none⟩) len len) h'
        | none => False
      | _, _ => False
    | _, _ => False
  | _ => False
theorem qPm {P : Program} {t : TypeId} {len : Nat} {parts : Array (Nat × Value)} {h : Heap} {J : Value → Heap → Prop} (k : qI6 P t len parts.toList h J) :
    swp P false (Instr.buildSlice t len parts) h J := by
  unfold qI6 at k
  split at k
  · rename_i e hu
    split at k
    · rename_i i z hi hz
      split at k
      · rename_i hl hb
        have hl := Nat.eq_of_beq_eq_true hl
        have hb := Nat.le_of_ble_eq_true hb
        split at k
        · rename_i cells hc
          unfold qBT at hz
          rw [hi] at hz
          dsimp only at hz
          cases hzz : i.zero with
          | none => rw [hzz] at hz; cases hz
          | some zv =>
            rw [hzz] at hz
            have hzv : qCE zv = z := by injection hz
            unfold Instr.buildSlice
            rw [qD, qE hu]
            simp only [qD]
            rw [qAX hi]
            rw [if_neg (by omega)]
            have mk : ∀ (zc : Array Value), (if len * i.size = 0 then zc = #[] else zc = zv.cells) →
                swp P false (do
                  let some cells := Instr.fill (fun i_1 => some (i_1 * i.size, i.size)) ((Array.range (len * i.size)).map (fun x => zc[x % zc.size]!)) parts.toList
                    | stuck "buildSlice: a part of the wrong size"
                  pure (Value.slice (some (← newRow e cells)) len len)) h J := by
              intro zc hzc
              have hcells : (Array.range (len * i.size)).map (fun x => zc[x % zc.size]!) = (q4 len z).toArray := by
                by_cases h0 : len * i.size = 0
                · have : q4 len z = [] := List.length_eq_zero_iff.1 (by rw [qCS, hl]; exact h0)
                  rw [this, h0]; simp
                · rw [if_neg h0] at hzc
                  rw [hzc, ← qBf, hzv, ← hl]
                  exact qOh z _
              have hf := qMm (pl := qFQ i.size 0 len) (fun i_1 => some (i_1 * i.size, i.size)) (fun j x hx => by
                have := qKD _ _ _ _ _ hx
                rw [this]; simp) _ _ _ hc
              rw [hcells, hf]
              exact ⟨rfl, fun r hr => k r hr⟩
            split
            · rename_i h0
              exact mk #[] (by rw [if_pos h0])
            · rename_i h0
              rw [qD, qCr hi hzz]
              exact mk zv.cells (by rw [if_neg h0])
        · exact k.elim
      · exact k.elim
    · exact k.elim
  · exact k.elim
end Go.Sy

/- Slices, indexes, fields, appends, conversions: what each does over a partial heap, and that it is sound. -/
namespace Go.Sy
variable {P : Program} {q : Bool}

/-! ### addresses -/
def qS0 (P : Program) (t : TypeId) (x : Value) (f : Nat) (J : Value → Prop) : Prop := match x, P.underlying t with
  | .pointer a, some (.struct fs) => match fs.toList[f]? with
    | some fd => match P.info? fd.type, Nat.beq (P.cellsOf fd.type) 0 with
      | some _, false => qA a fun b o => J (.pointer (some ⟨b, qQW o fd.offset, none⟩))
      | _, _ => False
    | none => False
  | _, _ => False
theorem qRo {t : TypeId} {x : Value} {f : Nat} {J : Value → Prop} {h : Heap} (k : qS0 P t x f J) : swp P q (Instr.fieldAt t x f) h (fun v h' => h' = h ∧ J v) := by
  unfold qS0 at k
  split at k
  · rename_i a fs hu
    split at k
    · rename_i fd hf
      split at k
      · rename_i i hi hz
        obtain ⟨b, o, rfl, k1⟩ := qAU k
        clear k
        have k := k1
        clear k1
        have hsz : P.cellsOf fd.type = i.size := by unfold Program.cellsOf; rw [hi]; rfl
        have h0 : i.size ≠ 0 := fun e => by rw [hsz, e] at hz; cases hz
        unfold Instr.fieldAt
        rw [qD, qE hu]
        have hf' : fs[f]? = some fd := by simpa using hf
        simp only [hf']
        unfold fieldPlace
        simp only [qD, Instr.sureAddr, qd]
        rw [qAX hi, if_neg h0]
        simp only [qOm] at k
        rw [qd, Addr.add_none]
        exact ⟨rfl, k⟩
      · exact k.elim
    · exact k.elim
  · exact k.elim
def qLr (i n : Nat) : Nat := match Nat.beq n 1 with
  | true => i
  | false => i * n
theorem qOn (i n : Nat) : qLr i n = i * n := by
  unfold qLr
  split
  · rename_i h; rw [Nat.eq_of_beq_eq_true h, Nat.mul_one]
  · rfl
def qTP (P : Program) (t : TypeId) (x i : Value) (J : Value → Prop) : Prop := match i with
  | .int _ i => match x, P.underlying t with
    | .slice a n _, some (.slice e) => match (P.info? e).isSome with
      | true => 0 ≤ i ∧ i < (n : Int) ∧ qA a fun b o => J (.pointer (some ⟨b, o + qLr i.toNat (P.cellsOf e), none⟩))
      | false => False
    | .pointer a, some (.array n e) => match (P.info? e).isSome with
      | true => Br (decide (0 ≤ i)) (Br (decide (i < (n : Int))) (qA a fun b o => J (.pointer (some ⟨b, o + qLr i.toNat (P.cellsOf e), none⟩))) False) False
      | false => False
    | _, _ => False
  | _ => False
theorem qRn {t : TypeId} {x i : Value} {J : Value → Prop} {h : Heap} (k : qTP P t x i J) : swp P q (Instr.indexAt t x i) h (fun v h' => h' = h ∧ J v) := by
  unfold qTP at k
  split at k
  · rename_i ik i
    split at k
    · rename_i a n m e hu
      split at k
      · rename_i he
        obtain ⟨ie, hie⟩ := Option.isSome_iff_exists.1 he
        obtain ⟨k1, k2, k3⟩ := k
        obtain ⟨b, o, rfl, k⟩ := qAU k3
        have hsz : P.cellsOf e = ie.size := by unfold Program.cellsOf; rw [hie]; rfl
        unfold Instr.indexAt
        simp only [qD, asIntOf, qd]
        rw [qE hu]
        simp only [qD, qd]
        rw [qE hu]
        simp only [k1, k2, and_self, if_true, qD, qd]
        rw [qAX hie]
        rw [qOn, hsz] at k
        exact ⟨rfl, by rw [Addr.add_none]; exact k⟩
      · exact k.elim
    · rename_i a n e hu
      split at k
      · rename_i he
        obtain ⟨ie, hie⟩ := Option.isSome_iff_exists.1 he
        obtain ⟨k1, k'⟩ := k.elim.resolve_right (fun x => x.2)
        obtain ⟨k2, k3⟩ := k'.elim.resolve_right (fun x => x.2)
        clear k k'
        have k1 : 0 ≤ i := of_decide_eq_true k1
        have k2 : i < (n : Int) := of_decide_eq_true k2
        obtain ⟨b, o, rfl, k⟩ := qAU k3
        clear k3
        have hsz : P.cellsOf e = ie.size := by unfold Program.cellsOf; rw [hie]; rfl
        unfold Instr.indexAt
        simp only [qD, asIntOf, qd]
        rw [qE hu]
        simp only [qD, Instr.sureAddr, qd]
        rw [qE hu]
        simp only [k1, k2, and_self, if_true, qD, qd]
        rw [qAX hie]
        rw [qOn, hsz] at k
        exact ⟨rfl, by rw [Addr.add_none]; exact k⟩
      · exact k.elim
    · exact k.elim
  · exact k.elim

/-! ### parts of values -/
def qMY (l : List Value) (off n : Nat) : List Value := (l.drop off).take n
def qIA (P : Program) (t : TypeId) (cs : List Value) (off : Nat) (J : Value → Prop) : Prop := match P.underlying t, P.info? t with
  | some d, some i => match qLB d with
    | true => J (.agg (qMY cs off i.size).toArray)
    | false => match cs[off]? with
      | some v => J v
      | none => False
  | _, _ => False
theorem qKN {t : TypeId} {cs : Array Value} {off : Nat} {J : Value → Prop} {h : Heap} (k : qIA P t cs.toList off J) : swp P q (part t cs off) h (fun v h' => h' = h ∧ J v) := by
  unfold qIA at k
  split at k
  · rename_i d i hd hi
    unfold part
    rw [qD, qLy hd]
    split at k
    · rename_i ha
      rw [ha, if_pos rfl, qD, qAX hi]
      refine ⟨rfl, ?_⟩
      have : cs.extract off (off + i.size) = (qMY cs.toList off i.size).toArray := by
        apply Array.toList_inj.1
        simp [qMY, Array.toList_extract, List.extract_eq_take_drop]
      rw [this]; exact k
    · rename_i ha
      rw [ha]
      simp only [Bool.false_eq_true, if_false]
      split at k
      · rename_i v hv
        have hv' : cs[off]? = some v := by simpa using hv
        rw [hv']
        exact ⟨rfl, k⟩
      · exact k.elim
  · exact k.elim
def qP6 (P : Program) (t : TypeId) (x : Value) (f : Nat) (J : Value → Prop) : Prop := match x, P.underlying t with
  | .agg cs, some (.struct fs) => match fs.toList[f]? with
    | some fd => qIA P fd.type cs.toList fd.offset J
    | none => False
  | _, _ => False
theorem qQo {t : TypeId} {x : Value} {f : Nat} {J : Value → Prop} {h : Heap} (k : qP6 P t x f J) : swp P q (Instr.field t x f) h (fun v h' => h' = h ∧ J v) := by
  unfold qP6 at k
  split at k
  · rename_i cs fs hu
    split at k
    · rename_i fd hf
      unfold Instr.field
      rw [qD, qE hu]
      have hf' : fs[f]? = some fd := by simpa using hf
      simp only [hf', asAgg, qD, qd]
      exact qKN k
    · exact k.elim
  · exact k.elim
def qTM (k : IntKind) (cs : List Value) (i : Nat) (J : Int → Prop) : Prop := match cs[i]? with
  | some (.int k' x) => match qNk k' k with
    | true => J x
    | false => False
  | _ => False
def qUf : List Sc → Bool
  | [] => true
  | .int _ :: ss => qUf ss
  | _ :: _ => false
def qQp (cs : List Value) (off : Nat) : List Sc → Nat → (List Value → Prop) → Prop
  | .int k :: ss, j, J => qTM k cs (qQW off j) fun x => qQp cs off ss (j + 1) fun l => J (.int k x :: l)
  | [], _, J => J []
  | _ :: _, _, _ => False
theorem qQT {cs : List Value} {off : Nat} : ∀ {ss : List Sc} {j : Nat} {J : List Value → Prop}, qQp cs off ss j J → J (qMY cs (off + j) ss.length)
  | [], _, J, k => by
    unfold qQp at k
    unfold qMY
    simpa using k
  | s :: ss, j, J, k => by
    cases s with
    | int kk =>
      unfold qQp qTM at k
      split at k
      · rename_i k' x hx
        split at k
        · rename_i hk
          have hk := qI5 hk
          subst hk
          have ih := qQT k
          rw [qOm] at hx
          have hl := (List.getElem?_eq_some_iff.1 hx).1
          have e : qMY cs (off + j) (ss.length + 1) = .int k' x :: qMY cs (off + (j + 1)) ss.length := by
            unfold qMY
            rw [List.drop_eq_getElem_cons hl, (List.getElem?_eq_some_iff.1 hx).2]
            rfl
          rw [List.length_cons, e]
          exact ih
        · exact k.elim
      · exact k.elim
    | _ => exact k.elim
def qXh (P : Program) (e : TypeId) (cs : List Value) (off : Nat) (J : Value → Prop) : Prop := match qUf (qGv P 20 e), Nat.beq (qGv P 20 e).length (P.cellsOf e) with
  | true, true => qQp cs off (qGv P 20 e) 0 fun l => J (.agg l.toArray)
  | _, _ => qIA P e cs off J
def qQr (P : Program) (t : TypeId) (x i : Value) (J : Value → Prop) : Prop := match i with
  | .int _ i => match x, P.underlying t with
    | .string s, some .string => 0 ≤ i ∧ ∃ c : UInt8, s[i.toNat]? = some c ∧ J (.int .u8 (c.toNat : Int))
    | .agg cs, some (.array n e) => match (P.info? e).isSome with
      | true => match P.underlying e with
        | some (.int k) => 0 ≤ i ∧ i < (n : Int) ∧ qTM k cs.toList (qLr i.toNat (P.cellsOf e)) fun x => J (.int k x)
        | some (.struct _) => 0 ≤ i ∧ i < (n : Int) ∧ qXh P e cs.toList (qLr i.toNat (P.cellsOf e)) J
        | _ => 0 ≤ i ∧ i < (n : Int) ∧ qIA P e cs.toList (qLr i.toNat (P.cellsOf e)) J
      | false => False
    | _, _ => False
  | _ => False
theorem qRF {t : TypeId} {x i : Value} {J : Value → Prop} {h : Heap} (k : qQr P t x i J) : swp P q (Instr.index t x i) h (fun v h' => h' = h ∧ J v) := by
  unfold qQr at k
  split at k
  · rename_i ik i
    split at k
    · rename_i s hu
      obtain ⟨k1, c, hc, k⟩ := k
      unfold Instr.index
      simp only [qD, asIntOf, qd]
      rw [qE hu]
      simp only [k1, if_true, hc]
      exact ⟨rfl, k⟩
    · rename_i cs n e hu
      split at k
      · rename_i he
        obtain ⟨ie, hie⟩ := Option.isSome_iff_exists.1 he
        have k : 0 ≤ i ∧ i < (n : Int) ∧ qIA P e cs.toList (qLr i.toNat (P.cellsOf e)) J := by
          split at k
          · rename_i d hd
            refine ⟨k.1, k.2.1, ?_⟩
            have k := k.2.2
            unfold qTM at k
            unfold qIA
            rw [hd, hie]
            dsimp only
            rw [show qLB (.int d) = false from rfl]
            dsimp only
            split at k
            · rename_i k' x hx
              rw [hx]
              dsimp only
              split at k
              · rename_i hk
                rw [qI5 hk]; exact k
              · exact k.elim
            · exact k.elim
          · rename_i fs hd
            refine ⟨k.1, k.2.1, ?_⟩
            have k := k.2.2
            unfold qXh at k
            split at k
            · rename_i hle
              have k := qQT k
              unfold qIA
              rw [hd, hie]
              dsimp only
              rw [show qLB (.struct fs) = true from rfl]
              dsimp only
              have hle := Nat.eq_of_beq_eq_true hle
              have hsz : P.cellsOf e = ie.size := by unfold Program.cellsOf; rw [hie]; rfl
              rw [Nat.add_zero, hle, hsz] at k
              rw [hsz]
              exact k
            · exact k
          · exact k
        obtain ⟨k1, k2, k⟩ := k
        have hsz : P.cellsOf e = ie.size := by unfold Program.cellsOf; rw [hie]; rfl
        unfold Instr.index
        simp only [qD, asIntOf, qd]
        rw [qE hu]
        simp only [k1, k2, and_self, if_true, qD]
        rw [qAX hie]
        rw [qOn, hsz] at k
        exact qKN k
      · exact k.elim
    · exact k.elim
  · exact k.elim
def qNn (x : Value) (i : Nat) (J : Value → Prop) : Prop := match x with
  | .tuple vs => match vs.toList[i]? with
    | some v => J v
    | none => False
  | _ => False
theorem qOx {x : Value} {i : Nat} {J : Value → Prop} {h : Heap} (k : qNn x i J) : swp P q (Instr.extract x i) h (fun v h' => h' = h ∧ J v) := by
  unfold qNn at k
  split at k
  · rename_i vs
    split at k
    · rename_i v hv
      have hv' : vs[i]? = some v := by simpa using hv
      unfold Instr.extract
      simp only [hv']
      exact ⟨rfl, k⟩
    · exact k.elim
  · exact k.elim
def unV (op : UnOp) (x : Value) (J : Value → Prop) : Prop := match op, x with
  | .neg, .int k n => J (.int k (k.wrap (0 - n)))
  | .not, .bool b => J (.bool (!b))
  | .xor, .int k n => J (.int k (k.wrap ((BitVec.ofInt k.bits (match k.signed with | true => -1 | false => k.max) ^^^ BitVec.ofInt k.bits n).toNat : Int)))
  | _, _ => False
theorem qTs {op : UnOp} {x : Value} {J : Value → Prop} {h : Heap} (k : unV op x J) : swp P q (Op.unary op x) h (fun v h' => h' = h ∧ J v) := by
  unfold unV at k
  split at k
  · exact ⟨rfl, k⟩
  · exact ⟨rfl, k⟩
  · rename_i ik n
    simp only [Op.unary, Op.intBits, qd, true_and]
    cases hs : ik.signed <;> simp only [hs, if_true, Bool.false_eq_true, if_false] at k ⊢ <;> exact k
  · exact k.elim

/-! ### cutting -/
def qHE (a : Option Addr) (l cap size : Nat) : Option Addr := if cap = l then a else a.map (·.add (l * size))
def sbV (v : Option Value) (dflt : Nat) (most : Nat) (J : Nat → Prop) : Prop := match v with
  | none => J dflt
  | some (.int _ i) => 0 ≤ i ∧ i ≤ (most : Int) ∧ J i.toNat
  | some _ => False
theorem qVC {x : Value} {d y : Nat} {c : BoundsCode} {J : Nat → Prop} {h : Heap} (k : sbV (some x) d y J) : swp P q (Instr.sliceBound x y c) h (fun n h' => h' = h ∧ J n) := by
  unfold sbV at k
  split at k
  · contradiction
  · rename_i e
    cases e
    obtain ⟨k1, k2, k⟩ := k
    unfold Instr.sliceBound
    simp only [qD, asIntOf, qd, k1, k2, and_self, if_true, true_and]
    exact k
  · exact k.elim
def bnd (v : Option Value) (d y : Nat) (c : BoundsCode) : Sem Nat := match v with
  | some v => Instr.sliceBound v y c
  | none => pure d
theorem qO5 (isS : Bool) (len cap : Nat) (lo hi : Option Value) : Instr.sliceBounds isS len cap lo hi none =
    (bnd hi len cap (if isS then .sliceAcap else .sliceAlen) >>= fun hh => bnd lo 0 hh .sliceB >>= fun l => pure (l, hh, cap)) := by
  unfold Instr.sliceBounds
  cases hi <;> cases lo <;> rfl
theorem qPQ {v : Option Value} {d y : Nat} {c : BoundsCode} {J : Nat → Prop} {h : Heap} (k : sbV v d y J) : swp P q (bnd v d y c) h (fun n h' => h' = h ∧ J n) := by
  cases v with
  | none => exact ⟨rfl, k⟩
  | some v => exact qVC k
theorem qGK {isS : Bool} {len cap : Nat} {lo hi : Option Value} {J : Nat → Nat → Prop} {h : Heap}
    (k : sbV hi len cap fun hh => sbV lo 0 hh fun l => J l hh) : swp P q (Instr.sliceBounds isS len cap lo hi none) h (fun r h' => h' = h ∧ ∃ l hh, r = (l, hh, cap) ∧ J l hh) := by
  rw [qO5, qD]
  refine qEV _ _ _ _ (fun hh h' x => ?_) (qPQ k)
  obtain ⟨rfl, k1⟩ := x
  rw [qD]
  refine qEV _ _ _ _ (fun l h' x => ?_) (qPQ k1)
  obtain ⟨rfl, k2⟩ := x
  exact ⟨rfl, l, hh, rfl, k2⟩
def qQx (P : Program) (t : TypeId) (x : Value) (lo hi mx : Option Value) (J : Value → Prop) : Prop := match mx, x, P.underlying t with
  | none, .string s, some .string => sbV hi s.size s.size fun hh => sbV lo 0 hh fun l => J (.string (s.extract l hh))
  | none, .slice a len cap, some (.slice e) => match (P.info? e).isSome with
    | true => sbV hi len cap fun hh => match lo with
      | none => J (.slice a hh cap)
      | some _ => sbV lo 0 hh fun l => J (.slice (qHE a l cap (P.cellsOf e)) (hh - l) (cap - l))
    | false => False
  | none, .pointer a, some (.array n e) => match (P.info? e).isSome with
    | true => qA a fun b o => sbV hi n n fun hh => sbV lo 0 hh fun l => J (.slice (qHE (some ⟨b, o, none⟩) l n (P.cellsOf e)) (hh - l) (n - l))
    | false => False
  | _, _, _ => False
theorem qNL (a : Option Addr) (cap size : Nat) : qHE a 0 cap size = a := by
  unfold qHE
  split
  · rfl
  · cases a <;> simp [Addr.add]
theorem qP9 {t : TypeId} {x : Value} {lo hi mx : Option Value} {J : Value → Prop} {h : Heap} (k : qQx P t x lo hi mx J) :
    swp P q (Instr.sliceAt t x lo hi mx) h (fun v h' => h' = h ∧ J v) := by
  unfold qQx at k
  split at k
  · rename_i s hu
    unfold Instr.sliceAt
    rw [qD, qE hu]
    simp only [Instr.slice]
    rw [qD, qE hu]
    simp only [Option.isSome_none, Bool.false_eq_true, if_false, qD]
    refine qEV _ _ _ _ (fun r h' q => ?_) (qGK k)
    obtain ⟨rfl, l, hh, rfl, q⟩ := q
    exact ⟨rfl, q⟩
  · rename_i a len cap e hu
    split at k
    · rename_i he
      obtain ⟨ie, hie⟩ := Option.isSome_iff_exists.1 he
      have hsz : P.cellsOf e = ie.size := by unfold Program.cellsOf; rw [hie]; rfl
      have k' : sbV hi len cap fun hh => sbV lo 0 hh fun l => J (.slice (qHE a l cap (P.cellsOf e)) (hh - l) (cap - l)) := by
        cases lo with
        | none => simpa only [sbV, qNL, Nat.sub_zero] using k
        | some v => exact k
      unfold Instr.sliceAt
      rw [qD, qE hu]
      simp only [Instr.slice]
      rw [qD, qE hu]
      simp only [qD]
      refine qEV _ _ _ _ (fun r h' q => ?_) (qGK k')
      obtain ⟨rfl, l, hh, rfl, q⟩ := q
      dsimp only
      rw [qAX hie, ← hsz]
      exact ⟨rfl, q⟩
    · exact k.elim
  · rename_i a n e hu
    split at k
    · rename_i he
      obtain ⟨ie, hie⟩ := Option.isSome_iff_exists.1 he
      have hsz : P.cellsOf e = ie.size := by unfold Program.cellsOf; rw [hie]; rfl
      obtain ⟨b, o, rfl, k1⟩ := qAU k
      clear k
      have k := k1
      clear k1
      unfold Instr.sliceAt
      rw [qD, qE hu]
      simp only [qD, Instr.sureAddr, qd]
      refine qEV _ _ _ _ (fun r h' q => ?_) (qGK k)
      obtain ⟨rfl, l, hh, rfl, q⟩ := q
      dsimp only
      rw [qAX hie, ← hsz]
      refine ⟨rfl, ?_⟩
      have : (some (if n = l then ({ block := b, off := o, spot := none } : Addr) else Addr.add ⟨b, o, none⟩ (l * P.cellsOf e))) = qHE (some ⟨b, o, none⟩) l n (P.cellsOf e) := by
        unfold qHE; split <;> rfl
      rw [this]; exact q
    · exact k.elim
  · exact k.elim

/-! ### append -/
def rdL (h : Heap) (a : Option Addr) (vs : List Value) : Prop := vs = [] ∨ ∃ b o, a = some ⟨b, o, none⟩ ∧ ∀ j, j < vs.length → h.cell b (o + j) = vs[j]?
def qYc (h : Heap) (a : Option Addr) (off : Nat) (vs : List Value) : Heap := match a with
  | some ad => h.setN ad.block (ad.off + off) vs
  | none => h
def AppA (z : List Value) (t : TypeId) (h : Heap) (base : Option Addr) (len cap n : Nat) (a : Option Addr) (J : Option Addr → Nat → Heap → Prop) : Prop :=
  len + n ≤ 1073741824 ∧ ∃ vs, vs.length = n * z.length ∧ rdL h a vs ∧ qAG vs = true ∧
    ((len + n ≤ cap ∧ (vs = [] ∨ ∃ b o, base = some ⟨b, o, none⟩ ∧ h.canSt b (o + len * z.length) vs.length) ∧
        J base cap (match vs with | [] => h | _ => qYc h base (len * z.length) vs)) ∨
      (cap < len + n ∧ ∃ old, old.length = len * z.length ∧ rdL h base old ∧
        ∀ cap' r, len + n ≤ cap' → h r = none → J (some ⟨r, 0, none⟩) cap' (h.ins r (.cells (old ++ vs ++ q4 (cap' - (len + n)) z).toArray t (0, 0)))))
def qY4 (z : List Value) (t : TypeId) (h : Heap) (base : Option Addr) (len cap : Nat) (n : Int) (J : Option Addr → Nat → Heap → Prop) : Prop :=
  0 < n ∧ (len : Int) + n ≤ 1073741824 ∧ (cap : Int) < len + n ∧ ∃ old, old.length = len * z.length ∧ rdL h base old ∧
    ∀ cap' r, len + n.toNat ≤ cap' → h r = none → J (some ⟨r, 0, none⟩) cap' (h.ins r (.cells (old ++ q4 n.toNat z ++ q4 (cap' - (len + n.toNat)) z).toArray t (0, 0)))
def qVp (P : Program) (ts : List TypeId) (xs : List Value) (h : Heap) (J : Value → Heap → Prop) : Prop := match ts, xs with
  | t :: u :: _, .slice base len cap :: .int _ n :: _ => match P.underlying t, P.underlying u with
    | some (.slice e), some (.int _) => match P.info? e, qBT P e with
      | some i, some z => match Nat.beq z.length i.size, Nat.ble i.bytes 4096, Nat.beq i.size 0 with
        | true, true, false => qY4 z e h base len cap n fun base' cap' h' => J (.slice base' (len + n.toNat) cap') h'
        | _, _, _ => False
      | _, _ => False
    | _, _ => False
  | _, _ => False
def qX1 : List Value → Bool
  | _ :: .int _ _ :: _ => true
  | _ => false
def qVF (P : Program) (ts : List TypeId) (xs : List Value) (h : Heap) (J : Value → Heap → Prop) : Prop := match ts, xs with
  | t :: u :: _, .slice base len cap :: .slice a n _ :: _ => match P.underlying t, P.underlying u with
    | some (.slice e), some (.slice _) => match P.info? e, qBT P e with
      | some i, some z => match Nat.beq z.length i.size, Nat.ble i.bytes 4096 with
        | true, true => AppA z e h base len cap n a fun base' cap' h' => J (.slice base' (len + n) cap') h'
        | _, _ => False
      | _, _ => False
    | _, _ => False
  | _, _ => False
theorem qPL (m : Nat) : ∀ r c, c ≤ 2 * m + 192 → Builtin.growBy m r c ≤ 2 * m + 192
  | 0, c, h => h
  | r + 1, c, h => by
    unfold Builtin.growBy
    split
    · exact h
    · exact qPL m r _ (by omega)
theorem qRu {need cap : Nat} (h : cap < need) : Builtin.nextslicecap need cap ≤ 2 * need + 192 := by
  unfold Builtin.nextslicecap
  split
  · omega
  · split
    · omega
    · exact qPL need 4 cap (by omega)
theorem qPu {h : Heap} {a : Option Addr} {vs : List Value} {Q : Array Value → Heap → Prop} (r : rdL h a vs) (size n len cap : Nat) (hl : vs.length = n * size) (qq : Q vs.toArray h) :
    swp P q (Builtin.firstCells size n (.slice a len cap)) h (fun cs h' => (vs = [] → cs = #[]) ∧ Q cs h') ∨ (∃ ad, a = some ad ∧ n * size = 0) := by
  rcases r with r | ⟨b, o, rfl, r⟩
  · subst r
    cases a with
    | none => exact .inl ⟨fun _ => rfl, qq⟩
    | some ad => exact .inr ⟨ad, rfl, by simpa using hl.symm⟩
  · refine .inl ?_
    unfold Builtin.firstCells loadCells
    refine qEj _ 0 #[] vs hl (fun j hj => by rw [Nat.zero_add]; exact r j (by omega)) ?_
    exact ⟨fun e => by subst e; rfl, by simpa using qq⟩
theorem qIL {h : Heap} {a : Option Addr} {vs : List Value} {Q : Array Value → Heap → Prop} (r : rdL h a vs) (size n len cap : Nat) (hl : vs.length = n * size) (qq : Q vs.toArray h) :
    swp P q (Builtin.firstCells size n (.slice a len cap)) h Q := by
  rcases qPu (P := P) (q := q) r size n len cap hl qq with k | ⟨ad, rfl, h0⟩
  · exact qEV _ _ _ _ (fun _ _ x => x.2) k
  · have : vs = [] := List.length_eq_zero_iff.1 (by omega)
    subst this
    unfold Builtin.firstCells loadCells
    rw [h0]
    exact qq
theorem qHb (z : List Value) (n : Nat) : Builtin.zeroCells z.toArray n = (q4 n z).toArray := by
  unfold Builtin.zeroCells
  have := qOh z n
  simpa using this
theorem qL7 (h : Heap) (b o : Nat) : h.setN b o [] = h := by
  funext x
  unfold Heap.setN
  split
  · rename_i hx
    have := Nat.eq_of_beq_eq_true hx
    subst this
    split <;> simp_all [qh]
  · rfl
theorem qS4 {ts : Array TypeId} {ty : TypeId} {xs : Array Value} {h : Heap} {J : Value → Heap → Prop} (k : qVF P ts.toList xs.toList h J) :
    swp P false (Builtin.append_ ts ty xs) h J := by
  unfold qVF at k
  split at k
  · rename_i t u ts' base len cap a n cap2 xs' ht hx
    have ht0 : ts[0]? = some t := by rw [← Array.getElem?_toList, ht]; rfl
    have ht1 : ts[1]? = some u := by rw [← Array.getElem?_toList, ht]; rfl
    have hx0 : xs[0]? = some (.slice base len cap) := by rw [← Array.getElem?_toList, hx]; rfl
    have hx1 : xs[1]? = some (.slice a n cap2) := by rw [← Array.getElem?_toList, hx]; rfl
    split at k
    · rename_i e e2 hu hu2
      split at k
      · rename_i i z hi hz
        split at k
        · rename_i hl hb
          have hl := Nat.eq_of_beq_eq_true hl
          have hb := Nat.le_of_ble_eq_true hb
          obtain ⟨k0, vs, k1, k2, k3, k4⟩ := k
          unfold qBT at hz
          rw [hi] at hz
          dsimp only at hz
          cases hzz : i.zero with
          | none => rw [hzz] at hz; cases hz
          | some zv =>
            rw [hzz] at hz
            have hzv : qCE zv = z := by injection hz
            have hzc : zv.cells = z.toArray := by rw [← qBf, hzv]
            unfold Builtin.append_
            simp only [ht0, ht1, hx0, hx1]
            rw [qD, qE hu]
            simp only [qD]
            rw [qAX hi]
            rw [qE hu2]
            simp only [qD, qd, Bool.false_eq_true, if_false, Builtin.lenOf, Bool.not_false, if_true]
            rcases k4 with ⟨k5, k6, k7⟩ | ⟨k5, old, k6, k7, k8⟩
            · rw [if_pos k5]
              simp only [qD]
              refine qIL k2 i.size n n cap2 (by rw [k1, hl]) ?_
              cases base with
              | none =>
                have hvs : vs = [] := by
                  rcases k6 with k6 | ⟨b, o, e, _⟩
                  · exact k6
                  · cases e
                subst hvs
                exact k7
              | some ad =>
                dsimp only
                rw [qD]
                rcases k6 with k6 | ⟨b, o, e, k6⟩
                · subst k6
                  exact k7
                · cases e
                  rw [Addr.add_none]
                  refine qEo _ 0 h k3 ?_ ?_
                  · rw [Nat.add_zero, ← hl]; exact k6
                  · rw [Nat.add_zero, ← hl]
                    cases vs with
                    | nil => rw [qL7]; exact k7
                    | cons v vs => exact k7
            · rw [if_neg (by omega)]
              rw [qD, qB1 hi]
              rw [if_neg (by
                intro hh
                have : (IntKind.i64.max : Int) = 9223372036854775807 := rfl
                rw [this] at hh
                omega)]
              simp only [qD]
              rw [qB1 hi]
              have hcap := qRu k5
              have hbig : Builtin.nextslicecap (len + n) cap * i.bytes ≤ 2 ^ 48 := by
                refine Nat.le_trans (Nat.mul_le_mul (Nat.le_trans hcap (show 2 * (len + n) + 192 ≤ 2147483840 by omega)) hb) ?_
                decide
              rw [if_neg (Nat.not_lt.2 hbig)]
              simp only [qD]
              refine ⟨fun hf => (by cases hf), fun _ => ⟨rfl, fun tt => ?_⟩⟩
              have room : ∀ (n : Nat) (Q : Unit → Heap → Prop), Q () h → swp P false (askRoom n) h Q := by
                intro n Q q
                unfold askRoom
                split <;> exact q
              show swp P false (typeInfo e) h _
              rw [qB1 hi]
              refine room _ _ ?_
              refine qIL k7 i.size len len cap (by rw [k6, hl]) ?_
              refine qIL k2 i.size n n cap2 (by rw [k1, hl]) ?_
              rw [qCr hi hzz, hzc, qHb]
              refine ⟨rfl, fun r hr => ?_⟩
              have hq : len + n ≤ (Question.appendCap (len + n) cap e).cut tt := by
                simp only [Question.cut]; omega
              have k9 := k8 _ r hq hr
              have e9 : (old.toArray ++ vs.toArray ++ (q4 ((Question.appendCap (len + n) cap e).cut tt - (len + n)) z).toArray) =
                  (old ++ vs ++ q4 ((Question.appendCap (len + n) cap e).cut tt - (len + n)) z).toArray := by simp
              rw [e9]
              exact k9
        · exact k.elim
      · exact k.elim
    · exact k.elim
  · exact k.elim
theorem qTZ {ts : Array TypeId} {ty : TypeId} {xs : Array Value} {h : Heap} {J : Value → Heap → Prop} (k : qVp P ts.toList xs.toList h J) :
    swp P false (Builtin.append_ ts ty xs) h J := by
  unfold qVp at k
  split at k
  · rename_i t u ts' base len cap ik n xs' ht hx
    have ht0 : ts[0]? = some t := by rw [← Array.getElem?_toList, ht]; rfl
    have ht1 : ts[1]? = some u := by rw [← Array.getElem?_toList, ht]; rfl
    have hx0 : xs[0]? = some (.slice base len cap) := by rw [← Array.getElem?_toList, hx]; rfl
    have hx1 : xs[1]? = some (.int ik n) := by rw [← Array.getElem?_toList, hx]; rfl
    split at k
    · rename_i e ik2 hu hu2
      split at k
      · rename_i i z hi hz
        split at k
        · rename_i hl hb hsz
          have hl := Nat.eq_of_beq_eq_true hl
          have hb := Nat.le_of_ble_eq_true hb
          have hs0 : i.size ≠ 0 := fun e => by rw [e] at hsz; cases hsz
          obtain ⟨k0, k1, k5, old, k6, k7, k8⟩ := k
          unfold qBT at hz
          rw [hi] at hz
          dsimp only at hz
          cases hzz : i.zero with
          | none => rw [hzz] at hz; cases hz
          | some zv =>
            rw [hzz] at hz
            have hzv : qCE zv = z := by injection hz
            have hzc : zv.cells = z.toArray := by rw [← qBf, hzv]
            have hm : ((n.toNat : Nat) : Int) = n := Int.toNat_of_nonneg (by omega)
            generalize hmm : n.toNat = m at *
            unfold Builtin.append_
            simp only [ht0, ht1, hx0, hx1]
            rw [qD, qE hu]
            simp only [qD]
            rw [qAX hi]
            rw [qE hu2]
            simp only [qD, qd, if_true, asInt, asIntOf]
            rw [qO2 (by omega) (by omega)]
            rw [if_neg (by omega)]
            simp only [qD]
            rw [qB1 hi]
            have hbytes : n * (i.bytes : Int) ≤ 2 ^ 48 := by
              have h1 : m * i.bytes ≤ 1073741824 * 4096 := Nat.mul_le_mul (by omega) hb
              have h2 : (n * (i.bytes : Int)) = ((m * i.bytes : Nat) : Int) := by rw [← hm]; simp
              rw [h2]
              omega
            rw [if_neg (Int.not_lt.2 hbytes)]
            simp only [hmm]
            rw [qD, qd]
            rw [if_neg (show ¬ (len + m ≤ cap) by omega)]
            rw [qD, qB1 hi]
            rw [if_neg (by
              intro hh
              have : (IntKind.i64.max : Int) = 9223372036854775807 := rfl
              rw [this] at hh
              omega)]
            simp only [qD]
            rw [qB1 hi]
            have hcap := qRu (need := len + m) (cap := cap) (by omega)
            have hbig : Builtin.nextslicecap (len + m) cap * i.bytes ≤ 2 ^ 48 := by
              refine Nat.le_trans (Nat.mul_le_mul (Nat.le_trans hcap (show 2 * (len + m) + 192 ≤ 2147483840 by omega)) hb) ?_
              decide
            rw [if_neg (Nat.not_lt.2 hbig)]
            simp only [qD]
            refine ⟨fun hf => (by cases hf), fun _ => ⟨rfl, fun tt => ?_⟩⟩
            have room : ∀ (n : Nat) (Q : Unit → Heap → Prop), Q () h → swp P false (askRoom n) h Q := by
              intro n Q q
              unfold askRoom
              split <;> exact q
            show swp P false (typeInfo e) h _
            rw [qB1 hi]
            refine room _ _ ?_
            refine qIL k7 i.size len len cap (by rw [k6, hl]) ?_
            have hne : ¬ (m * i.size = 0) := by
              rw [Nat.mul_eq_zero]; omega
            simp only [Bool.not_true, Bool.false_eq_true, if_false, hne, qD, qd]
            rw [qCr hi hzz, hzc, qHb]
            rw [qCr hi hzz, hzc, qHb]
            refine ⟨rfl, fun r hr => ?_⟩
            have hq : len + m ≤ (Question.appendCap (len + m) cap e).cut tt := by
              simp only [Question.cut]; omega
            have k9 := k8 _ r hq hr
            have e9 : (old.toArray ++ (q4 m z).toArray ++ (q4 ((Question.appendCap (len + m) cap e).cut tt - (len + m)) z).toArray) =
                (old ++ q4 m z ++ q4 ((Question.appendCap (len + m) cap e).cut tt - (len + m)) z).toArray := by simp
            rw [e9]
            exact k9
        · exact k.elim
      · exact k.elim
    · exact k.elim
  · exact k.elim
/-! ### clear, copy -/
theorem qLU {z : List Value} (h : qAG z = true) : ∀ n, qAG (q4 n z) = true
  | 0 => rfl
  | n + 1 => by
    have app : ∀ (a b : List Value), qAG a = true → qAG b = true → qAG (a ++ b) = true := by
      intro a
      induction a with
      | nil => intro b _ hb; exact hb
      | cons v a ih =>
        intro b ha hb
        obtain ⟨h1, h2⟩ := qLM ha
        show qAG (v :: (a ++ b)) = true
        unfold qAG
        rw [h1]
        exact ih b h2 hb
    rw [q4]; exact app _ _ h (qLU h n)
def qX8 (z : List Value) (h : Heap) (a : Option Addr) (n : Nat) (J : Heap → Prop) : Prop :=
  (n = 0 ∧ J h) ∨ ∃ b o, a = some ⟨b, o, none⟩ ∧ qAG z = true ∧ h.canSt b o (n * z.length) ∧ J (h.setN b o (q4 n z))
def qQd (P : Program) (ts : List TypeId) (xs : List Value) (h : Heap) (J : Value → Heap → Prop) : Prop := match ts, xs with
  | t :: _, .slice a n _ :: _ => match P.underlying t with
    | some (.slice e) => match P.info? e, qBT P e with
      | some _, some z => qX8 z h a n fun h' => J undef h'
      | _, _ => False
    | _ => False
  | _, _ => False
theorem qQb {ts : Array TypeId} {ty : TypeId} {xs : Array Value} {h : Heap} {J : Value → Heap → Prop} (k : qQd P ts.toList xs.toList h J) :
    swp P false (Builtin.clear_ ts ty xs) h J := by
  unfold qQd at k
  split at k
  · rename_i t ts' a n cap xs' ht hx
    have ht0 : ts[0]? = some t := by rw [← Array.getElem?_toList, ht]; rfl
    have hx0 : xs[0]? = some (.slice a n cap) := by rw [← Array.getElem?_toList, hx]; rfl
    split at k
    · rename_i e hu
      split at k
      · rename_i i z hi hz
        unfold Builtin.clear_
        simp only [ht0, hx0]
        rw [qD, qE hu]
        rcases k with ⟨rfl, k⟩ | ⟨b, o, rfl, hc, cs, k⟩
        · cases a <;> exact k
        · cases n with
          | zero =>
            have : h.setN b o (q4 0 z) = h := qL7 h b o
            rw [this] at k
            exact k
          | succ n =>
            unfold qBT at hz
            rw [hi] at hz
            dsimp only at hz
            cases hzz : i.zero with
            | none => rw [hzz] at hz; cases hz
            | some zv =>
              rw [hzz] at hz
              have hzv : qCE zv = z := by injection hz
              have hzc : zv.cells = z.toArray := by rw [← qBf, hzv]
              simp only [qD]
              rw [qCr hi hzz, hzc, qHb]
              refine qEo _ 0 h (qLU hc _) ?_ ?_
              · rw [Nat.add_zero, qCS]; exact cs
              · rw [Nat.add_zero]; exact k
      · exact k.elim
    · exact k.elim
  · exact k.elim
def qYp (sz : Nat) (h : Heap) (dst src : Option Addr) (n : Nat) (J : Heap → Prop) : Prop :=
  ∃ vs, vs.length = n * sz ∧ rdL h src vs ∧ qAG vs = true ∧ ((vs = [] ∧ J h) ∨ ∃ b o, dst = some ⟨b, o, none⟩ ∧ h.canSt b o vs.length ∧ J (h.setN b o vs))
def qS7 (P : Program) (ts : List TypeId) (xs : List Value) (h : Heap) (J : Value → Heap → Prop) : Prop := match ts, xs with
  | t :: _, .slice a n _ :: .slice b m _ :: _ => match P.underlying t with
    | some (.slice e) => match (P.info? e).isSome with
      | true => qYp (P.cellsOf e) h a b (min m n) fun h' => J (.int .i64 ((min m n : Nat) : Int)) h'
      | false => False
    | _ => False
  | _, _ => False
theorem qRT {ts : Array TypeId} {ty : TypeId} {xs : Array Value} {h : Heap} {J : Value → Heap → Prop} (k : qS7 P ts.toList xs.toList h J) :
    swp P false (Builtin.copy_ ts ty xs) h J := by
  unfold qS7 at k
  split at k
  · rename_i t ts' a n cap b m cap2 xs' ht hx
    have ht0 : ts[0]? = some t := by rw [← Array.getElem?_toList, ht]; rfl
    have hx0 : xs[0]? = some (.slice a n cap) := by rw [← Array.getElem?_toList, hx]; rfl
    have hx1 : xs[1]? = some (.slice b m cap2) := by rw [← Array.getElem?_toList, hx]; rfl
    split at k
    · rename_i e hu
      split at k
      · rename_i he
        obtain ⟨i, hi⟩ := Option.isSome_iff_exists.1 he
        have hsz : P.cellsOf e = i.size := by unfold Program.cellsOf; rw [hi]; rfl
        obtain ⟨vs, k1, k2, k3, k4⟩ := k
        unfold Builtin.copy_
        simp only [ht0, hx0, hx1]
        rw [qD, qE hu]
        simp only [qD, qd, Builtin.lenOf]
        rw [qAX hi]
        have e1 : Nat.min m n = min m n := rfl
        rw [e1]
        refine qIL k2 i.size (min m n) m cap2 (by rw [k1, hsz]) ?_
        rcases k4 with ⟨rfl, k4⟩ | ⟨bb, o, rfl, cs, k4⟩
        · cases a <;> exact k4
        · dsimp only
          rw [qD]
          refine qEo _ 0 h k3 ?_ ?_
          · rw [Nat.add_zero]; exact cs
          · rw [Nat.add_zero]; exact k4
      · exact k.elim
    · exact k.elim
  · exact k.elim
/-! ### bytes and texts -/
def qH7 (l : List Int) : ByteArray := l.foldl (fun s n => s.push (UInt8.ofNat n.toNat)) ByteArray.empty
def qA8 (s : ByteArray) : List Int := s.data.toList.map fun b => (b.toNat : Int)
def u8V : List Int → List Value
  | [] => []
  | n :: l => .int .u8 n :: u8V l
theorem qFR : ∀ l, u8V l = l.map (Value.int .u8)
  | [] => rfl
  | n :: l => by rw [u8V, qFR l]; rfl
def qXb (h : Heap) (a : Option Addr) (n : Nat) (J : ByteArray → Prop) : Prop := ∃ l : List Int, l.length = n ∧ rdL h a (u8V l) ∧ J (qH7 l)
def qQO (s : ByteArray) (e : TypeId) (h : Heap) (J : Option Addr → Nat → Heap → Prop) : Prop :=
  ∀ cap r, s.size ≤ cap → h r = none → J (some ⟨r, 0, none⟩) cap (h.ins r (.cells (u8V (qA8 s) ++ List.replicate (cap - s.size) (Value.int IntKind.u8 0)).toArray e (cap, cap + 1)))
theorem qNM : ∀ (l : List Int) (s : ByteArray) (h : Heap) (Q : ByteArray → Heap → Prop), Q (l.foldl (fun s n => s.push (UInt8.ofNat n.toNat)) s) h →
    swp P q (forIn (u8V l) s (fun c s => (match c with
      | .int .u8 n => do
        let s : ByteArray := s.push (UInt8.ofNat n.toNat)
        pure PUnit.unit
        pure (ForInStep.yield s)
      | _ => stuck "bytesToString: byte expected" : Sem (ForInStep ByteArray)))) h Q
  | [], s, h, Q, k => k
  | n :: l, s, h, Q, k => by
    rw [u8V, List.forIn_cons, qD]
    exact qNM l _ h Q k
theorem qSf {a : Option Addr} {n cap : Nat} {h : Heap} {J : ByteArray → Prop} (k : qXb h a n J) : swp P q (Conv.bytesToString (.slice a n cap)) h (fun v h' => h' = h ∧ ∃ s, v = .string s ∧ J s) := by
  obtain ⟨l, hl, hr, k⟩ := k
  have hlen : (u8V l).length = l.length := by rw [qFR]; simp
  cases a with
  | none =>
    rcases hr with e | ⟨b, o, e, _⟩
    · have : l = [] := List.length_eq_zero_iff.1 (by rw [← hlen, e]; rfl)
      subst this
      exact ⟨rfl, _, rfl, k⟩
    · cases e
  | some ad =>
    unfold Conv.bytesToString
    dsimp only
    rw [qD]
    unfold loadCells
    have go : ∀ (cs : Array Value), cs = (u8V l).toArray → swp P q ((do
        let s ← forIn cs ByteArray.empty (fun c s => (match c with
          | .int .u8 n => do
            let s : ByteArray := s.push (UInt8.ofNat n.toNat)
            pure PUnit.unit
            pure (ForInStep.yield s)
          | _ => stuck "bytesToString: byte expected" : Sem (ForInStep ByteArray)))
        pure (.string s) : Sem Value)) h (fun v h' => h' = h ∧ ∃ s, v = .string s ∧ J s) := by
      intro cs e
      subst e
      rw [qD, ← Array.forIn_toList]
      exact qNM l _ h _ ⟨rfl, _, rfl, k⟩
    rcases hr with e | ⟨b, o, e, hc⟩
    · have : l = [] := List.length_eq_zero_iff.1 (by rw [← hlen, e]; rfl)
      subst this
      have hn : n = 0 := by simpa using hl.symm
      subst hn
      exact go #[] rfl
    · cases e
      refine qEj n 0 #[] (u8V l) (by rw [hlen, hl]) (fun j hj => by rw [Nat.zero_add]; exact hc j (by rw [hlen, hl]; exact hj)) ?_
      exact go _ (by simp)
theorem qU1 (s : ByteArray) : s.data.map (fun b => (Value.int .u8 b.toNat : Value)) = (u8V (qA8 s)).toArray := by
  apply Array.toList_inj.1
  rw [qFR]
  simp [qA8]
theorem qRC {s : ByteArray} {e : TypeId} {h : Heap} {J : Value → Heap → Prop} (k : qQO s e h fun a c h' => J (.slice a s.size c) h') : swp P false (Conv.stringToBytes e s) h J := by
  unfold Conv.stringToBytes
  simp only [qD]
  refine ⟨fun hf => (by cases hf), fun _ => ⟨rfl, fun tt => ?_⟩⟩
  have hq : s.size ≤ (Question.appendCap s.size 0 e).cut tt := by
    simp only [Question.cut]; omega
  generalize (Question.appendCap s.size 0 e).cut tt = cap at *
  refine ⟨rfl, fun r hr => ?_⟩
  have ek := k cap r hq hr
  have e1 : (s.data.map (fun b => (Value.int .u8 b.toNat : Value)) ++ Array.replicate (cap - s.size) (Value.int .u8 0)) = (u8V (qA8 s) ++ List.replicate (cap - s.size) (Value.int IntKind.u8 0)).toArray := by
    rw [qU1]
    apply Array.toList_inj.1
    simp
  rw [e1]
  have hsz : ((u8V (qA8 s) ++ List.replicate (cap - s.size) (Value.int .u8 0)).toArray).size = cap := by
    rw [qFR]
    simp [qA8]
    have : s.data.size = s.size := rfl
    omega
  generalize hc : (u8V (qA8 s) ++ List.replicate (cap - s.size) (Value.int .u8 0)).toArray = cells at *
  unfold markStringish
  simp only [qD]
  refine ⟨.cells cells e (0, 0), by unfold Heap.ins; rw [if_pos rfl], ?_⟩
  simp only [qKV]
  refine ⟨rfl, ⟨.cells cells e (0, 0), by unfold Heap.ins; rw [if_pos rfl]⟩, ?_⟩
  have ef : (h.ins r (.cells cells e (0, 0))).freezeA ⟨r, cells.size, none⟩ 1 = h.ins r (.cells cells e (cap, cap + 1)) := by
    unfold Heap.freezeA
    rw [if_neg (by decide)]
    funext x
    unfold Heap.ins
    by_cases hx : x = r
    · simp [hx, qJ5, hsz]
    · simp [hx]
  rw [ef]
  exact ek
end Go.Sy

/- Places seen through unsafe pointers, texts without a copy, maps from whole numbers to whole numbers: what each does over a partial heap, and that it is sound. -/
namespace Go.Sy
variable {P : Program} {q : Bool}

/-! ### pointers held against each other -/
def qX5 (x : Value) (y : Operand) : Bool := match x, y with
  | .pointer _, .tmp _ => true
  | _, _ => false
def qUz (P : Program) (op : BinOp) (xT : TypeId) (x y : Value) (J : Value → Prop) : Prop := match x, y, P.underlying xT with
  | .pointer a, .pointer b, some (.pointer e) => match P.info? e with
    | some i => match Nat.beq i.size 0 with
      | false => qA a fun b1 o1 => qA b fun b2 o2 => b1 = b2 ∧ o1 = o2 ∧ eqN op true J
      | true => False
    | none => False
  | _, _, _ => False
theorem qTU {op : BinOp} {xT : TypeId} {x y : Value} {J : Value → Prop} {ox oy : Operand} {h : Heap} (k : qUz P op xT x y J) :
    swp P q (do eqGuard op xT ox oy x y; binOp op xT x y) h (fun v h' => h' = h ∧ J v) := by
  unfold qUz at k
  split at k
  · rename_i a b e hu
    split at k
    · rename_i i hi
      split at k
      · rename_i hz
        obtain ⟨b1, o1, rfl, k1⟩ := qAU k
        obtain ⟨b2, o2, rfl, rfl, rfl, k2⟩ := qAU k1
        rw [qD]
        refine qBp rfl ?_
        have hs : i.size ≠ 0 := fun e => by rw [e] at hz; cases hz
        refine qIJ (c := true) (fun Q qq => ?_) k2 (fun _ e => by subst e; rfl) (fun _ e => by subst e; rfl)
        have key : ∀ d : Nat, swp P q (Op.equalIn (d + 1) xT (.pointer (some ⟨b1, o1, none⟩)) (.pointer (some ⟨b1, o1, none⟩))) h Q := fun d => by
          rw [Op.equalIn, qD, qE hu]
          simp only [qD]
          rw [qAX hi]
          rw [if_pos hs]
          unfold sameAddr
          simp only [beq_self_eq_true, if_true]
          exact qq
        exact key 9999
      · exact k.elim
    · exact k.elim
  · exact k.elim

/-! ### unsafe pointers -/
def ToU (h : Heap) (b o : Nat) : Prop := ∃ cs T fz, h b = some (.cells cs T fz) ∧ o < cs.size
def qTV (P : Program) (h : Heap) (b o : Nat) (u : TypeId) (n : Nat) : Prop := ∃ cs T fz, h b = some (.cells cs T fz) ∧ liesAt P P.depth T (cs.size / P.cellsOf T) o u n = true
theorem qSc {h : Heap} {b : Nat} {cs : Array Value} {T : TypeId} {fz : Nat × Nat} (e : h b = some (.cells cs T fz)) {Q : Option (Addr × TypeId) → Heap → Prop} (k : Q none h) :
    swp P q (viewAt b) h Q := by
  unfold viewAt
  rw [qD]
  exact ⟨_, e, k⟩
theorem qN2 {h : Heap} {b o : Nat} {cs : Array Value} {T : TypeId} {fz : Nat × Nat} (e : h b = some (.cells cs T fz)) {Q : Addr → Heap → Prop} (k : Q ⟨b, o, none⟩ h) :
    swp P q (Conv.seenAt ⟨b, o, none⟩) h Q := by
  unfold Conv.seenAt
  rw [qD]
  exact qSc e k
theorem qJe {h : Heap} {b o : Nat} {u : TypeId} {n : Nat} (l : qTV P h b o u n) {Q : Bool → Heap → Prop} (k : Q true h) : swp P q (variablesAt ⟨b, o, none⟩ u n) h Q := by
  obtain ⟨cs, T, fz, e, l⟩ := l
  refine (show ∃ ob, h b = some ob ∧ swp P q (match qKV ob with
    | some (e, cells) => pure (liesAt P P.depth e (cells / P.cellsOf e) o u n)
    | none => pure false) h Q from ⟨_, e, ?_⟩)
  simp only [qKV, qd]
  rw [l]; exact k
def qUr (P : Program) (s d : TypeId) (x : Value) (h : Heap) (J : Value → Prop) : Prop := match P.underlying s, P.underlying d, x with
  | some (.pointer t), some .unsafePointer, .pointer a => match P.info? t with
    | some i => match Nat.beq i.size 0 with
      | false => qA a fun b o => ToU h b o ∧ J (.pointer (some ⟨b, o, none⟩))
      | true => False
    | none => False
  | some .unsafePointer, some (.pointer u), .pointer a => match P.info? u with
    | some _ => qA a fun b o => qTV P h b o u 1 ∧ J (.pointer (some ⟨b, o, none⟩))
    | none => False
  | _, _, _ => False
theorem qSp {s d : TypeId} {x : Value} {h : Heap} {J : Value → Prop} (k : qUr P s d x h J) : swp P q (convert s d x) h (fun v h' => h' = h ∧ J v) := by
  unfold qUr at k
  split at k
  · rename_i t a hs hd
    split at k
    · rename_i i hi
      split at k
      · rename_i hz
        obtain ⟨b, o, rfl, ⟨cs, T, fz, e, lt⟩, k⟩ := qAU k
        have h0 : i.size ≠ 0 := fun e => by rw [e] at hz; cases hz
        unfold convert
        rw [qD, qE hs, qD, qE hd]
        simp only [Conv.unsafePointer]
        rw [qD, qE hs, qD, qE hd]
        simp only [qD]
        refine qN2 e ?_
        unfold cellsIn
        simp only [qD]
        refine ⟨_, e, ?_⟩
        show swp P q (sizeOf t) h _
        rw [qAX hi]
        have : ¬ (o ≥ cs.size) := by omega
        simp only [h0, this, decide_false, Bool.false_and]
        exact ⟨rfl, k⟩
      · exact k.elim
    · exact k.elim
  · rename_i u a hs hd
    split at k
    · rename_i i hi
      obtain ⟨b, o, rfl, l, k⟩ := qAU k
      have l0 := l
      obtain ⟨cs, T, fz, e, _⟩ := l0
      unfold convert
      rw [qD, qE hs, qD, qE hd]
      simp only [Conv.unsafePointer]
      rw [qD, qE hs, qD, qE hd]
      simp only [qD]
      refine qN2 e ?_
      rw [qAX hi]
      refine qJe l ?_
      rw [Bool.or_true, if_pos rfl]
      exact ⟨rfl, k⟩
    · exact k.elim
  · exact k.elim
def qSo (P : Program) (s d : TypeId) : Bool := match P.underlying s, P.underlying d with
  | some .unsafePointer, _ => true
  | _, some .unsafePointer => true
  | _, _ => false

/-! ### texts of bytes, without a copy -/
def qWJ (P : Program) (e : TypeId) (h : Heap) (a : Option Addr) (n : Int) (J : ByteArray → Heap → Prop) : Prop :=
  ∃ l : List Int, (l.length : Int) = n ∧ n ≤ 9223372036854775807 ∧ ((l = [] ∧ J (qH7 l) h) ∨
    ∃ b o, a = some ⟨b, o, none⟩ ∧ qTV P h b o e l.length ∧ (∀ j, j < l.length → h.cell b (o + j) = (u8V l)[j]?) ∧ J (qH7 l) (h.freezeA ⟨b, o, none⟩ l.length))
theorem qLH : ∀ (l : List Int) (b o : Nat) (acc : ByteArray) (h : Heap) (Q : ByteArray → Heap → Prop), (∀ j, j < l.length → h.cell b (o + j) = (u8V l)[j]?) →
    Q (l.foldl (fun s n => s.push (UInt8.ofNat n.toNat)) acc) h → swp P q (loadBytes ⟨b, o, none⟩ acc l.length) h Q
  | [], b, o, acc, h, Q, _, k => k
  | n :: l, b, o, acc, h, Q, hc, k => by
    rw [List.length_cons]
    unfold loadBytes
    rw [qD]
    refine ⟨.int .u8 n, ?_, ?_⟩
    · rw [qIz]
      have := hc 0 (by simp)
      simpa [u8V] using this
    · show swp P q (loadBytes (Addr.add ⟨b, o, none⟩ 1) _ l.length) h Q
      rw [Addr.add_none]
      refine qLH l b (o + 1) _ h Q (fun j hj => ?_) k
      have := hc (j + 1) (by simp; omega)
      rw [show o + 1 + j = o + (j + 1) by omega, this]
      simp [u8V]
def qSj (P : Program) (ts : List TypeId) (xs : List Value) (h : Heap) (J : Value → Heap → Prop) : Prop := match ts, xs with
  | t :: _, [.pointer a, .int _ n] => match P.underlying t with
    | some (.pointer e) => qWJ P e h a n fun s h' => J (.string s) h'
    | _ => False
  | _, _ => False
theorem qRe {ts : Array TypeId} {ty : TypeId} {xs : Array Value} {h : Heap} {J : Value → Heap → Prop} (k : qSj P ts.toList xs.toList h J) :
    swp P false (Builtin.unsafeString_ ts ty xs) h J := by
  unfold qSj at k
  split at k
  · rename_i t ts' a ik n ht hx
    have ht0 : ts[0]? = some t := by rw [← Array.getElem?_toList, ht]; rfl
    have hxs : xs = #[.pointer a, .int ik n] := by apply Array.toList_inj.1; rw [hx]
    split at k
    · rename_i e hu
      subst hxs
      obtain ⟨l, hl, hn, k⟩ := k
      have e0 : Builtin.unsafeString_ ts ty #[.pointer a, .int ik n] = (do
          let n ← asInt (.int ik n)
          let some pt := ts[0]? | stuck "unsafe.String: no argument types"
          if n < 0 then runtimePanic (.error "unsafe.String: len out of range")
          if n > IntKind.i64.max then unsupported (.unsafePointer "String: a length above the largest int")
          match a with
          | none =>
            if n = 0 then pure (.string .empty)
            else runtimePanic (.error "unsafe.String: ptr is nil and len is not zero")
          | some a =>
            if n = 0 then pure (.string .empty)
            else if ← variablesAt a (← elemOf pt) n.toNat then do
              let s ← loadBytes a .empty n.toNat
              freeze a n.toNat
              pure (.string s)
            else unsupported (.unsafePointer "String: not so many bytes at ptr")) := rfl
      rw [e0]
      simp only [qD, asInt, asIntOf, qd, ht0]
      rw [if_neg (by omega)]
      rw [if_neg (by rw [show (IntKind.i64.max : Int) = 9223372036854775807 from rfl]; omega)]
      rcases k with ⟨rfl, k⟩ | ⟨b, o, rfl, lies, hc, k⟩
      · have h0 : n = 0 := by simpa using hl.symm
        subst h0
        cases a <;> exact k
      · dsimp only
        have hn' : n.toNat = l.length := by omega
        by_cases h0 : n = 0
        · have : l = [] := List.length_eq_zero_iff.1 (by omega)
          subst this
          rw [if_pos h0]
          have e0 : h.freezeA ⟨b, o, none⟩ ([] : List Int).length = h := by unfold Heap.freezeA; exact if_pos rfl
          rw [e0] at k
          exact k
        · rw [if_neg h0]
          unfold elemOf
          simp only [qD]
          rw [qE hu, hn']
          refine qJe lies ?_
          simp only [if_true, qD]
          refine qLH l b o _ h _ hc ?_
          obtain ⟨cs, T, fz, e1, _⟩ := lies
          exact ⟨rfl, ⟨_, e1⟩, k⟩
    · exact k.elim
  · exact k.elim
def qSN (xs : List Value) (h : Heap) (J : Value → Heap → Prop) : Prop := match xs with
  | [.slice a _ c] => (a = none ∨ c ≠ 0) ∧ J (.pointer a) h
  | _ => False
theorem qRa {ts : Array TypeId} {ty : TypeId} {xs : Array Value} {h : Heap} {J : Value → Heap → Prop} (k : qSN xs.toList h J) :
    swp P q (Builtin.unsafeSliceData_ ts ty xs) h (fun v h' => h' = h ∧ J v h) := by
  unfold qSN at k
  split at k
  · rename_i a n c hx
    have hxs : xs = #[.slice a n c] := by apply Array.toList_inj.1; rw [hx]
    subst hxs
    cases a with
    | none => exact ⟨rfl, k.2⟩
    | some ad =>
      have hc : c ≠ 0 := k.1.resolve_left (fun e => by cases e)
      have e0 : Builtin.unsafeSliceData_ ts ty #[.slice (some ad) n c] = (do
          if c ≠ 0 then pure (.pointer (some ad))
          else if (← viewAt ad.block).isSome then pure (.pointer (some ad))
          else pure (.pointer (some ⟨← newObj (.view ad (← elemOf ty)), 0, none⟩))) := rfl
      rw [e0]
      rw [if_pos hc]
      exact ⟨rfl, k.2⟩
  · exact k.elim

/-! ### maps from whole numbers to whole numbers -/
def MapF (h : Heap) (r : Nat) (kk vk : IntKind) (f : Int → Option Int) : Prop :=
  ∃ (l : List (Int × Int)) (es : Array MapEntry) (c : Nat), h r = some (.map es c) ∧ es.toList.map (fun e => (e.key, e.val)) = l.map (fun p => (.int kk p.1, .int vk p.2)) ∧ ∀ a, l.lookup a = f a
def qSX (h : Heap) (J : Nat → Heap → Prop) : Prop := ∀ r, h r = none → J r (h.ins r (.map #[] 0))
theorem MapF.new (h : Heap) (r : Nat) (kk vk : IntKind) : MapF (h.ins r (.map #[] 0)) r kk vk (fun _ => none) :=
  ⟨[], #[], 0, by unfold Heap.ins; rw [if_pos rfl], rfl, fun _ => rfl⟩
def qPx (h : Heap) (m : Option Nat) (kk vk : IntKind) (a : Int) (J : Int → Bool → Prop) : Prop := ∃ r f, m = some r ∧ MapF h r kk vk f ∧ J ((f a).getD 0) (f a).isSome
def MapN (h : Heap) (r n : Nat) : Prop := ∃ (es : Array MapEntry) (c : Nat), h r = some (.map es c) ∧ es.size = n
theorem MapN.new (h : Heap) (r : Nat) : MapN (h.ins r (.map #[] 0)) r 0 := ⟨#[], 0, by unfold Heap.ins; rw [if_pos rfl], rfl⟩
def qYt (h : Heap) (m : Option Nat) (J : Nat → Prop) : Prop := ∃ r n, m = some r ∧ MapN h r n ∧ J n
def qSu (h : Heap) (m : Option Nat) (kk vk : IntKind) (a b : Int) (J : Heap → Prop) : Prop := ∃ r f, m = some r ∧ MapF h r kk vk f ∧
  ∀ o, (∀ h' : Heap, h' r = some o → MapF h' r kk vk (fun x => if x = a then some b else f x)) → qGs o = false →
    (∀ n, MapN h r n → ∀ h' : Heap, h' r = some o → MapN h' r (if (f a).isSome = true then n else n + 1)) → J (h.ins r o)
theorem qKA {kk vk : IntKind} {t : TypeDesc} (ht : ∃ k, t = .int k) (a : Int) : ∀ (l : List (Int × Int)) (es : List MapEntry) (i : Nat), es.map (fun e => (e.key, e.val)) = l.map (fun p => (.int kk p.1, .int vk p.2)) →
    ∃ res, Instr.findNow t (.int kk a) es i = some res ∧ (match l.lookup a with
      | none => res = none ∧ ∀ p ∈ l, p.1 ≠ a
      | some b => ∃ j e, res = some (i + j, .int vk b) ∧ es[j]? = some e ∧ e.key = .int kk a ∧ ∃ l1 l2, l = l1 ++ (a, b) :: l2 ∧ l1.length = j ∧ ∀ p ∈ l1, p.1 ≠ a)
  | [], [], i, _ => ⟨none, rfl, rfl, fun _ x => by cases x⟩
  | [], _ :: _, _, e => by cases e
  | _ :: _, [], _, e => by cases e
  | (x, y) :: l, e :: es, i, he => by
    obtain ⟨k, rfl⟩ := ht
    simp only [List.map_cons, List.cons.injEq, Prod.mk.injEq] at he
    obtain ⟨⟨e1, e2⟩, e3⟩ := he
    obtain ⟨res, h1, h2⟩ := qKA ⟨k, rfl⟩ a l es (i + 1) e3
    unfold Instr.findNow
    rw [e1]
    simp only [Instr.sameNow, if_true]
    by_cases hx : a = x
    · subst hx
      refine ⟨some (i, e.val), by simp, ?_⟩
      simp only [List.lookup, beq_self_eq_true]
      exact ⟨0, e, by rw [e2]; rfl, rfl, e1, [], l, rfl, rfl, fun _ h => by cases h⟩
    · have hb : (a == x) = false := by simp [hx]
      rw [hb]
      refine ⟨res, h1, ?_⟩
      simp only [List.lookup, hb]
      split
      · rename_i hn
        rw [hn] at h2
        exact ⟨h2.1, fun p hp => by
          rcases List.mem_cons.1 hp with rfl | hp
          · exact fun e => hx e.symm
          · exact h2.2 p hp⟩
      · rename_i b hn
        rw [hn] at h2
        obtain ⟨j, e', h3, h4, h5, l1, l2, h6, h7, h8⟩ := h2
        refine ⟨j + 1, e', by rw [h3, show i + 1 + j = i + (j + 1) by omega], h4, h5, (x, y) :: l1, l2, by rw [h6]; rfl, by simp [h7], fun p hp => ?_⟩
        rcases List.mem_cons.1 hp with rfl | hp
        · exact fun e => hx e.symm
        · exact h8 p hp
theorem qOT (a b c : Int) : ∀ (l1 l2 : List (Int × Int)), (∀ p ∈ l1, p.1 ≠ a) → ∀ x, (l1 ++ (a, b) :: l2).lookup x = if x = a then some b else (l1 ++ (a, c) :: l2).lookup x
  | [], l2, _, x => by
    simp only [List.nil_append, List.lookup]
    by_cases hx : x = a
    · subst hx; simp
    · have : (x == a) = false := by simp [hx]
      rw [this, if_neg hx]
  | (k, v) :: l1, l2, h, x => by
    simp only [List.cons_append, List.lookup]
    by_cases hk : x = k
    · subst hk
      have : x ≠ a := h (x, v) (by simp)
      simp [this]
    · have : (x == k) = false := by simp [hk]
      rw [this]
      exact qOT a b c l1 l2 (fun p hp => h p (by simp [hp])) x
theorem qOV (a b : Int) : ∀ (l : List (Int × Int)), (∀ p ∈ l, p.1 ≠ a) → ∀ x, (l ++ [(a, b)]).lookup x = if x = a then some b else l.lookup x
  | [], _, x => by
    simp only [List.nil_append, List.lookup]
    by_cases hx : x = a
    · subst hx; simp
    · have : (x == a) = false := by simp [hx]
      rw [this, if_neg hx]
  | (k, v) :: l1, h, x => by
    simp only [List.cons_append, List.lookup]
    by_cases hk : x = k
    · subst hk
      have : x ≠ a := h (x, v) (by simp)
      simp [this]
    · have : (x == k) = false := by simp [hk]
      rw [this]
      exact qOV a b l1 (fun p hp => h p (by simp [hp])) x
theorem qHq {α : Type} {a : α} {h : Heap} {Q : α → Heap → Prop} : swp P q (Sem.pure a) h Q ↔ Q a h := Iff.rfl
def qJ6 (P : Program) (t : TypeId) : Option Value := match P.info? t with
  | some i => i.zero
  | none => none
def qSw (P : Program) (t : TypeId) (x i : Value) (ok : Bool) (h : Heap) (J : Value → Prop) : Prop := match P.underlying t, x, i with
  | some (.map k e), .map m, .int kk a => match P.underlying k, qJ6 P e with
    | some (.int _), some (.int vk (.ofNat 0)) => match ok with
      | true => qPx h m kk vk a fun b f => J (.tuple #[.int vk b, .bool f])
      | false => qPx h m kk vk a fun b _ => J (.int vk b)
    | _, _ => False
  | _, _, _ => False
theorem qMi {b : Bool} {n : Nat} {t : TypeId} {d : IntKind} {kk : IntKind} {a : Int} (hu : P.underlying t = some (.int d)) {h : Heap} {Q : Unit → Heap → Prop} (k : Q () h) :
    swp P q (Instr.checkKey b (n + 1) t (.int kk a)) h Q := by
  unfold Instr.checkKey
  rw [qD, qE hu]
  exact k
theorem qLq {t : TypeId} {z : Value} (e : qJ6 P t = some z) {h : Heap} {Q : Value → Heap → Prop} (k : Q z h) : swp P q (zeroValue t) h Q := by
  unfold qJ6 at e
  split at e
  · rename_i i hi
    rw [qCr hi e]
    exact k
  · cases e
theorem qPd {t : TypeId} {ok : Bool} {h : Heap} {J : Value → Prop} {kt et : TypeId} {m : Option Nat} {kk vk d1 : IntKind} {a : Int} (hu : P.underlying t = some (.map kt et)) (hk : P.underlying kt = some (.int d1))
    (hz : qJ6 P et = some (.int vk 0)) (k : qPx h m kk vk a (fun b f => J (if ok then .tuple #[.int vk b, .bool f] else .int vk b))) :
    swp P q (Instr.lookup t (.map m) (.int kk a) ok) h (fun v h' => h' = h ∧ J v) := by
  obtain ⟨r, f, rfl, ⟨l, es, c, hr, he2, hf⟩, k⟩ := k
  unfold Instr.lookup
  rw [qD, qE hu]
  simp only [qD]
  refine ⟨_, hr, rfl, ?_⟩
  rw [qHq]
  dsimp only
  simp only [qD, qd]
  refine qMi hk ?_
  unfold Instr.findKey
  rw [qD, qE hk]
  obtain ⟨res, h1, h2⟩ := qKA (kk := kk) (vk := vk) ⟨d1, rfl⟩ a l es.toList 0 he2
  rw [h1]
  dsimp only
  rw [hf a] at h2
  rw [qd]
  cases hfa : f a with
  | none =>
    rw [hfa] at h2 k
    obtain ⟨rfl, _⟩ := h2
    dsimp only
    rw [qD]
    refine qLq hz ?_
    cases ok <;> exact ⟨rfl, k⟩
  | some b =>
    rw [hfa] at h2 k
    obtain ⟨j, e, rfl, _⟩ := h2
    cases ok <;> exact ⟨rfl, k⟩
theorem qRP {t : TypeId} {x i : Value} {ok : Bool} {h : Heap} {J : Value → Prop} (k : qSw P t x i ok h J) : swp P q (Instr.lookup t x i ok) h (fun v h' => h' = h ∧ J v) := by
  unfold qSw at k
  split at k
  · rename_i hu
    split at k
    · rename_i hk hz
      cases ok
      · exact qPd hu hk hz k
      · exact qPd hu hk hz k
    · exact k.elim
  · exact k.elim
def qSg (P : Program) (t : TypeId) (x i v : Value) (h : Heap) (J : Value → Heap → Prop) : Prop := match P.underlying t, x, i with
  | some (.map k _), .map m, .int kk a => match P.underlying k, v with
    | some (.int _), .int vk b => qSu h m kk vk a b fun h' => J undef h'
    | _, _ => False
  | _, _, _ => False
theorem qRk {t : TypeId} {x i v : Value} {h : Heap} {J : Value → Heap → Prop} (k : qSg P t x i v h J) : swp P false (Instr.mapUpdate t x i v) h (fun _ h' => J undef h') := by
  unfold qSg at k
  split at k
  · rename_i kt et m kk a hu
    split at k
    · rename_i d1 vk b hk
      obtain ⟨r, f, rfl, ⟨l, es, c, hr, he2, hf⟩, k⟩ := k
      unfold Instr.mapUpdate
      rw [qD, qE hu]
      simp only [qD]
      refine ⟨_, hr, rfl, ?_⟩
      rw [qHq]
      dsimp only
      simp only [qD]
      refine qMi hk ?_
      unfold Instr.findKey
      rw [qD, qE hk]
      obtain ⟨res, h1, h2⟩ := qKA (kk := kk) (vk := vk) ⟨d1, rfl⟩ a l es.toList 0 he2
      rw [h1]
      dsimp only
      rw [qd]
      cases hla : l.lookup a with
      | none =>
        rw [hla] at h2
        obtain ⟨rfl, hn⟩ := h2
        dsimp only
        refine ⟨rfl, _, hr, rfl, k _ (fun h' e => ?_) rfl fun n ⟨es0, c0, e0, en⟩ h' e => ?_⟩
        rotate_left
        · rw [hr] at e0; cases e0
          refine ⟨_, _, e, ?_⟩
          rw [← hf a, hla]
          simp [en]
        refine ⟨l ++ [(a, b)], _, _, e, ?_, fun x => ?_⟩
        · simp [he2]
        · rw [qOV a b l hn, hf]
      | some b0 =>
        rw [hla] at h2
        obtain ⟨j, e0, rfl, hj, hkey, l1, l2, rfl, rfl, hn⟩ := h2
        have hj' : es[0 + l1.length]? = some e0 := by rw [Nat.zero_add]; simpa using hj
        dsimp only
        rw [qD, hj']
        unfold Instr.keyThatStays
        simp only [Option.map_some, Option.getD_some, hkey]
        have hs : Instr.sameBits 10000 (.int kk a) (.int kk a) = true := by unfold Instr.sameBits; simp
        rw [hs, if_pos rfl]
        refine ⟨rfl, _, hr, rfl, k _ (fun h' e => ?_) rfl fun n ⟨es0, c0, e0', en⟩ h' e => ?_⟩
        rotate_left
        · rw [hr] at e0'; cases e0'
          refine ⟨_, _, e, ?_⟩
          rw [← hf a, hla]
          simp [en]
        refine ⟨l1 ++ (a, b) :: l2, _, _, e, ?_, fun x => ?_⟩
        · apply List.ext_getElem?
          intro i
          have hi := congrArg (fun z => z[i]?) he2
          simp only [List.getElem?_map, Array.getElem?_toList, Array.getElem?_modify, Nat.zero_add] at hi ⊢
          by_cases hil : l1.length = i
          · subst hil
            rw [if_pos rfl]
            simp only [Nat.zero_add] at hj'
            rw [hj']
            simp
          · rw [if_neg hil, hi]
            rw [List.getElem?_append, List.getElem?_append]
            split
            · rfl
            · rename_i hlt
              have : i - l1.length = (i - l1.length - 1) + 1 := by omega
              rw [this]; rfl
        · rw [qOT a b b0 l1 l2 hn, hf]
    · exact k.elim
  · exact k.elim
theorem qRc {t : TypeId} {h : Heap} {J : Value → Heap → Prop} (k : qSX h fun r h' => J (.map (some r)) h') : swp P false (Instr.makeMap t none) h J := by
  unfold Instr.makeMap
  exact ⟨rfl, fun r hr => k r hr⟩
end Go.Sy

/- Maps from structs to slices: what each operation does over a partial heap, and that it is sound. -/
namespace Go.Sy
open Go.WideShapes
variable {P : Program} {q : Bool}
def qVZ (P : Program) (kt : TypeId) (es : Array MapEntry) (c : Nat) (f : Value → Option Value) : Prop :=
  (∀ e ∈ es.toList, ∃ l, keyOf P kt e.key = some l) ∧ (es.toList.map fun e => e.key).Nodup ∧ (es.toList.map fun e => e.born).Nodup ∧ (∀ e ∈ es.toList, e.born < c) ∧ ∀ a v, f a = some v ↔ ∃ e ∈ es.toList, e.key = a ∧ e.val = v
def MapK (P : Program) (kt : TypeId) (h : Heap) (r : Nat) (f : Value → Option Value) : Prop := ∃ es c, h r = some (.map es c) ∧ qVZ P kt es c f
def qXu (P : Program) (kt : TypeId) (h : Heap) (r : Nat) (f : Value → Option Value) (k : Value) (s : Int) : Prop :=
  ∃ es c, h r = some (.map es c) ∧ qVZ P kt es c f ∧ ∃ e ∈ es.toList, e.key = k ∧ (e.born : Int) = s
theorem MapK.new (P : Program) (kt : TypeId) (h : Heap) (r : Nat) : MapK P kt (h.ins r (.map #[] 0)) r (fun _ => none) :=
  ⟨#[], 0, by unfold Heap.ins; rw [if_pos rfl], fun _ x => (by cases x), List.Pairwise.nil, List.Pairwise.nil, fun _ x => (by cases x), fun a v => ⟨fun x => (by cases x), fun ⟨e, x, _⟩ => (by cases x)⟩⟩
def qWG (P : Program) (kt : TypeId) (h : Heap) (m : Option Nat) (k : Value) (J : Option Addr → Nat → Nat → Prop) : Prop :=
  ∃ r f, m = some r ∧ MapK P kt h r f ∧ WideMaps.KeyLaw P kt ∧ (∃ l, keyOf P kt k = some l) ∧ ((f k = none ∧ J none 0 0) ∨ ∃ p n c, f k = some (.slice p n c) ∧ J p n c)
def qWC (P : Program) (kt : TypeId) (h : Heap) (m : Option Nat) (k : Value) (J : Option Addr → Nat → Nat → Int → Heap → Prop) : Prop :=
  ∃ r f p n c, m = some r ∧ MapK P kt h r f ∧ WideMaps.KeyLaw P kt ∧ (∃ l, keyOf P kt k = some l) ∧ (f k).getD (.slice none 0 0) = .slice p n c ∧
    ∀ o s, (∀ h' : Heap, h' r = some o → ∀ f', f' k = some (.slice p n c) → (∀ x, x ≠ k → f' x = f x) → qXu P kt h' r f' k s) → qGs o = false → J p n c s (h.ins r o)
def qYS (P : Program) (kt : TypeId) (h : Heap) (m : Option Nat) (s : Int) (p : Option Addr) (n c : Nat) (J : Heap → Prop) : Prop :=
  ∃ r f k, m = some r ∧ qXu P kt h r f k s ∧
    ∀ o, (∀ h' : Heap, h' r = some o → ∀ f', f' k = some (.slice p n c) → (∀ x, x ≠ k → f' x = f x) → MapK P kt h' r f') → qGs o = false → J (h.ins r o)
theorem qTy {t kt et : TypeId} {h : Heap} {m : Option Nat} {k : Value} {J : Value → Prop} (hu : P.underlying t = some (.map kt et)) (hz : qJ6 P et = some (.slice none 0 0))
    (g : qWG P kt h m k fun p n c => J (.slice p n c)) : ∃ v, (∀ w, Rep h w → (Instr.lookup t (.map m) k false).run P w = .ok v w) ∧ J v := by
  obtain ⟨r, f, rfl, ⟨es, c, hr, hk, hn, _, _, hf⟩, KL, ⟨l, hl⟩, g⟩ := g
  obtain ⟨a1, e1, _, rfl⟩ := qFw (P := P) (underlying t) h (fun a h' => h' = h ∧ a = .map kt et) (by rw [qE hu]; exact ⟨rfl, rfl⟩)
  obtain ⟨a2, e2, _, rfl⟩ := qFw (P := P) (getObj r) h (fun a h' => h' = h ∧ a = .map es c) ⟨_, hr, rfl, (by rw [qHq]; exact ⟨rfl, rfl⟩)⟩
  obtain ⟨a3, e3, _, rfl⟩ := qFw (P := P) (zeroValue et) h (fun a h' => h' = h ∧ a = .slice none 0 0) (qLq hz ⟨rfl, rfl⟩)
  have J1 : J ((f k).getD (.slice none 0 0)) := by
    rcases g with ⟨g, j⟩ | ⟨p, n, c', g, j⟩ <;> rw [g] <;> exact j
  refine ⟨_, fun w rw' => ?_, J1⟩
  unfold Instr.lookup
  rw [Sem.run_bind, e1 w rw', Result.andThen_ok]
  dsimp only
  rw [Sem.run_bind, e2 w rw', Result.andThen_ok]
  dsimp only
  rw [Sem.run_bind, Sem.run_pure, Result.andThen_ok, Sem.run_bind, KL.check w _ hl, Result.andThen_ok, Sem.run_bind]
  rcases KL.find w hl es.toList hk with ⟨e4, e5⟩ | ⟨j, e, e4, e5, e6⟩
  · rw [e4, Result.andThen_ok]
    dsimp only
    simp only [Sem.run_bind, e3 w rw', Result.andThen_ok, Sem.run_pure, Bool.false_eq_true, if_false]
    have : f k = none := by
      cases h0 : f k with
      | none => rfl
      | some v => obtain ⟨e, he, ek, _⟩ := (hf _ _).1 h0; exact (e5 e he ek).elim
    rw [this]; rfl
  · rw [e4, Result.andThen_ok]
    dsimp only
    simp only [Sem.run_bind, Result.andThen_ok, Sem.run_pure, Bool.false_eq_true, if_false]
    rw [(hf k e.val).2 ⟨e, List.mem_of_getElem? e5, e6, rfl⟩]; rfl
theorem qQl {α β : Type} {g : α → β} {l : List α} (hn : (l.map g).Nodup) {i j : Nat} {a b : α} (ha : l[i]? = some a) (hb : l[j]? = some b) (e : g a = g b) : i = j := by
  have hp := List.pairwise_iff_getElem.1 hn
  have q1 : (l.map g)[i]? = some (g a) := by rw [List.getElem?_map, ha]; rfl
  have q2 : (l.map g)[j]? = some (g b) := by rw [List.getElem?_map, hb]; rfl
  have r1 := List.getElem?_eq_some_iff.1 q1
  have r2 := List.getElem?_eq_some_iff.1 q2
  rcases Nat.lt_trichotomy i j with h3 | h3 | h3
  · have := hp i j r1.1 r2.1 h3
    rw [r1.2, r2.2] at this; exact (this e).elim
  · exact h3
  · have := hp j i r2.1 r1.1 h3
    rw [r1.2, r2.2] at this; exact (this e.symm).elim
theorem qUO {t kt et : TypeId} {h : Heap} {m : Option Nat} {k : Value} {J : Value → Heap → Prop} (hu : P.underlying t = some (.map kt et)) (hz : qJ6 P et = some (.slice none 0 0))
    (g : qWC P kt h m k fun p n c s h' => J (.tuple #[.slice p n c, .int .i64 s]) h') : ssp P (Instr.mapEntry t (.map m) k) h J := by
  obtain ⟨r, f, p, n, c, rfl, ⟨es, ck, hr, hk, hn, hb, hbc, hf⟩, KL, ⟨l, hl⟩, hv, g⟩ := g
  unfold Instr.mapEntry
  refine qDT (qDA (q := false) ?_)
  rw [qE hu]
  dsimp only
  refine qDT (qDA (q := false) ?_)
  refine ⟨_, hr, rfl, ?_⟩
  rw [qHq]
  dsimp only
  refine qDT (qLA (fun w => KL.check w _ hl) ?_)
  refine qDT fun w rw' => ?_
  rcases KL.find w hl es.toList hk with ⟨e1, e2⟩ | ⟨j, e, e1, e2, e3⟩
  · refine ⟨_, h, w, e1, ?_, rw', Fr.refl _ _⟩
    dsimp only
    have fk : f k = none := by
      cases h0 : f k with
      | none => rfl
      | some v => obtain ⟨e, he, ek, _⟩ := (hf _ _).1 h0; exact (e2 e he ek).elim
    rw [fk] at hv
    obtain ⟨rfl, rfl, rfl⟩ : p = none ∧ n = 0 ∧ c = 0 := by cases hv; exact ⟨rfl, rfl, rfl⟩
    refine qDT (qDA (q := false) (qLq hz ?_))
    refine qDT (qDA (q := false) ⟨rfl, _, hr, rfl, qK1 (g _ _ (fun h' he f' f1 f2 => ?_) rfl)⟩)
    refine ⟨_, _, he, ⟨fun e he => ?_, ?_, ?_, fun e he => ?_, fun a v => ?_⟩, ⟨k, .slice none 0 0, ck⟩, by simp, rfl, rfl⟩
    · simp only [Array.toList_push, List.mem_append, List.mem_singleton] at he
      rcases he with he | rfl
      · exact hk e he
      · exact ⟨l, hl⟩
    · simp only [Array.toList_push, List.map_append, List.map_cons, List.map_nil]
      rw [List.nodup_append]
      refine ⟨hn, by simp, fun a ha b hb => ?_⟩
      rw [List.mem_singleton] at hb
      obtain ⟨e, he, rfl⟩ := List.mem_map.1 ha
      rw [hb]; exact e2 e he
    · simp only [Array.toList_push, List.map_append, List.map_cons, List.map_nil]
      rw [List.nodup_append]
      refine ⟨hb, by simp, fun a ha b hb => ?_⟩
      rw [List.mem_singleton] at hb
      obtain ⟨e, he, rfl⟩ := List.mem_map.1 ha
      have := hbc e he
      omega
    · simp only [Array.toList_push, List.mem_append, List.mem_singleton] at he
      rcases he with he | rfl
      · have := hbc e he; omega
      · exact Nat.lt_succ_self _
    · simp only [Array.toList_push, List.mem_append, List.mem_singleton]
      by_cases g : a = k
      · subst g
        rw [f1]
        constructor
        · intro h; cases h; exact ⟨_, .inr rfl, rfl, rfl⟩
        · rintro ⟨e, he | rfl, h1, h2⟩
          · exact (e2 e he h1).elim
          · rw [← h2]
      · rw [f2 a g, hf]
        constructor
        · rintro ⟨e, he, h⟩; exact ⟨e, .inl he, h⟩
        · rintro ⟨e, he | rfl, h1, h2⟩
          · exact ⟨e, he, h1, h2⟩
          · exact (g h1.symm).elim
  · refine ⟨_, h, w, e1, ?_, rw', Fr.refl _ _⟩
    dsimp only
    have ej : es[j]? = some e := by rw [← Array.getElem?_toList]; exact e2
    rw [ej]
    simp only [Option.map_some, Option.getD_some, e3]
    refine qDT (qLA (fun w => KL.stays w hl) ?_)
    have fk := (hf k e.val).2 ⟨e, List.mem_of_getElem? e2, e3, rfl⟩
    rw [fk] at hv
    have hv : e.val = .slice p n c := hv
    have em : es.modify j (fun e => { e with key := k }) = es := by
      apply Array.toList_inj.1
      refine List.ext_getElem? fun i => ?_
      rw [Array.getElem?_toList, Array.getElem?_modify, Array.getElem?_toList]
      by_cases g : j = i
      · subst g
        rw [if_pos rfl, ej, ← e3]; rfl
      · rw [if_neg g]
    refine qDT (qDA (q := false) ⟨rfl, _, hr, rfl, qK1 ?_⟩)
    rw [em, hv]
    refine g _ _ (fun h' he f' f1 f2 => ?_) rfl
    have ff : f' = f := by
      funext x
      by_cases h : x = k
      · subst h; rw [f1, fk, hv]
      · exact f2 x h
    subst ff
    exact ⟨_, _, he, ⟨hk, hn, hb, hbc, hf⟩, e, List.mem_of_getElem? e2, e3, rfl⟩
theorem qVJ {t kt : TypeId} {h : Heap} {m : Option Nat} {s : Int} {p : Option Addr} {n c : Nat} {J : Value → Heap → Prop}
    (g : qYS P kt h m s p n c fun h' => J undef h') : ssp P (Instr.entryStore t (.map m) (.int .i64 s) (.slice p n c)) h (fun _ h' => J undef h') := by
  obtain ⟨r, f, k, rfl, ⟨es, ck, hr, ⟨hk, hn, hb, hbc, hf⟩, e, he, e3, e4⟩, g⟩ := g
  unfold Instr.entryStore
  dsimp only
  refine qDT (qDA (q := false) ?_)
  refine ⟨_, hr, rfl, ?_⟩
  rw [qHq]
  dsimp only
  refine qDT (qDA (q := false) ?_)
  unfold asInt asIntOf
  simp only [qD, qd]
  obtain ⟨j, e2⟩ := List.mem_iff_getElem?.1 he
  have ej : es[j]? = some e := by rw [← Array.getElem?_toList]; exact e2
  have hfi : es.findIdx? (fun e => (e.born : Int) == s) = some j := by
    cases h0 : es.findIdx? (fun e => (e.born : Int) == s) with
    | none =>
      have := Array.findIdx?_eq_none_iff.1 h0 e (by simpa using he)
      simp [e4] at this
    | some i =>
      obtain ⟨hi, h1, _⟩ := Array.findIdx?_eq_some_iff_getElem.1 h0
      have h1 := eq_of_beq h1
      rw [qQl hb (i := i) (j := j) (a := es[i]) (b := e) (by rw [Array.getElem?_toList]; exact Array.getElem?_eq_getElem hi) e2 (by omega)]
  rw [hfi]
  dsimp only
  refine qDA (q := false) ⟨rfl, _, hr, rfl, g _ (fun h' he f' f1 f2 => ?_) rfl⟩
  have hj := (List.getElem?_eq_some_iff.1 e2).1
  have em : (es.modify j fun e => { e with val := .slice p n c }).toList = es.toList.set j { e with val := .slice p n c } := by
    refine List.ext_getElem? fun i => ?_
    rw [Array.getElem?_toList, Array.getElem?_modify, List.getElem?_set, Array.getElem?_toList]
    by_cases g : j = i
    · subst g
      rw [if_pos rfl, if_pos rfl, if_pos hj, ej]; rfl
    · rw [if_neg g, if_neg g]
  have ek : ∀ {β : Type} (q : MapEntry → β), q { e with val := .slice p n c } = q e → (es.toList.set j { e with val := .slice p n c }).map q = es.toList.map q := fun q hq => by
    refine List.ext_getElem? fun i => ?_
    rw [List.getElem?_map, List.getElem?_map, List.getElem?_set]
    by_cases g : j = i
    · subst g
      rw [if_pos rfl, if_pos hj, e2]
      simp [hq]
    · rw [if_neg g]
  refine ⟨_, _, he, ?_⟩
  unfold qVZ
  rw [em, ek _ rfl, ek _ rfl]
  refine ⟨fun e' he' => ?_, hn, hb, fun e' he' => ?_, fun a v => ?_⟩
  · rcases List.mem_or_eq_of_mem_set he' with he' | rfl
    · exact hk e' he'
    · exact hk e (List.mem_of_getElem? e2)
  · rcases List.mem_or_eq_of_mem_set he' with he' | rfl
    · exact hbc e' he'
    · exact hbc e (List.mem_of_getElem? e2)
  by_cases g : a = k
  · subst g
    rw [f1]
    constructor
    · intro h; cases h
      exact ⟨{ e with val := .slice p n c }, List.mem_iff_getElem?.2 ⟨j, by rw [List.getElem?_set_self hj]⟩, e3, rfl⟩
    · rintro ⟨e', he', h1, h2⟩
      obtain ⟨i, hi⟩ := List.mem_iff_getElem?.1 he'
      rw [List.getElem?_set] at hi
      by_cases hne : j = i
      · rw [if_pos hne, if_pos hj] at hi; cases hi; rw [← h2]
      · rw [if_neg hne] at hi
        exact (hne (qQl hn e2 hi (e3.trans h1.symm))).elim
  · rw [f2 a g, hf]
    constructor
    · rintro ⟨e', he', h1, h2⟩
      obtain ⟨i, hi⟩ := List.mem_iff_getElem?.1 he'
      have : j ≠ i := fun x => by
        subst x
        rw [e2] at hi; cases hi
        exact g (h1.symm.trans e3)
      exact ⟨e', List.mem_iff_getElem?.2 ⟨i, by rw [List.getElem?_set, if_neg this]; exact hi⟩, h1, h2⟩
    · rintro ⟨e', he', h1, h2⟩
      rcases List.mem_or_eq_of_mem_set he' with he' | rfl
      · exact ⟨e', he', h1, h2⟩
      · exact (g (h1.symm.trans e3)).elim
def qTR (P : Program) (t : TypeId) (x k : Value) (ok : Bool) (h : Heap) (J : Value → Prop) : Prop := match P.underlying t, x with
  | some (.map kt et), .map m => match qJ6 P et, ok with
    | some (.slice none 0 0), false => qWG P kt h m k fun p n c => J (.slice p n c)
    | _, _ => False
  | _, _ => False
theorem qT7 {t : TypeId} {x k : Value} {ok : Bool} {h : Heap} {J : Value → Prop} (g : qTR P t x k ok h J) : ∃ v, (∀ w, Rep h w → (Instr.lookup t x k ok).run P w = .ok v w) ∧ J v := by
  unfold qTR at g
  split at g
  · rename_i hu
    split at g
    · rename_i hz
      exact qTy hu hz g
    · exact g.elim
  · exact g.elim
def qSk (P : Program) (t : TypeId) (x k : Value) (h : Heap) (J : Value → Heap → Prop) : Prop := match P.underlying t, x with
  | some (.map kt et), .map m => match qJ6 P et with
    | some (.slice none 0 0) => qWC P kt h m k fun p n c s h' => J (.tuple #[.slice p n c, .int .i64 s]) h'
    | _ => False
  | _, _ => False
theorem qUA {t : TypeId} {x k : Value} {h : Heap} {J : Value → Heap → Prop} (g : qSk P t x k h J) : ssp P (Instr.mapEntry t x k) h J := by
  unfold qSk at g
  split at g
  · rename_i hu
    split at g
    · rename_i hz
      exact qUO hu hz g
    · exact g.elim
  · exact g.elim
def qVo (P : Program) (t : TypeId) (x s v : Value) (h : Heap) (J : Value → Heap → Prop) : Prop := match P.underlying t, x, s, v with
  | some (.map kt _), .map m, .int .i64 s, .slice p n c => qYS P kt h m s p n c fun h' => J undef h'
  | _, _, _, _ => False
theorem qVk {t : TypeId} {x s v : Value} {h : Heap} {J : Value → Heap → Prop} (g : qVo P t x s v h J) : ssp P (Instr.entryStore t x s v) h (fun _ h' => J undef h') := by
  unfold qVo at g
  split at g
  · exact qVJ g
  · exact g.elim
end Go.Sy
