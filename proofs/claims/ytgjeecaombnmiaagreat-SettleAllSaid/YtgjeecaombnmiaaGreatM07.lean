import Derived.Test.YtgjeecaombnmiaaGreatM06
import Derived.Test.YtgjeecaombnmiaaGreatM02
import Derived.Test.YtgjeecaombnmiaaGreatM03
import Derived.Laws.RangeAny
import Derived.Laws.RangeString
/- A book of instructions in memory: its box, its list, its map. -/
namespace Go.Proofs.YtgjeecaombnmiaaGreat
open Go Go.Sy Go.Value
set_option linter.unusedVariables false
set_option linter.unusedSimpArgs false

def eV (x : En) : List Value := [.int .i64 x.d.id, .int .i64 x.d.a, .int .i64 x.d.b, .int .i64 x.d.sc, .int .i64 x.d.bc, .int .i64 x.d.sell, .int .i64 x.d.buy, .int .i64 x.st, .int .i64 x.ask, .int .i64 x.ord]
def dV (d : Dl) : List Value := [.int .i64 d.id, .int .i64 d.a, .int .i64 d.b, .int .i64 d.sc, .int .i64 d.bc, .int .i64 d.sell, .int .i64 d.buy]
theorem qDE (x : En) : (eV x).length = 10 := rfl
theorem qTi (d : Dl) : (dV d).length = 7 := rfl
def z10 : List Value := [.int .i64 0, .int .i64 0, .int .i64 0, .int .i64 0, .int .i64 0, .int .i64 0, .int .i64 0, .int .i64 0, .int .i64 0, .int .i64 0]
def qJV : Heap := fun _ => none
theorem qMs (h : Heap) : qJV.le h := fun _ _ e => by cases e
theorem qVr {us bs ws : List Value} {o : Nat} : qh (us ++ bs) (us.length + o) ws = us ++ qh bs o ws := by
  induction ws generalizing o bs with
  | nil => rfl
  | cons w ws ih =>
    rw [qh, qh, qBR, qBR, List.set_append_right _ _ (by omega), Nat.add_sub_cancel_left, Nat.add_assoc, ih]
theorem qUv {us bs ws : List Value} {o : Nat} (h : o + ws.length ≤ us.length) : qh (us ++ bs) o ws = qh us o ws ++ bs := by
  induction ws generalizing o us with
  | nil => rfl
  | cons w ws ih =>
    rw [List.length_cons] at h
    rw [qh, qh, qBR, qBR, List.set_append_left _ _ (by omega), ih (by rw [List.length_set]; omega)]
theorem qQI {L : List En} {i o : Nat} {x y : En} {ws sp : List Value} (hx : L[i]? = some x) (ho : o + ws.length ≤ 10) (e : qh (eV x) o ws = eV y) : qh (L.flatMap eV ++ sp) (i * 10 + o) ws = (L.set i y).flatMap eV ++ sp := by
  have hi := (List.getElem?_eq_some_iff.1 hx).1
  have hxi := (List.getElem?_eq_some_iff.1 hx).2
  have es : L = L.take i ++ x :: L.drop (i + 1) := by rw [← hxi, ← List.drop_eq_getElem_cons hi, List.take_append_drop]
  have lt : ((L.take i).flatMap eV).length = i * 10 := by rw [qBh qDE, List.length_take]; congr 1; omega
  rw [List.set_eq_take_append_cons_drop, if_pos hi]
  conv => lhs; rw [es]
  rw [List.flatMap_append, List.flatMap_append, List.flatMap_cons, List.flatMap_cons]
  simp only [List.append_assoc]
  rw [← lt, qVr, qUv (by rw [qDE]; exact ho), e]

def qKC (L : List En) (id : Int) : Option Int := (qAf id L).map fun (n : Nat) => (n : Int)
structure PBk (h : Heap) (p : Nat) (S : Bk) (lp : Option Addr) (c mr : Nat) : Prop where
  ap : At h p [.int .i64 S.mem, .int .i64 S.cur, .slice lp S.L.length c, .map (some mr), .int .i64 (S.mat : Int)]
  ol : OwnL qJV h z10 lp c (S.L.flatMap eV)
  mp : MapF h mr .i64 .i64 (qKC S.L)
  np : lp ≠ some ⟨p, 0, none⟩
def PB (h : Heap) (p : Nat) (S : Bk) : Prop := S.Ok ∧ ∃ lp c mr, PBk h p S lp c mr
section
variable {h h' : Heap} {p : Nat} {S : Bk} {lp : Option Addr} {c mr : Nat}
theorem PBk.le (B : PBk h p S lp c mr) (l : h.le h') : PBk h' p S lp c mr := ⟨B.ap.le l, B.ol.le l, B.mp.le l, B.np⟩
theorem PB.le (B : PB h p S) (l : h.le h') : PB h' p S := ⟨B.1, B.2.elim fun lp ⟨c, mr, x⟩ => ⟨lp, c, mr, x.le l⟩⟩
theorem PBk.arr (B : PBk h p S lp c mr) : Arr eV h lp S.L := B.ol.rd
theorem PBk.row (B : PBk h p S lp c mr) {i : Nat} {x : En} (hx : S.L[i]? = some x) : ∃ r sp, lp = some ⟨r, 0, none⟩ ∧ At h r (S.L.flatMap eV ++ sp) ∧ r ≠ p ∧ ∀ o, o < 10 → h.cell r (i * 10 + o) = (eV x)[o]? := by
  rcases B.ol with ⟨e, _, _⟩ | ⟨r, sp, e, _, a, _⟩
  · have hi := (List.getElem?_eq_some_iff.1 hx).1
    have := congrArg List.length e
    rw [qBh qDE, List.length_nil] at this
    omega
  · refine ⟨r, sp, e, a, fun g => B.np (by rw [e, g]), fun o ho => ?_⟩
    have hi := (List.getElem?_eq_some_iff.1 hx).1
    have g := qKg qDE S.L i o x hx ho
    have hlt : o < (eV x).length := ho
    rw [List.getElem?_eq_getElem hlt] at g ⊢
    refine a.cell ?_
    rw [List.getElem?_append_left (by rw [qBh qDE]; omega), g]
theorem PBk.wr (B : PBk h p S lp c mr) {i o r : Nat} {x y : En} {ws : List Value} (hx : S.L[i]? = some x) (hr : lp = some ⟨r, 0, none⟩) (ho : o + ws.length ≤ 10) (e : qh (eV x) o ws = eV y) (hd : y.d = x.d) :
    PBk (h.setN r (i * 10 + o) ws) p { S with L := S.L.set i y } lp c mr := by
  obtain ⟨r', sp, e', a, hne, _⟩ := B.row hx
  rw [hr] at e'
  have e' : r = r' := by simpa using e'
  subst e'
  refine ⟨?_, ?_, ?_, B.np⟩
  · show At _ p [.int .i64 S.mem, .int .i64 S.cur, .slice lp (S.L.set i y).length c, .map (some mr), .int .i64 (S.mat : Int)]
    rw [List.length_set]
    exact B.ap.set_ne (fun g => hne g.symm)
  · rcases B.ol with ⟨e1, e2, _⟩ | ⟨r2, sp2, e1, _, a2, k2⟩
    · rw [hr] at e2; cases e2
    · rw [hr] at e1
      have e1 : r = r2 := by simpa using e1
      subst e1
      refine .inr ⟨r, sp2, hr, rfl, ?_, ?_⟩
      · have := a2.set (o := i * 10 + o) (ws := ws)
        rw [qQI hx ho e] at this
        exact this
      · rw [k2, List.length_append, List.length_append, qBh qDE, qBh qDE, List.length_set]
  · show MapF _ mr .i64 .i64 (qKC (S.L.set i y))
    have : qKC (S.L.set i y) = qKC S.L := by
      funext id
      unfold qKC
      rw [qKo hx hd]
    rw [this]
    exact B.mp.set a
theorem PBk.can (B : PBk h p S lp c mr) {i o r n : Nat} {x : En} (hx : S.L[i]? = some x) (hr : lp = some ⟨r, 0, none⟩) (ho : o + n ≤ 10) : h.canSt r (i * 10 + o) n := by
  obtain ⟨r', sp, e', a, hne, _⟩ := B.row hx
  rw [hr] at e'
  have e' : r = r' := by simpa using e'
  subst e'
  have hi := (List.getElem?_eq_some_iff.1 hx).1
  refine a.canSt ?_
  rw [List.length_append, qBh qDE]; omega
theorem PBk.wrM (B : PBk h p S lp c mr) (m : Nat) : PBk (h.setN p 4 [.int .i64 (m : Int)]) p { S with mat := m } lp c mr := by
  refine ⟨?_, B.ol.set_ne B.np, B.mp.set B.ap, B.np⟩
  exact B.ap.set (o := 4) (ws := [.int .i64 (m : Int)])
end
end Go.Proofs.YtgjeecaombnmiaaGreat

/- Parts of a heap that lie apart from each other and from all else. -/
namespace Go.Proofs.YtgjeecaombnmiaaGreat
open Go Go.Sy Go.Value
set_option linter.unusedVariables false
set_option linter.unusedSimpArgs false

structure SepT (H X g1 g2 : Heap) : Prop where
  x : X.le H
  a : g1.le H
  b : g2.le H
  xa : ∀ r o, X r = some o → g1 r = none
  xb : ∀ r o, X r = some o → g2 r = none
  ab : ∀ r o, g1 r = some o → g2 r = none
section
variable {P : Program} {f : FuncId} {args : List Value} {H H' X g1 g2 : Heap} {K : Value → Heap → Prop}
theorem SepT.le (s : SepT H X g1 g2) (l : H.le H') : SepT H' X g1 g2 := ⟨Heap.le_trans s.x l, Heap.le_trans s.a l, Heap.le_trans s.b l, s.xa, s.xb, s.ab⟩
theorem SepT.start (h : Heap) : SepT h h qJV qJV := ⟨h.le_refl, qMs h, qMs h, fun _ _ _ => rfl, fun _ _ _ => rfl, fun _ _ _ => rfl⟩
theorem qNS {X H : Heap} (l : X.le H) (r : Nat) (o : Obj) : (X.ins r o).le (H.ins r o) := fun x y e => by
  unfold Heap.ins at e ⊢
  split
  · rename_i g; rw [if_pos g] at e; exact e
  · rename_i g; rw [if_neg g] at e; exact l x y e
theorem SepT.ins (s : SepT H X g1 g2) {r : Nat} (hr : H r = none) (o : Obj) : SepT (H.ins r o) (X.ins r o) g1 g2 := by
  have dj : ∀ g : Heap, g.le H → (∀ r o, X r = some o → g r = none) → ∀ x y, (X.ins r o) x = some y → g x = none := fun g l d x y e => by
    unfold Heap.ins at e
    split at e
    · rename_i h; rw [h]; exact qJ l hr
    · exact d x y e
  exact ⟨qNS s.x r o, Heap.le_trans s.a (qb hr), Heap.le_trans s.b (qb hr), dj g1 s.a s.xa, dj g2 s.b s.xb, s.ab⟩
theorem qNb {h : Heap} {b o x : Nat} {ws : List Value} {y : Obj} (e : (h.setN b o ws) x = some y) : ∃ z, h x = some z := by
  by_cases g : x = b
  · subst g
    unfold Heap.setN at e
    cases hx : h x with
    | none => simp [hx] at e
    | some z => exact ⟨z, rfl⟩
  · rw [q3 g] at e; exact ⟨y, e⟩
theorem qPS {X H : Heap} (l : X.le H) {b o : Nat} {vs ws : List Value} (a : At X b vs) : (X.setN b o ws).le (H.setN b o ws) := fun x y e => by
  by_cases g : x = b
  · subst g
    obtain ⟨T, ea⟩ := a
    have eh := l _ _ ea
    unfold Heap.setN at e ⊢
    rw [ea] at e
    rw [eh]
    exact e
  · rw [q3 g] at e ⊢; exact l x y e
theorem SepT.set (s : SepT H X g1 g2) {b o : Nat} {vs ws : List Value} (a : At X b vs) : SepT (H.setN b o ws) (X.setN b o ws) g1 g2 := by
  obtain ⟨T, ea⟩ := a
  exact ⟨qPS s.x ⟨T, ea⟩, qS s.a (s.xa b _ ea), qS s.b (s.xb b _ ea), fun r y e => (qNb e).elim fun z hz => s.xa r z hz, fun r y e => (qNb e).elim fun z hz => s.xb r z hz, s.ab⟩
theorem SepT.cp (s : SepT H X g1 g2) {z vs : List Value} {T : TypeId} {J : Nat → Heap → Prop} (hv : vs.length = z.length)
    (k : ∀ r H1 X', SepT (H1.setN r 0 vs) X' g1 g2 → At X' r vs → (∀ b xs, At X b xs → At X' b xs) → H1.canSt r 0 z.length → X r = none → X.le X' → J r H1) : qQ H z T J := fun r hr => by
  have s1 := s.ins hr (.cells z.toArray T (0, 0))
  have a1 := At.new X r z T
  have hx := qJ s.x hr
  have a2 := a1.set (o := 0) (ws := vs)
  have e := qGo vs [] z (by omega)
  rw [List.nil_append, List.nil_append, hv, List.drop_length, List.append_nil] at e
  rw [show ([] : List Value).length = 0 from rfl] at e
  rw [e] at a2
  exact k r _ _ (s1.set a1) a2 (fun b xs a => (a.ins hx).set_ne (a.ne hx)) (qIC _ _ _ _ _ _ (by omega)) hx (qS (qb hx) hx)
theorem SepT.box (s : SepT H X g1 g2) {z : List Value} {T : TypeId} {J : Nat → Heap → Prop}
    (k : ∀ r H1 X', SepT H1 X' g1 g2 → At X' r z → (∀ b xs, At X b xs → At X' b xs) → X r = none → X.le X' → J r H1) : qQ H z T J := fun r hr => by
  have hx := qJ s.x hr
  exact k r _ _ (s.ins hr _) (At.new X r z T) (fun b xs a => a.ins hx) hx (qb hx)
end
end Go.Proofs.YtgjeecaombnmiaaGreat

/- Parts of a heap, apart from each other, beside what all may read. -/
namespace Go.Proofs.YtgjeecaombnmiaaGreat
open Go Go.Sy Go.Value
set_option linter.unusedVariables false
set_option linter.unusedSimpArgs false

def sup (B g : Heap) : Heap := fun r => match B r with
  | some o => some o
  | none => g r
def rest (B h : Heap) : Heap := fun r => match B r with
  | some _ => none
  | none => h r
theorem qMo (B g : Heap) : B.le (sup B g) := fun r o e => by unfold sup; rw [e]
theorem qVM {B h : Heap} (l : B.le h) : sup B (rest B h) = h := funext fun r => by
  unfold sup rest
  cases e : B r with
  | none => rfl
  | some o => exact (l r o e).symm
theorem qUj {B g : Heap} {r : Nat} : sup B g r = none ↔ B r = none ∧ g r = none := by
  unfold sup
  cases e : B r with
  | none => simp
  | some o => simp
def qX (gs : Nat → Heap) (i : Nat) (g : Heap) : Nat → Heap := fun j => if j = i then g else gs j
theorem qI (gs : Nat → Heap) (i : Nat) (g : Heap) : qX gs i g i = g := if_pos rfl
theorem qG (gs : Nat → Heap) {i j : Nat} (g : Heap) (h : j ≠ i) : qX gs i g j = gs j := if_neg h
theorem qTg (gs : Nat → Heap) (i : Nat) : qX gs i (gs i) = gs := funext fun j => by
  by_cases h : j = i
  · subst h; rw [qI]
  · rw [qG _ _ h]
structure SepF (B H : Heap) (gs : Nat → Heap) : Prop where
  b : B.le H
  l : ∀ i, (gs i).le H
  d : ∀ i r o, gs i r = some o → B r = none
  dj : ∀ i j, i ≠ j → ∀ r o, gs i r = some o → gs j r = none
section
variable {P : Program} {f : FuncId} {args : List Value} {B H : Heap} {gs : Nat → Heap} {K : Value → Heap → Prop}
theorem SepF.start (B : Heap) : SepF B B fun _ => qJV := ⟨B.le_refl, fun _ => qMs B, fun _ _ _ e => (by cases e), fun _ _ _ _ _ _ => rfl⟩
theorem SepF.le (s : SepF B H gs) {H' : Heap} (l : H.le H') : SepF B H' gs := ⟨Heap.le_trans s.b l, fun i => Heap.le_trans (s.l i) l, s.d, s.dj⟩
theorem SepF.sup_le (s : SepF B H gs) (i : Nat) : (sup B (gs i)).le H := fun r o e => by
  unfold sup at e
  cases h : B r with
  | none => rw [h] at e; exact s.l i r o e
  | some x => rw [h] at e; cases e; exact s.b r _ h
theorem SepF.call (s : SepF B H gs) (i : Nat) (c : CallA P f args (gs i) fun v g' => ∀ H', SepF B H' (qX gs i g') → K v H') : CallA P f args H K :=
  (c.frame2 (s.l i)).mono fun v H' ⟨g', k, l', keep, off⟩ => k H' ⟨fun r o e => keep r o (s.b r o e) (by
      cases h : gs i r with
      | none => rfl
      | some x => rw [s.d i r x h] at e; cases e), fun j => by
      by_cases g : j = i
      · subst g; rw [qI]; exact l'
      · rw [qG _ _ g]; exact fun r o e => keep r o (s.l j r o e) (s.dj j i g r o e), fun j r o e => by
      by_cases g : j = i
      · subst g
        rw [qI] at e
        cases h : B r with
        | none => rfl
        | some y =>
          have := off r y (s.b r y h) (by
            cases h2 : gs j r with
            | none => rfl
            | some x => rw [s.d j r x h2] at h; cases h)
          rw [e] at this; cases this
      · rw [qG _ _ g] at e; exact s.d j r o e, fun j m hjk r o e => by
      by_cases g : j = i
      · subst g
        rw [qI] at e
        rw [qG _ _ (Ne.symm hjk)]
        cases h : gs m r with
        | none => rfl
        | some y =>
          have := off r y (s.l m r y h) (s.dj m j (Ne.symm hjk) r y h)
          rw [e] at this; cases this
      · rw [qG _ _ g] at e
        by_cases g2 : m = i
        · subst g2
          rw [qI]
          cases h : g' r with
          | none => rfl
          | some y =>
            have := off r o (s.l j r o e) (s.dj j m g r o e)
            rw [h] at this; cases this
        · rw [qG _ _ g2]; exact s.dj j m hjk r o e⟩
theorem SepF.callB (s : SepF B H gs) (i : Nat) (c : CallA P f args (sup B (gs i)) fun v h' => B.le h' ∧ ∀ H' g', h' = sup B g' → SepF B H' (qX gs i g') → K v H') : CallA P f args H K := by
  refine (c.frame2 (s.sup_le i)).mono fun v H' ⟨h', ⟨lb, k⟩, l', keep, off⟩ => k H' (rest B h') (qVM lb).symm ?_
  have rn : ∀ r, B r = none → rest B h' r = h' r := fun r e => by unfold rest; rw [e]
  have rs : ∀ r o, rest B h' r = some o → B r = none ∧ h' r = some o := fun r o e => by
    unfold rest at e
    cases h : B r with
    | none => rw [h] at e; exact ⟨rfl, e⟩
    | some x => rw [h] at e; cases e
  have out : ∀ j, j ≠ i → ∀ r o, gs j r = some o → sup B (gs i) r = none := fun j g r o e => qUj.2 ⟨s.d j r o e, s.dj j i g r o e⟩
  refine ⟨Heap.le_trans lb l', fun j => ?_, fun j r o e => ?_, fun j m hjk r o e => ?_⟩
  · by_cases g : j = i
    · subst g; rw [qI]; exact fun r o e => l' r o (rs r o e).2
    · rw [qG _ _ g]; exact fun r o e => keep r o (s.l j r o e) (out j g r o e)
  · by_cases g : j = i
    · subst g; rw [qI] at e; exact (rs r o e).1
    · rw [qG _ _ g] at e; exact s.d j r o e
  · by_cases g : j = i
    · subst g
      rw [qI] at e
      rw [qG _ _ (Ne.symm hjk)]
      cases h : gs m r with
      | none => rfl
      | some y =>
        have := off r y (s.l m r y h) (out m (Ne.symm hjk) r y h)
        rw [(rs r o e).2] at this; cases this
    · rw [qG _ _ g] at e
      by_cases g2 : m = i
      · subst g2
        rw [qI]
        cases h : rest B h' r with
        | none => rfl
        | some y =>
          have := off r o (s.l j r o e) (out j g r o e)
          rw [(rs r y h).2] at this; cases this
      · rw [qG _ _ g2]; exact s.dj j m hjk r o e
theorem SepF.ins (s : SepF B H gs) {r : Nat} (hr : H r = none) (o : Obj) (i : Nat) : SepF B (H.ins r o) (qX gs i ((gs i).ins r o)) := by
  have nn : ∀ j, gs j r = none := fun j => qJ (s.l j) hr
  have nB : B r = none := qJ s.b hr
  have ie : ∀ {g : Heap} {x : Nat} {y : Obj}, g.ins r o x = some y → (x = r ∧ y = o) ∨ (x ≠ r ∧ g x = some y) := fun {g x y} e => by
    unfold Heap.ins at e
    by_cases h : x = r
    · rw [if_pos h] at e; cases e; exact .inl ⟨h, rfl⟩
    · rw [if_neg h] at e; exact .inr ⟨h, e⟩
  have inn : ∀ {g : Heap} {x : Nat}, x ≠ r → g.ins r o x = g x := fun h => by unfold Heap.ins; rw [if_neg h]
  refine ⟨Heap.le_trans s.b (qb hr), fun j => ?_, fun j x y e => ?_, fun j k hjk x y e => ?_⟩
  · by_cases g : j = i
    · subst g; rw [qI]; exact qNS (s.l j) r o
    · rw [qG _ _ g]; exact Heap.le_trans (s.l j) (qb hr)
  · by_cases g : j = i
    · subst g
      rw [qI] at e
      rcases ie e with ⟨rfl, rfl⟩ | ⟨_, e⟩
      · exact nB
      · exact s.d j x y e
    · rw [qG _ _ g] at e; exact s.d j x y e
  · by_cases g : j = i
    · subst g
      rw [qI] at e
      rw [qG _ _ (Ne.symm hjk)]
      rcases ie e with ⟨rfl, rfl⟩ | ⟨_, e⟩
      · exact nn k
      · exact s.dj j k hjk x y e
    · rw [qG _ _ g] at e
      by_cases g2 : k = i
      · subst g2
        rw [qI]
        have : x ≠ r := fun h => by rw [h, nn j] at e; cases e
        rw [inn this]
        exact s.dj j k hjk x y e
      · rw [qG _ _ g2]; exact s.dj j k hjk x y e
theorem SepF.set (s : SepF B H gs) {i b o : Nat} {vs ws : List Value} (a : At (gs i) b vs) : SepF B (H.setN b o ws) (qX gs i ((gs i).setN b o ws)) := by
  obtain ⟨T, ea⟩ := a
  have nB := s.d i b _ ea
  have same : ∀ {x : Nat}, x ≠ b → (gs i).setN b o ws x = gs i x := fun h => q3 h
  have some_ : ∀ {x : Nat} {y : Obj}, (gs i).setN b o ws x = some y → ∃ z, gs i x = some z := fun e => qNb e
  refine ⟨qS s.b nB, fun j => ?_, fun j x y e => ?_, fun j k hjk x y e => ?_⟩
  · by_cases g : j = i
    · subst g; rw [qI]; exact qPS (s.l j) ⟨T, ea⟩
    · rw [qG _ _ g]; exact qS (s.l j) (s.dj i j (Ne.symm g) b _ ea)
  · by_cases g : j = i
    · subst g
      rw [qI] at e
      obtain ⟨z, hz⟩ := some_ e
      exact s.d j x z hz
    · rw [qG _ _ g] at e; exact s.d j x y e
  · by_cases g : j = i
    · subst g
      rw [qI] at e
      rw [qG _ _ (Ne.symm hjk)]
      obtain ⟨z, hz⟩ := some_ e
      exact s.dj j k hjk x z hz
    · rw [qG _ _ g] at e
      by_cases g2 : k = i
      · subst g2
        rw [qI]
        have h1 := s.dj j k hjk x y e
        cases h : (gs k).setN b o ws x with
        | none => rfl
        | some z =>
          obtain ⟨z', hz⟩ := some_ h
          rw [h1] at hz; cases hz
      · rw [qG _ _ g2]; exact s.dj j k hjk x y e
theorem qDY (gs : Nat → Heap) (i : Nat) (g g' : Heap) : qX (qX gs i g) i g' = qX gs i g' := funext fun j => by
  by_cases h : j = i
  · subst h; rw [qI, qI]
  · rw [qG _ _ h, qG _ _ h, qG _ _ h]
theorem qUG (gs : Nat → Heap) {i j : Nat} (g g' : Heap) (h : i ≠ j) : qX (qX gs i g) j g' = qX (qX gs j g') i g := funext fun k => by
  by_cases h1 : k = j
  · subst h1
    rw [qI, qG _ _ (Ne.symm h), qI]
  · rw [qG _ _ h1]
    by_cases h2 : k = i
    · subst h2; rw [qI, qI]
    · rw [qG _ _ h2, qG _ _ h2, qG _ _ h1]
theorem SepF.cp (s : SepF B H gs) (i : Nat) {z vs : List Value} {T : TypeId} {J : Nat → Heap → Prop} (hv : vs.length = z.length)
    (k : ∀ r H1 g', SepF B (H1.setN r 0 vs) (qX gs i g') → At g' r vs → (gs i).le g' → H1.canSt r 0 z.length → H r = none → J r H1) : qQ H z T J := fun r hr => by
  have s1 := s.ins hr (.cells z.toArray T (0, 0)) i
  have hx := qJ (s.l i) hr
  have a1 := At.new (gs i) r z T
  have a1' : At (qX gs i ((gs i).ins r (.cells z.toArray T (0, 0))) i) r z := by rw [qI]; exact a1
  have s2 := s1.set (o := 0) (ws := vs) a1'
  rw [qI, qDY] at s2
  have a2 := a1.set (o := 0) (ws := vs)
  have e := qGo vs [] z (by omega)
  rw [List.nil_append, List.nil_append, hv, List.drop_length, List.append_nil] at e
  rw [show ([] : List Value).length = 0 from rfl] at e
  rw [e] at a2
  exact k r _ _ s2 a2 (qS (qb hx) hx) (qIC _ _ _ _ _ _ (by omega)) hr
theorem SepF.box (s : SepF B H gs) (i : Nat) {z : List Value} {T : TypeId} {J : Nat → Heap → Prop}
    (k : ∀ r H1 g', SepF B H1 (qX gs i g') → At g' r z → (gs i).le g' → H r = none → J r H1) : qQ H z T J := fun r hr =>
  k r _ _ (s.ins hr _ i) (At.new (gs i) r z T) (qb (qJ (s.l i) hr)) hr
theorem SepF.put (s : SepF B H gs) {i r : Nat} {o : Obj} (o' : Obj) (e : gs i r = some o) : SepF B (H.ins r o') (qX gs i ((gs i).ins r o')) := by
  have nB := s.d i r o e
  have nn : ∀ j, j ≠ i → gs j r = none := fun j h => s.dj i j (Ne.symm h) r o e
  have ie : ∀ {g : Heap} {x : Nat} {y : Obj}, g.ins r o' x = some y → (x = r ∧ y = o') ∨ (x ≠ r ∧ g x = some y) := fun {g x y} e => by
    unfold Heap.ins at e
    by_cases h : x = r
    · rw [if_pos h] at e; cases e; exact .inl ⟨h, rfl⟩
    · rw [if_neg h] at e; exact .inr ⟨h, e⟩
  have inn : ∀ {g : Heap} {x : Nat}, x ≠ r → g.ins r o' x = g x := fun h => by unfold Heap.ins; rw [if_neg h]
  have lo : ∀ {g : Heap}, g.le H → g r = none → g.le (H.ins r o') := fun {g} l hn x y hx => by
    have : x ≠ r := fun h => by rw [h, hn] at hx; cases hx
    rw [inn this]; exact l x y hx
  refine ⟨lo s.b nB, fun j => ?_, fun j x y e2 => ?_, fun j k hjk x y e2 => ?_⟩
  · by_cases g : j = i
    · subst g; rw [qI]; exact qNS (s.l j) r o'
    · rw [qG _ _ g]; exact lo (s.l j) (nn j g)
  · by_cases g : j = i
    · subst g
      rw [qI] at e2
      rcases ie e2 with ⟨rfl, rfl⟩ | ⟨_, e2⟩
      · exact nB
      · exact s.d j x y e2
    · rw [qG _ _ g] at e2; exact s.d j x y e2
  · by_cases g : j = i
    · subst g
      rw [qI] at e2
      rw [qG _ _ (Ne.symm hjk)]
      rcases ie e2 with ⟨rfl, rfl⟩ | ⟨_, e2⟩
      · exact nn k (Ne.symm hjk)
      · exact s.dj j k hjk x y e2
    · rw [qG _ _ g] at e2
      by_cases g2 : k = i
      · subst g2
        rw [qI]
        have : x ≠ r := fun h => by rw [h, nn j g] at e2; cases e2
        rw [inn this]
        exact s.dj j k hjk x y e2
      · rw [qG _ _ g2]; exact s.dj j k hjk x y e2
def pB (p : Option Addr) (b : Nat) : Bool := match p with
  | some a => Nat.beq a.block b
  | none => false
theorem SepF.app (s : SepF B H gs) (m : Nat) {z vs ws : List Value} {t : TypeId} {p a : Option Addr} {len c n : Nat} {J : Option Addr → Nat → Heap → Prop} (O : OwnL qJV (gs m) z p c vs) (hz : 0 < z.length) (hlen : len + n ≤ 1073741824) (hw : ws.length = n * z.length) (rw' : rdL H a ws) (aw : qAG ws = true) (hv : vs.length = len * z.length)
    (k : ∀ p' c' h' g', SepF B h' (qX gs m g') → OwnL qJV g' z p' c' (vs ++ ws) → J p' c' h') : AppA z t H p len c n a J := by
  have own : ∀ b, pB p b = true → ∃ o, gs m b = some o := fun b hb => by
    rcases O with ⟨_, rfl, _⟩ | ⟨r, sp, rfl, _, ⟨T, e⟩, _⟩
    · cases hb
    · have : r = b := Nat.eq_of_beq_eq_true hb
      exact ⟨_, this ▸ e⟩
  have O' : OwnL (H.wo (pB p)) H z p c vs := by
    rcases O with o | ⟨r, sp, rfl, _, a, q⟩
    · exact .inl o
    · exact .inr ⟨r, sp, rfl, qF3 (Nat.beq_refl r), a.le (s.l m), q⟩
  have lB : B.le (H.wo (pB p)) := qJd s.b fun b hb => (own b hb).elim fun o e => s.d m b o e
  have lj : ∀ j, j ≠ m → (gs j).le (H.wo (pB p)) := fun j h => qJd (s.l j) fun b hb => (own b hb).elim fun o e => s.dj m j (Ne.symm h) b o e
  refine O'.push2 hz (qMl _ _) hlen hw rw' aw hv fun p' c' h' l' O2 keep how => ?_
  rcases O2 with ⟨e1, e2, e3⟩ | ⟨r, sp, rfl, e0, at', q⟩
  · have hp : pB p = fun _ => false := by
      rcases how with h | ⟨x, h, _⟩
      · rw [← h, e2]; rfl
      · rw [h] at e2; cases e2
    have l2 : H.le h' := fun x o e => by
      refine l' x o ?_
      rw [qJS (by rw [hp])]; exact e
    refine k p' c' h' (gs m) ?_ (.inl ⟨e1, e2, e3⟩)
    have : qX gs m (gs m) = gs := funext fun j => by
      by_cases h : j = m
      · subst h; rw [qI]
      · rw [qG _ _ h]
    rw [this]
    exact s.le l2
  · obtain ⟨T, ea⟩ := at'
    have free : ∀ j, j ≠ m → gs j r = none := fun j h => qJ (lj j h) e0
    have nB : B r = none := qJ lB e0
    have gE : ∀ x o, (if x = r then h' x else if pB p x = true then none else gs m x) = some o → (x = r ∧ h' x = some o) ∨ (x ≠ r ∧ pB p x = false ∧ gs m x = some o) := fun x o e => by
      by_cases h : x = r
      · rw [if_pos h] at e; exact .inl ⟨h, e⟩
      · rw [if_neg h] at e
        by_cases h2 : pB p x = true
        · rw [if_pos h2] at e; cases e
        · rw [if_neg h2] at e; exact .inr ⟨h, by simpa using h2, e⟩
    refine k _ c' h' (fun x => if x = r then h' x else if pB p x = true then none else gs m x) ⟨Heap.le_trans lB l', fun j => ?_, fun j x o e => ?_, fun i j hij x o e => ?_⟩ (.inr ⟨r, sp, rfl, rfl, ⟨T, ?_⟩, q⟩)
    · by_cases h : j = m
      · subst h
        rw [qI]
        intro x o e
        rcases gE x o e with ⟨_, e⟩ | ⟨_, e2, e⟩
        · exact e
        · exact l' x o (by rw [qJS e2]; exact s.l j x o e)
      · rw [qG _ _ h]; exact Heap.le_trans (lj j h) l'
    · by_cases h : j = m
      · subst h
        rw [qI] at e
        rcases gE x o e with ⟨rfl, _⟩ | ⟨_, _, e⟩
        · exact nB
        · exact s.d j x o e
      · rw [qG _ _ h] at e; exact s.d j x o e
    · by_cases h : i = m
      · subst h
        rw [qI] at e
        rw [qG _ _ (Ne.symm hij)]
        rcases gE x o e with ⟨rfl, _⟩ | ⟨_, _, e⟩
        · exact free j (Ne.symm hij)
        · exact s.dj i j hij x o e
      · rw [qG _ _ h] at e
        by_cases h2 : j = m
        · subst h2
          rw [qI]
          have h3 : x ≠ r := fun h3 => by rw [h3, free i h] at e; cases e
          rw [if_neg h3]
          split
          · rfl
          · exact s.dj i j hij x o e
        · rw [qG _ _ h2]; exact s.dj i j hij x o e
    · dsimp only
      rw [if_pos rfl]; exact ea
end
end Go.Proofs.YtgjeecaombnmiaaGreat

/- The reference's whole numbers of any size: digits, trimming, which is larger, turning. -/
namespace Go.Proofs.YtgjeecaombnmiaaGreat
open Go Go.Sy Go.Value
set_option linter.unusedVariables false
set_option linter.unusedSimpArgs false

def dig : List Int → Int
  | [] => 0
  | d :: r => d + 10000 * dig r
def okD (l : List Int) : Prop := ∀ d ∈ l, 0 ≤ d ∧ d < 10000
def sg (neg : Bool) (l : List Int) : Int := if neg then -dig l else dig l
def BigR (h : Heap) (v : Value) (x : Int) (b : Nat) : Prop := ∃ neg p c ds, v = agg #[.bool neg, slice p (List.length ds) c] ∧ Ints .i64 h p ds ∧ okD ds ∧ x = sg neg ds ∧ ds.length ≤ c ∧ ds.length ≤ b
def BigN (h : Heap) (v : Value) (x : Int) (b : Nat) : Prop := ∃ neg p c ds, v = agg #[.bool neg, slice p (List.length ds) c] ∧ Ints .i64 h p ds ∧ okD ds ∧ x = sg neg ds ∧ ds.length ≤ c ∧ ds.length ≤ b ∧ (dig ds = 0 → ds = [] ∧ neg = false)
theorem BigR.le {h h' : Heap} {v : Value} {x : Int} {b : Nat} (n : BigR h v x b) (l : h.le h') : BigR h' v x b := by
  obtain ⟨neg, p, c, ds, a1, a2, a3⟩ := n
  exact ⟨neg, p, c, ds, a1, a2.le l, a3⟩
theorem BigN.le {h h' : Heap} {v : Value} {x : Int} {b : Nat} (n : BigN h v x b) (l : h.le h') : BigN h' v x b := by
  obtain ⟨neg, p, c, ds, a1, a2, a3⟩ := n
  exact ⟨neg, p, c, ds, a1, a2.le l, a3⟩
theorem BigR.more {h : Heap} {v : Value} {x : Int} {b b' : Nat} (n : BigR h v x b) (l : b ≤ b') : BigR h v x b' := by
  obtain ⟨neg, p, c, ds, a1, a2, a3, a4, a5, a6⟩ := n
  exact ⟨neg, p, c, ds, a1, a2, a3, a4, a5, by omega⟩

end Go.Proofs.YtgjeecaombnmiaaGreat

/- The reference's whole numbers of any size: from an amount, turned, which is larger. -/
namespace Go.Proofs.YtgjeecaombnmiaaGreat
open Go Go.Sy Go.Value
set_option linter.unusedVariables false
set_option linter.unusedSimpArgs false

theorem td (n : Int) : (0 ≤ n ∧ Int.tdiv n 10000 = n / 10000 ∧ Int.tmod n 10000 = n % 10000) ∨ (n < 0 ∧ Int.tdiv n 10000 = -((-n) / 10000) ∧ Int.tmod n 10000 = -((-n) % 10000)) := by
  by_cases h : 0 ≤ n
  · exact .inl ⟨h, Int.tdiv_eq_ediv_of_nonneg h, Int.tmod_eq_emod_of_nonneg h⟩
  · refine .inr ⟨by omega, ?_, ?_⟩
    · have e : n = -(-n) := by omega
      conv => lhs; rw [e, Int.neg_tdiv, Int.tdiv_eq_ediv_of_nonneg (by omega)]
    · have e : n = -(-n) := by omega
      conv => lhs; rw [e, Int.neg_tmod, Int.tmod_eq_emod_of_nonneg (by omega)]
end Go.Proofs.YtgjeecaombnmiaaGreat

/- The reference's whole numbers of any size: which is larger, and sums. -/
namespace Go.Proofs.YtgjeecaombnmiaaGreat
open Go Go.Sy Go.Value
set_option linter.unusedVariables false
set_option linter.unusedSimpArgs false

end Go.Proofs.YtgjeecaombnmiaaGreat

/- The reference's whole numbers of any size: a sum; how two compare; whether one fits. -/
namespace Go.Proofs.YtgjeecaombnmiaaGreat
open Go Go.Sy Go.Value
set_option linter.unusedVariables false
set_option linter.unusedSimpArgs false

end Go.Proofs.YtgjeecaombnmiaaGreat

/- The reference's sum of many amounts, all at once and step by step. -/
namespace Go.Proofs.YtgjeecaombnmiaaGreat
open Go Go.Sy Go.Value
set_option linter.unusedVariables false
set_option linter.unusedSimpArgs false

end Go.Proofs.YtgjeecaombnmiaaGreat

/- The reference's whole numbers of any size: a product. -/
namespace Go.Proofs.YtgjeecaombnmiaaGreat
open Go Go.Sy Go.Value
set_option linter.unusedVariables false
set_option linter.unusedSimpArgs false

end Go.Proofs.YtgjeecaombnmiaaGreat

/- The reference's whole numbers of any size: parted, digit by digit. -/
namespace Go.Proofs.YtgjeecaombnmiaaGreat
open Go Go.Sy Go.Value
set_option linter.unusedVariables false
set_option linter.unusedSimpArgs false

structure DivSt (h0 : Heap) (a b t6 rest q m : Nat) (na nb : Bool) (pa pb : Option Addr) (ca cb : Nat) (da db : List Int) (W : Nat) (qs : List Int) (R : Int) (h : Heap) : Prop where
  le : h0.le h
  aa : At h a [.bool na, slice pa da.length ca]
  ab : At h b [.bool nb, slice pb db.length cb]
  tt : At h t6 [.bool false, slice none 0 0]
  aq : At h q [.bool na, slice (some ⟨m, 0, none⟩) da.length da.length]
  am : At h m (qK .i64 qs)
  len : qs.length = da.length
  ok : okD qs
  rr : ∃ p c ds, At h rest [.bool false, slice p (List.length ds) c] ∧ Ints .i64 (h.del m) p ds ∧ okD ds ∧ dig ds = R ∧ ds.length ≤ c ∧ ds.length ≤ W ∧ (R = 0 → ds = [])
section
variable {h0 : Heap} {a b t6 rest q m : Nat} {na nb : Bool} {pa pb : Option Addr} {ca cb : Nat} {da db : List Int} {up : Bool}
theorem DivSt.more {W W' : Nat} {qs : List Int} {R : Int} {h : Heap} (s : DivSt h0 a b t6 rest q m na nb pa pb ca cb da db W qs R h) (l : W ≤ W') : DivSt h0 a b t6 rest q m na nb pa pb ca cb da db W' qs R h := by
  obtain ⟨p, c, ds, x1, x2, x3, x4, x5, x6, x7⟩ := s.rr
  exact ⟨s.le, s.aa, s.ab, s.tt, s.aq, s.am, s.len, s.ok, p, c, ds, x1, x2, x3, x4, x5, by omega, x7⟩
end
end Go.Proofs.YtgjeecaombnmiaaGreat

/- The reference's quotient and parted product. -/
namespace Go.Proofs.YtgjeecaombnmiaaGreat
open Go Go.Sy Go.Value
set_option linter.unusedVariables false
set_option linter.unusedSimpArgs false

end Go.Proofs.YtgjeecaombnmiaaGreat

/- Tables of currencies: how they lie in memory, and what the table's functions and the reference's answer. -/
namespace Go.Proofs.YtgjeecaombnmiaaGreat
open Go Go.Sy Go.Value
set_option linter.unusedVariables false
set_option linter.unusedSimpArgs false

structure Cur where
  code : ByteArray
  rate : Int
  cut : Int
def qFU : List Cur → List Value
  | [] => []
  | x :: l => .string x.code :: .int .i64 x.rate :: .int .i64 x.cut :: qFU l
theorem qDn : ∀ l, (qFU l).length = l.length * 3
  | [] => rfl
  | x :: l => by simp only [qFU, List.length_cons, qDn l]; omega
theorem qMa : ∀ l, qAG (qFU l) = true
  | [] => rfl
  | x :: l => qMa l
theorem qQM : ∀ (l : List Cur) (j : Nat) (x : Cur), l[j]? = some x → (qFU l)[j * 3]? = some (.string x.code) ∧ (qFU l)[j * 3 + 1]? = some (.int .i64 x.rate) ∧ (qFU l)[j * 3 + 2]? = some (.int .i64 x.cut)
  | [], j, x, h => by simp at h
  | y :: l, 0, x, h => by
    simp at h
    subst h
    exact ⟨rfl, rfl, rfl⟩
  | y :: l, j + 1, x, h => by
    have := qQM l j x (by simpa using h)
    have e : ∀ i, (qFU (y :: l))[(j + 1) * 3 + i]? = (qFU l)[j * 3 + i]? := fun i => by
      rw [show (j + 1) * 3 + i = j * 3 + i + 1 + 1 + 1 from by omega]
      simp only [qFU, List.getElem?_cons_succ]
    exact ⟨(e 0).trans this.1, (e 1).trans this.2.1, (e 2).trans this.2.2⟩
def Curs (h : Heap) (p : Option Addr) (l : List Cur) : Prop := rdL h p (qFU l)
theorem Curs.le {h h' : Heap} {p : Option Addr} {l : List Cur} (c : Curs h p l) (e : h.le h') : Curs h' p l := qAV e c
theorem Curs.at {h : Heap} {p : Option Addr} {l : List Cur} (c : Curs h p l) {j : Nat} {x : Cur} (hx : l[j]? = some x) :
    ∃ b o, p = some ⟨b, o, none⟩ ∧ h.cell b (o + j * 3) = some (.string x.code) ∧ h.cell b (o + j * 3 + 1) = some (.int .i64 x.rate) ∧ h.cell b (o + j * 3 + 2) = some (.int .i64 x.cut) := by
  have hj : j < l.length := (List.getElem?_eq_some_iff.1 hx).1
  obtain ⟨g1, g2, g3⟩ := qQM l j x hx
  rcases c with e | ⟨b, o, e, r⟩
  · have := congrArg List.length e
    rw [qDn, List.length_nil] at this
    omega
  · refine ⟨b, o, e, ?_, ?_, ?_⟩
    · rw [r _ (by rw [qDn]; omega), g1]
    · rw [Nat.add_assoc, r _ (by rw [qDn]; omega), g2]
    · rw [Nat.add_assoc, r _ (by rw [qDn]; omega), g3]
section
variable {h : Heap} {p : Option Addr} {l : List Cur} {N : Nat}
theorem cx1 (C : Curs h p l) (hn : l.length = N) {j : Nat} {i : Int} (hi : i = (j : Int)) {x : Cur} (hx : l[j]? = some x) {Q : Int → Prop} (kk : Q x.rate) :
    0 ≤ i ∧ i < (N : Int) ∧ qA p fun b o => ∃ s, h.cell b (o + i.toNat * 3 + 1) = some (.int .i64 s) ∧ Q s := by
  subst hi hn
  have hj : j < l.length := (List.getElem?_eq_some_iff.1 hx).1
  obtain ⟨b, o, e, h1, h2, h3⟩ := C.at hx
  exact ⟨by omega, by omega, qB e ⟨_, h2, kk⟩⟩
theorem cx2 (C : Curs h p l) (hn : l.length = N) {j : Nat} {i : Int} (hi : i = (j : Int)) {x : Cur} (hx : l[j]? = some x) {Q : Int → Prop} (kk : Q x.cut) :
    0 ≤ i ∧ i < (N : Int) ∧ qA p fun b o => ∃ s, h.cell b (o + i.toNat * 3 + 2) = some (.int .i64 s) ∧ Q s := by
  subst hi hn
  have hj : j < l.length := (List.getElem?_eq_some_iff.1 hx).1
  obtain ⟨b, o, e, h1, h2, h3⟩ := C.at hx
  exact ⟨by omega, by omega, qB e ⟨_, h3, kk⟩⟩
theorem cx3 (C : Curs h p l) (hn : l.length = N) {j : Nat} {i : Int} (hi : i = (j : Int)) {x : Cur} (hx : l[j]? = some x) {Q : ByteArray → Int → Int → Prop} (kk : Q x.code x.rate x.cut) :
    0 ≤ i ∧ i < (N : Int) ∧ qA p fun b o => ∃ s, h.cell b (o + i.toNat * 3) = some (.string s) ∧ ∃ n, h.cell b (o + i.toNat * 3 + 1) = some (.int .i64 n) ∧ ∃ m, h.cell b (o + i.toNat * 3 + 2) = some (.int .i64 m) ∧ Q s n m := by
  subst hi hn
  have hj : j < l.length := (List.getElem?_eq_some_iff.1 hx).1
  obtain ⟨b, o, e, h1, h2, h3⟩ := C.at hx
  exact ⟨by omega, by omega, qB e ⟨_, h1, _, h2, _, h3, kk⟩⟩
end

/-! what a table is -/
def qIp (c : UInt8) : Bool := decide (65 ≤ c.toNat ∧ c.toNat ≤ 90)
def qKK (s : ByteArray) : Bool := s.data.toList.all qIp && ((s.size : Int) == 3)
def qJk (a b : ByteArray) : Bool := a.toList == b.toList
theorem qTO (a : ByteArray) : qJk a a = true := by unfold qJk; simp
def qEh (c : ByteArray) : List Cur → Option Nat
  | [] => none
  | x :: r => if qJk x.code c then some 0 else (qEh c r).map (· + 1)
theorem qTJ (c : ByteArray) (x : Cur) (r : List Cur) : qEh c (x :: r) = if qJk x.code c then some 0 else (qEh c r).map (· + 1) := rfl
def dup (pre : List Cur) (x : Cur) : Bool := pre.any fun y => qJk y.code x.code
def qH9 : List Cur → List Cur → Bool
  | _, [] => true
  | pre, x :: r => !dup pre x && qH9 (pre ++ [x]) r
def qGl (x : Cur) : Bool := decide (1 ≤ x.rate ∧ x.rate ≤ 100000000 ∧ 0 ≤ x.cut ∧ x.cut ≤ 10000)
def qJu (i : Int) (x : Cur) : Bool := if i = 0 then (x.rate == 10000) && (x.cut == 0) else qGl x
def fitsF : Nat → List Cur → Bool
  | _, [] => true
  | i, x :: r => qJu i x && fitsF (i + 1) r
theorem qOI (i : Nat) (x : Cur) (r : List Cur) : fitsF i (x :: r) = (qJu i x && fitsF (i + 1) r) := rfl
def qCV (l : List Cur) : Int := if l.length < 1 ∨ 8 < l.length then 4 else if l.all (fun x => qKK x.code) then (if qH9 [] l then (if fitsF 0 l then 0 else 1) else 6) else 2
theorem qUh {i : Int} {x : Cur} (h : qJu i x = true) : qGl x = true := by
  unfold qJu at h
  split at h
  · simp only [Bool.and_eq_true, beq_iff_eq] at h
    unfold qGl
    simp; omega
  · exact h
theorem qN6 : ∀ (l : List Cur) (i : Nat), fitsF (i + 1) l = l.all qGl
  | [], _ => rfl
  | x :: r, i => by
    unfold fitsF
    rw [qN6 r (i + 1)]
    unfold qJu
    rw [if_neg (by omega)]
    rfl
theorem qRr : ∀ (pre : List Cur) (x : Cur) (r : List Cur), qEh x.code (pre ++ x :: r) = some pre.length ∧ dup pre x = false ∨ ∃ k, qEh x.code (pre ++ x :: r) = some k ∧ k < pre.length ∧ dup pre x = true
  | [], x, r => .inl ⟨by simp [qEh, qTO], rfl⟩
  | y :: pre, x, r => by
    by_cases hs : qJk y.code x.code = true
    · refine .inr ⟨0, ?_, by simp, by simp [dup, hs]⟩
      simp [qEh, hs]
    · rcases qRr pre x r with ⟨e, d⟩ | ⟨k, e, hk, d⟩
      · refine .inl ⟨?_, ?_⟩
        · rw [List.cons_append]; unfold qEh; rw [if_neg hs, e]; rfl
        · unfold dup at *; rw [List.any_cons, d]; simpa using hs
      · refine .inr ⟨k + 1, ?_, by simpa using hk, ?_⟩
        · rw [List.cons_append]; unfold qEh; rw [if_neg hs, e]; rfl
        · unfold dup at *; rw [List.any_cons, d, Bool.or_true]

theorem qMT {h0 h : Heap} {r : Nat} {x : Obj} (l : h0.le h) (e : h0 r = none) : h0.le (h.ins r x) := fun y o hy => by
  unfold Heap.ins
  rw [if_neg (fun e2 => by rw [e2, e] at hy; cases hy)]
  exact l y o hy
section
variable {K : Value → Heap → Prop} {h : Heap}
theorem qRN {h0 : Heap} {s : ByteArray} {t : Nat} (ht : h0 t = none) (k : ∀ h', h0.le h' → K (.bool (qKK s)) h') :
    ∀ (m pos : Nat) (h : Heap), m + pos = s.size → h0.le h → h t = some (.stringIter s pos) → qKK s = ((s.data.toList.drop pos).all qIp && ((s.size : Int) == 3)) → qE0 s t h K := by
  have hsz : s.data.toList.length = s.size := by rw [Array.length_toList]; rfl
  intro m
  induction m with
  | zero =>
    intro pos h hm lh ht2 e
    refine qIi _ _ _ _ ?_
    unfold qGI
    refine ⟨s, pos, ht2, Br.no (by simp; omega) ?_⟩
    rw [List.drop_eq_nil_of_le (by omega), List.all_nil, Bool.true_and] at e
    rw [← e]
    exact Ret.mk (k h lh)
  | succ m ih =>
    intro pos h hm lh ht2 e
    refine qIi _ _ _ _ ?_
    unfold qGI
    have hp : pos < s.size := by omega
    have hpl : pos < s.data.toList.length := by omega
    have eb : s.data.toList[pos] = s[pos] := rfl
    rw [List.drop_eq_getElem_cons hpl, List.all_cons, eb] at e
    have bad : qIp s[pos] = false → ∀ h', h0.le h' → Ret h' K (.bool false) := fun hb h' l' => by
      rw [hb, Bool.false_and, Bool.false_and] at e
      have := k h' l'
      rw [e] at this
      exact Ret.mk this
    refine ⟨s, pos, ht2, Br.yes (by simpa using hp) ?_⟩
    by_cases ha : s[pos].toNat < 128
    · rw [decode_ascii s pos hp ha]
      dsimp only
      refine Br.dec (fun g => bad (by unfold qIp; exact decide_eq_false (by omega)) _ (qMT lh ht)) fun g => ?_
      refine Br.dec (fun g => bad (by unfold qIp; exact decide_eq_false (by omega)) _ (qMT lh ht)) fun g2 => ?_
      refine ih (pos + 1) _ (by omega) (qMT lh ht) (by unfold Heap.ins; rw [if_pos rfl]) ?_
      rw [show qIp s[pos] = true from by unfold qIp; exact decide_eq_true (by omega), Bool.true_and] at e
      exact e
    · obtain ⟨d1, d2⟩ := decode_high s pos hp (by omega)
      refine Br.dec (fun g => bad (by unfold qIp; exact decide_eq_false (by omega)) _ (qMT lh ht)) fun g => ?_
      exact Br.yes (by simp; omega) (bad (by unfold qIp; exact decide_eq_false (by omega)) _ (qMT lh ht))
theorem qVq {s : ByteArray} (k : ∀ h', h.le h' → K (.bool (qKK s)) h') : CallA Tryz.prog qHa [string s] h K := by
  refine qOk _ _ _ ?_
  unfold qJ4
  intro r hr
  exact qRN hr k s.size 0 _ (by omega) (qb hr) (by unfold Heap.ins; rw [if_pos rfl]) rfl
theorem qZC {x : Cur} {code : ByteArray} {r : Nat} (A : At h r [.string code]) (k : ∀ h', h.le h' → K (.bool (qJk x.code code)) h') :
    CallA Tryz.prog qDO [agg #[string x.code, int .i64 x.rate, int .i64 x.cut], pointer (some ⟨r, 0, none⟩)] h K := by
  refine qOo _ _ _ _ _ _ ?_
  unfold qJj
  intro b hb
  have B := At.new h b [string x.code, int .i64 x.rate, int .i64 x.cut] 66
  refine ⟨_, B.cell rfl, _, (A.ins hb).cell rfl, Ret.mk (k _ (qb hb))⟩
theorem qTW {h0 : Heap} {p : Option Addr} {l : List Cur} {n c r : Nat} {code : ByteArray} (C : Curs h0 p l) (hn : l.length = n) (A : At h0 r [.string code]) (hs : n ≤ 1099511627776)
    (k : ∀ h', h0.le h' → K (.int .i64 (match qEh code l with | some i => (i : Int) | none => -1)) h') :
    ∀ (m j : Nat) (h : Heap), m + j = n → h0.le h → (qEh code l = (qEh code (l.drop j)).map (· + j)) → q6 p n c r n j h K := by
  intro m
  induction m with
  | zero =>
    intro j h hj lh e
    refine qBc _ _ _ _ _ _ _ _ ?_
    unfold qAa
    refine Br.no (by simp; omega) ?_
    rw [List.drop_eq_nil_of_le (by omega)] at e
    have := k h lh
    rw [e] at this
    exact Ret.mk this
  | succ m ih =>
    intro j h hj lh e
    refine qBc _ _ _ _ _ _ _ _ ?_
    unfold qAa
    have hx : l[j]? = some l[j] := List.getElem?_eq_getElem (by omega)
    rw [List.drop_eq_getElem_cons (by omega : j < l.length)] at e
    rw [qTJ] at e
    refine Br.yes (by simp; omega) (cx3 (C.le lh) hn rfl hx (qZC (A.le lh) fun h' l' => ⟨_, rfl, ?_⟩))
    have lh' := Heap.le_trans lh l'
    cases es : qJk l[j].code code with
    | true =>
      rw [es, if_pos rfl] at e
      refine Br.yes rfl ?_
      have := k h' lh'
      have e2 : qEh code l = some j := by rw [e]; simp
      rw [e2] at this
      exact Ret.mk this
    | false =>
      rw [es, if_neg (by decide)] at e
      refine Br.no rfl ?_
      rw [qO (by omega) (by omega)]
      refine ih (j + 1) h' (by omega) lh' ?_
      rw [e, Option.map_map]
      congr 1
      funext x
      simp; omega
theorem qXV {p : Option Addr} {l : List Cur} {n c : Nat} {code : ByteArray} (C : Curs h p l) (hn : l.length = n) (hs : n ≤ 1099511627776)
    (k : ∀ h', h.le h' → K (tuple #[int .i64 (((qEh code l).getD 0 : Nat) : Int), .bool (qEh code l).isSome]) h') : CallA Tryz.prog qIW [slice p n c, string code] h K := by
  refine qQP _ _ _ _ _ _ ?_
  unfold qLK
  intro r hr
  have A := At.new h r [string code] 9
  refine qEc _ _ _ _ _ _ ?_
  unfold qBv
  refine qTW (C.le (qb hr)) hn A hs (fun h' l' => ⟨_, rfl, ?_⟩) n 0 _ (by omega) (Heap.le_refl _) (by simp)
  have := k h' (Heap.le_trans (qb hr) l')
  cases e : qEh code l with
  | none => rw [e] at this; exact Ret.mk this
  | some i =>
    rw [e] at this
    dsimp only
    rw [if_neg (by omega), decide_eq_true (by omega)]
    exact Ret.mk this
theorem qXn {i : Int} {x : Cur} (k : ∀ h', h.le h' → K (.bool (qJu i x)) h') : CallA Tryz.prog qId [int .i64 i, agg #[string x.code, int .i64 x.rate, int .i64 x.cut]] h K := by
  refine qRE _ _ _ _ _ _ ?_
  unfold qLV
  intro b hb
  have B := At.new h b [string x.code, int .i64 x.rate, int .i64 x.cut] 66
  have fin := k _ (qb hb (o := .cells [string x.code, int .i64 x.rate, int .i64 x.cut].toArray 66 (0, 0)))
  generalize Heap.ins h b _ = h1 at *
  unfold qJu qGl at fin
  refine Br.intro (fun e => ?_) (fun e => ?_)
  · have e : i = 0 := by simpa using e
    rw [if_pos e] at fin
    refine ⟨_, B.cell rfl, Br.intro (fun e2 => ⟨_, B.cell rfl, ?_⟩) (fun e2 => ?_)⟩
    · rw [e2, Bool.true_and] at fin; exact Ret.mk fin
    · rw [e2, Bool.false_and] at fin; exact Ret.mk fin
  · have e : ¬ i = 0 := by simpa using e
    rw [if_neg e] at fin
    have no : ∀ {P : Prop}, (P → ¬ (1 ≤ x.rate ∧ x.rate ≤ 100000000 ∧ 0 ≤ x.cut ∧ x.cut ≤ 10000)) → P → Ret h1 K (.bool false) := fun hp y => by
      rw [decide_eq_false (hp y)] at fin
      exact Ret.mk fin
    refine ⟨_, B.cell rfl, Br.dec (fun g1 => ?_) (no fun _ => by omega)⟩
    refine ⟨_, B.cell rfl, Br.dec (fun g2 => ?_) (no fun _ => by omega)⟩
    refine ⟨_, B.cell rfl, Br.dec (fun g3 => ⟨_, B.cell rfl, ?_⟩) (no fun _ => by omega)⟩
    have : decide (1 ≤ x.rate ∧ x.rate ≤ 100000000 ∧ 0 ≤ x.cut ∧ x.cut ≤ 10000) = decide (x.cut ≤ 10000) := decide_eq_decide.2 (by omega)
    rw [this] at fin
    exact Ret.mk fin
theorem qWE {p : Option Addr} {n c : Nat} {cur : Int} (k : K (.bool (decide (0 ≤ cur ∧ cur < (n : Int)))) h) : CallA Tryz.prog qHN [slice p n c, int .i64 cur] h K := by
  refine qRW _ _ _ _ _ _ ?_
  unfold qMN
  refine Br.dec (fun g => ?_) (fun g => ?_)
  · have : decide (0 ≤ cur ∧ cur < (n : Int)) = decide (cur < (n : Int)) := decide_eq_decide.2 (by omega)
    rw [this] at k
    exact Ret.mk k
  · rw [decide_eq_false (by omega)] at k
    exact Ret.mk k
end
end Go.Proofs.YtgjeecaombnmiaaGreat

/- Whether a table may be, tables of another rate or haircut, and the reference's: the same. -/
namespace Go.Proofs.YtgjeecaombnmiaaGreat
open Go Go.Sy Go.Value
set_option linter.unusedVariables false
set_option linter.unusedSimpArgs false

section
variable {K : Value → Heap → Prop} {h h0 : Heap} {p : Option Addr} {l : List Cur} {n c : Nat}
theorem qZA (C : Curs h0 p l) (hn : l.length = n) (hs : n ≤ 8) (k2 : l.all (fun x => qKK x.code) = false → ∀ h', h0.le h' → K (.int .i64 2) h')
    (k : l.all (fun x => qKK x.code) = true → ∀ h', h0.le h' → qEP p n c p n c n 0 h' K) :
    ∀ (m j : Nat) (h : Heap), m + j = n → h0.le h → l.all (fun x => qKK x.code) = (l.drop j).all (fun x => qKK x.code) → qFa p n c p n c n j h K := by
  intro m
  induction m with
  | zero =>
    intro j h hj lh e
    refine qJL _ _ _ _ _ _ _ _ _ _ ?_
    unfold qGi
    rw [List.drop_eq_nil_of_le (by omega), List.all_nil] at e
    exact Br.no (by simp; omega) (k e h lh)
  | succ m ih =>
    intro j h hj lh e
    refine qJL _ _ _ _ _ _ _ _ _ _ ?_
    unfold qGi
    have hx : l[j]? = some l[j] := List.getElem?_eq_getElem (by omega)
    rw [List.drop_eq_getElem_cons (by omega : j < l.length), List.all_cons] at e
    generalize l[j] = x at *
    refine Br.yes (by simp; omega) (cx3 (C.le lh) hn rfl hx ?_)
    intro r hr
    have A0 := At.new h r [string { data := #[] }, .int .i64 0, .int .i64 0] 66
    have l1 : h.le (h.ins r (.cells [string { data := #[] }, .int .i64 0, .int .i64 0].toArray 66 (0, 0))) := qb hr
    generalize h.ins r (.cells [string { data := #[] }, .int .i64 0, .int .i64 0].toArray 66 (0, 0)) = h1 at *
    refine ⟨A0.canSt (by decide), ?_⟩
    have A := A0.set (o := 0) (ws := [string x.code, .int .i64 x.rate, .int .i64 x.cut])
    have l2 : h.le (h1.setN r 0 [string x.code, .int .i64 x.rate, .int .i64 x.cut]) := qS l1 hr
    generalize h1.setN r 0 [string x.code, .int .i64 x.rate, .int .i64 x.cut] = h2 at *
    refine ⟨_, A.cell rfl, qVq fun h3 l3 => ⟨_, rfl, ?_⟩⟩
    have l4 := Heap.le_trans lh (Heap.le_trans l2 l3)
    cases ec : qKK x.code with
    | false =>
      rw [ec, Bool.false_and] at e
      exact Br.yes rfl (Ret.mk (k2 e _ l4))
    | true =>
      rw [ec, Bool.true_and] at e
      refine Br.no rfl ?_
      rw [qO (by omega) (by omega)]
      exact ih (j + 1) h3 (by omega) l4 e
theorem qUQ {j : Nat} (hj : j < l.length) : qH9 (l.take j) (l.drop j) = (!dup (l.take j) l[j] && qH9 (l.take (j + 1)) (l.drop (j + 1))) := by
  rw [List.drop_eq_getElem_cons hj, qH9, List.take_succ_eq_append_getElem hj]
theorem qY5 (C : Curs h0 p l) (hn : l.length = n) (hs : n ≤ 8) (k6 : qH9 [] l = false → ∀ h', h0.le h' → K (.int .i64 6) h')
    (k : qH9 [] l = true → ∀ h', h0.le h' → qEI p n c n 0 h' K) :
    ∀ (m j : Nat) (h : Heap), m + j = n → h0.le h → qH9 [] l = qH9 (l.take j) (l.drop j) → qEP p n c p n c n j h K := by
  intro m
  induction m with
  | zero =>
    intro j h hj lh e
    refine qI7 _ _ _ _ _ _ _ _ _ _ ?_
    unfold qGq
    rw [List.drop_eq_nil_of_le (by omega)] at e
    exact Br.no (by simp; omega) (k e h lh)
  | succ m ih =>
    intro j h hj lh e
    refine qI7 _ _ _ _ _ _ _ _ _ _ ?_
    unfold qGq
    have hjl : j < l.length := by omega
    have hx : l[j]? = some l[j] := List.getElem?_eq_getElem hjl
    rw [qUQ hjl] at e
    have fa := qRr (l.take j) l[j] (l.drop (j + 1))
    rw [← List.drop_eq_getElem_cons hjl, List.take_append_drop, List.length_take, Nat.min_eq_left (by omega)] at fa
    generalize l[j] = x at *
    refine Br.yes (by simp; omega) (cx3 (C.le lh) hn rfl hx ?_)
    intro r hr
    have A0 := At.new h r [string { data := #[] }, .int .i64 0, .int .i64 0] 66
    have l1 : h.le (h.ins r (.cells [string { data := #[] }, .int .i64 0, .int .i64 0].toArray 66 (0, 0))) := qb hr
    generalize h.ins r (.cells [string { data := #[] }, .int .i64 0, .int .i64 0].toArray 66 (0, 0)) = h1 at *
    refine ⟨A0.canSt (by decide), ?_⟩
    have A := A0.set (o := 0) (ws := [string x.code, .int .i64 x.rate, .int .i64 x.cut])
    have l2 : h.le (h1.setN r 0 [string x.code, .int .i64 x.rate, .int .i64 x.cut]) := qS l1 hr
    generalize h1.setN r 0 [string x.code, .int .i64 x.rate, .int .i64 x.cut] = h2 at *
    refine ⟨_, A.cell rfl, qXV ((C.le lh).le l2) hn (by omega) fun h3 l3 => ⟨_, _, rfl, ?_⟩⟩
    have l4 := Heap.le_trans lh (Heap.le_trans l2 l3)
    rcases fa with ⟨e1, d⟩ | ⟨i, e1, hi, d⟩
    · rw [d, Bool.not_false, Bool.true_and] at e
      rw [e1]
      refine Br.no (by simp) ?_
      rw [qO (by omega) (by omega)]
      exact ih (j + 1) h3 (by omega) l4 e
    · rw [d, Bool.not_true, Bool.false_and] at e
      rw [e1]
      refine Br.yes (by simp; omega) (Ret.mk (k6 e _ l4))
theorem qYz (C : Curs h0 p l) (hn : l.length = n) (hs : n ≤ 8) (k : ∀ h', h0.le h' → K (.int .i64 (qY8 (fitsF 0 l))) h') :
    ∀ (m j : Nat) (h : Heap), m + j = n → h0.le h → fitsF 0 l = fitsF j (l.drop j) → qEI p n c n j h K := by
  intro m
  induction m with
  | zero =>
    intro j h hj lh e
    refine qJJ _ _ _ _ _ _ _ ?_
    unfold qGg
    rw [List.drop_eq_nil_of_le (by omega)] at e
    have := k h lh
    rw [e] at this
    exact Br.no (by simp; omega) (Ret.mk this)
  | succ m ih =>
    intro j h hj lh e
    refine qJJ _ _ _ _ _ _ _ ?_
    unfold qGg
    have hjl : j < l.length := by omega
    have hx : l[j]? = some l[j] := List.getElem?_eq_getElem hjl
    rw [List.drop_eq_getElem_cons hjl, qOI] at e
    generalize l[j] = x at *
    refine Br.yes (by simp; omega) (cx3 (C.le lh) hn rfl hx ?_)
    intro r hr
    have A0 := At.new h r [string { data := #[] }, .int .i64 0, .int .i64 0] 66
    have l1 : h.le (h.ins r (.cells [string { data := #[] }, .int .i64 0, .int .i64 0].toArray 66 (0, 0))) := qb hr
    generalize h.ins r (.cells [string { data := #[] }, .int .i64 0, .int .i64 0].toArray 66 (0, 0)) = h1 at *
    refine ⟨A0.canSt (by decide), ?_⟩
    have A := A0.set (o := 0) (ws := [string x.code, .int .i64 x.rate, .int .i64 x.cut])
    have l2 : h.le (h1.setN r 0 [string x.code, .int .i64 x.rate, .int .i64 x.cut]) := qS l1 hr
    generalize h1.setN r 0 [string x.code, .int .i64 x.rate, .int .i64 x.cut] = h2 at *
    refine ⟨_, A.cell rfl, _, A.cell rfl, _, A.cell rfl, qXn fun h3 l3 => ⟨_, rfl, ?_⟩⟩
    have l4 := Heap.le_trans lh (Heap.le_trans l2 l3)
    cases ec : qJu (j : Int) x with
    | false =>
      rw [ec, Bool.false_and] at e
      have := k _ l4
      rw [show fitsF 0 l = false from e] at this
      exact Br.yes rfl (Ret.mk this)
    | true =>
      rw [ec, Bool.true_and] at e
      refine Br.no rfl ?_
      rw [qO (by omega) (by omega)]
      exact ih (j + 1) h3 (by omega) l4 e
theorem qWd (C : Curs h p l) (hn : l.length = n) (k : ∀ h', h.le h' → K (.int .i64 (qCV l)) h') : CallA Tryz.prog qHu [slice p n c] h K := by
  refine qPt _ _ _ _ _ ?_
  unfold qKm
  unfold qCV at k
  refine Br.intro (fun e => ?_) (fun e => Br.dec (fun e2 => ?_) (fun e2 => ?_))
  · have e : n = 0 := by simpa using e
    have := k h h.le_refl
    rw [if_pos (by omega)] at this
    exact Ret.mk this
  · have := k h h.le_refl
    rw [if_pos (by omega)] at this
    exact Ret.mk this
  · have e : n ≠ 0 := by simpa using e
    rw [if_neg (by omega)] at k
    refine qZA C hn (by omega) (fun a h' l' => ?_) (fun a h' l' => ?_) n 0 h (by omega) h.le_refl rfl
    · have := k h' l'
      rw [if_neg (by rw [a]; decide)] at this
      exact this
    · rw [if_pos a] at k
      refine qY5 (C.le l') hn (by omega) (fun b h2 l2 => ?_) (fun b h2 l2 => ?_) n 0 h' (by omega) h'.le_refl rfl
      · have := k h2 (Heap.le_trans l' l2)
        rw [if_neg (by rw [b]; decide)] at this
        exact this
      · rw [if_pos b] at k
        exact qYz ((C.le l').le l2) hn (by omega) (fun h3 l3 => k h3 (Heap.le_trans l' (Heap.le_trans l2 l3))) n 0 h2 (by omega) h2.le_refl rfl
/-! the reference's -/
end
end Go.Proofs.YtgjeecaombnmiaaGreat

/- Tables with another rate or haircut; what amounts are worth; whether a table is large; the law's first question. -/

namespace Go.Proofs.YtgjeecaombnmiaaGreat
open Go Go.Sy Go.Value
set_option linter.unusedVariables false
set_option linter.unusedSimpArgs false

/-! plain laws -/
theorem qCq {l : List Cur} (h : qCV l = 0) : 1 ≤ l.length ∧ l.length ≤ 8 ∧ l.all (fun x => qKK x.code) = true ∧ qH9 [] l = true ∧ fitsF 0 l = true := by
  unfold qCV at h
  split at h
  · cases h
  · split at h
    · split at h
      · split at h
        · refine ⟨by omega, by omega, by assumption, by assumption, by assumption⟩
        · cases h
      · cases h
    · cases h
def WRes (h : Heap) (p : Option Addr) (n : Nat) (e : Int) : Option (List Cur) → Prop
  | none => p = none ∧ n = 0 ∧ e = 1
  | some l => Curs h p l ∧ l.length = n ∧ e = 0
theorem WRes.le {h h' : Heap} {p : Option Addr} {n : Nat} {e : Int} {o : Option (List Cur)} (w : WRes h p n e o) (l : h.le h') : WRes h' p n e o := by
  cases o with
  | none => exact w
  | some x => exact ⟨w.1.le l, w.2⟩
section
variable {K : Value → Heap → Prop} {h h0 : Heap} {p : Option Addr} {l : List Cur} {n c : Nat}
theorem qVh (C : Curs h p l) (hn : l.length = n) (hs : n ≤ 1000000) (k : ∀ p' c' h', h.le h' → OwnL h h' [string { data := #[] }, .int .i64 0, .int .i64 0] p' c' (qFU l) → K (slice p' n c') h') :
    CallA Tryz.prog qA1 [slice p n c] h K := by
  refine qFH _ _ _ _ _ ?_
  unfold qCQ
  cases p with
  | none =>
    have : l = [] := by
      rcases C with e | ⟨b, o, e, _⟩
      · have := congrArg List.length e
        rw [qDn, List.length_nil] at this
        exact List.length_eq_zero_iff.1 (by omega)
      · cases e
    subst this
    subst hn
    exact Br.yes rfl (Ret.mk (k none 0 h h.le_refl (OwnL.nil _ _ _)))
  | some a =>
    refine Br.no rfl ?_
    intro r hr
    refine (qSB (T := 66) (z := [string { data := #[] }, .int .i64 0, .int .i64 0]) hr).push (by decide) (qb hr) (by omega) (by rw [qDn, hn]; rfl) (C.le (qb hr)) (qMa _) (by simp) ?_
    intro p' c' h' l' w' _ _
    rw [Nat.zero_add]
    exact Ret.mk (k p' c' h' l' (by rw [List.nil_append] at w'; exact w'))
/-! what amounts are worth -/
def qJm (l : List Cur) (cur : Int) : Option Cur := if 0 ≤ cur then l[cur.toNat]? else none
theorem qKv {l : List Cur} {cur : Int} {n : Nat} (hn : l.length = n) (hc : 0 ≤ cur ∧ cur < (n : Int)) : ∃ j x, cur = ((j : Nat) : Int) ∧ l[j]? = some x ∧ qJm l cur = some x := by
  obtain ⟨j, rfl⟩ := Int.eq_ofNat_of_zero_le hc.1
  have hx : l[j]? = some l[j] := List.getElem?_eq_getElem (by omega)
  exact ⟨j, _, rfl, hx, by unfold qJm; rw [if_pos hc.1, Int.toNat_natCast]; exact hx⟩
theorem qN9 {l : List Cur} {cur : Int} {n : Nat} (hn : l.length = n) (hc : ¬ (0 ≤ cur ∧ cur < (n : Int))) : qJm l cur = none := by
  unfold qJm
  split
  · exact List.getElem?_eq_none (by omega)
  · rfl
def qGB (x : Cur) (a : Int) : Int := if a < 0 then 10000 + x.cut else 10000 - x.cut
def qCa (l : List Cur) (cur a : Int) : Int × Int := match qJm l cur with
  | some x => md a (x.rate * qGB x a) 100000000 false
  | none => (0, 1)
def qBa (l : List Cur) (cur a : Int) : Int × Int := match qJm l cur with
  | some x => md a x.rate 10000 false
  | none => (0, 1)
theorem qRH (ok : l.all qGl = true) {j : Nat} {x : Cur} (hx : l[j]? = some x) : 1 ≤ x.rate ∧ x.rate ≤ 100000000 ∧ 0 ≤ x.cut ∧ x.cut ≤ 10000 := by
  have hj := List.mem_of_getElem? hx
  have := List.all_eq_true.1 ok x hj
  unfold qGl at this
  exact of_decide_eq_true this
theorem qTN {x : Cur} (b : 1 ≤ x.rate ∧ x.rate ≤ 100000000 ∧ 0 ≤ x.cut ∧ x.cut ≤ 10000) (a : Int) : 0 ≤ qGB x a ∧ qGB x a ≤ 20000 ∧ I64 (x.rate * qGB x a) ∧ 0 ≤ x.rate * qGB x a := by
  have p1 : 0 ≤ qGB x a ∧ qGB x a ≤ 20000 := by unfold qGB; split <;> omega
  have m1 : 0 ≤ x.rate * qGB x a := Int.mul_nonneg (by omega) p1.1
  have m2 : x.rate * qGB x a ≤ 100000000 * 20000 := Int.mul_le_mul b.2.1 p1.2 p1.1 (by omega)
  exact ⟨p1.1, p1.2, ⟨by omega, by omega⟩, m1⟩
theorem qW3 {cur a : Int} (C : Curs h p l) (hn : l.length = n) (ok : l.all qGl = true) (ha : I64 a) (k : K (tuple #[.int .i64 (qCa l cur a).1, .int .i64 (qCa l cur a).2]) h) :
    CallA Tryz.prog qHx [slice p n c, .int .i64 cur, .int .i64 a] h K := by
  refine qPo _ _ _ _ _ _ _ ?_
  unfold qKa
  unfold qCa at k
  refine qWE ⟨_, rfl, ?_⟩
  by_cases hc : 0 ≤ cur ∧ cur < (n : Int)
  · rw [decide_eq_true hc]
    obtain ⟨j, x, rfl, hx, e⟩ := qKv hn hc
    rw [e] at k
    dsimp only at k
    have b := qRH ok hx
    obtain ⟨p1, p2, p3, _⟩ := qTN b a
    unfold qGB at k p1 p2 p3
    refine Br.no rfl (cx2 C hn rfl hx (Br.dec (fun g => ?_) (fun g => ?_)))
    · rw [if_pos g] at k p1 p2 p3
      refine cx2 C hn rfl hx (cx1 C hn rfl hx ?_)
      rw [qO (n := 10000 + x.cut) (by omega) (by omega), qO p3.1 p3.2]
      exact qNO ha p3 ⟨by decide, by decide⟩ false h _ ⟨_, _, rfl, Ret.mk k⟩
    · rw [if_neg g] at k p1 p2 p3
      refine cx1 C hn rfl hx ?_
      rw [qO (n := 10000 - x.cut) (by omega) (by omega), qO p3.1 p3.2]
      exact qNO ha p3 ⟨by decide, by decide⟩ false h _ ⟨_, _, rfl, Ret.mk k⟩
  · rw [decide_eq_false hc]
    rw [qN9 hn hc] at k
    exact Br.yes rfl (Ret.mk k)
theorem qVX {x : Cur} (b : 1 ≤ x.rate ∧ x.rate ≤ 100000000 ∧ 0 ≤ x.cut ∧ x.cut ≤ 10000) : I64 x.rate := ⟨by omega, by omega⟩
theorem qWg {cur a : Int} (C : Curs h p l) (hn : l.length = n) (ok : l.all qGl = true) (ha : I64 a) (k : K (tuple #[.int .i64 (qBa l cur a).1, .int .i64 (qBa l cur a).2]) h) :
    CallA Tryz.prog qHm [slice p n c, .int .i64 cur, .int .i64 a] h K := by
  refine qPs _ _ _ _ _ _ _ ?_
  unfold qKl
  unfold qBa at k
  refine qWE ⟨_, rfl, ?_⟩
  by_cases hc : 0 ≤ cur ∧ cur < (n : Int)
  · rw [decide_eq_true hc]
    obtain ⟨j, x, rfl, hx, e⟩ := qKv hn hc
    rw [e] at k
    exact Br.no rfl (cx1 C hn rfl hx (qNO ha (qVX (qRH ok hx)) ⟨by decide, by decide⟩ false h _ ⟨_, _, rfl, Ret.mk k⟩))
  · rw [decide_eq_false hc]
    rw [qN9 hn hc] at k
    exact Br.yes rfl (Ret.mk k)
end
end Go.Proofs.YtgjeecaombnmiaaGreat
