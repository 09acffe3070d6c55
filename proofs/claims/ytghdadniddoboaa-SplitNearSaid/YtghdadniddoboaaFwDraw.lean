/- Regions that draw their order: one order stands for all. -/
import Derived.Test.YtghdadniddoboaaFwCode
namespace Go.Sy
variable {P : Program}

/-! ### who looks at what -/
def memN (d : Nat) : List Nat → Bool
  | [] => false
  | x :: xs => match Nat.beq d x with
    | true => true
    | false => memN d xs
theorem memN_false {d : Nat} : ∀ {l : List Nat}, memN d l = false → d ∉ l
  | [], _ => by simp
  | x :: xs, h => by
    unfold memN at h
    split at h
    · cases h
    · rename_i hx
      intro hm
      rcases List.mem_cons.1 hm with e | e
      · subst e; rw [Nat.beq_refl] at hx; cases hx
      · exact memN_false h e
def tmpsOf : List Operand → List Nat
  | [] => []
  | x :: xs => match x with
    | .tmp t => t :: tmpsOf xs
    | _ => tmpsOf xs
theorem mem_tmpsOf {d : Nat} : ∀ {l : List Operand}, Operand.tmp d ∈ l → d ∈ tmpsOf l
  | x :: xs, h => by
    unfold tmpsOf
    rcases List.mem_cons.1 h with e | e
    · subst e; simp
    · have := mem_tmpsOf e
      cases x <;> simp [this]
def guardL (all : List Oper) (o : Oper) : List Nat := match o.guard with
  | some (g, _) => match dstOf all g with
    | some d => [d]
    | none => []
  | none => []
def looksL (o : Oper) : List Nat := tmpsOf o.op.operands.toList
def noSel (o : Oper) : Bool := match o.op with
  | .select .. => false
  | _ => true
def dstIn (o : Oper) (l : List Nat) : Bool := match o.dst with
  | some d => memN d l
  | none => false
def dstSame (x y : Oper) : Bool := match x.dst with
  | some d => match y.dst with
    | some e => Nat.beq d e
    | none => false
  | none => false
/-- Two operations that don't meet in any slot. -/
def apartL (all : List Oper) (x y : Oper) : Bool :=
  !dstIn x (looksL y) && !dstIn x (guardL all y) && !dstIn y (looksL x) && !dstIn y (guardL all x) && !dstSame x y && noSel x && noSel y

theorem dstIn_false {o : Oper} {l : List Nat} (h : dstIn o l = false) (d : Nat) (e : o.dst = some d) : d ∉ l := by
  unfold dstIn at h; rw [e] at h; exact memN_false h
theorem apartL_spec {all : List Oper} {x y : Oper} (h : apartL all x y = true) :
    dstIn x (looksL y) = false ∧ dstIn x (guardL all y) = false ∧ dstIn y (looksL x) = false ∧ dstIn y (guardL all x) = false ∧ dstSame x y = false ∧ noSel x = true ∧ noSel y = true := by
  unfold apartL at h
  simp only [Bool.and_eq_true, Bool.not_eq_true'] at h
  exact ⟨h.1.1.1.1.1.1, h.1.1.1.1.1.2, h.1.1.1.1.2, h.1.1.1.2, h.1.1.2, h.1.2, h.2⟩
theorem noSel_spec {o : Oper} (h : noSel o = true) (cs : Array SelectCase) (b : Bool) : o.op ≠ .select cs b := fun e => by
  unfold noSel at h; rw [e] at h; cases h

theorem getT_set_ne : ∀ (t : List Value) (d e : Nat) (v : Value), d ≠ e → getT (setT t d v) e = getT t e
  | [], _, _, _, _ => rfl
  | _ :: _, 0, 0, _, h => (h rfl).elim
  | _ :: _, 0, e + 1, _, _ => rfl
  | _ :: _, d + 1, 0, _, _ => rfl
  | _ :: t, d + 1, e + 1, v, h => getT_set_ne t d e v (fun x => h (by rw [x]))
theorem setT_comm : ∀ (t : List Value) (d e : Nat) (v u : Value), d ≠ e → setT (setT t d v) e u = setT (setT t e u) d v
  | [], _, _, _, _, _ => rfl
  | _ :: _, 0, 0, _, _, h => (h rfl).elim
  | _ :: _, 0, e + 1, _, _, _ => rfl
  | _ :: _, d + 1, 0, _, _, _ => rfl
  | _ :: t, d + 1, e + 1, v, u, h => by simp only [setT, setT_comm t d e v u (fun x => h (by rw [x]))]
theorem getT_put {t : List Value} {o : Oper} {v : Value} {e : Nat} (h : ∀ d, o.dst = some d → d ≠ e) : getT (putT t o.dst v) e = getT t e := by
  unfold putT
  split
  · rename_i d hd; exact getT_set_ne t d e v (h d hd)
  · rfl
theorem putT_comm {t : List Value} {x y : Oper} {v u : Value} (h : dstSame x y = false) : putT (putT t x.dst v) y.dst u = putT (putT t y.dst u) x.dst v := by
  unfold dstSame at h
  unfold putT
  cases hx : x.dst with
  | none => rfl
  | some d =>
    cases hy : y.dst with
    | none => rfl
    | some e =>
      rw [hx, hy] at h
      exact setT_comm t d e v u (fun x => by subst x; dsimp only at h; rw [Nat.beq_refl] at h; cases h)
theorem evO_put {t : List Value} {o y : Oper} {v : Value} (h : dstIn o (looksL y) = false) (x : Operand) (hx : x ∈ y.op.operands) : evO (putT t o.dst v) x = evO t x := by
  cases x with
  | tmp i =>
    refine getT_put fun d hd e => ?_
    subst e
    exact dstIn_false h d hd (mem_tmpsOf (by simpa using hx))
  | _ => rfl
theorem execOp_putL {t : List Value} {o y : Oper} {v : Value} (h : dstIn o (looksL y) = false) (hs : noSel y = true) : execOp (evO (putT t o.dst v)) y = execOp (evO t) y :=
  execOp_congr y (noSel_spec hs) fun x hx => evO_put h x hx
theorem wantT_put {all : List Oper} {t : List Value} {o y : Oper} {v : Value} (h : dstIn o (guardL all y) = false) : wantT all (putT t o.dst v) y = wantT all t y := by
  unfold wantT
  cases hg : y.guard with
  | none => rfl
  | some g =>
    obtain ⟨j, want⟩ := g
    dsimp only
    unfold yieldT
    cases hd : dstOf all j with
    | none => rfl
    | some d =>
      dsimp only
      rw [getT_put fun d' hd' e => ?_]
      subst e
      refine dstIn_false h d' hd' ?_
      unfold guardL
      rw [hg]
      simp [hd]

/-! ### what may come up -/
def afterOk (L : Nat) : List Edge → Bool
  | [] => true
  | e :: es => match Region.binds .any e with
    | true => match L.testBit e.on with
      | true => afterOk L es
      | false => false
    | false => afterOk L es
def rdyM (L : Nat) (i : Nat) (o : Oper) : Bool := match L.testBit i with
  | true => false
  | false => afterOk L o.after.toList
def rdyAt (all : List Oper) (L i : Nat) : Bool := match all[i]? with
  | some o => rdyM L i o
  | none => false
def readOp : Op → Bool
  | .load .. | .lookup .. => true
  | _ => false
/-- All that must come ahead of each. -/
def edgeM (tab : List Nat) : List Edge → Nat
  | [] => 0
  | e :: es => match Region.binds .any e with
    | true => (2 ^ e.on ||| tab.getD e.on 0) ||| edgeM tab es
    | false => edgeM tab es
def befTab : List Nat → List Oper → List Nat
  | tab, [] => tab
  | tab, o :: os => befTab (tab ++ [edgeM tab o.after.toList]) os
/-- Is there one that reads, and needn't come ahead of what bears this mask? -/
def readsBeside (m i : Nat) : Nat → List Oper → Bool
  | _, [] => false
  | k, o :: os => match readOp o.op, m.testBit k, Nat.beq k i with
    | true, false, false => true
    | _, _, _ => readsBeside m i (k + 1) os
def needX (all : List Oper) (i : Nat) : Bool := readsBeside ((befTab [] all).getD i 0) i 0 all
theorem readsBeside_of {m i : Nat} : ∀ {os : List Oper} {k j : Nat} {o : Oper}, os[j]? = some o → readOp o.op = true → m.testBit (k + j) = false → k + j ≠ i → readsBeside m i k os = true
  | [], _, _, _, h, _, _, _ => by simp at h
  | o' :: os, k, 0, o, h, hr, hl, hn => by
    simp at h
    subst h
    have hb : Nat.beq k i = false := by
      cases e : Nat.beq k i with
      | false => rfl
      | true => exact (hn (Nat.eq_of_beq_eq_true e)).elim
    unfold readsBeside
    rw [Nat.add_zero] at hl
    rw [hl, hr, hb]
  | o' :: os, k, j + 1, o, h, hr, hl, hn => by
    unfold readsBeside
    split
    · rfl
    · exact readsBeside_of (k := k + 1) (j := j) (by simpa using h) hr (by rw [show k + 1 + j = k + (j + 1) from by omega]; exact hl) (by omega)
/-- Whatever has come up: all that must come ahead of it has. -/
def closed (all : List Oper) (L : Nat) : Prop := ∀ k o, all[k]? = some o → L.testBit k = true → afterOk L o.after.toList = true
theorem edgeM_le {all : List Oper} {L : Nat} {tab : List Nat} (hc : closed all L) (ht : ∀ (k m : Nat) (o : Oper), tab[k]? = some m → all[k]? = some o → afterOk L o.after.toList = true → ∀ x, m.testBit x = true → L.testBit x = true)
    (hl : tab.length ≤ all.length) : ∀ {es : List Edge}, afterOk L es = true → ∀ x, (edgeM tab es).testBit x = true → L.testBit x = true
  | [], _, x, hx => by simp [edgeM] at hx
  | e :: es, ha, x, hx => by
    unfold afterOk at ha
    unfold edgeM at hx
    split at ha
    · rename_i hb
      split at ha
      · rename_i hon
        rw [hb] at hx
        dsimp only at hx
        rw [Nat.testBit_or, Nat.testBit_or, Bool.or_eq_true, Bool.or_eq_true] at hx
        rcases hx with (hx | hx) | hx
        · rw [Nat.testBit_two_pow] at hx
          have : e.on = x := by simpa using hx
          rw [← this]; exact hon
        · rw [List.getD_eq_getElem?_getD] at hx
          cases htab : tab[e.on]? with
          | none => rw [htab] at hx; simp at hx
          | some m =>
            rw [htab] at hx
            have hlt : e.on < tab.length := (List.getElem?_eq_some_iff.1 htab).1
            have hall : all[e.on]? = some all[e.on] := List.getElem?_eq_getElem (by omega)
            exact ht _ m _ htab hall (hc _ _ hall hon) x hx
        · exact edgeM_le hc ht hl ha x hx
      · cases ha
    · rename_i hb
      rw [hb] at hx
      exact edgeM_le hc ht hl ha x hx
theorem befTab_le {all : List Oper} {L : Nat} (hc : closed all L) : ∀ (os : List Oper) (tab : List Nat), all = all.take tab.length ++ os → tab.length ≤ all.length →
    (∀ (k m : Nat) (o : Oper), tab[k]? = some m → all[k]? = some o → afterOk L o.after.toList = true → ∀ x, m.testBit x = true → L.testBit x = true) →
    ∀ (k m : Nat) (o : Oper), (befTab tab os)[k]? = some m → all[k]? = some o → afterOk L o.after.toList = true → ∀ x, m.testBit x = true → L.testBit x = true
  | [], tab, _, _, ht => ht
  | o' :: os, tab, he, hl, ht => by
    unfold befTab
    have hlen : all.length = tab.length + (os.length + 1) := by
      have := congrArg List.length he
      simp at this
      omega
    have ho' : all[tab.length]? = some o' := by
      have h1 : (all.take tab.length).length = tab.length := by simp; omega
      rw [he, List.getElem?_append_right (by omega), h1, Nat.sub_self]
      rfl
    refine befTab_le hc os _ ?_ (by simp; omega) ?_
    · rw [List.length_append, List.length_singleton, List.take_add_one, ho']
      simpa using he
    · intro k m o hk ho ha x hx
      by_cases hkl : k < tab.length
      · rw [List.getElem?_append_left hkl] at hk
        exact ht k m o hk ho ha x hx
      · have hke : k = tab.length := by
          have := (List.getElem?_eq_some_iff.1 hk).1
          simp at this
          omega
        subst hke
        rw [List.getElem?_append_right (Nat.le_refl _)] at hk
        simp at hk
        subst hk
        rw [ho'] at ho
        cases ho
        exact edgeM_le hc ht hl ha x hx
theorem bef_le {all : List Oper} {L : Nat} (hc : closed all L) {k : Nat} {o : Oper} (ho : all[k]? = some o) (ha : afterOk L o.after.toList = true) (x : Nat)
    (hx : ((befTab [] all).getD k 0).testBit x = true) : L.testBit x = true := by
  rw [List.getD_eq_getElem?_getD] at hx
  cases h : (befTab [] all)[k]? with
  | none => rw [h] at hx; simp at hx
  | some m =>
    rw [h] at hx
    exact befTab_le hc all [] (by simp) (by simp) (fun k m o hk => by simp at hk) k m o h ho ha x hx

def setB (L i : Nat) : Nat := L ||| 2 ^ i
theorem setB_same (L i : Nat) : (setB L i).testBit i = true := by unfold setB; simp
theorem setB_ne {L i j : Nat} (h : i ≠ j) : (setB L i).testBit j = L.testBit j := by
  unfold setB
  rw [Nat.testBit_or, Nat.testBit_two_pow]
  simp [h]
theorem setB_comm (L i j : Nat) : setB (setB L i) j = setB (setB L j) i := by unfold setB; rw [Nat.or_assoc, Nat.or_comm (2 ^ i), Nat.or_assoc]
theorem afterOk_mono {L i : Nat} : ∀ {es : List Edge}, afterOk L es = true → afterOk (setB L i) es = true
  | [], _ => rfl
  | e :: es, h => by
    unfold afterOk at h ⊢
    split at h
    · rename_i hb
      split at h
      · rename_i hl
        have : (setB L i).testBit e.on = true := by
          by_cases hi : i = e.on
          · subst hi; exact setB_same L _
          · rw [setB_ne hi]; exact hl
        rw [this]
        exact afterOk_mono h
      · cases h
    · rename_i hb
      exact afterOk_mono h
theorem rdy_mono {all : List Oper} {L i j : Nat} (h : rdyAt all L j = true) (hne : j ≠ i) : rdyAt all (setB L i) j = true := by
  unfold rdyAt rdyM at h ⊢
  split at h
  · rename_i o ho
    split at h
    · cases h
    · rename_i hl
      rw [setB_ne (Ne.symm hne), hl]
      exact afterOk_mono h
  · cases h

theorem closed_set {all : List Oper} {L j : Nat} (hc : closed all L) (hr : rdyAt all L j = true) : closed all (setB L j) := by
  intro k o hk hl
  by_cases hkj : j = k
  · subst hkj
    unfold rdyAt rdyM at hr
    rw [hk] at hr
    dsimp only at hr
    split at hr
    · cases hr
    · exact afterOk_mono hr
  · rw [setB_ne hkj] at hl
    exact afterOk_mono (hc k o hk hl)
/-- Operation i, at the heap. -/
def StepA (P : Program) (all : List Oper) (i : Nat) (t : List Value) (h : Heap) (K : List Value → Heap → Prop) : Prop := match all[i]? with
  | none => K t h
  | some o => (wantT all t o = true → SOp P (evO t) o h fun v h' => K (putT t o.dst v) h') ∧ (wantT all t o = false → K (putT t o.dst undef) h)
theorem StepA.mono {all : List Oper} {i : Nat} {t : List Value} {h : Heap} {K K' : List Value → Heap → Prop} (k : StepA P all i t h K) (m : ∀ t h, K t h → K' t h) : StepA P all i t h K' := by
  unfold StepA at *
  split at k
  · exact m _ _ k
  · exact ⟨fun e => (k.1 e).mono fun _ _ x => m _ _ x, fun e => m _ _ (k.2 e)⟩
/-! ### where a reading operation looks -/
def flagL (m : Nat) (l : List Nat) : Nat → List Oper → Bool
  | _, [] => true
  | k, y :: ys => match dstIn y l with
    | false => flagL m l (k + 1) ys
    | true => match m.testBit k with
      | true => flagL m l (k + 1) ys
      | false => false
theorem flagL_spec {m : Nat} {l : List Nat} : ∀ {ys : List Oper} {k : Nat}, flagL m l k ys = true → ∀ j y, ys[j]? = some y → dstIn y l = false ∨ m.testBit (k + j) = true
  | [], _, _, _, _, h => by simp at h
  | y' :: ys, k, hf, j, y, hj => by
    unfold flagL at hf
    cases j with
    | zero =>
      simp at hj
      subst hj
      split at hf
      · rename_i e; exact .inl e
      · split at hf
        · rename_i e; exact .inr e
        · cases hf
    | succ j =>
      have key : flagL m l (k + 1) ys = true → dstIn y l = false ∨ m.testBit (k + (j + 1)) = true := fun hf' => by
        have := flagL_spec hf' j y (by simpa using hj)
        rw [show k + (j + 1) = k + 1 + j from by omega]; exact this
      split at hf
      · exact key hf
      · split at hf
        · exact key hf
        · cases hf
/-- the block that is looked at, where it is known -/
def addrB (all : List Oper) (i : Nat) (o : Oper) (t : List Value) : Option Nat := match o.op with
  | .load _ a => match flagL ((befTab [] all).getD i 0) (looksL o) 0 all with
    | true => match evO t a with
      | .pointer (some ad) => some ad.block
      | _ => none
    | false => none
  | _ => none
theorem addrB_put {all : List Oper} {i : Nat} {o y : Oper} {t : List Value} {v : Value} (h : dstIn y (looksL o) = false) : addrB all i o (putT t y.dst v) = addrB all i o t := by
  unfold addrB
  cases ho : o.op <;> try rfl
  case load e a =>
    dsimp only
    rw [evO_put h a (by rw [ho]; simp [Op.operands])]
/-- what comes up later, or beside, is no part of the address -/
theorem addrB_put2 {all : List Oper} {i k : Nat} {o y : Oper} {t : List Value} {v : Value} (hk : all[k]? = some y) (hb : ((befTab [] all).getD i 0).testBit k = false) : addrB all i o (putT t y.dst v) = addrB all i o t := by
  cases hf : flagL ((befTab [] all).getD i 0) (looksL o) 0 all with
  | true =>
    rcases flagL_spec hf k y hk with e | e
    · exact addrB_put e
    · rw [Nat.zero_add, hb] at e; cases e
  | false =>
    unfold addrB
    rw [hf]
def KeepO (all : List Oper) (i : Nat) (o : Oper) (t : List Value) (h h' : Heap) : Prop := match addrB all i o t with
  | some b => ∀ x, h b = some x → h' b = some x
  | none => h.le h'
theorem KeepO.of_le {all : List Oper} {i : Nat} {o : Oper} {t : List Value} {h h' : Heap} (l : h.le h') : KeepO all i o t h h' := by
  unfold KeepO
  split
  · exact fun x e => l _ x e
  · exact l
theorem KeepO.congr {all : List Oper} {i : Nat} {o : Oper} {t t' : List Value} {h h' : Heap} (k : KeepO all i o t h h') (e : addrB all i o t' = addrB all i o t) : KeepO all i o t' h h' := by
  unfold KeepO at *
  rw [e]; exact k
def KeepC (all : List Oper) (j L : Nat) (t : List Value) (h h' : Heap) : Prop :=
  ∀ i o, all[i]? = some o → readOp o.op = true → i ≠ j → (L.testBit i = true ∨ rdyAt all L i = true) → ((befTab [] all).getD j 0).testBit i = false → KeepO all i o t h h'
theorem KeepC.of_le {all : List Oper} {j L : Nat} {t : List Value} {h h' : Heap} (l : h.le h') : KeepC all j L t h h' := fun _ _ _ _ _ _ _ => KeepO.of_le l
def Heap.only (h : Heap) (b : Nat) : Heap := fun x => match Nat.beq x b with
  | true => h x
  | false => none
theorem only_le (h : Heap) (b : Nat) : (h.only b).le h := fun x o e => by
  unfold Heap.only at e
  split at e
  · exact e
  · cases e
theorem only_cell (h : Heap) (b o : Nat) : (h.only b).cell b o = h.cell b o := by
  unfold Heap.cell Heap.only
  rw [Nat.beq_refl]
def footH (all : List Oper) (i : Nat) (o : Oper) (t : List Value) (h : Heap) : Heap := match addrB all i o t with
  | some b => h.only b
  | none => h
theorem footH_le (all : List Oper) (i : Nat) (o : Oper) (t : List Value) (h : Heap) : (footH all i o t h).le h := by
  unfold footH
  split
  · exact only_le _ _
  · exact h.le_refl
theorem footH_keep {all : List Oper} {i : Nat} {o : Oper} {t : List Value} {h h' : Heap} (k : KeepO all i o t h h') : (footH all i o t h).le (footH all i o t h') := by
  unfold footH
  unfold KeepO at k
  split
  · rename_i b e
    rw [e] at k
    intro x y hx
    unfold Heap.only at hx ⊢
    split at hx
    · rename_i hb
      have := Nat.eq_of_beq_eq_true hb
      subst this
      exact k y hx
    · cases hx
  · rename_i e
    rw [e] at k
    exact k
/-- Whatever order is taken from here on. -/
def AnyA (P : Program) (all : List Oper) (J : List Value → Heap → Prop) : Nat → Nat → List Value → Heap → Prop
  | 0, L, t, h => (∀ i, rdyAt all L i = false) ∧ J t h
  | f + 1, L, t, h => ((∀ i, rdyAt all L i = false) → J t h) ∧
    ∀ i, rdyAt all L i = true → StepA P all i t h fun t' h' => KeepC all i L t h h' ∧ AnyA P all J f (setB L i) t' h'

/-- Operation o yields v in all that h (or, where it reads nothing, in whatever) knows. -/
def QOp (P : Program) (all : List Oper) (i : Nat) (t : List Value) (o : Oper) (h : Heap) (v : Value) : Prop :=
  (wantT all t o = true ∧ ∀ w, (readOp o.op = true → Rep (footH all i o t h) w) → (execOp (evO t) o).run P w = .ok (.value v) w) ∨ (wantT all t o = false ∧ v = undef)
theorem QOp.step {all : List Oper} {i : Nat} {t : List Value} {o : Oper} {h : Heap} {v : Value} (hi : all[i]? = some o) (q : QOp P all i t o h v) {K : List Value → Heap → Prop} (k : K (putT t o.dst v) h) :
    StepA P all i t h K := by
  unfold StepA
  rw [hi]
  dsimp only
  rcases q with ⟨hw, q⟩ | ⟨hw, rfl⟩
  · exact ⟨fun _ w r => by rw [q w (fun _ => r.le (footH_le _ _ _ _ _))]; exact ⟨h, k, r, Fr.refl _ _⟩, fun e => by rw [hw] at e; cases e⟩
  · exact ⟨fun e => (by rw [hw] at e; cases e), fun _ => k⟩
theorem QOp.keep {all : List Oper} {i : Nat} {t : List Value} {o y : Oper} {h h' : Heap} {v u : Value} (q : QOp P all i t o h v) (hap : apartL all o y = true) (hh : readOp o.op = true → KeepO all i o t h h') :
    QOp P all i (putT t y.dst u) o h' v := by
  obtain ⟨_, _, a3, a4, _, a6, _⟩ := apartL_spec hap
  unfold QOp at *
  rw [wantT_put a4, execOp_putL a3 a6]
  rcases q with ⟨hw, q⟩ | q
  · refine .inl ⟨hw, fun w r => q w fun e => ?_⟩
    have r := r e
    have ea := addrB_put (all := all) (i := i) (t := t) (v := u) a3
    unfold footH at r
    rw [ea] at r
    exact r.le (footH_keep (hh e))
  · exact .inr q
/-- y, done where o's value lies already, could as well be done ahead of it. -/
theorem StepA_put {all : List Oper} {j : Nat} {t : List Value} {o y : Oper} {h : Heap} {v : Value} {K : List Value → Heap → Prop} (hj : all[j]? = some y) (hap : apartL all o y = true)
    (k : StepA P all j (putT t o.dst v) h K) : StepA P all j t h fun t' h' => (∃ u, t' = putT t y.dst u) ∧ K (putT t' o.dst v) h' := by
  obtain ⟨a1, a2, _, _, a5, _, a7⟩ := apartL_spec hap
  unfold StepA at *
  rw [hj] at *
  dsimp only at *
  rw [wantT_put a2] at k
  constructor
  · intro hw
    have k1 := k.1 hw
    unfold SOp at *
    rw [execOp_putL a1 a7] at k1
    exact fun w r => resOK_mono (fun u h' x => ⟨⟨u, rfl⟩, by rw [← putT_comm a5]; exact x⟩) (k1 w r)
  · intro hw
    exact ⟨⟨undef, rfl⟩, by rw [← putT_comm a5]; exact k.2 hw⟩

def waitsFor (i : Nat) : List Edge → Bool
  | [] => false
  | e :: es => match Region.binds .any e, Nat.beq e.on i with
    | true, true => true
    | _, _ => waitsFor i es
/-- All that haven't come up wait for o, or don't meet it. -/
def freeM (all : List Oper) (L i : Nat) (o : Oper) : Nat → List Oper → Bool
  | _, [] => true
  | j, y :: ys => match Nat.beq j i, L.testBit j with
    | false, false => match waitsFor i y.after.toList with
      | true => freeM all L i o (j + 1) ys
      | false => match apartL all o y with
        | true => freeM all L i o (j + 1) ys
        | false => false
    | _, _ => freeM all L i o (j + 1) ys
theorem waits_not {L i : Nat} : ∀ {es : List Edge}, waitsFor i es = true → L.testBit i = false → afterOk L es = false
  | [], h, _ => by cases h
  | e :: es, h, hl => by
    unfold waitsFor at h
    unfold afterOk
    split at h
    · rename_i h1 h2
      have := Nat.eq_of_beq_eq_true h2
      rw [h1, this, hl]
    · split
      · split
        · exact waits_not h hl
        · rfl
      · exact waits_not h hl
theorem freeM_spec {all : List Oper} {L i : Nat} {o : Oper} : ∀ {ys : List Oper} {k : Nat}, freeM all L i o k ys = true → ∀ j y, ys[j]? = some y → k + j ≠ i → L.testBit (k + j) = false →
    waitsFor i y.after.toList = false → apartL all o y = true
  | [], _, _, _, _, h, _, _, _ => by simp at h
  | y' :: ys, k, hf, j, y, hj, hne, hl, hw => by
    unfold freeM at hf
    cases j with
    | zero =>
      simp at hj
      subst hj
      have hb : Nat.beq k i = false := by
        cases e : Nat.beq k i with
        | false => rfl
        | true => exact (hne (Nat.eq_of_beq_eq_true e)).elim
      rw [Nat.add_zero] at hl
      rw [hb, hl] at hf
      dsimp only at hf
      rw [hw] at hf
      dsimp only at hf
      split at hf
      · assumption
      · cases hf
    | succ j =>
      have key : freeM all L i o (k + 1) ys = true → apartL all o y = true := fun hf' =>
        freeM_spec hf' j y (by simpa using hj) (by omega) (by rw [show k + 1 + j = k + (j + 1) from by omega]; exact hl) hw
      split at hf
      · split at hf
        · exact key hf
        · split at hf
          · exact key hf
          · cases hf
      · exact key hf
theorem AnyA_first {all : List Oper} {J : List Value → Heap → Prop} {i : Nat} {o : Oper} {v : Value} (hi : all[i]? = some o) : ∀ (f L : Nat) (t : List Value) (h : Heap), closed all L →
    (∀ j y, all[j]? = some y → j ≠ i → L.testBit j = false → waitsFor i y.after.toList = false → apartL all o y = true) →
    rdyAt all L i = true → QOp P all i t o h v → AnyA P all J f (setB L i) (putT t o.dst v) h → AnyA P all J (f + 1) L t h
  | 0, L, t, h, _, hfree, hr, q, H => by
    refine ⟨fun hn => (by rw [hn i] at hr; cases hr), fun j hj => ?_⟩
    by_cases hji : j = i
    · subst hji; exact q.step hi ⟨KeepC.of_le h.le_refl, H⟩
    · have := rdy_mono (i := i) hj hji
      rw [H.1 j] at this; cases this
  | f + 1, L, t, h, hc, hfree, hr, q, H => by
    refine ⟨fun hn => (by rw [hn i] at hr; cases hr), fun j hj => ?_⟩
    by_cases hji : j = i
    · subst hji; exact q.step hi ⟨KeepC.of_le h.le_refl, H⟩
    · have h1 := H.2 j (rdy_mono hj hji)
      obtain ⟨y, hy⟩ : ∃ y, all[j]? = some y := by
        unfold rdyAt at hj
        cases e : all[j]? with
        | none => rw [e] at hj; cases hj
        | some y => exact ⟨y, rfl⟩
      have hLi : L.testBit i = false := by
        unfold rdyAt rdyM at hr
        rw [hi] at hr
        dsimp only at hr
        split at hr
        · cases hr
        · rename_i e; exact e
      have hLj : L.testBit j = false ∧ afterOk L y.after.toList = true := by
        have hj' := hj
        unfold rdyAt rdyM at hj'
        rw [hy] at hj'
        dsimp only at hj'
        split at hj'
        · cases hj'
        · rename_i e; exact ⟨e, hj'⟩
      have hnw : waitsFor i y.after.toList = false := by
        cases e : waitsFor i y.after.toList with
        | false => rfl
        | true => have := waits_not e hLi; rw [hLj.2] at this; cases this
      have hap := hfree j y hy hji hLj.1 hnw
      have hbef : ((befTab [] all).getD j 0).testBit i = false := by
        cases e : ((befTab [] all).getD j 0).testBit i with
        | false => rfl
        | true =>
          rw [bef_le hc hy hLj.2 i e] at hLi
          cases hLi
      refine (StepA_put hy hap h1).mono fun t' h' x => ?_
      obtain ⟨⟨u, rfl⟩, x1, x2⟩ := x
      rw [setB_comm] at x2
      have kc : KeepC all j L t h h' := fun i' o' hi' hro hne hst hbj => by
        have aft : afterOk L o'.after.toList = true := by
          rcases hst with e | e
          · exact hc i' o' hi' e
          · unfold rdyAt at e
            rw [hi'] at e
            dsimp only at e
            unfold rdyM at e
            split at e
            · cases e
            · exact e
        have nb : ((befTab [] all).getD i' 0).testBit i = false := by
          cases e : ((befTab [] all).getD i' 0).testBit i with
          | false => rfl
          | true =>
            rw [bef_le hc hi' aft i e] at hLi
            cases hLi
        refine (x1 i' o' hi' hro hne ?_ hbj).congr (addrB_put2 hi nb).symm
        by_cases e : i' = i
        · subst e; exact .inl (setB_same L _)
        · rcases hst with e2 | e2
          · left; rw [setB_ne (Ne.symm e)]; exact e2
          · exact .inr (rdy_mono e2 e)
      have ko : readOp o.op = true → KeepO all i o t h h' := fun hro => kc i o hi hro (Ne.symm hji) (.inr hr) hbef
      refine ⟨kc, AnyA_first hi f (setB L j) _ h' (closed_set hc hj) (fun k z hz hki hl hw => hfree k z hz hki ?_ hw) (rdy_mono hr (Ne.symm hji)) (q.keep hap ko) x2⟩
      by_cases hjk : j = k
      · subst hjk; exact hLj.1
      · rw [setB_ne hjk] at hl; exact hl
/-! ### soundness against the kit's 'whatever order' -/
def corr (ops : Array Oper) (arr : Array Bool) (L : Nat) : Prop := arr.size = ops.size ∧ ∀ j, j < ops.size → arr[j]? = some (L.testBit j)
theorem afterOk_eq {ops : Array Oper} {arr : Array Bool} {L : Nat} (hc : corr ops arr L) (hin : ∀ j, ops.size ≤ j → L.testBit j = false) : ∀ (es : List Edge),
    (es.all fun e => !Region.binds .any e || arr.getD e.on false) = afterOk L es
  | [] => rfl
  | e :: es => by
    rw [List.all_cons, afterOk_eq hc hin es, afterOk]
    have hg : arr.getD e.on false = L.testBit e.on := by
      by_cases h : e.on < ops.size
      · have := hc.2 e.on h
        rw [Array.getD_eq_getD_getElem?, this]; rfl
      · rw [hin _ (by omega), Array.getD_eq_getD_getElem?, Array.getElem?_eq_none (by rw [hc.1]; omega)]; rfl
    rw [hg]
    cases Region.binds .any e <;> cases L.testBit e.on <;> simp
theorem ready_iff {ops : Array Oper} {arr : Array Bool} {L : Nat} (hc : corr ops arr L) (hin : ∀ j, ops.size ≤ j → L.testBit j = false) (i : Nat) :
    i ∈ Region.ready .any ops arr ↔ rdyAt ops.toList L i = true := by
  unfold Region.ready
  rw [List.mem_filter, List.mem_range]
  unfold rdyAt rdyM
  have e : ops.toList[i]? = ops[i]? := by simp
  rw [e]
  by_cases h : i < ops.size
  · have hg : arr.getD i true = L.testBit i := by
      rw [Array.getD_eq_getD_getElem?, hc.2 i h]; rfl
    rw [hg, Array.getElem?_eq_getElem h]
    simp only [h, true_and, Option.map_some, Option.getD_some, Bool.and_eq_true, Bool.not_eq_true']
    have e2 : (ops[i].after.all fun e => !Region.binds .any e || arr.getD e.on false) = afterOk L ops[i].after.toList := by
      rw [← afterOk_eq hc hin, Array.all_toList]
    rw [e2]
    cases L.testBit i <;> simp
  · rw [Array.getElem?_eq_none (by omega)]
    simp [h]
theorem AnyA_sound (ops : Array Oper) (J : List Value → Heap → Prop) (h0 : Heap) (w0 : World) : ∀ (f L : Nat) (arr : Array Bool) (t : List Value) (h : Heap) (w : World),
    corr ops arr L → (∀ j, ops.size ≤ j → L.testBit j = false) → AnyA P ops.toList J f L t h → Rep h w → Fr h0 w0 h w →
    wpAny P .any ops (endsIn J h0 w0) f arr ⟨t.toArray, []⟩ w
  | 0, L, arr, t, h, w, hc, hin, k, r, f => by
    refine ⟨?_, rfl, t, h, rfl, k.2, r, f⟩
    refine List.eq_nil_iff_forall_not_mem.2 fun i hi => ?_
    rw [ready_iff hc hin, k.1 i] at hi
    cases hi
  | n + 1, L, arr, t, h, w, hc, hin, k, r, f => by
    refine ⟨fun hn => ⟨rfl, t, h, rfl, k.1 fun i => ?_, r, f⟩, fun i hi => ?_⟩
    · cases e : rdyAt ops.toList L i with
      | false => rfl
      | true => rw [← ready_iff hc hin, hn] at e; cases e
    · have hr := (ready_iff hc hin i).1 hi
      have k1 := k.2 i hr
      have hlt : i < ops.size := by
        have := (List.mem_filter.1 hi).1
        simpa using this
      have hop : ops[i]? = some ops[i] := Array.getElem?_eq_getElem hlt
      have hc' : corr ops (arr.setIfInBounds i true) (setB L i) := by
        refine ⟨by simpa using hc.1, fun j hj => ?_⟩
        by_cases hij : i = j
        · subst hij
          rw [setB_same, Array.getElem?_setIfInBounds_self_of_lt (by rw [hc.1]; exact hj)]
        · rw [setB_ne hij, Array.getElem?_setIfInBounds_ne hij]
          exact hc.2 j hj
      have hin' : ∀ j, ops.size ≤ j → (setB L i).testBit j = false := fun j hj => by
        rw [setB_ne (by omega)]; exact hin j hj
      unfold wpOp
      rw [hop]
      dsimp only
      rw [wanted_eq]
      unfold StepA at k1
      have e : ops.toList[i]? = some ops[i] := by simp
      rw [e] at k1
      dsimp only at k1
      cases hw : wantT ops.toList t ops[i] with
      | true =>
        simp only [if_true]
        refine .inl ((k1.1 hw).wp r fun v h' w' q r' f' => ?_)
        exact AnyA_sound ops J h0 w0 n _ _ _ h' w' hc' hin' q.2 r' (f.trans f')
      | false =>
        simp only [Bool.false_eq_true, if_false, putT_eq]
        exact AnyA_sound ops J h0 w0 n _ _ _ h w hc' hin' (k1.2 hw).2 r f

/-! ### the one order that stands for all -/
def newOp : Op → Bool
  | .alloc _ | .box .. | .buildSlice .. | .makeSlice .. => true
  | _ => false
/-- The first quiet one that may come up, and that nobody else meets. -/
def pickQ (P : Program) (all : List Oper) (L : Nat) : Nat → List Oper → Option (Nat × Oper)
  | _, [] => none
  | i, o :: os => match quietOp P o.op, rdyM L i o with
    | true, true => match freeM all L i o 0 all with
      | true => some (i, o)
      | false => pickQ P all L (i + 1) os
    | _, _ => pickQ P all L (i + 1) os
def rdyL (L : Nat) : Nat → List Oper → List (Nat × Oper)
  | _, [] => []
  | i, o :: os => match rdyM L i o with
    | true => (i, o) :: rdyL L (i + 1) os
    | false => rdyL L (i + 1) os
/-- What an operation that makes new memory makes, and answers by its number. -/
def newForm (P : Program) (t : List Value) : Op → Option (Obj × (Nat → Value))
  | .alloc e => match zerosOf P e with
    | some z => some (.cells z.toArray e (0, 0), fun r => .pointer (some ⟨r, 0, none⟩))
    | none => none
  | .box e x => some (.cells (cellsL (evO t x)).toArray e (0, 0), fun r => .pointer (some ⟨r, 0, none⟩))
  | .buildSlice ty len ps => match P.underlying ty with
    | some (.slice e) => match P.info? e, zerosOf P e with
      | some i, some z => match fillL (rangePl i.size 0 len) (repL len z) (mapP t ps.toList) with
        | some cells => some (.cells cells.toArray e (0, 0), fun r => .slice (some ⟨r, 0, none⟩) len len)
        | none => none
      | _, _ => none
    | _ => none
  | .makeSlice ty l c => match evO t l, evO t c, P.underlying ty with
    | .int _ l, .int _ c, some (.slice e) => match zerosOf P e with
      | some z => some (.cells (repL c.toNat z).toArray e (0, 0), fun r => .slice (some ⟨r, 0, none⟩) l.toNat c.toNat)
      | none => none
    | _, _, _ => none
  | _ => none
/-- It can be made. -/
def newK (P : Program) (t : List Value) (op : Op) (X : Prop) : Prop := match op with
  | .alloc e => match zerosOf P e with
    | some _ => X
    | none => False
  | .box _ _ => X
  | .buildSlice ty len ps => match P.underlying ty with
    | some (.slice e) => match P.info? e, zerosOf P e with
      | some i, some z => match Nat.beq z.length i.size, Nat.ble (len * i.size) 16777216 with
        | true, true => match fillL (rangePl i.size 0 len) (repL len z) (mapP t ps.toList) with
          | some _ => X
          | none => False
        | _, _ => False
      | _, _ => False
    | _ => False
  | .makeSlice ty l c => match evO t l, evO t c, P.underlying ty with
    | .int _ l, .int _ c, some (.slice e) => match P.info? e, zerosOf P e with
      | some i, some z => match Nat.beq z.length i.size with
        | true => 0 ≤ l ∧ l ≤ c ∧ c ≤ 281474976710656 ∧ (i.bytes : Int) * c ≤ 281474976710656 ∧ X
        | false => False
      | _, _ => False
    | _, _, _ => False
  | _ => False
/-- Of those that may come up: the one to be taken, and the one (it makes new memory) that may come up beside it. -/
def pickE (all : List Oper) (L : Nat) : List (Nat × Oper) → Option ((Nat × Oper) × Option (Nat × Oper))
  | [x] => some (x, none)
  | [x, y] =>
    let c := match newOp x.2.op with | true => (match newOp y.2.op with | true => (x, y) | false => (y, x)) | false => (x, y)
    match newOp c.2.2.op, c.2.2.guard, apartL all c.2.2 c.1.2, rdyL (setB L c.2.1) 0 all with
    | true, none, true, [_] => some (c.1, some c.2)
    | _, _, _, _ => none
  | _ => none
def Keeps (bs : List Nat) (h h' : Heap) : Prop := ∀ b, b ∈ bs → ∀ x, h b = some x → h' b = some x
/-- the blocks that those look at that may come up beside c -/
def blkL (all : List Oper) (c L m : Nat) (t : List Value) : Nat → List Oper → Option (List Nat)
  | _, [] => some []
  | k, o :: os => match readOp o.op, Nat.beq k c, m.testBit k with
    | true, false, false => match L.testBit k, rdyM L k o with
      | false, false => blkL all c L m t (k + 1) os
      | _, _ => match addrB all k o t with
        | some b => match blkL all c L m t (k + 1) os with
          | some bs => some (b :: bs)
          | none => none
        | none => none
    | _, _, _ => blkL all c L m t (k + 1) os
def extC (bs : Option (List Nat)) (h h' : Heap) (X : Prop) : Prop := match bs with
  | some [] => X
  | some (b :: r) => (h.le h' ∨ Keeps (b :: r) h h') ∧ X
  | none => h.le h' ∧ X
def needL (all : List Oper) (o : Oper) (i L : Nat) (t : List Value) : Option (List Nat) := match newOp o.op with
  | true => some []
  | false => blkL all i L ((befTab [] all).getD i 0) t 0 all
theorem blkL_spec {all : List Oper} {c L m : Nat} {t : List Value} {h h' : Heap} : ∀ {os : List Oper} {k : Nat} {bs : List Nat}, blkL all c L m t k os = some bs → Keeps bs h h' →
    ∀ i o, os[i]? = some o → readOp o.op = true → k + i ≠ c → (L.testBit (k + i) = true ∨ rdyM L (k + i) o = true) → m.testBit (k + i) = false → KeepO all (k + i) o t h h'
  | [], _, _, _, _, _, _, e, _, _, _, _ => by simp at e
  | o' :: os, k, bs, e, kp, i, o, hi, hr, hne, hst, hm => by
    unfold blkL at e
    have key : ∀ bs, blkL all c L m t (k + 1) os = some bs → Keeps bs h h' → ∀ j, i = j + 1 → KeepO all (k + i) o t h h' := fun bs e kp j ej => by
      subst ej
      have hs : k + (j + 1) = k + 1 + j := by omega
      rw [hs] at hne hst hm ⊢
      exact blkL_spec e kp j o (by simpa using hi) hr hne hst hm
    cases i with
    | succ j =>
      split at e
      · split at e
        · exact key _ e kp j rfl
        · split at e
          · split at e
            · rename_i b _ bs' e2
              cases e
              exact key _ e2 (fun b hb => kp b (List.mem_cons_of_mem _ hb)) j rfl
            · cases e
          · cases e
      · exact key _ e kp j rfl
    | zero =>
      simp at hi
      subst hi
      rw [Nat.add_zero] at hne hst hm ⊢
      have hb : Nat.beq k c = false := by
        cases e : Nat.beq k c with
        | false => rfl
        | true => exact (hne (Nat.eq_of_beq_eq_true e)).elim
      rw [hr, hb, hm] at e
      dsimp only at e
      split at e
      · rename_i e1 e2
        rcases hst with e3 | e3
        · rw [e3] at e1; cases e1
        · rw [e3] at e2; cases e2
      · split at e
        · rename_i b ea
          split at e
          · cases e
            unfold KeepO
            rw [ea]
            exact kp b (List.mem_cons_self ..)
          · cases e
        · cases e
theorem extC_keep {all : List Oper} {o : Oper} {i L : Nat} {t : List Value} {h h' : Heap} {X : Prop} (hn : newOp o.op = false) (k : extC (needL all o i L t) h h' X) : KeepC all i L t h h' ∧ X := by
  unfold needL at k
  rw [hn] at k
  dsimp only at k
  have main : ∀ bs, blkL all i L ((befTab [] all).getD i 0) t 0 all = some bs → Keeps bs h h' → KeepC all i L t h h' := fun bs e kp j y hy hr hne hst hm => by
    have := blkL_spec e kp j y hy hr (by omega) (by
      rw [Nat.zero_add]
      rcases hst with e2 | e2
      · exact .inl e2
      · unfold rdyAt at e2
        rw [hy] at e2
        exact .inr e2) (by rw [Nat.zero_add]; exact hm)
    rw [Nat.zero_add] at this
    exact this
  unfold extC at k
  split at k
  · rename_i e
    exact ⟨main _ e (fun b hb => by cases hb), k⟩
  · rename_i b r e
    rcases k.1 with l | kp
    · exact ⟨KeepC.of_le l, k.2⟩
    · exact ⟨main _ e kp, k.2⟩
  · exact ⟨KeepC.of_le k.1, k.2⟩
def drawA (P : Program) (all : List Oper) (J : List Value → Heap → Prop) : Nat → Nat → List Value → Heap → Prop
  | 0, L, t, h => match rdyL L 0 all with
    | [] => J t h
    | _ => False
  | f + 1, L, t, h => match pickQ P all L 0 all with
    | some (i, o) => guarded all o t
        (fun t => opV P t o.op h fun v _ => drawA P all J f (setB L i) (putT t o.dst v) h)
        (fun t => drawA P all J f (setB L i) (putT t o.dst undef) h)
    | none => match rdyL L 0 all with
      | [] => J t h
      | l => match pickE all L l with
        | some ((i, o), none) => guarded all o t
            (fun t => opA P t o h fun v h' => extC (needL all o i L t) h h' (drawA P all J f (setB L i) (putT t o.dst v) h'))
            (fun t => drawA P all J f (setB L i) (putT t o.dst undef) h)
        | some ((i, o), some (_, y)) => match f with
          | 0 => False
          | f + 1 => newK P t y.op (guarded all o t
            (fun t => opA P t o h fun v h' => extC (needL all o i L t) h h' (drawA P all J (f + 1) (setB L i) (putT t o.dst v) h'))
            (fun t => drawA P all J (f + 1) (setB L i) (putT t o.dst undef) h))
        | none => False

theorem rdyL_mem {L : Nat} : ∀ {os : List Oper} {k i : Nat} {o : Oper}, os[i]? = some o → rdyM L (k + i) o = true → (k + i, o) ∈ rdyL L k os
  | [], _, _, _, h, _ => by simp at h
  | o' :: os, k, 0, o, h, hr => by
    simp at h
    subst h
    unfold rdyL
    rw [Nat.add_zero] at hr ⊢
    rw [hr]
    simp
  | o' :: os, k, i + 1, o, h, hr => by
    have := rdyL_mem (k := k + 1) (i := i) (os := os) (o := o) (by simpa using h) (by rw [show k + 1 + i = k + (i + 1) from by omega]; exact hr)
    rw [show k + 1 + i = k + (i + 1) from by omega] at this
    unfold rdyL
    split
    · exact List.mem_cons_of_mem _ this
    · exact this
theorem rdyL_of {L : Nat} : ∀ {os : List Oper} {k i : Nat} {o : Oper}, (i, o) ∈ rdyL L k os → k ≤ i ∧ os[i - k]? = some o ∧ rdyM L i o = true
  | [], _, _, _, h => by simp [rdyL] at h
  | o' :: os, k, i, o, h => by
    unfold rdyL at h
    have rest : (i, o) ∈ rdyL L (k + 1) os → k ≤ i ∧ (o' :: os)[i - k]? = some o ∧ rdyM L i o = true := fun h => by
      obtain ⟨h1, h2, h3⟩ := rdyL_of h
      refine ⟨by omega, ?_, h3⟩
      rw [show i - k = (i - (k + 1)) + 1 from by omega]
      simpa using h2
    split at h
    · rename_i hr
      rcases List.mem_cons.1 h with e | e
      · cases e
        exact ⟨Nat.le_refl _, by simp, hr⟩
      · exact rest e
    · exact rest h
theorem rdyL_none {all : List Oper} {L : Nat} (h : rdyL L 0 all = []) (i : Nat) : rdyAt all L i = false := by
  cases e : rdyAt all L i with
  | false => rfl
  | true =>
    unfold rdyAt at e
    split at e
    · rename_i o ho
      have := rdyL_mem (k := 0) (i := i) ho (by rw [Nat.zero_add]; exact e)
      rw [h] at this
      cases this
    · cases e
theorem pickQ_spec {all : List Oper} {L : Nat} : ∀ {os : List Oper} {k i : Nat} {o : Oper}, pickQ P all L k os = some (i, o) → k ≤ i ∧ os[i - k]? = some o ∧ quietOp P o.op = true ∧ rdyM L i o = true ∧ freeM all L i o 0 all = true
  | [], _, _, _, h => by simp [pickQ] at h
  | o' :: os, k, i, o, h => by
    unfold pickQ at h
    have rest : pickQ P all L (k + 1) os = some (i, o) → k ≤ i ∧ (o' :: os)[i - k]? = some o ∧ quietOp P o.op = true ∧ rdyM L i o = true ∧ freeM all L i o 0 all = true := fun h => by
      obtain ⟨h1, h2, h3⟩ := pickQ_spec h
      refine ⟨by omega, ?_, h3⟩
      rw [show i - k = (i - (k + 1)) + 1 from by omega]
      simpa using h2
    split at h
    · rename_i h1 h2
      split at h
      · rename_i h3
        cases h
        exact ⟨Nat.le_refl _, by simp, h1, h2, h3⟩
      · exact rest h
    · exact rest h
theorem opV_free {t : List Value} {op : Op} {h : Heap} {J : Value → Heap → Prop} (k : opV P t op h J) (hq : quietOp P op = true) (hr : readOp op = false) : opV P t op (fun _ => none) (fun v _ => J v h) := by
  unfold opV at k ⊢
  split at k <;> first
    | exact k
    | (cases hq; done)
    | (cases hr; done)
    | skip
  case _ s d x =>
    cases hu : isUns P s d with
    | true => unfold quietOp at hq; dsimp only at hq; rw [hu] at hq; cases hq
    | false =>
      have hq : convQ P s d = true := by unfold quietOp at hq; dsimp only at hq; rw [hu] at hq; exact hq
      rw [hu] at k
      dsimp only at k ⊢
      unfold convA at k ⊢
      rw [hq] at k ⊢
      exact k
  case _ b args ts =>
    unfold biV at k ⊢
    split at k <;> first
      | (cases hq; done)
      | exact k
theorem ldCells_only (h : Heap) (b : Nat) : ∀ (ss : List Sc) (o n : Nat) (K : List Value → Prop), ldCells ss (h.only b) b o n K = ldCells ss h b o n K
  | [], _, _, _ => rfl
  | s :: ss, o, n, K => by unfold ldCells; simp only [only_cell, ldCells_only h b ss]
theorem ldTy_only {t : TypeId} {h : Heap} {b o : Nat} {K : Value → Prop} (k : ldTy P t h b o K) : ldTy P t (h.only b) b o K := by
  unfold ldTy at *
  simp only [ldCells_only, only_cell]
  exact k
theorem opV_Q {all : List Oper} {i : Nat} {t : List Value} {o : Oper} {h : Heap} {J : Value → Heap → Prop} (k : opV P t o.op h J) (hq : quietOp P o.op = true) (hw : wantT all t o = true) :
    ∃ v, QOp P all i t o h v ∧ J v h := by
  cases hr : readOp o.op with
  | true =>
    cases ha : addrB all i o t with
    | none =>
      obtain ⟨v, e, q⟩ := opV_quiet k hq
      exact ⟨v, .inl ⟨hw, fun w r => e w (by have := r hr; unfold footH at this; rw [ha] at this; exact this)⟩, q⟩
    | some b =>
      have k2 : opV P t o.op (h.only b) fun v _ => J v h := by
        have ha2 := ha
        unfold addrB at ha2
        split at ha2
        · rename_i e a ho
          split at ha2
          · split at ha2
            · rename_i ad hv
              cases ha2
              rw [ho] at k ⊢
              unfold opV at k ⊢
              dsimp only at k ⊢
              rw [hv] at k ⊢
              dsimp only at k ⊢
              obtain ⟨b, o', e1, k3⟩ := withAddr_elim k
              cases e1
              exact ldTy_only k3
            · cases ha2
          · cases ha2
        · cases ha2
      obtain ⟨v, e, q⟩ := opV_quiet k2 hq
      exact ⟨v, .inl ⟨hw, fun w r => e w (by have := r hr; unfold footH at this; rw [ha] at this; exact this)⟩, q⟩
  | false =>
    obtain ⟨v, e, q⟩ := opV_quiet (opV_free k hq hr) hq
    exact ⟨v, .inl ⟨hw, fun w _ => e w (fun _ _ x => by cases x)⟩, q⟩
theorem le_ins {h : Heap} {r : Nat} {o : Obj} (e : h r = none) : h.le (h.ins r o) := fun x y hx => by
  unfold Heap.ins
  rw [if_neg (fun e2 => by rw [e2, e] at hx; cases hx)]
  exact hx
theorem newB_le {h : Heap} {cells : List Value} {T : TypeId} {J : Nat → Heap → Prop} (k : newB h cells T J) : newB h cells T fun r h' => h.le h' ∧ J r h' :=
  fun r hr => ⟨le_ins hr, k r hr⟩
theorem opV_new {t : List Value} {op : Op} {h : Heap} {J : Value → Heap → Prop} (k : opV P t op h J) (hn : newOp op = true) : opV P t op h fun v h' => h.le h' ∧ J v h' := by
  cases op <;> try (cases hn; done)
  case alloc e =>
    unfold opV allocV at *
    dsimp only at *
    split at k
    · exact newB_le k
    · exact k.elim
  case box e x => exact newB_le k
  case buildSlice e n ps =>
    unfold opV bsliceV at *
    dsimp only at *
    repeat' split at k
    all_goals first
      | exact k.elim
      | exact newB_le k
  case makeSlice e l c =>
    unfold opV makeV at *
    dsimp only at *
    repeat' split at k
    all_goals first
      | exact k.elim
      | (exact ⟨k.1, k.2.1, k.2.2.1, k.2.2.2.1, newB_le k.2.2.2.2⟩)
theorem rdyAt_of {all : List Oper} {L i : Nat} {o : Oper} (ho : all[i]? = some o) (hr : rdyM L i o = true) : rdyAt all L i = true := by
  unfold rdyAt; rw [ho]; exact hr
theorem rdyAt_mem {all : List Oper} {L j : Nat} (h : rdyAt all L j = true) : ∃ y, all[j]? = some y ∧ rdyM L j y = true ∧ (j, y) ∈ rdyL L 0 all := by
  unfold rdyAt at h
  split at h
  · rename_i y hy
    have := rdyL_mem (k := 0) (i := j) hy (by rw [Nat.zero_add]; exact h)
    rw [Nat.zero_add] at this
    exact ⟨y, hy, h, this⟩
  · cases h
theorem rdyM_not {L i : Nat} {o : Oper} (h : rdyM L i o = true) : L.testBit i = false := by
  unfold rdyM at h
  split at h
  · cases h
  · assumption
theorem rdyM_after {L i : Nat} {o : Oper} (h : rdyM L i o = true) : afterOk L o.after.toList = true := by
  unfold rdyM at h
  split at h
  · cases h
  · exact h
theorem opV_form {t : List Value} {op : Op} {h : Heap} {J : Value → Heap → Prop} (k : opV P t op h J) (hn : newOp op = true) :
    ∃ obj val, newForm P t op = some (obj, val) ∧ ∀ r, h r = none → J (val r) (h.ins r obj) := by
  cases op <;> try (cases hn; done)
  case alloc e =>
    unfold opV allocV at k
    dsimp only at k
    split at k
    · rename_i z hz
      exact ⟨_, _, by simp only [newForm, hz], k⟩
    · exact k.elim
  case box e x => exact ⟨_, _, rfl, k⟩
  case buildSlice e n ps =>
    unfold opV bsliceV at k
    dsimp only at k
    split at k
    · rename_i e' hu
      split at k
      · rename_i i z hi hz
        split at k
        · rename_i h1 h2
          split at k
          · rename_i cells hc
            exact ⟨_, _, by simp only [newForm, hu, hi, hz, hc], k⟩
          · exact k.elim
        · exact k.elim
      · exact k.elim
    · exact k.elim
  case makeSlice e l c =>
    unfold opV makeV at k
    dsimp only at k
    split at k
    · rename_i _ l' _ c' e' hl hc hu
      split at k
      · rename_i i z hi hz
        split at k
        · rename_i h1
          exact ⟨_, _, by simp only [newForm, hl, hc, hu, hz], k.2.2.2.2⟩
        · exact k.elim
      · exact k.elim
    · exact k.elim
theorem newK_spec {t : List Value} {op : Op} {X : Prop} (k : newK P t op X) : X ∧ ∃ obj val, newForm P t op = some (obj, val) ∧ ∀ h, opV P t op h fun v h' => ∃ r, h r = none ∧ v = val r ∧ h' = h.ins r obj := by
  cases op <;> try (exact k.elim)
  case alloc e =>
    unfold newK at k
    dsimp only at k
    split at k
    · rename_i z hz
      refine ⟨k, .cells z.toArray e (0, 0), fun r => .pointer (some ⟨r, 0, none⟩), by simp only [newForm, hz], fun h => ?_⟩
      simp only [opV, allocV, hz]
      exact fun r hr => ⟨r, hr, rfl, rfl⟩
    · exact k.elim
  case box e x => exact ⟨k, _, _, rfl, fun h r hr => ⟨r, hr, rfl, rfl⟩⟩
  case buildSlice e n ps =>
    unfold newK at k
    dsimp only at k
    split at k
    · rename_i e' hu
      split at k
      · rename_i i z hi hz
        split at k
        · rename_i h1 h2
          split at k
          · rename_i cells hc
            refine ⟨k, .cells cells.toArray e' (0, 0), fun r => .slice (some ⟨r, 0, none⟩) n n, by simp only [newForm, hu, hi, hz, hc], fun h => ?_⟩
            simp only [opV, bsliceV, hu, hi, hz, h1, h2, hc]
            exact fun r hr => ⟨r, hr, rfl, rfl⟩
          · exact k.elim
        · exact k.elim
      · exact k.elim
    · exact k.elim
  case makeSlice e l c =>
    unfold newK at k
    dsimp only at k
    split at k
    · rename_i _ l' _ c' e' hl hc hu
      split at k
      · rename_i i z hi hz
        split at k
        · rename_i h1
          refine ⟨k.2.2.2.2, .cells (repL c'.toNat z).toArray e' (0, 0), fun r => .slice (some ⟨r, 0, none⟩) l'.toNat c'.toNat, by simp only [newForm, hl, hc, hu, hz], fun h => ?_⟩
          simp only [opV, makeV, hl, hc, hu, hi, hz, h1]
          exact ⟨k.1, k.2.1, k.2.2.1, k.2.2.2.1, fun r hr => ⟨r, hr, rfl, rfl⟩⟩
        · exact k.elim
      · exact k.elim
    · exact k.elim
theorem mapP_put {t : List Value} {o y : Oper} {v : Value} (h : dstIn o (looksL y) = false) : ∀ (ps : List (Nat × Operand)), (∀ x ∈ ps, x.2 ∈ y.op.operands) → mapP (putT t o.dst v) ps = mapP t ps
  | [], _ => rfl
  | (i, x) :: ps, hm => by
    unfold mapP
    rw [evO_put h x (hm (i, x) (List.mem_cons_self ..)), mapP_put h ps fun z hz => hm z (List.mem_cons_of_mem _ hz)]
theorem newForm_put {t : List Value} {o y : Oper} {v : Value} (h : dstIn o (looksL y) = false) : newForm P (putT t o.dst v) y.op = newForm P t y.op := by
  have key : ∀ x, x ∈ y.op.operands → evO (putT t o.dst v) x = evO t x := fun x hx => evO_put h x hx
  have keyP : ∀ (ps : List (Nat × Operand)), (∀ x ∈ ps, x.2 ∈ y.op.operands) → mapP (putT t o.dst v) ps = mapP t ps := fun ps hm => mapP_put h ps hm
  cases ho : y.op <;> try rfl
  case box e x => simp only [newForm, key x (by rw [ho]; simp [Op.operands])]
  case buildSlice e n ps =>
    simp only [newForm, keyP ps.toList (fun x hx => by
      rw [ho]
      simp only [Op.operands]
      simp
      exact ⟨x.1, by simpa using hx⟩)]
  case makeSlice e l c =>
    simp only [newForm, key l (by rw [ho]; simp [Op.operands]), key c (by rw [ho]; simp [Op.operands])]
/-- What is done without knowing of a block leaves it. -/
theorem SOp.frame1 {ρ : Operand → Value} {o : Oper} {h : Heap} {K : Value → Heap → Prop} {r : Nat} {obj : Obj} (k : SOp P ρ o h K) (hr : h r = none) :
    SOp P ρ o (h.ins r obj) fun v h'' => ∃ h', K v h' ∧ h' r = none ∧ h'' = h'.ins r obj := by
  intro w rw'
  have r0 : Rep h w := rw'.le (le_ins hr)
  have hw : w.heap[r]? = some obj := rw' r obj (by unfold Heap.ins; rw [if_pos rfl])
  have hlt : r < w.heap.size := (Array.getElem?_eq_some_iff.1 hw).1
  have main : ∀ {v : Value} {h' : Heap} {w' : World}, K v h' → Rep h' w' → Fr h w h' w' → ∃ h'', (∃ h', K v h' ∧ h' r = none ∧ h'' = h'.ins r obj) ∧ Rep h'' w' ∧ Fr (h.ins r obj) w h'' w' := by
    intro v h' w' kk r' f
    have hn : h' r = none := f.dom r hlt hr
    refine ⟨h'.ins r obj, ⟨h', kk, hn, rfl⟩, ?_, ?_⟩
    · intro x y hx
      unfold Heap.ins at hx
      by_cases hxr : x = r
      · rw [if_pos hxr] at hx
        rw [hxr, f.keep r hlt hr, hw]; exact hx
      · rw [if_neg hxr] at hx; exact r' _ _ hx
    · refine ⟨f.os, f.tape, f.output, f.size, (f.more (le_ins hr)).keep, fun x hx hxn => ?_⟩
      unfold Heap.ins at hxn ⊢
      by_cases hxr : x = r
      · rw [if_pos hxr] at hxn; cases hxn
      · rw [if_neg hxr] at hxn ⊢
        exact f.dom x hx hxn
  have k1 := k w r0
  unfold resOK at k1 ⊢
  split at k1
  · obtain ⟨h', a, b, c⟩ := k1; exact main a b c
  · obtain ⟨h', a, b, c⟩ := k1; exact main a b c
  · refine k1.mono fun e w'' ⟨v, h', e1, a, b, c⟩ => ?_
    obtain ⟨h'', x, y, z⟩ := main a b c
    exact ⟨v, h'', e1, x, y, z⟩
  · exact k1.elim
theorem ins_le {h h' : Heap} {r : Nat} {obj : Obj} (l : h.le h') : (h.ins r obj).le (h'.ins r obj) := fun x y hx => by
  unfold Heap.ins at hx ⊢
  by_cases hxr : x = r
  · rw [if_pos hxr] at hx ⊢; exact hx
  · rw [if_neg hxr] at hx ⊢; exact l _ _ hx
theorem pickE_spec {all : List Oper} {L : Nat} {l : List (Nat × Oper)} {c : Nat × Oper} {n : Option (Nat × Oper)} (h : pickE all L l = some (c, n)) :
    (n = none ∧ l = [c]) ∨ ∃ y, n = some y ∧ (l = [c, y] ∨ l = [y, c]) ∧ newOp y.2.op = true ∧ y.2.guard = none ∧ apartL all y.2 c.2 = true ∧ (rdyL (setB L y.1) 0 all).length = 1 := by
  unfold pickE at h
  split at h
  · cases h; exact .inl ⟨rfl, rfl⟩
  · rename_i x y
    dsimp only at h
    split at h
    · rename_i z h1 h2 h3 h4
      cases h
      refine .inr ⟨_, rfl, ?_, h1, h2, h3, by rw [h4]; rfl⟩
      split
      · split
        · exact .inl rfl
        · exact .inr rfl
      · exact .inl rfl
    · cases h
  · cases h
theorem opA_new {t : List Value} {o : Oper} {h : Heap} {J : Value → Heap → Prop} (hn : newOp o.op = true) : opA P t o h J = opV P t o.op h J := by
  have hcv : isCallV o.op = none := by cases ho : o.op <;> rw [ho] at hn <;> first | rfl | cases hn
  unfold opA
  rw [hcv]
theorem extC_new {all : List Oper} {o : Oper} {i L : Nat} {t : List Value} {h h' : Heap} {X : Prop} (hn : newOp o.op = true) (x : extC (needL all o i L t) h h' X) : X := by
  unfold needL at x
  rw [hn] at x; exact x

/-- The one order stands for all; with or without one block that lies there ahead of its time. -/
theorem drawA_both {all : List Oper} {J : List Value → Heap → Prop} : ∀ (f L : Nat) (t : List Value) (h : Heap), closed all L → drawA P all J f L t h →
    AnyA P all J f L t h ∧ ∀ (g i : Nat) (o : Oper) (obj : Obj) (val : Nat → Value) (r : Nat), f = g + 1 → all[i]? = some o → newOp o.op = true → o.guard = none → rdyM L i o = true →
      newForm P t o.op = some (obj, val) → h r = none → AnyA P all J g (setB L i) (putT t o.dst (val r)) (h.ins r obj)
  | 0, L, t, h, _, k => by
    refine ⟨?_, fun g i o obj val r e => by omega⟩
    unfold drawA at k
    split at k
    · rename_i hn; exact ⟨rdyL_none hn, k⟩
    · exact k.elim
  | f + 1, L, t, h, hc, k => by
    unfold drawA at k
    split at k
    · -- a quiet one
      rename_i q o hp
      obtain ⟨_, hi, hq, hr, hfree⟩ := pickQ_spec hp
      rw [Nat.sub_zero] at hi
      have hra := rdyAt_of hi hr
      obtain ⟨v, hQ, k1⟩ : ∃ v, QOp P all q t o h v ∧ drawA P all J f (setB L q) (putT t o.dst v) h := by
        refine (guarded_elim k).elim (fun ⟨hw, k⟩ => ?_) (fun ⟨hw, k⟩ => ⟨undef, .inr ⟨hw, rfl⟩, k⟩)
        obtain ⟨v, q, k⟩ := opV_Q (all := all) (i := q) k hq hw
        exact ⟨v, q, k⟩
      have ih := drawA_both f _ _ h (closed_set hc hra) k1
      have hfree' : ∀ j y, all[j]? = some y → j ≠ q → L.testBit j = false → waitsFor q y.after.toList = false → apartL all o y = true := fun j y hj hne hl hwt =>
        freeM_spec (k := 0) hfree j y hj (by omega) (by rw [Nat.zero_add]; exact hl) hwt
      refine ⟨AnyA_first hi f L t h hc hfree' hra hQ ih.1, fun g i y obj val r e hy hn hgu hry hnf hrn => ?_⟩
      have hqi : q ≠ i := by
        rintro rfl
        rw [hi] at hy
        cases hy
        cases ho : o.op <;> rw [ho] at hq hn <;> first | (cases hn; done) | (cases hq; done)
      have hLq : L.testBit q = false := rdyM_not hr
      have hLi : L.testBit i = false := rdyM_not hry
      have hwq : waitsFor q y.after.toList = false := by
        cases e : waitsFor q y.after.toList with
        | false => rfl
        | true => have := waits_not e hLq; rw [rdyM_after hry] at this; cases this
      have hap := hfree' i y hy (Ne.symm hqi) hLi hwq
      obtain ⟨a1, _, _, _, a5, _, _⟩ := apartL_spec hap
      cases g with
      | zero =>
        exfalso
        have : f = 0 := by omega
        subst this
        have h0 := ih.1.1 i
        rw [rdy_mono (rdyAt_of hy hry) (Ne.symm hqi)] at h0
        cases h0
      | succ g =>
        have h2 := ih.2 g i y obj val r (by omega) hy hn hgu (by
          have := rdy_mono (i := q) (rdyAt_of hy hry) (Ne.symm hqi)
          unfold rdyAt at this
          rw [hy] at this
          exact this) (by rw [newForm_put a1]; exact hnf) hrn
        rw [setB_comm, putT_comm a5] at h2
        refine AnyA_first hi g (setB L i) _ _ (closed_set hc (rdyAt_of hy hry)) (fun j z hz hne hl hwt => hfree' j z hz hne ?_ hwt) (rdy_mono hra hqi) (hQ.keep hap fun _ => KeepO.of_le (le_ins hrn)) h2
        by_cases hij : i = j
        · subst hij; exact hLi
        · rw [setB_ne hij] at hl; exact hl
    · split at k
      · rename_i hn
        refine ⟨⟨fun _ => k, fun i hi => ?_⟩, fun g i y obj val r e hy hn2 hgu hry => ?_⟩
        · rw [rdyL_none hn i] at hi; cases hi
        · have := rdyL_none hn i
          rw [rdyAt_of hy hry] at this
          cases this
      · rename_i hnone
        obtain ⟨c, o, n, hp, k, hlate⟩ : ∃ c o n, pickE all L (rdyL L 0 all) = some ((c, o), n) ∧ (guarded all o t
            (fun t => opA P t o h fun v h' => extC (needL all o c L t) h h' (drawA P all J f (setB L c) (putT t o.dst v) h'))
            (fun t => drawA P all J f (setB L c) (putT t o.dst undef) h)) ∧
            ∀ z, n = some z → f ≠ 0 ∧ ∃ obj val, newForm P t z.2.op = some (obj, val) ∧ ∀ h, opV P t z.2.op h fun v h' => ∃ r, h r = none ∧ v = val r ∧ h' = h.ins r obj := by
          split at k
          · rename_i c o hp
            exact ⟨c, o, none, hp, k, fun z e => by cases e⟩
          · rename_i c o z1 y hp
            split at k
            · exact k.elim
            · obtain ⟨k1, k2⟩ := newK_spec k
              exact ⟨c, o, _, hp, k1, fun z e => by cases e; exact ⟨by omega, k2⟩⟩
          · exact k.elim
        have hcm : (c, o) ∈ rdyL L 0 all := by
          rcases pickE_spec hp with ⟨_, e⟩ | ⟨y, _, e | e, _⟩ <;> rw [e] <;> simp
        obtain ⟨_, hi, hr⟩ := rdyL_of hcm
        rw [Nat.sub_zero] at hi
        have hra := rdyAt_of hi hr
        -- what is done at c
        have stepC : StepA P all c t h fun t' h' => KeepC all c L t h h' ∧ drawA P all J f (setB L c) t' h' := by
          unfold StepA
          rw [hi]
          dsimp only
          refine (guarded_elim k).elim (fun ⟨hw, k⟩ => ⟨fun _ => ?_, fun e => (by rw [hw] at e; cases e)⟩) (fun ⟨hw, k⟩ => ⟨fun e => (by rw [hw] at e; cases e), fun _ => ⟨KeepC.of_le h.le_refl, k⟩⟩)
          cases e : newOp o.op with
          | false => exact (opA_SOp k).mono fun v h' x => extC_keep e x
          | true =>
            rw [opA_new e] at k
            have k2 := opV_new k e
            rw [← opA_new e] at k2
            exact (opA_SOp k2).mono fun v h' x => ⟨KeepC.of_le x.1, extC_new e x.2⟩
        -- who else may come up
        have others : ∀ j, rdyAt all L j = true → j = c ∨ ∃ y, n = some (j, y) ∧ all[j]? = some y ∧ rdyM L j y = true := by
          intro j hj
          obtain ⟨y, hy, hry, hm⟩ := rdyAt_mem hj
          rcases pickE_spec hp with ⟨_, e⟩ | ⟨z, e0, e | e, _⟩
          · rw [e] at hm
            simp at hm
            exact .inl hm.1
          · rw [e] at hm
            simp at hm
            rcases hm with hm | hm
            · exact .inl hm.1
            · subst hm; exact .inr ⟨y, e0, hy, hry⟩
          · rw [e] at hm
            simp at hm
            rcases hm with hm | hm
            · subst hm; exact .inr ⟨y, e0, hy, hry⟩
            · exact .inl hm.1
        have second : ∀ (g i : Nat) (y : Oper) (obj : Obj) (val : Nat → Value) (r : Nat), f + 1 = g + 1 → all[i]? = some y → newOp y.op = true → y.guard = none → rdyM L i y = true →
            newForm P t y.op = some (obj, val) → h r = none → AnyA P all J g (setB L i) (putT t y.dst (val r)) (h.ins r obj) := by
          intro g i y obj val r e hy hn hgu hry hnf hrn
          have e : g = f := by omega
          subst e
          by_cases hic : i = c
          · -- its time has come
            subst hic
            rw [hi] at hy
            cases hy
            have hw : wantT all t o = true := by unfold wantT; rw [hgu]
            rcases guarded_elim k with ⟨_, k⟩ | ⟨hw2, _⟩
            · rw [opA_new hn] at k
              obtain ⟨obj', val', e1, e3⟩ := opV_form k hn
              rw [hnf] at e1
              cases e1
              exact (drawA_both g _ _ _ (closed_set hc hra) (extC_new hn (e3 r hrn))).1
            · rw [hw] at hw2; cases hw2
          · obtain ⟨y', e0, hy', _⟩ := (others i (rdyAt_of hy hry)).resolve_left hic
            rw [hy] at hy'
            cases hy'
            rcases pickE_spec hp with ⟨e1, _⟩ | ⟨z, e1, _, _, _, hap, hone⟩
            · rw [e0] at e1; cases e1
            · rw [e0] at e1
              cases e1
              dsimp only at hap hone
              obtain ⟨a1, a2, a3, a4, a5, a6, a7⟩ := apartL_spec hap
              have hLi := rdyM_not hry
              have hcr : rdyAt all (setB L i) c = true := rdy_mono hra (Ne.symm hic)
              have only : ∀ j, rdyAt all (setB L i) j = true → j = c := by
                intro j hj
                obtain ⟨x, _, _, hm⟩ := rdyAt_mem hj
                obtain ⟨x', _, _, hm'⟩ := rdyAt_mem hcr
                obtain ⟨q, hq⟩ := List.length_eq_one_iff.1 hone
                rw [hq] at hm hm'
                simp at hm hm'
                rw [← hm] at hm'
                exact (congrArg Prod.fst hm').symm
              cases g with
              | zero => exact ((hlate _ e0).1 rfl).elim
              | succ g =>
                refine ⟨fun hno => (by rw [hno c] at hcr; cases hcr), fun j hj => ?_⟩
                have := only j hj
                subst this
                have st := stepC
                unfold StepA at st ⊢
                rw [hi] at st ⊢
                dsimp only at st ⊢
                have eS : ∀ (hh : Heap) (K : Value → Heap → Prop), SOp P (evO (putT t y.dst (val r))) o hh K ↔ SOp P (evO t) o hh K := fun hh K => by
                  unfold SOp; rw [execOp_putL a1 a7]
                rw [wantT_put a2, eS]
                constructor
                · intro hw
                  refine ((st.1 hw).frame1 (obj := obj) hrn).mono fun v h'' x => ?_
                  obtain ⟨h', ⟨x1, x2⟩, x3, rfl⟩ := x
                  have kc : KeepC all j (setB L i) (putT t y.dst (val r)) (h.ins r obj) (h'.ins r obj) := fun i' o' hi' hro hne hst hbj => by
                    have hii : i ≠ i' := by
                      rintro rfl
                      rw [hy] at hi'
                      cases hi'
                      cases hop : y.op <;> rw [hop] at hn hro <;> first | (cases hn; done) | (cases hro; done)
                    have hdone : L.testBit i' = true := by
                      rcases hst with e | e
                      · rw [setB_ne hii] at e; exact e
                      · exact (hne (only i' e)).elim
                    have nb : ((befTab [] all).getD i' 0).testBit i = false := by
                      cases e : ((befTab [] all).getD i' 0).testBit i with
                      | false => rfl
                      | true => rw [bef_le hc hi' (hc i' o' hi' hdone) i e] at hLi; cases hLi
                    have ko := x1 i' o' hi' hro hne (.inl hdone) hbj
                    have ea := addrB_put2 (t := t) (v := val r) (o := o') hy nb
                    unfold KeepO at ko ⊢
                    rw [ea]
                    split
                    · rename_i b eb
                      rw [eb] at ko
                      intro z hz
                      unfold Heap.ins at hz ⊢
                      split
                      · rename_i hbr; rw [if_pos hbr] at hz; exact hz
                      · rename_i hbr; rw [if_neg hbr] at hz; exact ko z hz
                    · rename_i eb
                      rw [eb] at ko
                      exact ins_le ko
                  refine ⟨kc, ?_⟩
                  have h2 := (drawA_both (g + 1) _ _ _ (closed_set hc hra) x2).2 g i y obj val r rfl hy hn hgu (by
                    have := rdy_mono (i := j) (rdyAt_of hy hry) hic
                    unfold rdyAt at this
                    rw [hy] at this
                    exact this) (by rw [newForm_put a3]; exact hnf) x3
                  rw [setB_comm, ← putT_comm a5] at h2
                  exact h2
                · intro hw
                  refine ⟨KeepC.of_le (Heap.le_refl _), ?_⟩
                  have h2 := (drawA_both (g + 1) _ _ _ (closed_set hc hra) (st.2 hw).2).2 g i y obj val r rfl hy hn hgu (by
                    have := rdy_mono (i := j) (rdyAt_of hy hry) hic
                    unfold rdyAt at this
                    rw [hy] at this
                    exact this) (by rw [newForm_put a3]; exact hnf) hrn
                  rw [setB_comm, ← putT_comm a5] at h2
                  exact h2
        refine ⟨⟨fun hno => (by rw [hno c] at hra; cases hra), fun j hj => ?_⟩, second⟩
        rcases others j hj with rfl | ⟨y, e0, hy, hry⟩
        · exact stepC.mono fun t' h' x => ⟨x.1, (drawA_both f _ _ h' (closed_set hc hra) x.2).1⟩
        · rcases pickE_spec hp with ⟨e1, _⟩ | ⟨z, e1, _, hn, hgu, _, _⟩
          · rw [e0] at e1; cases e1
          · rw [e0] at e1
            cases e1
            dsimp only at hn hgu
            unfold StepA
            rw [hy]
            dsimp only
            have hw : wantT all t y = true := by unfold wantT; rw [hgu]
            refine ⟨fun _ => ?_, fun e => by rw [hw] at e; cases e⟩
            obtain ⟨_, obj, val, hnf, hop⟩ := hlate _ e0
            have hop' := hop h
            rw [← opA_new hn] at hop'
            refine (opA_SOp hop').mono fun v h' x => ?_
            obtain ⟨r, hrn, rfl, rfl⟩ := x
            exact ⟨KeepC.of_le (le_ins hrn), second f j y obj val r rfl hy hn hgu hry hnf hrn⟩
theorem drawA_sound {all : List Oper} {J : List Value → Heap → Prop} (f L : Nat) (t : List Value) (h : Heap) (hc : closed all L) (k : drawA P all J f L t h) : AnyA P all J f L t h :=
  (drawA_both f L t h hc k).1

/-- the same, laid down at once -/
def drawF (P : Program) (all : List Oper) (J : List Value → Heap → Prop) : Nat → Nat → List Value → Heap → Prop
  | 0, L, t, h => match rdyL L 0 all with
    | [] => J t h
    | _ => False
  | f + 1, L, t, h => match pickQ P all L 0 all with
    | some (i, o) => fcN (setB L i) fun L' => guardF all o t
        (fun t => opV P t o.op h fun v _ => fcP t o.dst v fun t' => drawF P all J f L' t' h)
        (fun t => fcP t o.dst undef fun t' => drawF P all J f L' t' h)
    | none => match rdyL L 0 all with
      | [] => J t h
      | l => match pickE all L l with
        | some ((i, o), none) => fcN (setB L i) fun L' => guardF all o t
            (fun t => opA P t o h fun v h' => extC (needL all o i L t) h h' (fcP t o.dst v fun t' => drawF P all J f L' t' h'))
            (fun t => fcP t o.dst undef fun t' => drawF P all J f L' t' h)
        | some ((i, o), some (_, y)) => match f with
          | 0 => False
          | f + 1 => newK P t y.op (fcN (setB L i) fun L' => guardF all o t
            (fun t => opA P t o h fun v h' => extC (needL all o i L t) h h' (fcP t o.dst v fun t' => drawF P all J (f + 1) L' t' h'))
            (fun t => fcP t o.dst undef fun t' => drawF P all J (f + 1) L' t' h))
        | none => False
theorem drawF_eq (P : Program) (all : List Oper) (J : List Value → Heap → Prop) : ∀ (f L : Nat) (t : List Value) (h : Heap), drawF P all J f L t h = drawA P all J f L t h
  | 0, _, _, _ => rfl
  | f + 1, L, t, h => by
    unfold drawF drawA
    cases f with
    | zero => simp only [guardF_eq, fcP_eq, fcN_eq, drawF_eq P all J 0]
    | succ f => simp only [guardF_eq, fcP_eq, fcN_eq, drawF_eq P all J (f + 1)]
end Go.Sy
