/- The operations, read over partial heaps, typed by the program's tables, and that they are sound. -/
import Derived.Test.YtghdadniddoboaaFwBase
namespace Go.Sy

/-! ### values in slots -/
def getT : List Value → Nat → Value
  | [], _ => undef
  | v :: _, 0 => v
  | _ :: t, n + 1 => getT t n
def setT : List Value → Nat → Value → List Value
  | [], _, _ => []
  | _ :: t, 0, v => v :: t
  | u :: t, n + 1, v => u :: setT t n v
def putT (t : List Value) (d : Option Nat) (v : Value) : List Value :=
  match d with
  | some d => setT t d v
  | none => t
def evO (t : List Value) : Operand → Value
  | .tmp i => getT t i
  | .const v => v
  | .global g => .pointer (some ⟨g, 0, none⟩)
  | .func f => .func (.func f) #[] #[]

theorem getT_eq : ∀ (t : List Value) (i : Nat), t.toArray.getD i undef = getT t i
  | [], i => by simp [getT]
  | v :: t, 0 => by simp [getT]
  | v :: t, n + 1 => by
    have := getT_eq t n
    simp [getT, Array.getD] at this ⊢
    exact this
theorem setT_eq : ∀ (t : List Value) (i : Nat) (v : Value), setT t i v = t.set i v
  | [], _, _ => rfl
  | _ :: _, 0, _ => rfl
  | u :: t, n + 1, v => by simp [setT, setT_eq t n v]
theorem evO_eq (t : List Value) (x : Operand) : (Act.mk t.toArray []).eval x = evO t x := by
  cases x with
  | tmp i => exact getT_eq t i
  | const v => rfl
  | global g => rfl
  | func f => rfl
theorem putT_eq (t : List Value) (d : Option Tmp) (v : Value) : (Act.mk t.toArray []).put d v = ⟨(putT t d v).toArray, []⟩ := by
  cases d with
  | none => rfl
  | some d => simp [Act.put, putT, setT_eq]

/-! ### kinds -/
inductive Sc where
  | int (k : IntKind) | bool | str | ptr | sl | map | fn | nili | any
def scOf : TypeDesc → Sc
  | .bool => .bool
  | .int k => .int k
  | .string => .str
  | .pointer _ => .ptr
  | .slice _ => .sl
  | .map _ _ => .map
  | .func _ _ _ => .fn
  | .interface _ => .nili
  | _ => .any
def aggD : TypeDesc → Bool
  | .struct _ => true
  | .array _ _ => true
  | _ => false
def aggT (P : Program) (t : TypeId) : Bool := ((P.underlying t).map aggD).getD false
def rep {α : Type} : Nat → List α → List α
  | 0, _ => []
  | n + 1, l => l ++ rep n l
def scalars (P : Program) : Nat → TypeId → List Sc
  | 0, _ => []
  | d + 1, t => match P.underlying t with
    | some (.struct fs) => fs.toList.flatMap fun f => scalars P d f.type
    | some (.array n e) => rep n (scalars P d e)
    | some x => [scOf x]
    | none => []

/-- A value of a kind. -/
def exSc : Sc → (Value → Prop) → Prop
  | .int k, Q => ∃ n : Int, Q (.int k n)
  | .bool, Q => ∃ b : Bool, Q (.bool b)
  | .str, Q => ∃ s : ByteArray, Q (.string s)
  | .ptr, Q => ∃ a : Option Addr, Q (.pointer a)
  | .sl, Q => ∃ (a : Option Addr) (n m : Nat), Q (.slice a n m)
  | .map, Q => ∃ r : Option Nat, Q (.map r)
  | .fn, Q => ∃ (f : Fn) (x y : Array Value), Q (.func f x y)
  | .nili, Q => Q .nilIface
  | .any, Q => ∃ v : Value, Q v
theorem exSc_elim {s : Sc} {Q : Value → Prop} (h : exSc s Q) : ∃ v, Q v := by
  cases s with
  | int k => exact h.elim fun n q => ⟨_, q⟩
  | bool => exact h.elim fun n q => ⟨_, q⟩
  | str => exact h.elim fun n q => ⟨_, q⟩
  | ptr => exact h.elim fun n q => ⟨_, q⟩
  | sl => obtain ⟨a, n, m, q⟩ := h; exact ⟨_, q⟩
  | map => exact h.elim fun n q => ⟨_, q⟩
  | fn => obtain ⟨a, n, m, q⟩ := h; exact ⟨_, q⟩
  | nili => exact ⟨_, h⟩
  | any => exact h
def exScs : List Sc → (List Value → Prop) → Prop
  | [], Q => Q []
  | s :: ss, Q => exSc s fun v => exScs ss fun vs => Q (v :: vs)
theorem exScs_elim : ∀ {ss : List Sc} {Q : List Value → Prop}, exScs ss Q → ∃ vs, Q vs
  | [], _, h => ⟨_, h⟩
  | _ :: _, _, h => let ⟨_, h1⟩ := exSc_elim h; let ⟨_, h2⟩ := exScs_elim h1; ⟨_, h2⟩
def exTy (P : Program) (t : TypeId) (Q : Value → Prop) : Prop :=
  match aggT P t with
  | true => exScs (scalars P 20 t) fun vs => Q (.agg vs.toArray)
  | false => match P.underlying t with
    | some d => exSc (scOf d) Q
    | none => False
theorem exTy_elim {P : Program} {t : TypeId} {Q : Value → Prop} (h : exTy P t Q) : ∃ v, Q v := by
  unfold exTy at h
  split at h
  · exact (exScs_elim h).elim fun _ q => ⟨_, q⟩
  · split at h
    · exact exSc_elim h
    · exact h.elim
def exTys (P : Program) : List TypeId → (List Value → Prop) → Prop
  | [], Q => Q []
  | t :: ts, Q => exTy P t fun v => exTys P ts fun vs => Q (v :: vs)
theorem exTys_elim {P : Program} : ∀ {ts : List TypeId} {Q : List Value → Prop}, exTys P ts Q → ∃ vs, Q vs
  | [], _, h => ⟨_, h⟩
  | _ :: _, _, h => let ⟨_, h1⟩ := exTy_elim h; let ⟨_, h2⟩ := exTys_elim h1; ⟨_, h2⟩
/-- What a call of a type answers: one value, or a tuple. -/
def exRes (P : Program) (t : TypeId) (Q : Value → Prop) : Prop :=
  match P.underlying t with
  | some (.tuple ts) => exTys P ts.toList fun vs => Q (.tuple vs.toArray)
  | _ => exTy P t Q
theorem exRes_elim {P : Program} {t : TypeId} {Q : Value → Prop} (h : exRes P t Q) : ∃ v, Q v := by
  unfold exRes at h
  split at h
  · exact (exTys_elim h).elim fun _ q => ⟨_, q⟩
  · exact exTy_elim h

/-! ### branches, addresses, cells -/
def Br (b : Bool) (A B : Prop) : Prop := match b with
  | true => A
  | false => B
theorem Br.intro {b : Bool} {A B : Prop} (h1 : b = true → A) (h2 : b = false → B) : Br b A B := by
  cases b
  · exact h2 rfl
  · exact h1 rfl
theorem Br.elim {b : Bool} {A B : Prop} (h : Br b A B) : (b = true ∧ A) ∨ (b = false ∧ B) := by
  cases b
  · exact .inr ⟨rfl, h⟩
  · exact .inl ⟨rfl, h⟩
def withAddr (a : Option Addr) (K : Nat → Nat → Prop) : Prop := match a with
  | some ⟨b, o, none⟩ => K b o
  | _ => False
theorem withAddr_elim {a : Option Addr} {K : Nat → Nat → Prop} (h : withAddr a K) : ∃ b o, a = some ⟨b, o, none⟩ ∧ K b o := by
  unfold withAddr at h
  split at h
  · exact ⟨_, _, rfl, h⟩
  · exact h.elim
theorem withAddr_intro {a : Option Addr} {K : Nat → Nat → Prop} {b o : Nat} (e : a = some ⟨b, o, none⟩) (h : K b o) : withAddr a K := by
  subst e; exact h

def Heap.cell (h : Heap) (b o : Nat) : Option Value := match h b with
  | some (.cells c _ _) => c[o]?
  | _ => none
theorem cellA_none (h : Heap) (b o : Nat) : h.cellA ⟨b, o, none⟩ = h.cell b o := by
  unfold Heap.cellA Heap.cell
  cases h b with
  | none => rfl
  | some x => cases x <;> rfl
def addo (o i : Nat) : Nat := match Nat.beq i 0 with
  | true => o
  | false => o + i
theorem addo_eq (o i : Nat) : addo o i = o + i := by
  unfold addo
  split
  · rename_i h; have := Nat.eq_of_beq_eq_true h; omega
  · rfl
theorem Addr.add_none (b o n : Nat) : (⟨b, o, none⟩ : Addr).add n = ⟨b, o + n, none⟩ := by
  unfold Addr.add
  split
  · subst_vars; rfl
  · rfl

def ldCells : List Sc → Heap → Nat → Nat → Nat → (List Value → Prop) → Prop
  | [], _, _, _, _, K => K []
  | s :: ss, h, b, o, i, K => exSc s fun v => h.cell b (addo o i) = some v ∧ ldCells ss h b o (i + 1) fun vs => K (v :: vs)
theorem ldCells_elim : ∀ {ss : List Sc} {h : Heap} {b o i : Nat} {K : List Value → Prop}, ldCells ss h b o i K →
    ∃ vs, vs.length = ss.length ∧ (∀ j, j < vs.length → h.cell b (o + (i + j)) = vs[j]?) ∧ K vs
  | [], _, _, _, _, _, k => ⟨[], rfl, fun j hj => by simp at hj, k⟩
  | s :: ss, h, b, o, i, K, k => by
    obtain ⟨v, hv, k1⟩ := exSc_elim k
    obtain ⟨vs, hl, hc, hk⟩ := ldCells_elim k1
    refine ⟨v :: vs, by simp [hl], fun j hj => ?_, hk⟩
    cases j with
    | zero => rw [addo_eq] at hv; simpa using hv
    | succ j =>
      have := hc j (by simpa using hj)
      rw [show o + (i + (j + 1)) = o + (i + 1 + j) from by omega]
      simpa using this

/-! ### the handler at the model's words -/
section
variable {P : Program} {q : Bool}
theorem swp_bind' {α β : Type} (s : Sem α) (f : α → Sem β) (h : Heap) (Q : β → Heap → Prop) :
    swp P q (s >>= f) h Q ↔ swp P q s h (fun a h' => swp P q (f a) h' Q) := swp_bind s f Q h
theorem swp_pure' {α : Type} (a : α) (h : Heap) (Q : α → Heap → Prop) : swp P q (pure a) h Q ↔ Q a h := Iff.rfl
theorem swp_underlying {t : TypeId} {d : TypeDesc} (e : P.underlying t = some d) {Q : TypeDesc → Heap → Prop} {h : Heap} :
    swp P q (underlying t) h Q ↔ Q d h := by
  show swp P q (match P.underlying t with | some d => pure d | none => stuck "no such type") h Q ↔ _
  rw [e]; exact Iff.rfl
theorem underlying_info {t : TypeId} {d : TypeDesc} (e : P.underlying t = some d) : ∃ i, P.info? t = some i := by
  unfold Program.underlying at e
  cases hi : P.info? t with
  | none => rw [hi] at e; cases e
  | some i => exact ⟨i, rfl⟩
theorem swp_typeInfo {t : TypeId} {i : TypeInfo} (e : P.info? t = some i) {Q : TypeInfo → Heap → Prop} {h : Heap} :
    swp P q (typeInfo t) h Q ↔ Q i h := by
  show swp P q (match P.info? t with | some i => pure i | none => stuck "no such type") h Q ↔ _
  rw [e]; exact Iff.rfl
theorem swp_sizeOf {t : TypeId} {i : TypeInfo} (e : P.info? t = some i) {Q : Nat → Heap → Prop} {h : Heap} :
    swp P q (sizeOf t) h Q ↔ Q i.size h := by
  unfold sizeOf
  rw [swp_bind', swp_typeInfo e]; exact Iff.rfl
theorem swp_isAgg {t : TypeId} {d : TypeDesc} (e : P.underlying t = some d) {Q : Bool → Heap → Prop} {h : Heap} :
    swp P q (isAgg t) h Q ↔ Q (aggD d) h := by
  unfold isAgg
  rw [swp_bind', swp_underlying e]
  cases d <;> exact Iff.rfl
theorem swp_zeroValue {t : TypeId} {i : TypeInfo} {z : Value} (e : P.info? t = some i) (hz : i.zero = some z) {Q : Value → Heap → Prop} {h : Heap} :
    swp P q (zeroValue t) h Q ↔ Q z h := by
  unfold zeroValue
  rw [swp_bind', swp_typeInfo e, hz]; exact Iff.rfl
theorem swp_load {a : Addr} {h : Heap} {Q : Value → Heap → Prop} : swp P q (load a) h Q ↔ ∃ v, h.cellA a = some v ∧ Q v h := Iff.rfl

theorem swp_loadCellsFrom {b o : Nat} {h : Heap} {Q : Array Value → Heap → Prop} : ∀ (n i : Nat) (acc : Array Value) (vs : List Value),
    vs.length = n → (∀ j, j < n → h.cell b (o + (i + j)) = vs[j]?) → Q (acc ++ vs.toArray) h → swp P q (loadCellsFrom ⟨b, o, none⟩ i n acc) h Q
  | 0, i, acc, vs, hl, _, q => by
    have : vs = [] := List.length_eq_zero_iff.1 hl
    subst this
    simpa [loadCellsFrom, swp_pure'] using q
  | n + 1, i, acc, vs, hl, hc, q => by
    cases vs with
    | nil => simp at hl
    | cons v vs =>
      simp only [loadCellsFrom]
      rw [swp_bind', swp_load]
      refine ⟨v, ?_, swp_loadCellsFrom n (i + 1) (acc.push v) vs (by simpa using hl) (fun j hj => ?_) (by simpa using q)⟩
      · rw [Addr.add_none, cellA_none]
        have := hc 0 (by omega)
        simpa using this
      · have := hc (j + 1) (by omega)
        rw [show o + (i + 1 + j) = o + (i + (j + 1)) from by omega]
        simpa using this
end

/-- A load of a type, at an address. -/
def ldTy (P : Program) (t : TypeId) (h : Heap) (b o : Nat) (K : Value → Prop) : Prop :=
  match aggT P t with
  | true => match Nat.beq (scalars P 20 t).length (P.cellsOf t) with
    | true => ldCells (scalars P 20 t) h b o 0 fun vs => K (.agg vs.toArray)
    | false => False
  | false => match P.underlying t with
    | some d => exSc (scOf d) fun v => h.cell b o = some v ∧ K v
    | none => False
theorem ldTy_sound {P : Program} {q : Bool} {t : TypeId} {h : Heap} {b o : Nat} {K : Value → Prop} (k : ldTy P t h b o K) :
    swp P q (loadVar t ⟨b, o, none⟩) h (fun v h' => h' = h ∧ K v) := by
  unfold ldTy at k
  unfold loadVar
  rw [swp_bind']
  split at k
  · rename_i ha
    split at k
    · rename_i hl
      have hl := Nat.eq_of_beq_eq_true hl
      have hu : ∃ d, P.underlying t = some d ∧ aggD d = true := by
        unfold aggT at ha
        cases e : P.underlying t with
        | none => rw [e] at ha; cases ha
        | some d => rw [e] at ha; exact ⟨d, rfl, ha⟩
      obtain ⟨d, hd, hag⟩ := hu
      obtain ⟨i, hi⟩ := underlying_info hd
      rw [swp_isAgg hd, hag, if_pos rfl, swp_bind', swp_sizeOf hi, swp_bind']
      obtain ⟨vs, h1, h2, h3⟩ := ldCells_elim k
      have hsz : i.size = vs.length := by
        rw [h1, hl]; unfold Program.cellsOf; rw [hi]; rfl
      unfold loadCells
      rw [hsz]
      refine swp_loadCellsFrom _ 0 #[] vs rfl (fun j hj => h2 j hj) ?_
      simpa [swp_pure'] using h3
    · exact k.elim
  · rename_i ha
    split at k
    · rename_i d hd
      have hag : aggD d = false := by unfold aggT at ha; rw [hd] at ha; exact ha
      rw [swp_isAgg hd, hag]
      simp only [Bool.false_eq_true, if_false]
      obtain ⟨v, hv, kv⟩ := exSc_elim k
      exact ⟨v, by rw [cellA_none]; exact hv, rfl, kv⟩
    · exact k.elim

/-! ### stores -/
def setL : List Value → Nat → List Value → List Value
  | c, _, [] => c
  | c, i, v :: vs => setL (setT c i v) (i + 1) vs
def Heap.setN (h : Heap) (b o : Nat) (vs : List Value) : Heap := fun x => match Nat.beq x b with
  | true => match h b with
    | some (.cells c T f) => some (.cells (setL c.toList o vs).toArray T f)
    | y => y
  | false => h x
def Heap.canSt (h : Heap) (b o n : Nat) : Prop := ∃ c T, h b = some (.cells c T (0, 0)) ∧ o + n ≤ c.size
def cellsL : Value → List Value
  | .agg cs => cs.toList
  | v => [v]
theorem cellsL_eq (v : Value) : v.cells.toList = cellsL v := by cases v <;> rfl
def allCells : List Value → Bool
  | [] => true
  | v :: vs => match isCellV v with
    | true => allCells vs
    | false => false
theorem allCells_cons {v : Value} {vs : List Value} (h : allCells (v :: vs) = true) : isCellV v = true ∧ allCells vs = true := by
  unfold allCells at h
  split at h
  · exact ⟨‹_›, h⟩
  · cases h

theorem setL_length : ∀ (vs c : List Value) (i : Nat), (setL c i vs).length = c.length
  | [], _, _ => rfl
  | v :: vs, c, i => by rw [setL, setL_length vs, setT_eq]; simp
theorem setA_setN {h : Heap} {b o : Nat} {v : Value} {vs : List Value} {c : Array Value} {T : TypeId} (hb : h b = some (.cells c T (0, 0))) :
    (h.setA ⟨b, o, none⟩ v).setN b (o + 1) vs = h.setN b o (v :: vs) := by
  funext x
  unfold Heap.setN Heap.setA
  cases hx : Nat.beq x b with
  | true =>
    simp only [if_true, hb, Option.map_some, setObjCell, Option.isSome_none, Bool.false_eq_true, if_false, setL, setT_eq]
    simp
  | false =>
    have : x ≠ b := fun e => by rw [e, Nat.beq_refl] at hx; cases hx
    simp only [this, if_false]
theorem swp_storeCells {P : Program} {b o : Nat} {Q : Unit → Heap → Prop} : ∀ (vs : List Value) (i : Nat) (h : Heap), allCells vs = true →
    h.canSt b (o + i) vs.length → Q () (h.setN b (o + i) vs) → swp P false (storeCells ⟨b, o, none⟩ vs i) h Q
  | [], i, h, _, _, q => by
    have : h.setN b (o + i) [] = h := by
      funext x
      unfold Heap.setN
      split
      · rename_i hx
        have := Nat.eq_of_beq_eq_true hx
        subst this
        split <;> simp_all [setL]
      · rfl
    rw [this] at q
    exact q
  | v :: vs, i, h, ha, hc, q => by
    obtain ⟨c, T, hb, hl⟩ := hc
    obtain ⟨h1, h2⟩ := allCells_cons ha
    simp only [List.length_cons] at hl
    show swp P false (storeCells ⟨b, o, none⟩ (v :: vs) i) h Q
    simp only [storeCells]
    rw [swp_bind', Addr.add_none]
    refine ⟨rfl, h1, ?_, ?_, ?_⟩
    · rw [cellA_none]
      unfold Heap.cell
      rw [hb]
      exact ⟨_, Array.getElem?_eq_getElem (by omega)⟩
    · unfold Heap.frozenA
      rw [hb]
      simp
    · refine swp_storeCells vs (i + 1) _ h2 ?_ ?_
      · refine ⟨c.setIfInBounds (o + i) v, T, ?_, by simp; omega⟩
        unfold Heap.setA
        simp [hb, setObjCell]
      · rw [show o + (i + 1) = o + i + 1 from by omega, setA_setN hb]
        exact q
def stTy (P : Program) (t : TypeId) (h : Heap) (b o : Nat) (v : Value) (K : Heap → Prop) : Prop :=
  match Nat.beq (cellsL v).length (P.cellsOf t), allCells (cellsL v), (P.info? t).isSome with
  | true, true, true => h.canSt b o (P.cellsOf t) ∧ K (h.setN b o (cellsL v))
  | _, _, _ => False
theorem stTy_sound {P : Program} {t : TypeId} {h : Heap} {b o : Nat} {v : Value} {K : Heap → Prop} (k : stTy P t h b o v K) :
    swp P false (storeVar t ⟨b, o, none⟩ v) h (fun _ h' => K h') := by
  unfold stTy at k
  split at k
  · rename_i h1 h2 h3
    have h1 := Nat.eq_of_beq_eq_true h1
    obtain ⟨i, hi⟩ := Option.isSome_iff_exists.1 h3
    have hsz : P.cellsOf t = i.size := by unfold Program.cellsOf; rw [hi]; rfl
    unfold storeVar
    rw [swp_bind', swp_sizeOf hi]
    have hl : v.cells.size = i.size := by
      rw [← hsz, ← h1, ← cellsL_eq]; simp
    simp only [hl, ne_eq, not_true_eq_false, if_false]
    rw [cellsL_eq]
    refine swp_storeCells _ 0 h h2 ?_ ?_
    · rw [Nat.add_zero, h1]; exact k.1
    · rw [Nat.add_zero]; exact k.2
  · exact k.elim
end Go.Sy
