/- Building, new memory, slices and lengths, read over partial heaps; and that it is sound. -/
import Derived.Test.YtghdadniddoboaaFwEv
import Derived.Laws.Tables
namespace Go.Sy

/-- What the model's word does to all that h knows. -/
def ssp (P : Program) {α : Type} (s : Sem α) (h : Heap) (Q : α → Heap → Prop) : Prop :=
  ∀ w, Rep h w → ∃ a h' w', s.run P w = .ok a w' ∧ Q a h' ∧ Rep h' w' ∧ Fr h w h' w'
theorem ssp_of_swp {P : Program} {q : Bool} {α : Type} {s : Sem α} {h : Heap} {Q : α → Heap → Prop} (k : swp P q s h Q) : ssp P s h Q :=
  fun w r => swp_sound s h Q w k r
theorem ssp_of_run {P : Program} {α : Type} {s : Sem α} {h : Heap} {Q : α → Heap → Prop} {a : α} (e : ∀ w, s.run P w = .ok a w) (q : Q a h) : ssp P s h Q :=
  fun w r => ⟨a, h, w, e w, q, r, Fr.refl _ _⟩
theorem ssp_bind {P : Program} {α β : Type} {s : Sem α} {f : α → Sem β} {h : Heap} {Q : β → Heap → Prop} (k : ssp P s h fun a h' => ssp P (f a) h' Q) : ssp P (s >>= f) h Q :=
  fun w r => by
    obtain ⟨a, h1, w1, e1, k1, r1, f1⟩ := k w r
    obtain ⟨b, h2, w2, e2, k2, r2, f2⟩ := k1 w1 r1
    exact ⟨b, h2, w2, by rw [Sem.run_bind, e1]; exact e2, k2, r2, f1.trans f2⟩
theorem ssp_pure {P : Program} {α : Type} {a : α} {h : Heap} {Q : α → Heap → Prop} (qq : Q a h) : ssp P (pure a) h Q := ssp_of_swp (q := false) qq

/-! ### build -/
def fillL (pl : List (Nat × Nat)) : List Value → List (Nat × Value) → Option (List Value)
  | cells, [] => some cells
  | cells, (i, v) :: rest => match pl[i]? with
    | none => none
    | some (off, sz) => match Nat.beq (cellsL v).length sz, Nat.ble (off + (cellsL v).length) cells.length with
      | true, true => fillL pl (setL cells off (cellsL v)) rest
      | _, _ => none
theorem foldl_setL : ∀ (vs : List Value) (off k : Nat) (cells : Array Value),
    (vs.zipIdx k).foldl (fun cs (x : Value × Nat) => cs.setIfInBounds (off + x.2) x.1) cells = (setL cells.toList (off + k) vs).toArray
  | [], _, _, _ => by simp [setL]
  | v :: vs, off, k, cells => by
    rw [List.zipIdx_cons, List.foldl_cons, foldl_setL vs off (k + 1)]
    simp only [setL, setT_eq, Array.toList_setIfInBounds, Nat.add_assoc]
theorem fill_eq {pl : List (Nat × Nat)} (place : Nat → Option (Nat × Nat)) (hp : ∀ i x, pl[i]? = some x → place i = some x) : ∀ (parts : List (Nat × Value)) (cells out : List Value), fillL pl cells parts = some out →
    Instr.fill place cells.toArray parts = some out.toArray
  | [], cells, out, h => by cases h; rfl
  | (i, v) :: rest, cells, out, h => by
    unfold fillL at h
    split at h
    · cases h
    · rename_i off sz hpl
      split at h
      · rename_i h1 h2
        have h1 := Nat.eq_of_beq_eq_true h1
        have h2 := Nat.le_of_ble_eq_true h2
        have hsz : v.cells.size = (cellsL v).length := by rw [← cellsL_eq]; simp
        unfold Instr.fill
        simp only [hp i _ hpl]
        rw [if_neg (by simp only [hsz, h1, List.size_toArray]; simp; omega)]
        have : (v.cells.zipIdx.foldl (fun cs (x : Value × Nat) => cs.setIfInBounds (off + x.2) x.1) cells.toArray) = (setL cells off (cellsL v)).toArray := by
          have := foldl_setL (cellsL v) off 0 cells.toArray
          rw [← cellsL_eq] at this ⊢
          rw [← Array.foldl_toList, Array.toList_zipIdx]
          simpa using this
        rw [this]
        exact fill_eq place hp rest _ out h
      · cases h
def zerosOf (P : Program) (t : TypeId) : Option (List Value) := match P.info? t with
  | some i => match i.zero with
    | some z => some (cellsL z)
    | none => none
  | none => none
def placesOf (P : Program) : List Field → List (Nat × Nat)
  | [] => []
  | f :: fs => (f.offset, P.cellsOf f.type) :: placesOf P fs
def infosOf (P : Program) : List Field → Bool
  | [] => true
  | f :: fs => match (P.info? f.type).isSome with
    | true => infosOf P fs
    | false => false
def rangePl (size : Nat) : Nat → Nat → List (Nat × Nat)
  | _, 0 => []
  | i, n + 1 => (i * size, size) :: rangePl size (i + 1) n
theorem rangePl_get (size : Nat) : ∀ (n i j : Nat) (x : Nat × Nat), (rangePl size i n)[j]? = some x → x = ((i + j) * size, size)
  | 0, _, _, _, h => by simp [rangePl] at h
  | n + 1, i, 0, x, h => by simp [rangePl] at h; rw [← h]; simp
  | n + 1, i, j + 1, x, h => by
    have := rangePl_get size n (i + 1) j x (by simpa [rangePl] using h)
    rw [this, show i + 1 + j = i + (j + 1) from by omega]
theorem places_eq {P : Program} : ∀ (fs : List Field), infosOf P fs = true → fs.mapM (fun f => (P.info? f.type).map fun i => (f.offset, i.size)) = some (placesOf P fs)
  | [], _ => rfl
  | f :: fs, h => by
    unfold infosOf at h
    split at h
    · rename_i hi
      obtain ⟨i, hi⟩ := Option.isSome_iff_exists.1 hi
      rw [List.mapM_cons, places_eq fs h, hi]
      simp [placesOf, Program.cellsOf, hi]
    · cases h
def builtL (P : Program) (t : TypeId) (parts : List (Nat × Value)) : Option (List Value) := match zerosOf P t, P.underlying t with
  | some z, some (.struct fs) => match infosOf P fs.toList with
    | true => fillL (placesOf P fs.toList) z parts
    | false => none
  | some z, some (.array n e) => match (P.info? e).isSome with
    | true => fillL (rangePl (P.cellsOf e) 0 n) z parts
    | false => none
  | _, _ => none
theorem cellsL_toArray (v : Value) : (cellsL v).toArray = v.cells := by rw [← cellsL_eq]
theorem builtL_eq {P : Program} {t : TypeId} {parts : List (Nat × Value)} {out : List Value} (h : builtL P t parts = some out) : P.built t parts = some out.toArray := by
  unfold builtL zerosOf at h
  unfold Program.built
  cases hi : P.info? t with
  | none => rw [hi] at h; cases h
  | some it =>
    rw [hi] at h
    dsimp only at h
    cases hz : it.zero with
    | none => rw [hz] at h; cases h
    | some z =>
      rw [hz] at h
      dsimp only at h
      cases hu : P.underlying t with
      | none => rw [hu] at h; cases h
      | some d =>
        rw [hu] at h
        cases d <;> try (cases h; done)
        case struct fs =>
          dsimp only at h ⊢
          split at h
          · rename_i hinf
            rw [hz]
            simp only [places_eq _ hinf]
            rw [← cellsL_toArray]
            exact fill_eq _ (fun i x hx => by simpa using hx) _ _ _ h
          · cases h
        case array n e =>
          dsimp only at h ⊢
          split at h
          · rename_i he
            obtain ⟨ie, hie⟩ := Option.isSome_iff_exists.1 he
            rw [hz, hie]
            dsimp only
            rw [← cellsL_toArray]
            refine fill_eq _ (fun i x hx => ?_) _ _ _ h
            have := rangePl_get _ _ _ _ _ hx
            rw [this]
            simp [Program.cellsOf, hie]
          · cases h

/-! ### new memory -/
def newB (h : Heap) (cells : List Value) (t : TypeId) (J : Nat → Heap → Prop) : Prop := ∀ r, h r = none → J r (h.ins r (.cells cells.toArray t (0, 0)))
def allocV (P : Program) (t : TypeId) (h : Heap) (J : Value → Heap → Prop) : Prop := match zerosOf P t with
  | some z => newB h z t fun r h' => J (.pointer (some ⟨r, 0, none⟩)) h'
  | none => False
theorem allocV_sound {P : Program} {t : TypeId} {h : Heap} {J : Value → Heap → Prop} (k : allocV P t h J) : swp P false (Instr.alloc t true (.tuple #[])) h J := by
  unfold allocV zerosOf at k
  cases hi : P.info? t with
  | none => rw [hi] at k; exact k.elim
  | some i =>
    rw [hi] at k
    dsimp only at k
    cases hz : i.zero with
    | none => rw [hz] at k; exact k.elim
    | some z =>
      rw [hz] at k
      unfold Instr.alloc
      rw [swp_bind', swp_zeroValue hi hz]
      refine ⟨rfl, fun r hr => ?_⟩
      have := k r hr
      rw [cellsL_toArray] at this
      exact this
theorem boxV_sound {P : Program} {t : TypeId} {v : Value} {h : Heap} {J : Value → Heap → Prop} (k : newB h (cellsL v) t fun r h' => J (.pointer (some ⟨r, 0, none⟩)) h') :
    swp P false (Instr.box t v) h J := by
  refine ⟨rfl, fun r hr => ?_⟩
  have := k r hr
  rw [cellsL_toArray] at this
  exact this
/-- n times a row. -/
def repL : Nat → List Value → List Value
  | 0, _ => []
  | n + 1, z => z ++ repL n z
theorem repL_length (z : List Value) : ∀ n, (repL n z).length = n * z.length
  | 0 => by simp [repL]
  | n + 1 => by rw [repL, List.length_append, repL_length z n, Nat.succ_mul]; omega
theorem repL_get (z : List Value) : ∀ (n i : Nat), i < n * z.length → (repL n z)[i]? = z[i % z.length]?
  | 0, i, h => by simp at h
  | n + 1, i, h => by
    rw [repL]
    by_cases hi : i < z.length
    · rw [List.getElem?_append_left hi, Nat.mod_eq_of_lt hi]
    · rw [List.getElem?_append_right (by omega), repL_get z n (i - z.length) (by rw [Nat.succ_mul] at h; omega)]
      congr 1
      conv => rhs; rw [show i = (i - z.length) + z.length from by omega, Nat.add_mod_right]
theorem repL_eq (z : List Value) (n : Nat) : (Array.range (n * z.length)).map (fun i => z.toArray[i % z.toArray.size]!) = (repL n z).toArray := by
  apply Array.ext
  · simp [repL_length]
  · intro i h1 h2
    simp only [List.size_toArray, repL_length] at h2
    have h0 : 0 < z.length := by
      rcases Nat.eq_zero_or_pos z.length with e | e
      · rw [e] at h2; simp at h2
      · exact e
    have hm : i % z.length < z.length := Nat.mod_lt _ h0
    have h3 := repL_get z n i h2
    rw [List.getElem?_eq_getElem (by rw [repL_length]; exact h2), List.getElem?_eq_getElem hm] at h3
    have h4 := Option.some.inj h3
    simp only [Array.getElem_map, Array.getElem_range, List.size_toArray, List.getElem_toArray]
    rw [h4, getElem!_pos _ _ (by simpa using hm)]
    simp
def makeV (P : Program) (t : TypeId) (l c : Value) (h : Heap) (J : Value → Heap → Prop) : Prop := match l, c, P.underlying t with
  | .int _ l, .int _ c, some (.slice e) => match P.info? e, zerosOf P e with
    | some i, some z => match Nat.beq z.length i.size with
      | true => 0 ≤ l ∧ l ≤ c ∧ c ≤ 281474976710656 ∧ (i.bytes : Int) * c ≤ 281474976710656 ∧ newB h (repL c.toNat z) e fun r h' => J (.slice (some ⟨r, 0, none⟩) l.toNat c.toNat) h'
      | false => False
    | _, _ => False
  | _, _, _ => False
theorem wrap_id {n : Int} (h0 : 0 ≤ n) (h1 : n ≤ 281474976710656) : IntKind.i64.wrap n = n := by
  have e : n % (2 ^ IntKind.i64.bits : Int) = n := Int.emod_eq_of_lt h0 (by show n < 18446744073709551616; omega)
  have d : ¬ ((IntKind.i64.signed && decide (n % (2 ^ IntKind.i64.bits : Int) ≥ (2 ^ (IntKind.i64.bits - 1) : Int))) = true) := by
    rw [e]
    show ¬ ((true && decide (n ≥ 9223372036854775808)) = true)
    simp; omega
  show (if _ then _ else _) = n
  rw [if_neg d, e]
theorem makeV_sound {P : Program} {t : TypeId} {l c : Value} {h : Heap} {J : Value → Heap → Prop} (k : makeV P t l c h J) : swp P false (Instr.makeSlice t l c) h J := by
  unfold makeV at k
  split at k
  · rename_i _ l _ c e hu
    split at k
    · rename_i i z hi hz
      split at k
      · rename_i hl
        have hl := Nat.eq_of_beq_eq_true hl
        obtain ⟨k1, k2, k3, k4, k5⟩ := k
        have w1 := wrap_id k1 (by omega)
        have w2 := wrap_id (Int.le_trans k1 k2) k3
        unfold zerosOf at hz
        rw [hi] at hz
        dsimp only at hz
        cases hzz : i.zero with
        | none => rw [hzz] at hz; cases hz
        | some zv =>
          rw [hzz] at hz
          have hzv : cellsL zv = z := by injection hz
          unfold Instr.makeSlice
          rw [swp_bind', swp_underlying hu]
          simp only [swp_bind', asInt, asIntOf, swp_pure', swp_typeInfo hi, w1, w2]
          rw [if_neg (by simp; omega)]
          have mk : ∀ (zc : Array Value), (if c.toNat * i.size = 0 then zc = #[] else zc = zv.cells) →
              swp P false (do let a ← newRow e ((Array.range (c.toNat * i.size)).map (fun x => zc[x % zc.size]!)); pure (Value.slice (some a) l.toNat c.toNat)) h J := by
            intro zc hzc
            refine ⟨rfl, fun r hr => ?_⟩
            have := k5 r hr
            have hcells : (Array.range (c.toNat * i.size)).map (fun x => zc[x % zc.size]!) = (repL c.toNat z).toArray := by
              by_cases h0 : c.toNat * i.size = 0
              · have : repL c.toNat z = [] := List.length_eq_zero_iff.1 (by rw [repL_length, hl]; exact h0)
                rw [this, h0]; simp
              · rw [if_neg h0] at hzc
                rw [hzc, ← cellsL_toArray, hzv, ← hl]
                exact repL_eq z _
            rw [hcells]; exact this
          have room : ∀ (n : Nat) (Q : Unit → Heap → Prop), Q () h → swp P false (askRoom n) h Q := by
            intro n Q q
            unfold askRoom
            split <;> exact q
          rw [swp_bind']
          refine room _ _ ?_
          rw [swp_bind', swp_sizeOf hi]
          split
          · rename_i h0
            exact mk #[] (by rw [if_pos h0])
          · rename_i h0
            rw [swp_bind', swp_zeroValue hi hzz]
            exact mk zv.cells (by rw [if_neg h0])
      · exact k.elim
    · exact k.elim
  · exact k.elim
def bsliceV (P : Program) (t : TypeId) (len : Nat) (parts : List (Nat × Value)) (h : Heap) (J : Value → Heap → Prop) : Prop := match P.underlying t with
  | some (.slice e) => match P.info? e, zerosOf P e with
    | some i, some z => match Nat.beq z.length i.size, Nat.ble (len * i.size) 16777216 with
      | true, true => match fillL (rangePl i.size 0 len) (repL len z) parts with
        | some cells => newB h cells e fun r h' => J (.slice (some ⟨r, 0, none⟩) len len) h'
        | none => False
      | _, _ => False
    | _, _ => False
  | _ => False
theorem bsliceV_sound {P : Program} {t : TypeId} {len : Nat} {parts : Array (Nat × Value)} {h : Heap} {J : Value → Heap → Prop} (k : bsliceV P t len parts.toList h J) :
    swp P false (Instr.buildSlice t len parts) h J := by
  unfold bsliceV at k
  split at k
  · rename_i e hu
    split at k
    · rename_i i z hi hz
      split at k
      · rename_i hl hb
        have hl := Nat.eq_of_beq_eq_true hl
        have hb := Nat.le_of_ble_eq_true hb
        split at k
        · rename_i cells hc
          unfold zerosOf at hz
          rw [hi] at hz
          dsimp only at hz
          cases hzz : i.zero with
          | none => rw [hzz] at hz; cases hz
          | some zv =>
            rw [hzz] at hz
            have hzv : cellsL zv = z := by injection hz
            unfold Instr.buildSlice
            rw [swp_bind', swp_underlying hu]
            simp only [swp_bind']
            rw [swp_sizeOf hi]
            rw [if_neg (by omega)]
            have mk : ∀ (zc : Array Value), (if len * i.size = 0 then zc = #[] else zc = zv.cells) →
                swp P false (do
                  let some cells := Instr.fill (fun i_1 => some (i_1 * i.size, i.size)) ((Array.range (len * i.size)).map (fun x => zc[x % zc.size]!)) parts.toList
                    | stuck "buildSlice: a part of the wrong size"
                  pure (Value.slice (some (← newRow e cells)) len len)) h J := by
              intro zc hzc
              have hcells : (Array.range (len * i.size)).map (fun x => zc[x % zc.size]!) = (repL len z).toArray := by
                by_cases h0 : len * i.size = 0
                · have : repL len z = [] := List.length_eq_zero_iff.1 (by rw [repL_length, hl]; exact h0)
                  rw [this, h0]; simp
                · rw [if_neg h0] at hzc
                  rw [hzc, ← cellsL_toArray, hzv, ← hl]
                  exact repL_eq z _
              have hf := fill_eq (pl := rangePl i.size 0 len) (fun i_1 => some (i_1 * i.size, i.size)) (fun j x hx => by
                have := rangePl_get _ _ _ _ _ hx
                rw [this]; simp) _ _ _ hc
              rw [hcells, hf]
              exact ⟨rfl, fun r hr => k r hr⟩
            split
            · rename_i h0
              exact mk #[] (by rw [if_pos h0])
            · rename_i h0
              rw [swp_bind', swp_zeroValue hi hzz]
              exact mk zv.cells (by rw [if_neg h0])
        · exact k.elim
      · exact k.elim
    · exact k.elim
  · exact k.elim
end Go.Sy
