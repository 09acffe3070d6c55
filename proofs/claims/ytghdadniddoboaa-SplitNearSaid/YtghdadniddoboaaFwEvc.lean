/- Slices, indexes, fields, appends, conversions: what each does over a partial heap, and that it is sound. -/
import Derived.Test.YtghdadniddoboaaFwEvb
namespace Go.Sy
variable {P : Program} {q : Bool}

/-! ### addresses -/
def faddV (P : Program) (t : TypeId) (x : Value) (f : Nat) (J : Value → Prop) : Prop := match x, P.underlying t with
  | .pointer a, some (.struct fs) => match fs.toList[f]? with
    | some fd => match P.info? fd.type, Nat.beq (P.cellsOf fd.type) 0 with
      | some _, false => withAddr a fun b o => J (.pointer (some ⟨b, addo o fd.offset, none⟩))
      | _, _ => False
    | none => False
  | _, _ => False
theorem faddV_sound {t : TypeId} {x : Value} {f : Nat} {J : Value → Prop} {h : Heap} (k : faddV P t x f J) : swp P q (Instr.fieldAt t x f) h (fun v h' => h' = h ∧ J v) := by
  unfold faddV at k
  split at k
  · rename_i a fs hu
    split at k
    · rename_i fd hf
      split at k
      · rename_i i hi hz
        obtain ⟨b, o, rfl, k1⟩ := withAddr_elim k
        clear k
        have k := k1
        clear k1
        have hsz : P.cellsOf fd.type = i.size := by unfold Program.cellsOf; rw [hi]; rfl
        have h0 : i.size ≠ 0 := fun e => by rw [hsz, e] at hz; cases hz
        unfold Instr.fieldAt
        rw [swp_bind', swp_underlying hu]
        have hf' : fs[f]? = some fd := by simpa using hf
        simp only [hf']
        unfold fieldPlace
        simp only [swp_bind', Instr.sureAddr, swp_pure']
        rw [swp_sizeOf hi, if_neg h0]
        simp only [addo_eq] at k
        rw [swp_pure', Addr.add_none]
        exact ⟨rfl, k⟩
      · exact k.elim
    · exact k.elim
  · exact k.elim
def mulo (i n : Nat) : Nat := match Nat.beq n 1 with
  | true => i
  | false => i * n
theorem mulo_eq (i n : Nat) : mulo i n = i * n := by
  unfold mulo
  split
  · rename_i h; rw [Nat.eq_of_beq_eq_true h, Nat.mul_one]
  · rfl
def iaddV (P : Program) (t : TypeId) (x i : Value) (J : Value → Prop) : Prop := match i with
  | .int _ i => match x, P.underlying t with
    | .slice a n _, some (.slice e) => match (P.info? e).isSome with
      | true => 0 ≤ i ∧ i < (n : Int) ∧ withAddr a fun b o => J (.pointer (some ⟨b, o + mulo i.toNat (P.cellsOf e), none⟩))
      | false => False
    | .pointer a, some (.array n e) => match (P.info? e).isSome with
      | true => Br (decide (0 ≤ i)) (Br (decide (i < (n : Int))) (withAddr a fun b o => J (.pointer (some ⟨b, o + mulo i.toNat (P.cellsOf e), none⟩))) False) False
      | false => False
    | _, _ => False
  | _ => False
theorem iaddV_sound {t : TypeId} {x i : Value} {J : Value → Prop} {h : Heap} (k : iaddV P t x i J) : swp P q (Instr.indexAt t x i) h (fun v h' => h' = h ∧ J v) := by
  unfold iaddV at k
  split at k
  · rename_i ik i
    split at k
    · rename_i a n m e hu
      split at k
      · rename_i he
        obtain ⟨ie, hie⟩ := Option.isSome_iff_exists.1 he
        obtain ⟨k1, k2, k3⟩ := k
        obtain ⟨b, o, rfl, k⟩ := withAddr_elim k3
        have hsz : P.cellsOf e = ie.size := by unfold Program.cellsOf; rw [hie]; rfl
        unfold Instr.indexAt
        simp only [swp_bind', asIntOf, swp_pure']
        rw [swp_underlying hu]
        simp only [swp_bind', swp_pure']
        rw [swp_underlying hu]
        simp only [k1, k2, and_self, if_true, swp_bind', swp_pure']
        rw [swp_sizeOf hie]
        rw [mulo_eq, hsz] at k
        exact ⟨rfl, by rw [Addr.add_none]; exact k⟩
      · exact k.elim
    · rename_i a n e hu
      split at k
      · rename_i he
        obtain ⟨ie, hie⟩ := Option.isSome_iff_exists.1 he
        obtain ⟨k1, k'⟩ := k.elim.resolve_right (fun x => x.2)
        obtain ⟨k2, k3⟩ := k'.elim.resolve_right (fun x => x.2)
        clear k k'
        have k1 : 0 ≤ i := of_decide_eq_true k1
        have k2 : i < (n : Int) := of_decide_eq_true k2
        obtain ⟨b, o, rfl, k⟩ := withAddr_elim k3
        clear k3
        have hsz : P.cellsOf e = ie.size := by unfold Program.cellsOf; rw [hie]; rfl
        unfold Instr.indexAt
        simp only [swp_bind', asIntOf, swp_pure']
        rw [swp_underlying hu]
        simp only [swp_bind', Instr.sureAddr, swp_pure']
        rw [swp_underlying hu]
        simp only [k1, k2, and_self, if_true, swp_bind', swp_pure']
        rw [swp_sizeOf hie]
        rw [mulo_eq, hsz] at k
        exact ⟨rfl, by rw [Addr.add_none]; exact k⟩
      · exact k.elim
    · exact k.elim
  · exact k.elim

/-! ### parts of values -/
def subL (l : List Value) (off n : Nat) : List Value := (l.drop off).take n
def partV (P : Program) (t : TypeId) (cs : List Value) (off : Nat) (J : Value → Prop) : Prop := match P.underlying t, P.info? t with
  | some d, some i => match aggD d with
    | true => J (.agg (subL cs off i.size).toArray)
    | false => match cs[off]? with
      | some v => J v
      | none => False
  | _, _ => False
theorem partV_sound {t : TypeId} {cs : Array Value} {off : Nat} {J : Value → Prop} {h : Heap} (k : partV P t cs.toList off J) : swp P q (part t cs off) h (fun v h' => h' = h ∧ J v) := by
  unfold partV at k
  split at k
  · rename_i d i hd hi
    unfold part
    rw [swp_bind', swp_isAgg hd]
    split at k
    · rename_i ha
      rw [ha, if_pos rfl, swp_bind', swp_sizeOf hi]
      refine ⟨rfl, ?_⟩
      have : cs.extract off (off + i.size) = (subL cs.toList off i.size).toArray := by
        apply Array.toList_inj.1
        simp [subL, Array.toList_extract, List.extract_eq_take_drop]
      rw [this]; exact k
    · rename_i ha
      rw [ha]
      simp only [Bool.false_eq_true, if_false]
      split at k
      · rename_i v hv
        have hv' : cs[off]? = some v := by simpa using hv
        rw [hv']
        exact ⟨rfl, k⟩
      · exact k.elim
  · exact k.elim
def fieldV (P : Program) (t : TypeId) (x : Value) (f : Nat) (J : Value → Prop) : Prop := match x, P.underlying t with
  | .agg cs, some (.struct fs) => match fs.toList[f]? with
    | some fd => partV P fd.type cs.toList fd.offset J
    | none => False
  | _, _ => False
theorem fieldV_sound {t : TypeId} {x : Value} {f : Nat} {J : Value → Prop} {h : Heap} (k : fieldV P t x f J) : swp P q (Instr.field t x f) h (fun v h' => h' = h ∧ J v) := by
  unfold fieldV at k
  split at k
  · rename_i cs fs hu
    split at k
    · rename_i fd hf
      unfold Instr.field
      rw [swp_bind', swp_underlying hu]
      have hf' : fs[f]? = some fd := by simpa using hf
      simp only [hf', asAgg, swp_bind', swp_pure']
      exact partV_sound k
    · exact k.elim
  · exact k.elim
def indexV (P : Program) (t : TypeId) (x i : Value) (J : Value → Prop) : Prop := match i with
  | .int _ i => match x, P.underlying t with
    | .string s, some .string => 0 ≤ i ∧ ∃ c : UInt8, s[i.toNat]? = some c ∧ J (.int .u8 (c.toNat : Int))
    | .agg cs, some (.array n e) => match (P.info? e).isSome with
      | true => 0 ≤ i ∧ i < (n : Int) ∧ partV P e cs.toList (mulo i.toNat (P.cellsOf e)) J
      | false => False
    | _, _ => False
  | _ => False
theorem indexV_sound {t : TypeId} {x i : Value} {J : Value → Prop} {h : Heap} (k : indexV P t x i J) : swp P q (Instr.index t x i) h (fun v h' => h' = h ∧ J v) := by
  unfold indexV at k
  split at k
  · rename_i ik i
    split at k
    · rename_i s hu
      obtain ⟨k1, c, hc, k⟩ := k
      unfold Instr.index
      simp only [swp_bind', asIntOf, swp_pure']
      rw [swp_underlying hu]
      simp only [k1, if_true, hc]
      exact ⟨rfl, k⟩
    · rename_i cs n e hu
      split at k
      · rename_i he
        obtain ⟨ie, hie⟩ := Option.isSome_iff_exists.1 he
        obtain ⟨k1, k2, k⟩ := k
        have hsz : P.cellsOf e = ie.size := by unfold Program.cellsOf; rw [hie]; rfl
        unfold Instr.index
        simp only [swp_bind', asIntOf, swp_pure']
        rw [swp_underlying hu]
        simp only [k1, k2, and_self, if_true, swp_bind']
        rw [swp_sizeOf hie]
        rw [mulo_eq, hsz] at k
        exact partV_sound k
      · exact k.elim
    · exact k.elim
  · exact k.elim
def extractV (x : Value) (i : Nat) (J : Value → Prop) : Prop := match x with
  | .tuple vs => match vs.toList[i]? with
    | some v => J v
    | none => False
  | _ => False
theorem extractV_sound {x : Value} {i : Nat} {J : Value → Prop} {h : Heap} (k : extractV x i J) : swp P q (Instr.extract x i) h (fun v h' => h' = h ∧ J v) := by
  unfold extractV at k
  split at k
  · rename_i vs
    split at k
    · rename_i v hv
      have hv' : vs[i]? = some v := by simpa using hv
      unfold Instr.extract
      simp only [hv']
      exact ⟨rfl, k⟩
    · exact k.elim
  · exact k.elim
def unV (op : UnOp) (x : Value) (J : Value → Prop) : Prop := match op, x with
  | .neg, .int k n => J (.int k (k.wrap (0 - n)))
  | .not, .bool b => J (.bool (!b))
  | .xor, .int k n => J (.int k (k.wrap ((BitVec.ofInt k.bits (match k.signed with | true => -1 | false => k.max) ^^^ BitVec.ofInt k.bits n).toNat : Int)))
  | _, _ => False
theorem unV_sound {op : UnOp} {x : Value} {J : Value → Prop} {h : Heap} (k : unV op x J) : swp P q (Op.unary op x) h (fun v h' => h' = h ∧ J v) := by
  unfold unV at k
  split at k
  · exact ⟨rfl, k⟩
  · exact ⟨rfl, k⟩
  · rename_i ik n
    simp only [Op.unary, Op.intBits, swp_pure', true_and]
    cases hs : ik.signed <;> simp only [hs, if_true, Bool.false_eq_true, if_false] at k ⊢ <;> exact k
  · exact k.elim

/-! ### cutting -/
def slAddr (a : Option Addr) (l cap size : Nat) : Option Addr := if cap = l then a else a.map (·.add (l * size))
def sbV (v : Option Value) (dflt : Nat) (most : Nat) (J : Nat → Prop) : Prop := match v with
  | none => J dflt
  | some (.int _ i) => 0 ≤ i ∧ i ≤ (most : Int) ∧ J i.toNat
  | some _ => False
theorem sbV_some {x : Value} {d y : Nat} {c : BoundsCode} {J : Nat → Prop} {h : Heap} (k : sbV (some x) d y J) : swp P q (Instr.sliceBound x y c) h (fun n h' => h' = h ∧ J n) := by
  unfold sbV at k
  split at k
  · contradiction
  · rename_i e
    cases e
    obtain ⟨k1, k2, k⟩ := k
    unfold Instr.sliceBound
    simp only [swp_bind', asIntOf, swp_pure', k1, k2, and_self, if_true, true_and]
    exact k
  · exact k.elim
def bnd (v : Option Value) (d y : Nat) (c : BoundsCode) : Sem Nat := match v with
  | some v => Instr.sliceBound v y c
  | none => pure d
theorem sliceBounds_eq (isS : Bool) (len cap : Nat) (lo hi : Option Value) : Instr.sliceBounds isS len cap lo hi none =
    (bnd hi len cap (if isS then .sliceAcap else .sliceAlen) >>= fun hh => bnd lo 0 hh .sliceB >>= fun l => pure (l, hh, cap)) := by
  unfold Instr.sliceBounds
  cases hi <;> cases lo <;> rfl
theorem bnd_sound {v : Option Value} {d y : Nat} {c : BoundsCode} {J : Nat → Prop} {h : Heap} (k : sbV v d y J) : swp P q (bnd v d y c) h (fun n h' => h' = h ∧ J n) := by
  cases v with
  | none => exact ⟨rfl, k⟩
  | some v => exact sbV_some k
theorem sliceBounds_sound {isS : Bool} {len cap : Nat} {lo hi : Option Value} {J : Nat → Nat → Prop} {h : Heap}
    (k : sbV hi len cap fun hh => sbV lo 0 hh fun l => J l hh) : swp P q (Instr.sliceBounds isS len cap lo hi none) h (fun r h' => h' = h ∧ ∃ l hh, r = (l, hh, cap) ∧ J l hh) := by
  rw [sliceBounds_eq, swp_bind']
  refine swp_mono _ _ _ _ (fun hh h' x => ?_) (bnd_sound k)
  obtain ⟨rfl, k1⟩ := x
  rw [swp_bind']
  refine swp_mono _ _ _ _ (fun l h' x => ?_) (bnd_sound k1)
  obtain ⟨rfl, k2⟩ := x
  exact ⟨rfl, l, hh, rfl, k2⟩
def sliceV (P : Program) (t : TypeId) (x : Value) (lo hi mx : Option Value) (J : Value → Prop) : Prop := match mx, x, P.underlying t with
  | none, .string s, some .string => sbV hi s.size s.size fun hh => sbV lo 0 hh fun l => J (.string (s.extract l hh))
  | none, .slice a len cap, some (.slice e) => match (P.info? e).isSome with
    | true => sbV hi len cap fun hh => match lo with
      | none => J (.slice a hh cap)
      | some _ => sbV lo 0 hh fun l => J (.slice (slAddr a l cap (P.cellsOf e)) (hh - l) (cap - l))
    | false => False
  | none, .pointer a, some (.array n e) => match (P.info? e).isSome with
    | true => withAddr a fun b o => sbV hi n n fun hh => sbV lo 0 hh fun l => J (.slice (slAddr (some ⟨b, o, none⟩) l n (P.cellsOf e)) (hh - l) (n - l))
    | false => False
  | _, _, _ => False
theorem slAddr_zero (a : Option Addr) (cap size : Nat) : slAddr a 0 cap size = a := by
  unfold slAddr
  split
  · rfl
  · cases a <;> simp [Addr.add]
theorem sliceV_sound {t : TypeId} {x : Value} {lo hi mx : Option Value} {J : Value → Prop} {h : Heap} (k : sliceV P t x lo hi mx J) :
    swp P q (Instr.sliceAt t x lo hi mx) h (fun v h' => h' = h ∧ J v) := by
  unfold sliceV at k
  split at k
  · rename_i s hu
    unfold Instr.sliceAt
    rw [swp_bind', swp_underlying hu]
    simp only [Instr.slice]
    rw [swp_bind', swp_underlying hu]
    simp only [Option.isSome_none, Bool.false_eq_true, if_false, swp_bind']
    refine swp_mono _ _ _ _ (fun r h' q => ?_) (sliceBounds_sound k)
    obtain ⟨rfl, l, hh, rfl, q⟩ := q
    exact ⟨rfl, q⟩
  · rename_i a len cap e hu
    split at k
    · rename_i he
      obtain ⟨ie, hie⟩ := Option.isSome_iff_exists.1 he
      have hsz : P.cellsOf e = ie.size := by unfold Program.cellsOf; rw [hie]; rfl
      have k' : sbV hi len cap fun hh => sbV lo 0 hh fun l => J (.slice (slAddr a l cap (P.cellsOf e)) (hh - l) (cap - l)) := by
        cases lo with
        | none => simpa only [sbV, slAddr_zero, Nat.sub_zero] using k
        | some v => exact k
      unfold Instr.sliceAt
      rw [swp_bind', swp_underlying hu]
      simp only [Instr.slice]
      rw [swp_bind', swp_underlying hu]
      simp only [swp_bind']
      refine swp_mono _ _ _ _ (fun r h' q => ?_) (sliceBounds_sound k')
      obtain ⟨rfl, l, hh, rfl, q⟩ := q
      dsimp only
      rw [swp_sizeOf hie, ← hsz]
      exact ⟨rfl, q⟩
    · exact k.elim
  · rename_i a n e hu
    split at k
    · rename_i he
      obtain ⟨ie, hie⟩ := Option.isSome_iff_exists.1 he
      have hsz : P.cellsOf e = ie.size := by unfold Program.cellsOf; rw [hie]; rfl
      obtain ⟨b, o, rfl, k1⟩ := withAddr_elim k
      clear k
      have k := k1
      clear k1
      unfold Instr.sliceAt
      rw [swp_bind', swp_underlying hu]
      simp only [swp_bind', Instr.sureAddr, swp_pure']
      refine swp_mono _ _ _ _ (fun r h' q => ?_) (sliceBounds_sound k)
      obtain ⟨rfl, l, hh, rfl, q⟩ := q
      dsimp only
      rw [swp_sizeOf hie, ← hsz]
      refine ⟨rfl, ?_⟩
      have : (some (if n = l then ({ block := b, off := o, spot := none } : Addr) else Addr.add ⟨b, o, none⟩ (l * P.cellsOf e))) = slAddr (some ⟨b, o, none⟩) l n (P.cellsOf e) := by
        unfold slAddr; split <;> rfl
      rw [this]; exact q
    · exact k.elim
  · exact k.elim

/-! ### append -/
def rdL (h : Heap) (a : Option Addr) (vs : List Value) : Prop := vs = [] ∨ ∃ b o, a = some ⟨b, o, none⟩ ∧ ∀ j, j < vs.length → h.cell b (o + j) = vs[j]?
def stOpt (h : Heap) (a : Option Addr) (off : Nat) (vs : List Value) : Heap := match a with
  | some ad => h.setN ad.block (ad.off + off) vs
  | none => h
/-- 'append', of cells: in place, or anew. -/
def AppA (z : List Value) (t : TypeId) (h : Heap) (base : Option Addr) (len cap n : Nat) (a : Option Addr) (J : Option Addr → Nat → Heap → Prop) : Prop :=
  len + n ≤ 1073741824 ∧ ∃ vs, vs.length = n * z.length ∧ rdL h a vs ∧ allCells vs = true ∧
    ((len + n ≤ cap ∧ (vs = [] ∨ ∃ b o, base = some ⟨b, o, none⟩ ∧ h.canSt b (o + len * z.length) vs.length) ∧
        J base cap (match vs with | [] => h | _ => stOpt h base (len * z.length) vs)) ∨
      (cap < len + n ∧ ∃ old, old.length = len * z.length ∧ rdL h base old ∧
        ∀ cap' r, len + n ≤ cap' → h r = none → J (some ⟨r, 0, none⟩) cap' (h.ins r (.cells (old ++ vs ++ repL (cap' - (len + n)) z).toArray t (0, 0)))))
def appV (P : Program) (ts : List TypeId) (xs : List Value) (h : Heap) (J : Value → Heap → Prop) : Prop := match ts, xs with
  | t :: u :: _, .slice base len cap :: .slice a n _ :: _ => match P.underlying t, P.underlying u with
    | some (.slice e), some (.slice _) => match P.info? e, zerosOf P e with
      | some i, some z => match Nat.beq z.length i.size, Nat.ble i.bytes 4096 with
        | true, true => AppA z e h base len cap n a fun base' cap' h' => J (.slice base' (len + n) cap') h'
        | _, _ => False
      | _, _ => False
    | _, _ => False
  | _, _ => False
theorem growBy_le (m : Nat) : ∀ r c, c ≤ 2 * m + 192 → Builtin.growBy m r c ≤ 2 * m + 192
  | 0, c, h => h
  | r + 1, c, h => by
    unfold Builtin.growBy
    split
    · exact h
    · exact growBy_le m r _ (by omega)
theorem next_le {need cap : Nat} (h : cap < need) : Builtin.nextslicecap need cap ≤ 2 * need + 192 := by
  unfold Builtin.nextslicecap
  split
  · omega
  · split
    · omega
    · exact growBy_le need 4 cap (by omega)
theorem swp_loadCells {h : Heap} {a : Option Addr} {vs : List Value} {Q : Array Value → Heap → Prop} (r : rdL h a vs) (size n len cap : Nat) (hl : vs.length = n * size) (qq : Q vs.toArray h) :
    swp P q (Builtin.firstCells size n (.slice a len cap)) h (fun cs h' => (vs = [] → cs = #[]) ∧ Q cs h') ∨ (∃ ad, a = some ad ∧ n * size = 0) := by
  rcases r with r | ⟨b, o, rfl, r⟩
  · subst r
    cases a with
    | none => exact .inl ⟨fun _ => rfl, qq⟩
    | some ad => exact .inr ⟨ad, rfl, by simpa using hl.symm⟩
  · refine .inl ?_
    unfold Builtin.firstCells loadCells
    refine swp_loadCellsFrom _ 0 #[] vs hl (fun j hj => by rw [Nat.zero_add]; exact r j (by omega)) ?_
    exact ⟨fun e => by subst e; rfl, by simpa using qq⟩
theorem swp_first {h : Heap} {a : Option Addr} {vs : List Value} {Q : Array Value → Heap → Prop} (r : rdL h a vs) (size n len cap : Nat) (hl : vs.length = n * size) (qq : Q vs.toArray h) :
    swp P q (Builtin.firstCells size n (.slice a len cap)) h Q := by
  rcases swp_loadCells (P := P) (q := q) r size n len cap hl qq with k | ⟨ad, rfl, h0⟩
  · exact swp_mono _ _ _ _ (fun _ _ x => x.2) k
  · have : vs = [] := List.length_eq_zero_iff.1 (by omega)
    subst this
    unfold Builtin.firstCells loadCells
    rw [h0]
    exact qq
theorem zeroCells_eq (z : List Value) (n : Nat) : Builtin.zeroCells z.toArray n = (repL n z).toArray := by
  unfold Builtin.zeroCells
  have := repL_eq z n
  simpa using this
theorem stOpt_nil (h : Heap) (b o : Nat) : h.setN b o [] = h := by
  funext x
  unfold Heap.setN
  split
  · rename_i hx
    have := Nat.eq_of_beq_eq_true hx
    subst this
    split <;> simp_all [setL]
  · rfl
theorem appV_sound {ts : Array TypeId} {ty : TypeId} {xs : Array Value} {h : Heap} {J : Value → Heap → Prop} (k : appV P ts.toList xs.toList h J) :
    swp P false (Builtin.append_ ts ty xs) h J := by
  unfold appV at k
  split at k
  · rename_i t u ts' base len cap a n cap2 xs' ht hx
    have ht0 : ts[0]? = some t := by rw [← Array.getElem?_toList, ht]; rfl
    have ht1 : ts[1]? = some u := by rw [← Array.getElem?_toList, ht]; rfl
    have hx0 : xs[0]? = some (.slice base len cap) := by rw [← Array.getElem?_toList, hx]; rfl
    have hx1 : xs[1]? = some (.slice a n cap2) := by rw [← Array.getElem?_toList, hx]; rfl
    split at k
    · rename_i e e2 hu hu2
      split at k
      · rename_i i z hi hz
        split at k
        · rename_i hl hb
          have hl := Nat.eq_of_beq_eq_true hl
          have hb := Nat.le_of_ble_eq_true hb
          obtain ⟨k0, vs, k1, k2, k3, k4⟩ := k
          unfold zerosOf at hz
          rw [hi] at hz
          dsimp only at hz
          cases hzz : i.zero with
          | none => rw [hzz] at hz; cases hz
          | some zv =>
            rw [hzz] at hz
            have hzv : cellsL zv = z := by injection hz
            have hzc : zv.cells = z.toArray := by rw [← cellsL_toArray, hzv]
            unfold Builtin.append_
            simp only [ht0, ht1, hx0, hx1]
            rw [swp_bind', swp_underlying hu]
            simp only [swp_bind']
            rw [swp_sizeOf hi]
            rw [swp_underlying hu2]
            simp only [swp_bind', swp_pure', Bool.false_eq_true, if_false, Builtin.lenOf, Bool.not_false, if_true]
            rcases k4 with ⟨k5, k6, k7⟩ | ⟨k5, old, k6, k7, k8⟩
            · rw [if_pos k5]
              simp only [swp_bind']
              refine swp_first k2 i.size n n cap2 (by rw [k1, hl]) ?_
              cases base with
              | none =>
                have hvs : vs = [] := by
                  rcases k6 with k6 | ⟨b, o, e, _⟩
                  · exact k6
                  · cases e
                subst hvs
                exact k7
              | some ad =>
                dsimp only
                rw [swp_bind']
                rcases k6 with k6 | ⟨b, o, e, k6⟩
                · subst k6
                  exact k7
                · cases e
                  rw [Addr.add_none]
                  refine swp_storeCells _ 0 h k3 ?_ ?_
                  · rw [Nat.add_zero, ← hl]; exact k6
                  · rw [Nat.add_zero, ← hl]
                    cases vs with
                    | nil => rw [stOpt_nil]; exact k7
                    | cons v vs => exact k7
            · rw [if_neg (by omega)]
              rw [swp_bind', swp_typeInfo hi]
              rw [if_neg (by
                intro hh
                have : (IntKind.i64.max : Int) = 9223372036854775807 := rfl
                rw [this] at hh
                omega)]
              simp only [swp_bind']
              rw [swp_typeInfo hi]
              have hcap := next_le k5
              have hbig : Builtin.nextslicecap (len + n) cap * i.bytes ≤ 2 ^ 48 := by
                refine Nat.le_trans (Nat.mul_le_mul (Nat.le_trans hcap (show 2 * (len + n) + 192 ≤ 2147483840 by omega)) hb) ?_
                decide
              rw [if_neg (Nat.not_lt.2 hbig)]
              simp only [swp_bind']
              refine ⟨fun hf => (by cases hf), fun _ => ⟨rfl, fun tt => ?_⟩⟩
              have room : ∀ (n : Nat) (Q : Unit → Heap → Prop), Q () h → swp P false (askRoom n) h Q := by
                intro n Q q
                unfold askRoom
                split <;> exact q
              show swp P false (typeInfo e) h _
              rw [swp_typeInfo hi]
              refine room _ _ ?_
              refine swp_first k7 i.size len len cap (by rw [k6, hl]) ?_
              refine swp_first k2 i.size n n cap2 (by rw [k1, hl]) ?_
              rw [swp_zeroValue hi hzz, hzc, zeroCells_eq]
              refine ⟨rfl, fun r hr => ?_⟩
              have hq : len + n ≤ (Question.appendCap (len + n) cap e).cut tt := by
                simp only [Question.cut]; omega
              have k9 := k8 _ r hq hr
              have e9 : (old.toArray ++ vs.toArray ++ (repL ((Question.appendCap (len + n) cap e).cut tt - (len + n)) z).toArray) =
                  (old ++ vs ++ repL ((Question.appendCap (len + n) cap e).cut tt - (len + n)) z).toArray := by simp
              rw [e9]
              exact k9
        · exact k.elim
      · exact k.elim
    · exact k.elim
  · exact k.elim
/-! ### clear, copy -/
theorem allCells_repL {z : List Value} (h : allCells z = true) : ∀ n, allCells (repL n z) = true
  | 0 => rfl
  | n + 1 => by
    have app : ∀ (a b : List Value), allCells a = true → allCells b = true → allCells (a ++ b) = true := by
      intro a
      induction a with
      | nil => intro b _ hb; exact hb
      | cons v a ih =>
        intro b ha hb
        obtain ⟨h1, h2⟩ := allCells_cons ha
        show allCells (v :: (a ++ b)) = true
        unfold allCells
        rw [h1]
        exact ih b h2 hb
    rw [repL]; exact app _ _ h (allCells_repL h n)
/-- 'clear' of a slice. -/
def ClearA (z : List Value) (h : Heap) (a : Option Addr) (n : Nat) (J : Heap → Prop) : Prop :=
  (n = 0 ∧ J h) ∨ ∃ b o, a = some ⟨b, o, none⟩ ∧ allCells z = true ∧ h.canSt b o (n * z.length) ∧ J (h.setN b o (repL n z))
def clearV (P : Program) (ts : List TypeId) (xs : List Value) (h : Heap) (J : Value → Heap → Prop) : Prop := match ts, xs with
  | t :: _, .slice a n _ :: _ => match P.underlying t with
    | some (.slice e) => match P.info? e, zerosOf P e with
      | some _, some z => ClearA z h a n fun h' => J undef h'
      | _, _ => False
    | _ => False
  | _, _ => False
theorem clearV_sound {ts : Array TypeId} {ty : TypeId} {xs : Array Value} {h : Heap} {J : Value → Heap → Prop} (k : clearV P ts.toList xs.toList h J) :
    swp P false (Builtin.clear_ ts ty xs) h J := by
  unfold clearV at k
  split at k
  · rename_i t ts' a n cap xs' ht hx
    have ht0 : ts[0]? = some t := by rw [← Array.getElem?_toList, ht]; rfl
    have hx0 : xs[0]? = some (.slice a n cap) := by rw [← Array.getElem?_toList, hx]; rfl
    split at k
    · rename_i e hu
      split at k
      · rename_i i z hi hz
        unfold Builtin.clear_
        simp only [ht0, hx0]
        rw [swp_bind', swp_underlying hu]
        rcases k with ⟨rfl, k⟩ | ⟨b, o, rfl, hc, cs, k⟩
        · cases a <;> exact k
        · cases n with
          | zero =>
            have : h.setN b o (repL 0 z) = h := stOpt_nil h b o
            rw [this] at k
            exact k
          | succ n =>
            unfold zerosOf at hz
            rw [hi] at hz
            dsimp only at hz
            cases hzz : i.zero with
            | none => rw [hzz] at hz; cases hz
            | some zv =>
              rw [hzz] at hz
              have hzv : cellsL zv = z := by injection hz
              have hzc : zv.cells = z.toArray := by rw [← cellsL_toArray, hzv]
              simp only [swp_bind']
              rw [swp_zeroValue hi hzz, hzc, zeroCells_eq]
              refine swp_storeCells _ 0 h (allCells_repL hc _) ?_ ?_
              · rw [Nat.add_zero, repL_length]; exact cs
              · rw [Nat.add_zero]; exact k
      · exact k.elim
    · exact k.elim
  · exact k.elim
/-- 'copy' of a slice to a slice, of n things. -/
def CopyA (sz : Nat) (h : Heap) (dst src : Option Addr) (n : Nat) (J : Heap → Prop) : Prop :=
  ∃ vs, vs.length = n * sz ∧ rdL h src vs ∧ allCells vs = true ∧ ((vs = [] ∧ J h) ∨ ∃ b o, dst = some ⟨b, o, none⟩ ∧ h.canSt b o vs.length ∧ J (h.setN b o vs))
def copyV (P : Program) (ts : List TypeId) (xs : List Value) (h : Heap) (J : Value → Heap → Prop) : Prop := match ts, xs with
  | t :: _, .slice a n _ :: .slice b m _ :: _ => match P.underlying t with
    | some (.slice e) => match (P.info? e).isSome with
      | true => CopyA (P.cellsOf e) h a b (min m n) fun h' => J (.int .i64 ((min m n : Nat) : Int)) h'
      | false => False
    | _ => False
  | _, _ => False
theorem copyV_sound {ts : Array TypeId} {ty : TypeId} {xs : Array Value} {h : Heap} {J : Value → Heap → Prop} (k : copyV P ts.toList xs.toList h J) :
    swp P false (Builtin.copy_ ts ty xs) h J := by
  unfold copyV at k
  split at k
  · rename_i t ts' a n cap b m cap2 xs' ht hx
    have ht0 : ts[0]? = some t := by rw [← Array.getElem?_toList, ht]; rfl
    have hx0 : xs[0]? = some (.slice a n cap) := by rw [← Array.getElem?_toList, hx]; rfl
    have hx1 : xs[1]? = some (.slice b m cap2) := by rw [← Array.getElem?_toList, hx]; rfl
    split at k
    · rename_i e hu
      split at k
      · rename_i he
        obtain ⟨i, hi⟩ := Option.isSome_iff_exists.1 he
        have hsz : P.cellsOf e = i.size := by unfold Program.cellsOf; rw [hi]; rfl
        obtain ⟨vs, k1, k2, k3, k4⟩ := k
        unfold Builtin.copy_
        simp only [ht0, hx0, hx1]
        rw [swp_bind', swp_underlying hu]
        simp only [swp_bind', swp_pure', Builtin.lenOf]
        rw [swp_sizeOf hi]
        have e1 : Nat.min m n = min m n := rfl
        rw [e1]
        refine swp_first k2 i.size (min m n) m cap2 (by rw [k1, hsz]) ?_
        rcases k4 with ⟨rfl, k4⟩ | ⟨bb, o, rfl, cs, k4⟩
        · cases a <;> exact k4
        · dsimp only
          rw [swp_bind']
          refine swp_storeCells _ 0 h k3 ?_ ?_
          · rw [Nat.add_zero]; exact cs
          · rw [Nat.add_zero]; exact k4
      · exact k.elim
    · exact k.elim
  · exact k.elim
/-! ### bytes and texts -/
def strOf (l : List Int) : ByteArray := l.foldl (fun s n => s.push (UInt8.ofNat n.toNat)) ByteArray.empty
def bytesI (s : ByteArray) : List Int := s.data.toList.map fun b => (b.toNat : Int)
def u8V : List Int → List Value
  | [] => []
  | n :: l => .int .u8 n :: u8V l
theorem u8V_map : ∀ l, u8V l = l.map (Value.int .u8)
  | [] => rfl
  | n :: l => by rw [u8V, u8V_map l]; rfl
/-- a text of bytes in memory -/
def StrA (h : Heap) (a : Option Addr) (n : Nat) (J : ByteArray → Prop) : Prop := ∃ l : List Int, l.length = n ∧ rdL h a (u8V l) ∧ J (strOf l)
/-- bytes of a text, new -/
def BytesA (s : ByteArray) (e : TypeId) (h : Heap) (J : Option Addr → Nat → Heap → Prop) : Prop :=
  ∀ cap r, s.size ≤ cap → h r = none → J (some ⟨r, 0, none⟩) cap (h.ins r (.cells (u8V (bytesI s) ++ List.replicate (cap - s.size) (Value.int IntKind.u8 0)).toArray e (cap, cap + 1)))
theorem swp_strLoop : ∀ (l : List Int) (s : ByteArray) (h : Heap) (Q : ByteArray → Heap → Prop), Q (l.foldl (fun s n => s.push (UInt8.ofNat n.toNat)) s) h →
    swp P q (forIn (u8V l) s (fun c s => (match c with
      | .int .u8 n => do
        let s : ByteArray := s.push (UInt8.ofNat n.toNat)
        pure PUnit.unit
        pure (ForInStep.yield s)
      | _ => stuck "bytesToString: byte expected" : Sem (ForInStep ByteArray)))) h Q
  | [], s, h, Q, k => k
  | n :: l, s, h, Q, k => by
    rw [u8V, List.forIn_cons, swp_bind']
    exact swp_strLoop l _ h Q k
theorem StrA_sound {a : Option Addr} {n cap : Nat} {h : Heap} {J : ByteArray → Prop} (k : StrA h a n J) : swp P q (Conv.bytesToString (.slice a n cap)) h (fun v h' => h' = h ∧ ∃ s, v = .string s ∧ J s) := by
  obtain ⟨l, hl, hr, k⟩ := k
  have hlen : (u8V l).length = l.length := by rw [u8V_map]; simp
  cases a with
  | none =>
    rcases hr with e | ⟨b, o, e, _⟩
    · have : l = [] := List.length_eq_zero_iff.1 (by rw [← hlen, e]; rfl)
      subst this
      exact ⟨rfl, _, rfl, k⟩
    · cases e
  | some ad =>
    unfold Conv.bytesToString
    dsimp only
    rw [swp_bind']
    unfold loadCells
    have go : ∀ (cs : Array Value), cs = (u8V l).toArray → swp P q ((do
        let s ← forIn cs ByteArray.empty (fun c s => (match c with
          | .int .u8 n => do
            let s : ByteArray := s.push (UInt8.ofNat n.toNat)
            pure PUnit.unit
            pure (ForInStep.yield s)
          | _ => stuck "bytesToString: byte expected" : Sem (ForInStep ByteArray)))
        pure (.string s) : Sem Value)) h (fun v h' => h' = h ∧ ∃ s, v = .string s ∧ J s) := by
      intro cs e
      subst e
      rw [swp_bind', ← Array.forIn_toList]
      exact swp_strLoop l _ h _ ⟨rfl, _, rfl, k⟩
    rcases hr with e | ⟨b, o, e, hc⟩
    · have : l = [] := List.length_eq_zero_iff.1 (by rw [← hlen, e]; rfl)
      subst this
      have hn : n = 0 := by simpa using hl.symm
      subst hn
      exact go #[] rfl
    · cases e
      refine swp_loadCellsFrom n 0 #[] (u8V l) (by rw [hlen, hl]) (fun j hj => by rw [Nat.zero_add]; exact hc j (by rw [hlen, hl]; exact hj)) ?_
      exact go _ (by simp)
theorem bytes_eq (s : ByteArray) : s.data.map (fun b => (Value.int .u8 b.toNat : Value)) = (u8V (bytesI s)).toArray := by
  apply Array.toList_inj.1
  rw [u8V_map]
  simp [bytesI]
theorem BytesA_sound {s : ByteArray} {e : TypeId} {h : Heap} {J : Value → Heap → Prop} (k : BytesA s e h fun a c h' => J (.slice a s.size c) h') : swp P false (Conv.stringToBytes e s) h J := by
  unfold Conv.stringToBytes
  simp only [swp_bind']
  refine ⟨fun hf => (by cases hf), fun _ => ⟨rfl, fun tt => ?_⟩⟩
  have hq : s.size ≤ (Question.appendCap s.size 0 e).cut tt := by
    simp only [Question.cut]; omega
  generalize (Question.appendCap s.size 0 e).cut tt = cap at *
  refine ⟨rfl, fun r hr => ?_⟩
  have ek := k cap r hq hr
  have e1 : (s.data.map (fun b => (Value.int .u8 b.toNat : Value)) ++ Array.replicate (cap - s.size) (Value.int .u8 0)) = (u8V (bytesI s) ++ List.replicate (cap - s.size) (Value.int IntKind.u8 0)).toArray := by
    rw [bytes_eq]
    apply Array.toList_inj.1
    simp
  rw [e1]
  have hsz : ((u8V (bytesI s) ++ List.replicate (cap - s.size) (Value.int .u8 0)).toArray).size = cap := by
    rw [u8V_map]
    simp [bytesI]
    have : s.data.size = s.size := rfl
    omega
  generalize hc : (u8V (bytesI s) ++ List.replicate (cap - s.size) (Value.int .u8 0)).toArray = cells at *
  unfold markStringish
  simp only [swp_bind']
  refine ⟨.cells cells e (0, 0), by unfold Heap.ins; rw [if_pos rfl], ?_⟩
  simp only [shapeOf]
  refine ⟨rfl, ⟨.cells cells e (0, 0), by unfold Heap.ins; rw [if_pos rfl]⟩, ?_⟩
  have ef : (h.ins r (.cells cells e (0, 0))).freezeA ⟨r, cells.size, none⟩ 1 = h.ins r (.cells cells e (cap, cap + 1)) := by
    unfold Heap.freezeA
    rw [if_neg (by decide)]
    funext x
    unfold Heap.ins
    by_cases hx : x = r
    · simp [hx, freezeObj, hsz]
    · simp [hx]
  rw [ef]
  exact ek
end Go.Sy
