/- Whole functions, read over partial heaps: operations, regions, code; and that it is sound for the kit's calls. -/
import Derived.Test.YtghdadniddoboaaFwEvd
import Derived.Laws.StructEq
namespace Go.Sy
variable {P : Program}

/-! ### one operation that answers a value -/
def mapO (t : List Value) : List Operand → List Value
  | [] => []
  | x :: xs => evO t x :: mapO t xs
def mapP (t : List Value) : List (Nat × Operand) → List (Nat × Value)
  | [] => []
  | (i, x) :: xs => (i, evO t x) :: mapP t xs
theorem mapO_eq (t : List Value) : ∀ xs, mapO t xs = xs.map (evO t)
  | [] => rfl
  | x :: xs => by rw [mapO, mapO_eq t xs]; rfl
theorem mapP_eq (t : List Value) : ∀ xs, mapP t xs = xs.map fun x => (x.1, evO t x.2)
  | [] => rfl
  | (i, x) :: xs => by rw [mapP, mapP_eq t xs]; rfl
def mapOp (t : List Value) : Option Operand → Option Value
  | none => none
  | some x => some (evO t x)
def maxV (x y : Value) (J : Value → Prop) : Prop := match x, y with
  | .int k a, .int _ b => J (.int k (if b > a then b else a))
  | _, _ => False
def minV (x y : Value) (J : Value → Prop) : Prop := match x, y with
  | .int k a, .int _ b => J (.int k (if b < a then b else a))
  | _, _ => False
def lenV (P : Program) (t : TypeId) (x : Value) (J : Value → Prop) : Prop := match x, P.underlying t with
  | .string s, some .string => J (.int .i64 (s.size : Int))
  | .slice _ n _, some (.slice _) => J (.int .i64 (n : Int))
  | _, some (.array n _) => J (.int .i64 (n : Int))
  | _, _ => False
def convV (P : Program) (src dst : TypeId) (x : Value) (J : Value → Prop) : Prop := match x, P.underlying src, P.underlying dst with
  | .int _ n, some _, some (.int k) => J (.int k (k.wrap n))
  | .string s, some .string, some .string => J (.string s)
  | _, _, _ => False
def convQ (P : Program) (s d : TypeId) : Bool := match P.underlying d, P.underlying s with
  | some (.int _), _ => true
  | some .string, some .string => true
  | _, _ => false
def convA (P : Program) (s d : TypeId) (x : Value) (h : Heap) (J : Value → Heap → Prop) : Prop := match convQ P s d with
  | true => convV P s d x fun v => J v h
  | false => match P.underlying s, P.underlying d with
    | some (.slice e), some .string => match P.underlying e, x with
      | some (.int .u8), .slice a n _ => StrA h a n fun t => J (.string t) h
      | _, _ => False
    | some .string, some (.slice e) => match P.underlying e, x with
      | some (.int .u8), .string t => BytesA t e h fun a c h' => J (.slice a t.size c) h'
      | _, _ => False
    | _, _ => False
def biV (P : Program) (b : Builtin) (ts : List TypeId) (xs : List Value) (h : Heap) (J : Value → Heap → Prop) : Prop := match b with
  | .append => appV P ts xs h J
  | .len => match ts, xs with
    | t :: _, x :: _ => lenV P t x fun v => J v h
    | _, _ => False
  | .max => match xs with
    | [x, y] => maxV x y fun v => J v h
    | _ => False
  | .min => match xs with
    | [x, y] => minV x y fun v => J v h
    | _ => False
  | .clear => clearV P ts xs h J
  | .copy => copyV P ts xs h J
  | .cap => match ts, xs with
    | t :: _, .slice _ _ n :: _ => match P.underlying t with
      | some (.slice _) => J (.int .i64 (n : Int)) h
      | _ => False
    | _, _ => False
  | .unsafeSliceData => sliDV xs h J
  | .unsafeString => ustrV P ts xs h J
  | _ => False
/-- Two structs of scalars, held against each other. -/
def eqFs (P : Program) : List Field → List Value → List Value → (Bool → Prop) → Prop
  | [], _, _, J => J true
  | f :: fs, xs, ys, J => match decide (f.name = "_") with
    | true => eqFs P fs xs ys J
    | false => match P.underlying f.type with
      | some (.int _) => match xs[f.offset]?, ys[f.offset]? with
        | some (.int k a), some (.int k' b) => match ikEq k k' with
          | true => eqFs P fs xs ys fun r => J ((a == b) && r)
          | false => False
        | _, _ => False
      | some .bool => match xs[f.offset]?, ys[f.offset]? with
        | some (.bool a), some (.bool b) => eqFs P fs xs ys fun r => J ((a == b) && r)
        | _, _ => False
      | some .string => match xs[f.offset]?, ys[f.offset]? with
        | some (.string a), some (.string b) => eqFs P fs xs ys fun r => J ((a.toList == b.toList) && r)
        | _, _ => False
      | _ => False
/-- Two rows of whole numbers, held against each other. -/
def eqAr : List Nat → List Value → List Value → (Bool → Prop) → Prop
  | [], _, _, J => J true
  | i :: is, xs, ys, J => match xs[i]?, ys[i]? with
    | some (.int k a), some (.int k' b) => match ikEq k k' with
      | true => eqAr is xs ys fun r => J ((a == b) && r)
      | false => False
    | _, _ => False
def arB : List Nat → List Value → List Value → Option Bool
  | [], _, _ => some true
  | i :: is, xs, ys => match xs[i]?, ys[i]? with
    | some (.int k a), some (.int k' b) => match ikEq k k', arB is xs ys with
      | true, some r => some ((a == b) && r)
      | _, _ => none
    | _, _ => none
theorem eqAr_arB : ∀ {is : List Nat} {xs ys : List Value} {J : Bool → Prop}, eqAr is xs ys J → ∃ b, arB is xs ys = some b ∧ J b
  | [], _, _, J, k => ⟨true, rfl, k⟩
  | i :: is, xs, ys, J, k => by
    unfold eqAr at k
    split at k
    · rename_i k1 a k2 b hx hy
      split at k
      · rename_i hk
        obtain ⟨r, e, j⟩ := eqAr_arB k
        exact ⟨_, by unfold arB; rw [hx, hy]; dsimp only; rw [hk, e], j⟩
      · exact k.elim
    · exact k.elim
def aggV (P : Program) (op : BinOp) (t : TypeId) (xs : List Value) (y : Value) (J : Value → Prop) : Prop := match y with
  | .agg ys => match P.underlying t with
    | some (.struct fs) => match P.eqGuardType P.depth t, P.stoodInHeld t with
      | false, false => eqFs P fs.toList xs ys.toList fun b => eqN op b J
      | _, _ => False
    | some (.array n e) => match P.underlying e, Nat.beq (P.cellsOf e) 1, P.eqGuardType P.depth t with
      | some (.int _), true, false => eqAr (List.range' 0 n) xs ys.toList fun b => eqN op b J
      | _, _, _ => False
    | _ => False
  | _ => False
theorem part_run {t : TypeId} {d : TypeDesc} {cs : Array Value} {off : Nat} {v : Value} (hd : P.underlying t = some d) (ha : aggD d = false) (hv : cs.toList[off]? = some v) (w : World) :
    (part t cs off).run P w = .ok v w := by
  have k : partV P t cs.toList off (fun u => u = v) := by
    obtain ⟨i, hi⟩ := underlying_info hd
    unfold partV
    rw [hd, hi]
    dsimp only
    rw [ha]
    dsimp only
    rw [hv]
  obtain ⟨u, e, _, rfl⟩ := swq_sound _ (fun _ => none) _ (partV_sound (q := true) k)
  exact e w (fun _ _ x => by cases x)
theorem eqFs_sound {d : Nat} {xs ys : Array Value} : ∀ {fs : List Field} {J : Bool → Prop}, eqFs P fs xs.toList ys.toList J →
    ∃ b, (∀ w, (Op.eqFields (d + 1) xs ys fs).run P w = .ok b w) ∧ J b
  | [], J, k => ⟨true, fun _ => rfl, k⟩
  | f :: fs, J, k => by
    have step : ∀ {dd : TypeDesc} {u v : Value} {c : Bool} {J' : Bool → Prop}, f.name ≠ "_" → P.underlying f.type = some dd → aggD dd = false → xs.toList[f.offset]? = some u → ys.toList[f.offset]? = some v →
        (∀ w, (Op.equalIn (d + 1) f.type u v).run P w = .ok c w) → (∃ b, (∀ w, (Op.eqFields (d + 1) xs ys fs).run P w = .ok b w) ∧ J' b) → (∀ b, J' b → J (c && b)) →
        ∃ b, (∀ w, (Op.eqFields (d + 1) xs ys (f :: fs)).run P w = .ok b w) ∧ J b := by
      intro dd u v c J' hn hu hag h1 h2 h3 hr hj
      obtain ⟨b, e, j⟩ := hr
      refine ⟨c && b, fun w => ?_, hj b j⟩
      unfold Op.eqFields
      rw [if_pos hn]
      simp only [Sem.run_bind, part_run hu hag h1, part_run hu hag h2, h3, Result.andThen_ok]
      cases c
      · rfl
      · simp only [Bool.not_true, Bool.false_eq_true, if_false, Bool.true_and]
        exact e w
    unfold eqFs at k
    split at k
    · rename_i hn
      obtain ⟨b, e, j⟩ := eqFs_sound (d := d) k
      refine ⟨b, fun w => ?_, j⟩
      unfold Op.eqFields
      rw [if_neg (fun x => x (of_decide_eq_true hn))]
      exact e w
    · rename_i hn
      have hn := of_decide_eq_false hn
      split at k
      · rename_i hu
        split at k
        · rename_i h1 h2
          split at k
          · rename_i hk
            have hk := ikEq_eq hk
            subst hk
            exact step hn hu rfl h1 h2 (fun w => run_equalIn_int w d _ _ _ _ _ hu) (eqFs_sound (d := d) k) (fun _ j => j)
          · exact k.elim
        · exact k.elim
      · rename_i hu
        split at k
        · rename_i h1 h2
          exact step hn hu rfl h1 h2 (fun w => run_equalIn_bool' w d _ _ _ hu) (eqFs_sound (d := d) k) (fun _ j => j)
        · exact k.elim
      · rename_i hu
        split at k
        · rename_i h1 h2
          exact step hn hu rfl h1 h2 (fun w => run_equalIn_string w d _ _ _ hu) (eqFs_sound (d := d) k) (fun _ j => j)
        · exact k.elim
      · exact k.elim
theorem arB_run {t e : TypeId} {n d : Nat} {k0 : IntKind} {xs ys : Array Value} {b : Bool} (hu : P.underlying t = some (.array n e)) (he : P.underlying e = some (.int k0)) (hc : P.cellsOf e = 1)
    (h : arB (List.range' 0 n) xs.toList ys.toList = some b) (w : World) : (Op.equalIn (d + 2) t (.agg xs) (.agg ys)).run P w = .ok b w := by
  obtain ⟨i, hi⟩ := underlying_info he
  have hs : i.size = 1 := by rw [← hc]; unfold Program.cellsOf; rw [hi]; rfl
  have hsz : ∀ w, (sizeOf e).run P w = .ok 1 w := fun w => by
    obtain ⟨m, e1, _, rfl⟩ := swq_sound (P := P) (sizeOf e) (fun _ => none) (fun m h => h = (fun _ => none) ∧ m = 1) (by rw [swp_sizeOf hi]; exact ⟨rfl, hs⟩)
    exact e1 w (fun _ _ x => by cases x)
  rw [show d + 2 = (d + 1) + 1 from rfl, Op.equalIn]
  simp only [Sem.run_bind, run_underlying hu, hsz, Result.andThen_ok, Std.Legacy.Range.forIn_eq_forIn_range', Std.Legacy.Range.size, Nat.sub_zero, Nat.add_sub_cancel, Nat.div_one]
  generalize List.range' 0 n = l at *
  induction l generalizing w b with
  | nil =>
    cases h
    simp
  | cons j l ih =>
    unfold arB at h
    split at h
    · rename_i k1 a k2 c hx hy
      split at h
      · rename_i r hk hr
        cases h
        have hk := ikEq_eq hk
        subst hk
        have p1 := fun w => part_run (P := P) he rfl (off := j * 1) (by rw [Nat.mul_one]; exact hx) w
        have p2 := fun w => part_run (P := P) he rfl (off := j * 1) (by rw [Nat.mul_one]; exact hy) w
        simp only [List.forIn_cons, Sem.run_bind, p1, p2, Result.andThen_ok, run_equalIn_int _ d _ _ _ _ _ he]
        cases hab : (a == c) with
        | false => simp
        | true =>
          simp only [Bool.not_true, Bool.false_eq_true, if_false, Sem.run_pure, Result.andThen_ok, Bool.true_and]
          exact ih w hr
      · cases h
    · cases h
theorem aggV_sound {op : BinOp} {t : TypeId} {xs : Array Value} {y : Value} {J : Value → Prop} {ox oy : Operand} (k : aggV P op t xs.toList y J) :
    ∃ v, (∀ w, (do eqGuard op t ox oy (.agg xs) y; binOp op t (.agg xs) y : Sem Value).run P w = .ok v w) ∧ J v := by
  unfold aggV at k
  split at k
  · rename_i ys
    split at k
    · rename_i fs hu
      split at k
      · rename_i h1 h2
        obtain ⟨b, e, j⟩ := eqFs_sound (d := 9998) k
        have hf : P.fieldsOf t = fs := by unfold Program.fieldsOf; rw [hu]
        have e2 : ∀ w, (Op.equalIn 10000 t (.agg xs) (.agg ys)).run P w = .ok b w := fun w => by
          have := run_equalIn_struct (P := P) w 9999 t xs ys (by rw [hf]; exact hu) h2
          rw [this, hf]; exact e w
        cases op <;> first
          | exact j.elim
          | exact ⟨_, fun w => by rw [Sem.run_bind, run_eqGuard_agg w _ t ox oy xs ys h1, Result.andThen_ok, run_eql_struct, e2 w]; rfl, j⟩
          | exact ⟨_, fun w => by rw [Sem.run_bind, run_eqGuard_agg w _ t ox oy xs ys h1, Result.andThen_ok, run_neq_struct, e2 w]; rfl, j⟩
      · exact k.elim
    · rename_i n e hu
      split at k
      · rename_i k0 he hc h1
        obtain ⟨b, e, j⟩ := eqAr_arB k
        have e2 : ∀ w, (Op.equalIn 10000 t (.agg xs) (.agg ys)).run P w = .ok b w := fun w => arB_run (d := 9998) hu he (Nat.eq_of_beq_eq_true hc) e w
        cases op <;> first
          | exact j.elim
          | exact ⟨_, fun w => by rw [Sem.run_bind, run_eqGuard_agg w _ t ox oy xs ys h1, Result.andThen_ok, run_eql_struct, e2 w]; rfl, j⟩
          | exact ⟨_, fun w => by rw [Sem.run_bind, run_eqGuard_agg w _ t ox oy xs ys h1, Result.andThen_ok, run_neq_struct, e2 w]; rfl, j⟩
      · exact k.elim
    · exact k.elim
  · exact k.elim
/-- A text that is gone through, letter by letter. -/
def newI (h : Heap) (s : ByteArray) (J : Nat → Heap → Prop) : Prop := ∀ r, h r = none → J r (h.ins r (.stringIter s 0))
def nextI (h : Heap) (r : Nat) (J : Value → Heap → Prop) : Prop := ∃ (s : ByteArray) (pos : Nat), h r = some (.stringIter s pos) ∧
  Br (decide (pos < s.size)) (J (.tuple #[.bool true, .int .i64 (pos : Int), .int .i32 ((Utf8.decode s pos).1 : Int)]) (h.ins r (.stringIter s (pos + (Utf8.decode s pos).2)))) (J (.tuple #[.bool false]) h)
def opV (P : Program) (t : List Value) (op : Op) (h : Heap) (J : Value → Heap → Prop) : Prop := match op with
  | .move x => J (evO t x) h
  | .assign x => J (evO t x) h
  | .pick c a b => match evO t c with
    | .bool v => Br v (J (evO t a) h) (J (evO t b) h)
    | _ => False
  | .alloc e => allocV P e h J
  | .box e x => newB h (cellsL (evO t x)) e fun r h' => J (.pointer (some ⟨r, 0, none⟩)) h'
  | .build e ps => match builtL P e (mapP t ps.toList) with
    | some cs => J (.agg cs.toArray) h
    | none => False
  | .buildSlice e n ps => bsliceV P e n (mapP t ps.toList) h J
  | .load e a => match evO t a with
    | .pointer ad => withAddr ad fun b o => ldTy P e h b o fun v => J v h
    | _ => False
  | .store e a x => match evO t a with
    | .pointer ad => withAddr ad fun b o => stTy P e h b o (evO t x) fun h' => J undef h'
    | _ => False
  | .nilCheck x => match evO t x with
    | .pointer ad => withAddr ad fun b o => J (.pointer (some ⟨b, o, none⟩)) h
    | .func (.func f) x y => J (.func (.func f) x y) h
    | _ => False
  | .binOp op xT x y _ => match twoPtr (evO t x) y with
    | true => ptrV P op xT (evO t x) (evO t y) fun v => J v h
    | false => match evO t x with
      | .agg xs => aggV P op xT xs.toList (evO t y) fun v => J v h
      | _ => binV P op xT (evO t x) (evO t y) fun v => J v h
  | .range xT x => match evO t x, P.underlying xT with
    | .string s, some .string => newI h s fun r h' => J (.pointer (some ⟨r, 0, none⟩)) h'
    | _, _ => False
  | .next it isS => match isS, evO t it with
    | true, .pointer (some ⟨r, 0, _⟩) => nextI h r J
    | _, _ => False
  | .unOp op _ x => unV op (evO t x) fun v => J v h
  | .convert s d x => match isUns P s d with
    | true => unsV P s d (evO t x) h fun v => J v h
    | false => convA P s d (evO t x) h J
  | .makeFunc fn a b => J (.func fn (mapO t a.toList).toArray (mapO t b.toList).toArray) h
  | .makeSlice e l c => makeV P e (evO t l) (evO t c) h J
  | .slice e x lo hi mx => sliceV P e (evO t x) (mapOp t lo) (mapOp t hi) (mapOp t mx) fun v => J v h
  | .fieldAddr s x f => faddV P s (evO t x) f fun v => J v h
  | .field s x f => fieldV P s (evO t x) f fun v => J v h
  | .indexAddr s x i => iaddV P s (evO t x) (evO t i) fun v => J v h
  | .index s x i => indexV P s (evO t x) (evO t i) fun v => J v h
  | .extract x i => extractV (evO t x) i fun v => J v h
  | .makeMap _ r => match r with
    | none => MNewA h fun r h' => J (.map (some r)) h'
    | some _ => False
  | .lookup xT x i ok => mGetV P xT (evO t x) (evO t i) ok h fun v => J v h
  | .mapUpdate mT m k v => mPutV P mT (evO t m) (evO t k) (evO t v) h J
  | .call { callee := .builtin b, args, argTypes } => biV P b argTypes.toList (mapO t args.toList) h J
  | _ => False

/-- Operations that change nothing, and draw nothing. -/
def quietOp (P : Program) : Op → Bool
  | .convert s d _ => match isUns P s d with
    | true => false
    | false => convQ P s d
  | .move _ | .assign _ | .pick .. | .build .. | .load .. | .nilCheck _ | .binOp .. | .unOp .. | .makeFunc .. | .slice .. | .fieldAddr .. | .field ..
  | .indexAddr .. | .index .. | .extract .. | .lookup .. => true
  | .call { callee := .builtin b, .. } => match b with
    | .len | .max | .min | .cap | .unsafeSliceData => true
    | _ => false
  | _ => false
/-- The model's answer, as a value. -/
def ansV (q : Bool) (J : Value → Heap → Prop) (n : Next) (h : Heap) : Prop := match n with
  | .value v => J v h
  | .skip => q = false ∧ J undef h
  | _ => False
theorem lift_v {q : Bool} {s : Sem Value} {h : Heap} {J : Value → Heap → Prop} (k : swp P q s h J) : swp P q (do pure (Next.value (← s))) h (ansV q J) := by
  rw [swp_bind']; exact k
theorem pure_v {q : Bool} {s : Sem Value} {h : Heap} {J : Value → Heap → Prop} (k : swp P q s h fun v h' => h' = h ∧ J v h) : swp P q (do pure (Next.value (← s))) h (ansV q J) :=
  lift_v (swp_mono _ _ _ _ (fun _ _ ⟨e, qq⟩ => by rw [e]; exact qq) k)
/-- Those that are known by their runs. -/
def isBuild (t : List Value) : Op → Bool
  | .build .. => true
  | .binOp _ _ x _ _ => match evO t x with
    | .agg _ => true
    | _ => false
  | _ => false
theorem biV_sound {q : Bool} {b : Builtin} {ts : Array TypeId} {ty : TypeId} {cs : Array Bool} {xs : Array Value} {h : Heap} {J : Value → Heap → Prop}
    (k : biV P b ts.toList xs.toList h J) (hq : q = true → b = .len ∨ b = .max ∨ b = .min ∨ b = .cap ∨ b = .unsafeSliceData) : swp P q (builtin b ts ty cs xs) h (ansV q J) := by
  unfold biV at k
  split at k
  · have : q = false := by
      cases q
      · rfl
      · rcases hq rfl with e | e | e | e | e <;> cases e
    subst this
    exact lift_v (appV_sound k)
  · split at k
    · rename_i t0 _ x0 _ ht hx
      have ht0 : ts[0]? = some t0 := by rw [← Array.getElem?_toList, ht]; rfl
      have hx0 : xs[0]? = some x0 := by rw [← Array.getElem?_toList, hx]; rfl
      refine pure_v ?_
      unfold Builtin.len_
      simp only [ht0, hx0]
      unfold lenV at k
      split at k
      · rename_i hu
        rw [swp_bind', swp_underlying hu]; exact ⟨rfl, k⟩
      · rename_i hu
        rw [swp_bind', swp_underlying hu]; exact ⟨rfl, k⟩
      · rename_i y _ _ _ _ hu
        rw [swp_bind', swp_underlying hu]; cases y <;> exact ⟨rfl, k⟩
      · exact k.elim
    · exact k.elim
  · split at k
    · rename_i x y hx
      refine pure_v ?_
      unfold Builtin.max_
      rw [hx]
      unfold maxV at k
      split at k
      · simp only [List.foldlM_cons, List.foldlM_nil, Builtin.max2, swp_bind', swp_pure', true_and]
        exact k
      · exact k.elim
    · exact k.elim
  · split at k
    · rename_i x y hx
      refine pure_v ?_
      unfold Builtin.min_
      rw [hx]
      unfold minV at k
      split at k
      · simp only [List.foldlM_cons, List.foldlM_nil, Builtin.min2, swp_bind', swp_pure', true_and]
        exact k
      · exact k.elim
    · exact k.elim
  · have : q = false := by
      cases q
      · rfl
      · rcases hq rfl with e | e | e | e | e <;> cases e
    subst this
    exact lift_v (clearV_sound k)
  · have : q = false := by
      cases q
      · rfl
      · rcases hq rfl with e | e | e | e | e <;> cases e
    subst this
    exact lift_v (copyV_sound k)
  · split at k
    · rename_i t0 _ _ _ n _ ht hx
      have ht0 : ts[0]? = some t0 := by rw [← Array.getElem?_toList, ht]; rfl
      have hx0 := congrArg (fun l => l[0]?) hx
      simp only [List.getElem?_cons_zero, Array.getElem?_toList] at hx0
      split at k
      · rename_i hu
        refine pure_v ?_
        unfold Builtin.cap_
        simp only [ht0, hx0]
        rw [swp_bind', swp_underlying hu]
        exact ⟨rfl, k⟩
      · exact k.elim
    · exact k.elim
  · exact pure_v (sliDV_sound k)
  · have : q = false := by
      cases q
      · rfl
      · rcases hq rfl with e | e | e | e | e <;> cases e
    subst this
    exact lift_v (ustrV_sound k)
  · exact k.elim

theorem opV_swp {q : Bool} {t : List Value} {o : Oper} {h : Heap} {J : Value → Heap → Prop} (k : opV P t o.op h J) (hb : isBuild t o.op = false) (hq : q = true → quietOp P o.op = true) :
    swp P q (execOp (evO t) o) h (ansV q J) := by
  obtain ⟨dst, op, type, pos, after, guard⟩ := o
  dsimp only at k hb hq
  have nq : quietOp P op = false → q = false := fun e => by
    cases q
    · rfl
    · rw [hq rfl] at e; cases e
  unfold execOp
  dsimp only
  unfold opV at k
  split at k <;> try dsimp only
  case _ => exact k
  case _ => exact k
  case _ =>
    split at k
    · rename_i v hv
      rw [hv]
      rcases k.elim with ⟨rfl, qq⟩ | ⟨rfl, qq⟩ <;> exact qq
    · exact k.elim
  case _ => cases nq rfl; exact lift_v (allocV_sound k)
  case _ => cases nq rfl; exact lift_v (boxV_sound k)
  case _ => cases hb
  case _ e n ps =>
    cases nq rfl
    refine lift_v (bsliceV_sound ?_)
    rw [mapP_eq] at k
    simpa using k
  case _ e a =>
    split at k
    · rename_i ad hv
      rw [hv]
      obtain ⟨b, o, rfl, k⟩ := withAddr_elim k
      exact pure_v (ldTy_sound k)
    · exact k.elim
  case _ e a x =>
    cases nq rfl
    split at k
    · rename_i ad hv
      rw [hv]
      obtain ⟨b, o, rfl, k⟩ := withAddr_elim k
      rw [swp_bind']
      exact swp_mono _ _ _ _ (fun _ _ qq => ⟨rfl, qq⟩) (stTy_sound k)
    · exact k.elim
  case _ x =>
    split at k
    · rename_i ad hv
      rw [hv]
      obtain ⟨b, o, rfl, k⟩ := withAddr_elim k
      exact k
    · rename_i hv
      rw [hv]
      exact k
    · exact k.elim
  case _ op xT x y _ =>
    split at k
    · exact pure_v (ptrV_sound k)
    · split at k
      · rename_i xs hx
        simp only [isBuild, hx] at hb
        cases hb
      · exact pure_v (binV_sound k)
  case _ xT x =>
    cases nq rfl
    split at k
    · rename_i s hx hu
      rw [hx]
      refine lift_v ?_
      unfold Instr.range
      rw [swp_bind', swp_underlying hu]
      simp only [swp_bind', swp_pure']
      exact ⟨rfl, fun r hr => k r hr⟩
    · exact k.elim
  case _ it isS =>
    cases nq rfl
    split at k
    · rename_i r sp hx
      rw [hx]
      refine lift_v ?_
      unfold Instr.next
      obtain ⟨s, pos, hr, k⟩ := k
      simp only [swp_bind']
      refine ⟨_, hr, rfl, ?_⟩
      show swp P false (if pos < s.size then (do
          let (c, width) := Utf8.decode s pos
          setObj r (.stringIter s (pos + width))
          pure (.tuple #[.bool true, goInt pos, .int .i32 c]) : Sem Value) else pure (.tuple #[.bool false])) h J
      rcases k.elim with ⟨hp, k⟩ | ⟨hp, k⟩
      · rw [if_pos (of_decide_eq_true hp)]
        simp only [swp_bind']
        exact ⟨rfl, _, hr, rfl, k⟩
      · rw [if_neg (of_decide_eq_false hp)]
        exact k
    · exact k.elim
  case _ => exact pure_v (unV_sound k)
  case _ s d x =>
    split at k
    · exact pure_v (unsV_sound k)
    rename_i hun
    unfold convA at k
    split at k
    case h_2 hcq =>
      have hq2 : q = false := nq (by unfold quietOp; dsimp only; rw [hun]; exact hcq)
      subst hq2
      split at k
      · rename_i e hs hd
        split at k
        · rename_i a n c he hx
          rw [hx]
          refine lift_v ?_
          unfold convert
          rw [swp_bind', swp_underlying hs, swp_bind', swp_underlying hd]
          have main : swp P false (Conv.bytesToString (.slice a n c)) h J := swp_mono _ _ _ _ (fun _ _ ⟨e1, s1, e2, j⟩ => by subst e1 e2; exact j) (StrA_sound k)
          cases a with
          | none =>
            dsimp only
            rw [swp_bind', swp_underlying he]
            exact main
          | some ad =>
            dsimp only
            rw [swp_bind', swp_underlying he]
            exact main
        · exact k.elim
      · rename_i e hs hd
        split at k
        · rename_i t0 he hx
          rw [hx]
          refine lift_v ?_
          unfold convert
          rw [swp_bind', swp_underlying hs, swp_bind', swp_underlying hd]
          dsimp only
          rw [swp_bind', swp_underlying he]
          exact BytesA_sound k
        · exact k.elim
      · exact k.elim
    refine pure_v ?_
    unfold convV at k
    split at k
    · rename_i hx hs hd
      rw [hx]
      unfold convert
      rw [swp_bind', swp_underlying hs, swp_bind', swp_underlying hd]
      exact ⟨rfl, k⟩
    · rename_i hx hs hd
      rw [hx]
      unfold convert
      rw [swp_bind', swp_underlying hs, swp_bind', swp_underlying hd]
      exact ⟨rfl, k⟩
    · exact k.elim
  case _ fn a b =>
    rw [mapO_eq, mapO_eq] at k
    have e1 : (a.toList.map (evO t)).toArray = a.map (evO t) := by apply Array.toList_inj.1; simp
    have e2 : (b.toList.map (evO t)).toArray = b.map (evO t) := by apply Array.toList_inj.1; simp
    rw [e1, e2] at k
    exact k
  case _ => cases nq rfl; exact lift_v (makeV_sound k)
  case _ e x lo hi mx =>
    refine pure_v (sliceV_sound ?_)
    have e1 : ∀ x : Option Operand, mapOp t x = x.map (evO t) := fun x => by cases x <;> rfl
    rw [e1, e1, e1] at k
    exact k
  case _ => exact pure_v (faddV_sound k)
  case _ => exact pure_v (fieldV_sound k)
  case _ => exact pure_v (iaddV_sound k)
  case _ => exact pure_v (indexV_sound k)
  case _ => exact pure_v (extractV_sound k)
  case _ =>
    cases nq rfl
    split at k
    · exact lift_v (mNewV_sound k)
    · exact k.elim
  case _ => exact pure_v (mGetV_sound k)
  case _ =>
    cases nq rfl
    rw [swp_bind']
    exact swp_mono _ _ _ _ (fun _ _ qq => ⟨rfl, qq⟩) (mPutV_sound k)
  case _ b args ts =>
    have e1 : mapO t args.toList = (args.map (evO t)).toList := by rw [mapO_eq]; simp
    rw [e1] at k
    simp only [resolve, swp_bind', swp_pure', invoke]
    refine biV_sound k fun e => ?_
    have := hq e
    cases b <;> first | (simp [quietOp] at this; done) | simp
  case _ => exact k.elim
theorem run_buildV {t : List Value} {o : Oper} {h : Heap} {J : Value → Heap → Prop} (ho : isBuild t o.op = true) (k : opV P t o.op h J) :
    ∃ v, (∀ w, (execOp (evO t) o).run P w = .ok (.value v) w) ∧ J v h := by
  obtain ⟨dst, op, type, pos, after, guard⟩ := o
  dsimp only at k ho
  cases op <;> try (cases ho; done)
  case build e ps =>
    unfold opV at k
    dsimp only at k
    split at k
    · rename_i cs hc
      refine ⟨_, fun w => ?_, k⟩
      unfold execOp
      dsimp only
      rw [Sem.run_bind, run_build w e _ cs.toArray]
      · rfl
      · rw [mapP_eq] at hc
        rw [← builtL_eq hc]
        simp
    · exact k.elim
  case binOp op xT x y yT =>
    unfold opV at k
    dsimp only at k
    split at k
    · rename_i h2
      unfold isBuild at ho
      dsimp only at ho
      split at ho
      · rename_i xs hx2
        rw [hx2] at h2
        cases h2
      · cases ho
    split at k
    · rename_i xs hx
      obtain ⟨v, e, j⟩ := aggV_sound (ox := x) (oy := y) k
      refine ⟨v, fun w => ?_, j⟩
      unfold execOp
      dsimp only
      rw [hx, Sem.run_bind, e w]
      rfl
    · rename_i hx
      unfold isBuild at ho
      dsimp only at ho
      split at ho
      · rename_i xs hx2; exact (hx xs hx2).elim
      · cases ho
theorem opV_sound {t : List Value} {o : Oper} {h : Heap} {J : Value → Heap → Prop} (k : opV P t o.op h J) : ssp P (execOp (evO t) o) h (ansV false J) := by
  cases hb : isBuild t o.op with
  | false => exact ssp_of_swp (opV_swp k hb (fun e => by cases e))
  | true =>
    obtain ⟨v, e1, e2⟩ := run_buildV hb k
    exact ssp_of_run e1 e2
theorem opV_quiet {t : List Value} {o : Oper} {h : Heap} {J : Value → Heap → Prop} (k : opV P t o.op h J) (hq : quietOp P o.op = true) :
    ∃ v, (∀ w, Rep h w → (execOp (evO t) o).run P w = .ok (.value v) w) ∧ J v h := by
  cases hb : isBuild t o.op with
  | false =>
    obtain ⟨a, e, qq⟩ := swq_sound _ _ _ (opV_swp (q := true) k hb (fun _ => hq))
    cases a <;> first | exact ⟨_, e, qq⟩ | exact qq.elim | cases qq.1
  | true =>
    obtain ⟨v, e1, e2⟩ := run_buildV hb k
    exact ⟨v, fun w _ => e1 w, e2⟩

end Go.Sy
