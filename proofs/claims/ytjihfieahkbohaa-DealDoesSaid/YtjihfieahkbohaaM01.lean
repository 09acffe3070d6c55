import Derived.Test.YtjihfieahkbohaaM00
import Derived.Laws.StructEq
import Derived.Below
/- Whole functions, read over partial heaps: operations, regions, code; and that it is sound for the kit's calls. -/
namespace Go.Sy
variable {P : Program}

/-! ### one operation that answers a value -/
def mapO (t : List Value) : List Operand → List Value
  | [] => []
  | x :: xs => evO t x :: mapO t xs
def mapP (t : List Value) : List (Nat × Operand) → List (Nat × Value)
  | [] => []
  | (i, x) :: xs => (i, evO t x) :: mapP t xs
theorem mapO_eq (t : List Value) : ∀ xs, mapO t xs = xs.map (evO t)
  | [] => rfl
  | x :: xs => by rw [mapO, mapO_eq t xs]; rfl
theorem mapP_eq (t : List Value) : ∀ xs, mapP t xs = xs.map fun x => (x.1, evO t x.2)
  | [] => rfl
  | (i, x) :: xs => by rw [mapP, mapP_eq t xs]; rfl
def mapOp (t : List Value) : Option Operand → Option Value
  | none => none
  | some x => some (evO t x)
def maxV (x y : Value) (J : Value → Prop) : Prop := match x, y with
  | .int k a, .int _ b => J (.int k (if b > a then b else a))
  | _, _ => False
def minV (x y : Value) (J : Value → Prop) : Prop := match x, y with
  | .int k a, .int _ b => J (.int k (if b < a then b else a))
  | _, _ => False
def lenV (P : Program) (t : TypeId) (x : Value) (h : Heap) (J : Value → Prop) : Prop := match x, P.underlying t with
  | .string s, some .string => J (.int .i64 (s.size : Int))
  | .map m, some (.map _ _) => MLenA h m fun n => J (.int .i64 (n : Int))
  | .slice _ n _, some (.slice _) => J (.int .i64 (n : Int))
  | _, some (.array n _) => J (.int .i64 (n : Int))
  | _, _ => False
def convV (P : Program) (src dst : TypeId) (x : Value) (J : Value → Prop) : Prop := match x, P.underlying src, P.underlying dst with
  | .int _ n, some _, some (.int k) => J (.int k (k.wrap n))
  | .string s, some .string, some .string => J (.string s)
  | _, _, _ => False
def convQ (P : Program) (s d : TypeId) : Bool := match P.underlying d, P.underlying s with
  | some (.int _), _ => true
  | some .string, some .string => true
  | _, _ => false
def convA (P : Program) (s d : TypeId) (x : Value) (h : Heap) (J : Value → Heap → Prop) : Prop := match convQ P s d with
  | true => convV P s d x fun v => J v h
  | false => match P.underlying s, P.underlying d with
    | some (.slice e), some .string => match P.underlying e, x with
      | some (.int .u8), .slice a n _ => StrA h a n fun t => J (.string t) h
      | _, _ => False
    | some .string, some (.slice e) => match P.underlying e, x with
      | some (.int .u8), .string t => BytesA t e h fun a c h' => J (.slice a t.size c) h'
      | _, _ => False
    | _, _ => False
def biV (P : Program) (b : Builtin) (ts : List TypeId) (xs : List Value) (h : Heap) (J : Value → Heap → Prop) : Prop := match b with
  | .append => appV P ts xs h J
  | .len => match ts, xs with
    | t :: _, x :: _ => lenV P t x h fun v => J v h
    | _, _ => False
  | .max => match xs with
    | [x, y] => maxV x y fun v => J v h
    | _ => False
  | .min => match xs with
    | [x, y] => minV x y fun v => J v h
    | _ => False
  | .clear => clearV P ts xs h J
  | .copy => copyV P ts xs h J
  | .cap => match ts, xs with
    | t :: _, .slice _ _ n :: _ => match P.underlying t with
      | some (.slice _) => J (.int .i64 (n : Int)) h
      | _ => False
    | _, _ => False
  | .unsafeSliceData => sliDV xs h J
  | .unsafeString => ustrV P ts xs h J
  | _ => False
/-- Two structs of scalars, held against each other. -/
def eqFs (P : Program) : List Field → List Value → List Value → (Bool → Prop) → Prop
  | [], _, _, J => J true
  | f :: fs, xs, ys, J => match decide (f.name = "_") with
    | true => eqFs P fs xs ys J
    | false => match P.underlying f.type with
      | some (.int _) => match xs[f.offset]?, ys[f.offset]? with
        | some (.int k a), some (.int k' b) => match ikEq k k' with
          | true => eqFs P fs xs ys fun r => J ((a == b) && r)
          | false => False
        | _, _ => False
      | some .bool => match xs[f.offset]?, ys[f.offset]? with
        | some (.bool a), some (.bool b) => eqFs P fs xs ys fun r => J ((a == b) && r)
        | _, _ => False
      | some .string => match xs[f.offset]?, ys[f.offset]? with
        | some (.string a), some (.string b) => eqFs P fs xs ys fun r => J ((a.toList == b.toList) && r)
        | _, _ => False
      | _ => False
/-- Two rows of whole numbers, held against each other. -/
def eqAr : List Nat → List Value → List Value → (Bool → Prop) → Prop
  | [], _, _, J => J true
  | i :: is, xs, ys, J => match xs[i]?, ys[i]? with
    | some (.int k a), some (.int k' b) => match ikEq k k' with
      | true => eqAr is xs ys fun r => J ((a == b) && r)
      | false => False
    | _, _ => False
def arB : List Nat → List Value → List Value → Option Bool
  | [], _, _ => some true
  | i :: is, xs, ys => match xs[i]?, ys[i]? with
    | some (.int k a), some (.int k' b) => match ikEq k k', arB is xs ys with
      | true, some r => some ((a == b) && r)
      | _, _ => none
    | _, _ => none
theorem eqAr_arB : ∀ {is : List Nat} {xs ys : List Value} {J : Bool → Prop}, eqAr is xs ys J → ∃ b, arB is xs ys = some b ∧ J b
  | [], _, _, J, k => ⟨true, rfl, k⟩
  | i :: is, xs, ys, J, k => by
    unfold eqAr at k
    split at k
    · rename_i k1 a k2 b hx hy
      split at k
      · rename_i hk
        obtain ⟨r, e, j⟩ := eqAr_arB k
        exact ⟨_, by unfold arB; rw [hx, hy]; dsimp only; rw [hk, e], j⟩
      · exact k.elim
    · exact k.elim
def aggV (P : Program) (op : BinOp) (t : TypeId) (xs : List Value) (y : Value) (J : Value → Prop) : Prop := match y with
  | .agg ys => match P.underlying t with
    | some (.struct fs) => match P.eqGuardType P.depth t, P.stoodInHeld t with
      | false, false => eqFs P fs.toList xs ys.toList fun b => eqN op b J
      | _, _ => False
    | some (.array n e) => match P.underlying e, Nat.beq (P.cellsOf e) 1, P.eqGuardType P.depth t with
      | some (.int _), true, false => eqAr (List.range' 0 n) xs ys.toList fun b => eqN op b J
      | _, _, _ => False
    | _ => False
  | _ => False
theorem part_run {t : TypeId} {d : TypeDesc} {cs : Array Value} {off : Nat} {v : Value} (hd : P.underlying t = some d) (ha : aggD d = false) (hv : cs.toList[off]? = some v) (w : World) :
    (part t cs off).run P w = .ok v w := by
  have k : partV P t cs.toList off (fun u => u = v) := by
    obtain ⟨i, hi⟩ := underlying_info hd
    unfold partV
    rw [hd, hi]
    dsimp only
    rw [ha]
    dsimp only
    rw [hv]
  obtain ⟨u, e, _, rfl⟩ := swq_sound _ (fun _ => none) _ (partV_sound (q := true) k)
  exact e w (fun _ _ x => by cases x)
theorem eqFs_sound {d : Nat} {xs ys : Array Value} : ∀ {fs : List Field} {J : Bool → Prop}, eqFs P fs xs.toList ys.toList J →
    ∃ b, (∀ w, (Op.eqFields (d + 1) xs ys fs).run P w = .ok b w) ∧ J b
  | [], J, k => ⟨true, fun _ => rfl, k⟩
  | f :: fs, J, k => by
    have step : ∀ {dd : TypeDesc} {u v : Value} {c : Bool} {J' : Bool → Prop}, f.name ≠ "_" → P.underlying f.type = some dd → aggD dd = false → xs.toList[f.offset]? = some u → ys.toList[f.offset]? = some v →
        (∀ w, (Op.equalIn (d + 1) f.type u v).run P w = .ok c w) → (∃ b, (∀ w, (Op.eqFields (d + 1) xs ys fs).run P w = .ok b w) ∧ J' b) → (∀ b, J' b → J (c && b)) →
        ∃ b, (∀ w, (Op.eqFields (d + 1) xs ys (f :: fs)).run P w = .ok b w) ∧ J b := by
      intro dd u v c J' hn hu hag h1 h2 h3 hr hj
      obtain ⟨b, e, j⟩ := hr
      refine ⟨c && b, fun w => ?_, hj b j⟩
      unfold Op.eqFields
      rw [if_pos hn]
      simp only [Sem.run_bind, part_run hu hag h1, part_run hu hag h2, h3, Result.andThen_ok]
      cases c
      · rfl
      · simp only [Bool.not_true, Bool.false_eq_true, if_false, Bool.true_and]
        exact e w
    unfold eqFs at k
    split at k
    · rename_i hn
      obtain ⟨b, e, j⟩ := eqFs_sound (d := d) k
      refine ⟨b, fun w => ?_, j⟩
      unfold Op.eqFields
      rw [if_neg (fun x => x (of_decide_eq_true hn))]
      exact e w
    · rename_i hn
      have hn := of_decide_eq_false hn
      split at k
      · rename_i hu
        split at k
        · rename_i h1 h2
          split at k
          · rename_i hk
            have hk := ikEq_eq hk
            subst hk
            exact step hn hu rfl h1 h2 (fun w => run_equalIn_int w d _ _ _ _ _ hu) (eqFs_sound (d := d) k) (fun _ j => j)
          · exact k.elim
        · exact k.elim
      · rename_i hu
        split at k
        · rename_i h1 h2
          exact step hn hu rfl h1 h2 (fun w => run_equalIn_bool' w d _ _ _ hu) (eqFs_sound (d := d) k) (fun _ j => j)
        · exact k.elim
      · rename_i hu
        split at k
        · rename_i h1 h2
          exact step hn hu rfl h1 h2 (fun w => run_equalIn_string w d _ _ _ hu) (eqFs_sound (d := d) k) (fun _ j => j)
        · exact k.elim
      · exact k.elim
theorem arB_run {t e : TypeId} {n d : Nat} {k0 : IntKind} {xs ys : Array Value} {b : Bool} (hu : P.underlying t = some (.array n e)) (he : P.underlying e = some (.int k0)) (hc : P.cellsOf e = 1)
    (h : arB (List.range' 0 n) xs.toList ys.toList = some b) (w : World) : (Op.equalIn (d + 2) t (.agg xs) (.agg ys)).run P w = .ok b w := by
  obtain ⟨i, hi⟩ := underlying_info he
  have hs : i.size = 1 := by rw [← hc]; unfold Program.cellsOf; rw [hi]; rfl
  have hsz : ∀ w, (sizeOf e).run P w = .ok 1 w := fun w => by
    obtain ⟨m, e1, _, rfl⟩ := swq_sound (P := P) (sizeOf e) (fun _ => none) (fun m h => h = (fun _ => none) ∧ m = 1) (by rw [swp_sizeOf hi]; exact ⟨rfl, hs⟩)
    exact e1 w (fun _ _ x => by cases x)
  rw [show d + 2 = (d + 1) + 1 from rfl, Op.equalIn]
  simp only [Sem.run_bind, run_underlying hu, hsz, Result.andThen_ok, Std.Legacy.Range.forIn_eq_forIn_range', Std.Legacy.Range.size, Nat.sub_zero, Nat.add_sub_cancel, Nat.div_one]
  generalize List.range' 0 n = l at *
  induction l generalizing w b with
  | nil =>
    cases h
    simp
  | cons j l ih =>
    unfold arB at h
    split at h
    · rename_i k1 a k2 c hx hy
      split at h
      · rename_i r hk hr
        cases h
        have hk := ikEq_eq hk
        subst hk
        have p1 := fun w => part_run (P := P) he rfl (off := j * 1) (by rw [Nat.mul_one]; exact hx) w
        have p2 := fun w => part_run (P := P) he rfl (off := j * 1) (by rw [Nat.mul_one]; exact hy) w
        simp only [List.forIn_cons, Sem.run_bind, p1, p2, Result.andThen_ok, run_equalIn_int _ d _ _ _ _ _ he]
        cases hab : (a == c) with
        | false => simp
        | true =>
          simp only [Bool.not_true, Bool.false_eq_true, if_false, Sem.run_pure, Result.andThen_ok, Bool.true_and]
          exact ih w hr
      · cases h
    · cases h
theorem aggV_sound {op : BinOp} {t : TypeId} {xs : Array Value} {y : Value} {J : Value → Prop} {ox oy : Operand} (k : aggV P op t xs.toList y J) :
    ∃ v, (∀ w, (do eqGuard op t ox oy (.agg xs) y; binOp op t (.agg xs) y : Sem Value).run P w = .ok v w) ∧ J v := by
  unfold aggV at k
  split at k
  · rename_i ys
    split at k
    · rename_i fs hu
      split at k
      · rename_i h1 h2
        obtain ⟨b, e, j⟩ := eqFs_sound (d := 9998) k
        have hf : P.fieldsOf t = fs := by unfold Program.fieldsOf; rw [hu]
        have e2 : ∀ w, (Op.equalIn 10000 t (.agg xs) (.agg ys)).run P w = .ok b w := fun w => by
          have := run_equalIn_struct (P := P) w 9999 t xs ys (by rw [hf]; exact hu) h2
          rw [this, hf]; exact e w
        cases op <;> first
          | exact j.elim
          | exact ⟨_, fun w => by rw [Sem.run_bind, run_eqGuard_agg w _ t ox oy xs ys h1, Result.andThen_ok, run_eql_struct, e2 w]; rfl, j⟩
          | exact ⟨_, fun w => by rw [Sem.run_bind, run_eqGuard_agg w _ t ox oy xs ys h1, Result.andThen_ok, run_neq_struct, e2 w]; rfl, j⟩
      · exact k.elim
    · rename_i n e hu
      split at k
      · rename_i k0 he hc h1
        obtain ⟨b, e, j⟩ := eqAr_arB k
        have e2 : ∀ w, (Op.equalIn 10000 t (.agg xs) (.agg ys)).run P w = .ok b w := fun w => arB_run (d := 9998) hu he (Nat.eq_of_beq_eq_true hc) e w
        cases op <;> first
          | exact j.elim
          | exact ⟨_, fun w => by rw [Sem.run_bind, run_eqGuard_agg w _ t ox oy xs ys h1, Result.andThen_ok, run_eql_struct, e2 w]; rfl, j⟩
          | exact ⟨_, fun w => by rw [Sem.run_bind, run_eqGuard_agg w _ t ox oy xs ys h1, Result.andThen_ok, run_neq_struct, e2 w]; rfl, j⟩
      · exact k.elim
    · exact k.elim
  · exact k.elim
/-- A text that is gone through, letter by letter. -/
def newI (h : Heap) (s : ByteArray) (J : Nat → Heap → Prop) : Prop := ∀ r, h r = none → J r (h.ins r (.stringIter s 0))
def nextI (h : Heap) (r : Nat) (J : Value → Heap → Prop) : Prop := ∃ (s : ByteArray) (pos : Nat), h r = some (.stringIter s pos) ∧
  Br (decide (pos < s.size)) (J (.tuple #[.bool true, .int .i64 (pos : Int), .int .i32 ((Utf8.decode s pos).1 : Int)]) (h.ins r (.stringIter s (pos + (Utf8.decode s pos).2)))) (J (.tuple #[.bool false]) h)
def opV (P : Program) (t : List Value) (op : Op) (h : Heap) (J : Value → Heap → Prop) : Prop := match op with
  | .move x => J (evO t x) h
  | .assign x => J (evO t x) h
  | .pick c a b => match evO t c with
    | .bool v => Br v (J (evO t a) h) (J (evO t b) h)
    | _ => False
  | .alloc e => allocV P e h J
  | .box e x => newB h (cellsL (evO t x)) e fun r h' => J (.pointer (some ⟨r, 0, none⟩)) h'
  | .build e ps => match builtL P e (mapP t ps.toList) with
    | some cs => J (.agg cs.toArray) h
    | none => False
  | .buildSlice e n ps => bsliceV P e n (mapP t ps.toList) h J
  | .load e a => match evO t a with
    | .pointer ad => withAddr ad fun b o => ldTy P e h b o fun v => J v h
    | _ => False
  | .store e a x => match evO t a with
    | .pointer ad => withAddr ad fun b o => stTy P e h b o (evO t x) fun h' => J undef h'
    | _ => False
  | .nilCheck x => match evO t x with
    | .pointer ad => withAddr ad fun b o => J (.pointer (some ⟨b, o, none⟩)) h
    | .func (.func f) x y => J (.func (.func f) x y) h
    | _ => False
  | .binOp op xT x y _ => match twoPtr (evO t x) y with
    | true => ptrV P op xT (evO t x) (evO t y) fun v => J v h
    | false => match evO t x with
      | .agg xs => aggV P op xT xs.toList (evO t y) fun v => J v h
      | _ => binV P op xT (evO t x) (evO t y) fun v => J v h
  | .range xT x => match evO t x, P.underlying xT with
    | .string s, some .string => newI h s fun r h' => J (.pointer (some ⟨r, 0, none⟩)) h'
    | _, _ => False
  | .next it isS => match isS, evO t it with
    | true, .pointer (some ⟨r, 0, _⟩) => nextI h r J
    | _, _ => False
  | .unOp op _ x => unV op (evO t x) fun v => J v h
  | .convert s d x => match isUns P s d with
    | true => unsV P s d (evO t x) h fun v => J v h
    | false => convA P s d (evO t x) h J
  | .makeFunc fn a b => J (.func fn (mapO t a.toList).toArray (mapO t b.toList).toArray) h
  | .makeSlice e l c => makeV P e (evO t l) (evO t c) h J
  | .slice e x lo hi mx => sliceV P e (evO t x) (mapOp t lo) (mapOp t hi) (mapOp t mx) fun v => J v h
  | .fieldAddr s x f => faddV P s (evO t x) f fun v => J v h
  | .field s x f => fieldV P s (evO t x) f fun v => J v h
  | .indexAddr s x i => iaddV P s (evO t x) (evO t i) fun v => J v h
  | .index s x i => indexV P s (evO t x) (evO t i) fun v => J v h
  | .extract x i => extractV (evO t x) i fun v => J v h
  | .makeMap _ r => match r with
    | none => MNewA h fun r h' => J (.map (some r)) h'
    | some _ => False
  | .lookup xT x i ok => mGetV P xT (evO t x) (evO t i) ok h fun v => J v h
  | .mapUpdate mT m k v => mPutV P mT (evO t m) (evO t k) (evO t v) h J
  | .call { callee := .builtin b, args, argTypes } => biV P b argTypes.toList (mapO t args.toList) h J
  | _ => False

/-- Operations that change nothing, and draw nothing. -/
def quietOp (P : Program) : Op → Bool
  | .convert s d _ => match isUns P s d with
    | true => false
    | false => convQ P s d
  | .move _ | .assign _ | .pick .. | .build .. | .load .. | .nilCheck _ | .binOp .. | .unOp .. | .makeFunc .. | .slice .. | .fieldAddr .. | .field ..
  | .indexAddr .. | .index .. | .extract .. | .lookup .. => true
  | .call { callee := .builtin b, argTypes, .. } => match b with
    | .len => match argTypes.toList with
      | t :: _ => match P.underlying t with
        | some (.map _ _) => false
        | _ => true
      | _ => false
    | .max | .min | .cap | .unsafeSliceData => true
    | _ => false
  | _ => false
/-- The model's answer, as a value. -/
def ansV (q : Bool) (J : Value → Heap → Prop) (n : Next) (h : Heap) : Prop := match n with
  | .value v => J v h
  | .skip => q = false ∧ J undef h
  | _ => False
theorem lift_v {q : Bool} {s : Sem Value} {h : Heap} {J : Value → Heap → Prop} (k : swp P q s h J) : swp P q (do pure (Next.value (← s))) h (ansV q J) := by
  rw [swp_bind']; exact k
theorem pure_v {q : Bool} {s : Sem Value} {h : Heap} {J : Value → Heap → Prop} (k : swp P q s h fun v h' => h' = h ∧ J v h) : swp P q (do pure (Next.value (← s))) h (ansV q J) :=
  lift_v (swp_mono _ _ _ _ (fun _ _ ⟨e, qq⟩ => by rw [e]; exact qq) k)
/-- Those that are known by their runs. -/
def isBuild (t : List Value) : Op → Bool
  | .build .. => true
  | .binOp _ _ x _ _ => match evO t x with
    | .agg _ => true
    | _ => false
  | _ => false
theorem biV_sound {q : Bool} {b : Builtin} {ts : Array TypeId} {ty : TypeId} {cs : Array Bool} {xs : Array Value} {h : Heap} {J : Value → Heap → Prop}
    (k : biV P b ts.toList xs.toList h J) (hq : q = true → b = .len ∨ b = .max ∨ b = .min ∨ b = .cap ∨ b = .unsafeSliceData) : swp P q (builtin b ts ty cs xs) h (ansV q J) := by
  unfold biV at k
  split at k
  · have : q = false := by
      cases q
      · rfl
      · rcases hq rfl with e | e | e | e | e <;> cases e
    subst this
    exact lift_v (appV_sound k)
  · split at k
    · rename_i t0 _ x0 _ ht hx
      have ht0 : ts[0]? = some t0 := by rw [← Array.getElem?_toList, ht]; rfl
      have hx0 : xs[0]? = some x0 := by rw [← Array.getElem?_toList, hx]; rfl
      refine pure_v ?_
      unfold Builtin.len_
      simp only [ht0, hx0]
      unfold lenV at k
      split at k
      · rename_i hu
        rw [swp_bind', swp_underlying hu]; exact ⟨rfl, k⟩
      · rename_i hu
        obtain ⟨r, n, rfl, ⟨es, c, hr, hn⟩, k⟩ := k
        rw [swp_bind', swp_underlying hu]
        dsimp only
        rw [swp_bind']
        refine ⟨_, hr, rfl, ?_⟩
        rw [swp_Pure]
        dsimp only
        rw [hn]
        exact ⟨rfl, k⟩
      · rename_i hu
        rw [swp_bind', swp_underlying hu]; exact ⟨rfl, k⟩
      · rename_i y _ _ _ _ hu
        rw [swp_bind', swp_underlying hu]; cases y <;> exact ⟨rfl, k⟩
      · exact k.elim
    · exact k.elim
  · split at k
    · rename_i x y hx
      refine pure_v ?_
      unfold Builtin.max_
      rw [hx]
      unfold maxV at k
      split at k
      · simp only [List.foldlM_cons, List.foldlM_nil, Builtin.max2, swp_bind', swp_pure', true_and]
        exact k
      · exact k.elim
    · exact k.elim
  · split at k
    · rename_i x y hx
      refine pure_v ?_
      unfold Builtin.min_
      rw [hx]
      unfold minV at k
      split at k
      · simp only [List.foldlM_cons, List.foldlM_nil, Builtin.min2, swp_bind', swp_pure', true_and]
        exact k
      · exact k.elim
    · exact k.elim
  · have : q = false := by
      cases q
      · rfl
      · rcases hq rfl with e | e | e | e | e <;> cases e
    subst this
    exact lift_v (clearV_sound k)
  · have : q = false := by
      cases q
      · rfl
      · rcases hq rfl with e | e | e | e | e <;> cases e
    subst this
    exact lift_v (copyV_sound k)
  · split at k
    · rename_i t0 _ _ _ n _ ht hx
      have ht0 : ts[0]? = some t0 := by rw [← Array.getElem?_toList, ht]; rfl
      have hx0 := congrArg (fun l => l[0]?) hx
      simp only [List.getElem?_cons_zero, Array.getElem?_toList] at hx0
      split at k
      · rename_i hu
        refine pure_v ?_
        unfold Builtin.cap_
        simp only [ht0, hx0]
        rw [swp_bind', swp_underlying hu]
        exact ⟨rfl, k⟩
      · exact k.elim
    · exact k.elim
  · exact pure_v (sliDV_sound k)
  · have : q = false := by
      cases q
      · rfl
      · rcases hq rfl with e | e | e | e | e <;> cases e
    subst this
    exact lift_v (ustrV_sound k)
  · exact k.elim

theorem opV_swp {q : Bool} {t : List Value} {o : Oper} {h : Heap} {J : Value → Heap → Prop} (k : opV P t o.op h J) (hb : isBuild t o.op = false) (hq : q = true → quietOp P o.op = true) :
    swp P q (execOp (evO t) o) h (ansV q J) := by
  obtain ⟨dst, op, type, pos, after, guard⟩ := o
  dsimp only at k hb hq
  have nq : quietOp P op = false → q = false := fun e => by
    cases q
    · rfl
    · rw [hq rfl] at e; cases e
  unfold execOp
  dsimp only
  unfold opV at k
  split at k <;> try dsimp only
  case _ => exact k
  case _ => exact k
  case _ =>
    split at k
    · rename_i v hv
      rw [hv]
      rcases k.elim with ⟨rfl, qq⟩ | ⟨rfl, qq⟩ <;> exact qq
    · exact k.elim
  case _ => cases nq rfl; exact lift_v (allocV_sound k)
  case _ => cases nq rfl; exact lift_v (boxV_sound k)
  case _ => cases hb
  case _ e n ps =>
    cases nq rfl
    refine lift_v (bsliceV_sound ?_)
    rw [mapP_eq] at k
    simpa using k
  case _ e a =>
    split at k
    · rename_i ad hv
      rw [hv]
      obtain ⟨b, o, rfl, k⟩ := withAddr_elim k
      exact pure_v (ldTy_sound k)
    · exact k.elim
  case _ e a x =>
    cases nq rfl
    split at k
    · rename_i ad hv
      rw [hv]
      obtain ⟨b, o, rfl, k⟩ := withAddr_elim k
      rw [swp_bind']
      exact swp_mono _ _ _ _ (fun _ _ qq => ⟨rfl, qq⟩) (stTy_sound k)
    · exact k.elim
  case _ x =>
    split at k
    · rename_i ad hv
      rw [hv]
      obtain ⟨b, o, rfl, k⟩ := withAddr_elim k
      exact k
    · rename_i hv
      rw [hv]
      exact k
    · exact k.elim
  case _ op xT x y _ =>
    split at k
    · exact pure_v (ptrV_sound k)
    · split at k
      · rename_i xs hx
        simp only [isBuild, hx] at hb
        cases hb
      · exact pure_v (binV_sound k)
  case _ xT x =>
    cases nq rfl
    split at k
    · rename_i s hx hu
      rw [hx]
      refine lift_v ?_
      unfold Instr.range
      rw [swp_bind', swp_underlying hu]
      simp only [swp_bind', swp_pure']
      exact ⟨rfl, fun r hr => k r hr⟩
    · exact k.elim
  case _ it isS =>
    cases nq rfl
    split at k
    · rename_i r sp hx
      rw [hx]
      refine lift_v ?_
      unfold Instr.next
      obtain ⟨s, pos, hr, k⟩ := k
      simp only [swp_bind']
      refine ⟨_, hr, rfl, ?_⟩
      show swp P false (if pos < s.size then (do
          let (c, width) := Utf8.decode s pos
          setObj r (.stringIter s (pos + width))
          pure (.tuple #[.bool true, goInt pos, .int .i32 c]) : Sem Value) else pure (.tuple #[.bool false])) h J
      rcases k.elim with ⟨hp, k⟩ | ⟨hp, k⟩
      · rw [if_pos (of_decide_eq_true hp)]
        simp only [swp_bind']
        exact ⟨rfl, _, hr, rfl, k⟩
      · rw [if_neg (of_decide_eq_false hp)]
        exact k
    · exact k.elim
  case _ => exact pure_v (unV_sound k)
  case _ s d x =>
    split at k
    · exact pure_v (unsV_sound k)
    rename_i hun
    unfold convA at k
    split at k
    case h_2 hcq =>
      have hq2 : q = false := nq (by unfold quietOp; dsimp only; rw [hun]; exact hcq)
      subst hq2
      split at k
      · rename_i e hs hd
        split at k
        · rename_i a n c he hx
          rw [hx]
          refine lift_v ?_
          unfold convert
          rw [swp_bind', swp_underlying hs, swp_bind', swp_underlying hd]
          have main : swp P false (Conv.bytesToString (.slice a n c)) h J := swp_mono _ _ _ _ (fun _ _ ⟨e1, s1, e2, j⟩ => by subst e1 e2; exact j) (StrA_sound k)
          cases a with
          | none =>
            dsimp only
            rw [swp_bind', swp_underlying he]
            exact main
          | some ad =>
            dsimp only
            rw [swp_bind', swp_underlying he]
            exact main
        · exact k.elim
      · rename_i e hs hd
        split at k
        · rename_i t0 he hx
          rw [hx]
          refine lift_v ?_
          unfold convert
          rw [swp_bind', swp_underlying hs, swp_bind', swp_underlying hd]
          dsimp only
          rw [swp_bind', swp_underlying he]
          exact BytesA_sound k
        · exact k.elim
      · exact k.elim
    refine pure_v ?_
    unfold convV at k
    split at k
    · rename_i hx hs hd
      rw [hx]
      unfold convert
      rw [swp_bind', swp_underlying hs, swp_bind', swp_underlying hd]
      exact ⟨rfl, k⟩
    · rename_i hx hs hd
      rw [hx]
      unfold convert
      rw [swp_bind', swp_underlying hs, swp_bind', swp_underlying hd]
      exact ⟨rfl, k⟩
    · exact k.elim
  case _ fn a b =>
    rw [mapO_eq, mapO_eq] at k
    have e1 : (a.toList.map (evO t)).toArray = a.map (evO t) := by apply Array.toList_inj.1; simp
    have e2 : (b.toList.map (evO t)).toArray = b.map (evO t) := by apply Array.toList_inj.1; simp
    rw [e1, e2] at k
    exact k
  case _ => cases nq rfl; exact lift_v (makeV_sound k)
  case _ e x lo hi mx =>
    refine pure_v (sliceV_sound ?_)
    have e1 : ∀ x : Option Operand, mapOp t x = x.map (evO t) := fun x => by cases x <;> rfl
    rw [e1, e1, e1] at k
    exact k
  case _ => exact pure_v (faddV_sound k)
  case _ => exact pure_v (fieldV_sound k)
  case _ => exact pure_v (iaddV_sound k)
  case _ => exact pure_v (indexV_sound k)
  case _ => exact pure_v (extractV_sound k)
  case _ =>
    cases nq rfl
    split at k
    · exact lift_v (mNewV_sound k)
    · exact k.elim
  case _ => exact pure_v (mGetV_sound k)
  case _ =>
    cases nq rfl
    rw [swp_bind']
    exact swp_mono _ _ _ _ (fun _ _ qq => ⟨rfl, qq⟩) (mPutV_sound k)
  case _ b args ts =>
    have e1 : mapO t args.toList = (args.map (evO t)).toList := by rw [mapO_eq]; simp
    rw [e1] at k
    simp only [resolve, swp_bind', swp_pure', invoke]
    refine biV_sound k fun e => ?_
    have := hq e
    cases b <;> first | (simp [quietOp] at this; done) | simp
  case _ => exact k.elim
theorem run_buildV {t : List Value} {o : Oper} {h : Heap} {J : Value → Heap → Prop} (ho : isBuild t o.op = true) (k : opV P t o.op h J) :
    ∃ v, (∀ w, (execOp (evO t) o).run P w = .ok (.value v) w) ∧ J v h := by
  obtain ⟨dst, op, type, pos, after, guard⟩ := o
  dsimp only at k ho
  cases op <;> try (cases ho; done)
  case build e ps =>
    unfold opV at k
    dsimp only at k
    split at k
    · rename_i cs hc
      refine ⟨_, fun w => ?_, k⟩
      unfold execOp
      dsimp only
      rw [Sem.run_bind, run_build w e _ cs.toArray]
      · rfl
      · rw [mapP_eq] at hc
        rw [← builtL_eq hc]
        simp
    · exact k.elim
  case binOp op xT x y yT =>
    unfold opV at k
    dsimp only at k
    split at k
    · rename_i h2
      unfold isBuild at ho
      dsimp only at ho
      split at ho
      · rename_i xs hx2
        rw [hx2] at h2
        cases h2
      · cases ho
    split at k
    · rename_i xs hx
      obtain ⟨v, e, j⟩ := aggV_sound (ox := x) (oy := y) k
      refine ⟨v, fun w => ?_, j⟩
      unfold execOp
      dsimp only
      rw [hx, Sem.run_bind, e w]
      rfl
    · rename_i hx
      unfold isBuild at ho
      dsimp only at ho
      split at ho
      · rename_i xs hx2; exact (hx xs hx2).elim
      · cases ho
theorem opV_sound {t : List Value} {o : Oper} {h : Heap} {J : Value → Heap → Prop} (k : opV P t o.op h J) : ssp P (execOp (evO t) o) h (ansV false J) := by
  cases hb : isBuild t o.op with
  | false => exact ssp_of_swp (opV_swp k hb (fun e => by cases e))
  | true =>
    obtain ⟨v, e1, e2⟩ := run_buildV hb k
    exact ssp_of_run e1 e2
theorem opV_quiet {t : List Value} {o : Oper} {h : Heap} {J : Value → Heap → Prop} (k : opV P t o.op h J) (hq : quietOp P o.op = true) :
    ∃ v, (∀ w, Rep h w → (execOp (evO t) o).run P w = .ok (.value v) w) ∧ J v h := by
  cases hb : isBuild t o.op with
  | false =>
    obtain ⟨a, e, qq⟩ := swq_sound _ _ _ (opV_swp (q := true) k hb (fun _ => hq))
    cases a <;> first | exact ⟨_, e, qq⟩ | exact qq.elim | cases qq.1
  | true =>
    obtain ⟨v, e1, e2⟩ := run_buildV hb k
    exact ⟨v, fun w _ => e1 w, e2⟩

end Go.Sy

/- Operations with calls, regions in the text's order, and regions that draw their order. -/
namespace Go.Sy
variable {P : Program}

def nthF : List Func → Nat → Option Func
  | [], _ => none
  | f :: _, 0 => some f
  | _ :: l, n + 1 => nthF l n
theorem nthF_eq : ∀ (l : List Func) (n : Nat), nthF l n = l[n]?
  | [], _ => rfl
  | _ :: _, 0 => rfl
  | _ :: l, n + 1 => by rw [nthF, nthF_eq l n]; rfl
/-- The function that answers the pointer that it is given. -/
def extQ (P : Program) (id : Nat) : Bool := match nthF P.funcs.toList id with
  | some fn => match fn.body with
    | some _ => false
    | none => match decide (fn.name = "internal/abi.NoEscape") with
      | true => decide (fn.origin = "")
      | false => false
  | none => false
theorem ext_next : Extern.allNextRows.lookup "internal/abi.NoEscape" = none := by kernel_rfl
theorem ext_next0 : Extern.allNextRows.lookup "" = none := by kernel_rfl
theorem ext_gen : Extern.allGenericRows.lookup "internal/abi.NoEscape" = none := by kernel_rfl
theorem ext_typed : Extern.allTypedRows.lookup "internal/abi.NoEscape" = none := by kernel_rfl
theorem ext_rows : Extern.allRows.lookup "internal/abi.NoEscape" = some Extern.AbiNoEscape.same := by kernel_rfl
theorem extQ_run {id : Nat} (e : extQ P id = true) (v : Value) (w : World) : (callFunc id #[v]).run P w = .ok (.value v) w := by
  unfold extQ at e
  split at e
  · rename_i fn hf
    rw [nthF_eq] at hf
    have hf' : P.funcs[id]? = some fn := by simpa using hf
    split at e
    · cases e
    · rename_i hb
      split at e
      · rename_i hn
        have hn := of_decide_eq_true hn
        have ho := of_decide_eq_true e
        have h1 : Extern.findNext fn = none := by
          unfold Extern.findNext
          simp only [hn, ho, ext_next, ext_next0]
          rfl
        have h2 : Extern.find fn = some Extern.AbiNoEscape.same := by
          unfold Extern.find
          simp only [hn, ext_gen, ext_typed, ext_rows]
          rfl
        have hp : (program : Sem Program).run P w = .ok P w := rfl
        have hs : (fn.name == "runtime.NumGoroutine") = false := by rw [hn]; decide
        have hm : ∀ m, (mark m).run P w = .ok () w := fun _ => rfl
        unfold callFunc
        simp only [Sem.run_bind, hp, Result.andThen_ok, hf', hs, hb, Option.isNone_none, if_true, Bool.false_eq_true, if_false, hm, h1, h2]
        rfl
      · cases e
  · cases e
def callV (P : Program) (t : List Value) (c : Call) (ty : TypeId) (h : Heap) (J : Value → Heap → Prop) : Prop := match c.callee with
  | .value f => match evO t f with
    | .func (.func id) first captured => match extQ P id with
      | false => CallA P id (first.toList ++ (mapO t c.args.toList ++ captured.toList)) h fun v h' => exRes P ty fun u => v = u ∧ J u h'
      | true => match first.toList ++ (mapO t c.args.toList ++ captured.toList) with
        | [v] => J v h
        | _ => False
    | _ => False
  | _ => False
def isCallV : Op → Option Call
  | .call c => match c.callee with
    | .builtin _ => none
    | _ => some c
  | _ => none
def opA (P : Program) (t : List Value) (o : Oper) (h : Heap) (J : Value → Heap → Prop) : Prop := match isCallV o.op with
  | some c => callV P t c o.type h J
  | none => opV P t o.op h J

/-- What an operation comes to, whatever the model makes of it. -/
def resOK (P : Program) (r : Result Next) (h : Heap) (w : World) (K : Value → Heap → Prop) : Prop := match r with
  | .ok (.value v) w' => ∃ h', K v h' ∧ Rep h' w' ∧ Fr h w h' w'
  | .ok .skip w' => ∃ h', K undef h' ∧ Rep h' w' ∧ Fr h w h' w'
  | .ok (.enter f args) w' => Calls P f args w' fun e w'' => ∃ v h', e = .returned v ∧ K v h' ∧ Rep h' w'' ∧ Fr h w h' w''
  | _ => False
def SOp (P : Program) (ρ : Operand → Value) (o : Oper) (h : Heap) (K : Value → Heap → Prop) : Prop := ∀ w, Rep h w → resOK P ((execOp ρ o).run P w) h w K
theorem resOK_mono {r : Result Next} {h : Heap} {w : World} {K K' : Value → Heap → Prop} (m : ∀ v h', K v h' → K' v h') (k : resOK P r h w K) : resOK P r h w K' := by
  unfold resOK at *
  split at k
  · obtain ⟨h', a, b⟩ := k; exact ⟨h', m _ _ a, b⟩
  · obtain ⟨h', a, b⟩ := k; exact ⟨h', m _ _ a, b⟩
  · exact k.mono fun e w'' ⟨v, h', e1, a, b⟩ => ⟨v, h', e1, m _ _ a, b⟩
  · exact k.elim
theorem SOp.mono {ρ : Operand → Value} {o : Oper} {h : Heap} {K K' : Value → Heap → Prop} (k : SOp P ρ o h K) (m : ∀ v h', K v h' → K' v h') : SOp P ρ o h K' :=
  fun w r => resOK_mono m (k w r)
theorem opA_SOp {t : List Value} {o : Oper} {h : Heap} {J : Value → Heap → Prop} (k : opA P t o h J) : SOp P (evO t) o h J := by
  intro w r
  unfold opA at k
  split at k
  · rename_i c hc
    have ho : o.op = .call c := by
      cases e : o.op <;> rw [e] at hc <;> simp only [isCallV] at hc <;> try (cases hc; done)
      split at hc
      · cases hc
      · cases hc; rfl
    unfold callV at k
    split at k
    · rename_i f hf
      split at k
      · rename_i id first captured hv
        have e1 : (first ++ c.args.map (evO t)) ++ captured = (first.toList ++ (mapO t c.args.toList ++ captured.toList)).toArray := by
          apply Array.toList_inj.1
          rw [mapO_eq]
          simp
        have e2 : (execOp (evO t) o).run P w = (callFunc id (first.toList ++ (mapO t c.args.toList ++ captured.toList)).toArray).run P w := by
          rw [← e1]
          unfold execOp
          simp only [ho, resolve, hf, hv, Deferred.ofValue, Sem.run_bind, Sem.run_pure, Result.andThen_ok, invoke]
        rw [e2]
        split at k
        · rw [(k w r).1]
          exact (k w r).2.mono fun e w'' ⟨v, h', e3, q, x⟩ => by
            obtain ⟨u, rfl, j⟩ := exRes_elim q
            exact ⟨v, h', e3, j, x⟩
        · rename_i hq
          split at k
          · rename_i v hl
            rw [hl, extQ_run hq v w]
            exact ⟨h, k, r, Fr.refl h w⟩
          · exact k.elim
      · exact k.elim
    · exact k.elim
  · obtain ⟨n, h', w', e, q, r', f⟩ := opV_sound k w r
    rw [e]
    cases n <;> first | exact ⟨h', q, r', f⟩ | exact ⟨h', q.2, r', f⟩ | exact q.elim
theorem SOp.wp {t : List Value} {o : Oper} {h : Heap} {K : Value → Heap → Prop} (k : SOp P (evO t) o h K) {w : World} (r : Rep h w) {next : Act → World → Prop} {Q : Exit → Act → World → Prop}
    (n : ∀ v h' w', K v h' → Rep h' w' → Fr h w h' w' → next ⟨(putT t o.dst v).toArray, []⟩ w') : o.wp P ⟨t.toArray, []⟩ w next Q := by
  have he : (Act.mk t.toArray []).eval = evO t := funext (evO_eq t)
  have k1 := k w r
  unfold Oper.wp
  rw [he]
  unfold resOK at k1
  generalize (execOp (evO t) o).run P w = res at k1 ⊢
  split at k1
  · obtain ⟨h', a, b, c⟩ := k1
    rw [Oper.upon_value, putT_eq]; exact n _ _ _ a b c
  · obtain ⟨h', a, b, c⟩ := k1
    rw [Oper.upon_skip, putT_eq]; exact n _ _ _ a b c
  · rw [Oper.upon_enter]
    refine k1.mono fun e w'' ⟨v, h', e1, a, b, c⟩ => ?_
    subst e1
    dsimp only
    rw [putT_eq]; exact n _ _ _ a b c
  · exact k1.elim

/-! ### guards -/
def dstOf (all : List Oper) (j : Nat) : Option Nat := match all[j]? with
  | some o => o.dst
  | none => none
def yieldT (all : List Oper) (t : List Value) (j : Nat) : Option Bool := match dstOf all j with
  | some d => match getT t d with
    | .bool b => some b
    | _ => none
  | none => none
def wantT (all : List Oper) (t : List Value) (o : Oper) : Bool := match o.guard with
  | none => true
  | some (j, want) => yieldT all t j == some want
theorem getT_get? : ∀ (t : List Value) (d : Nat) (v : Value), t[d]? = some v → getT t d = v
  | [], _, _, h => by simp at h
  | _ :: _, 0, _, h => by simpa [getT] using h
  | _ :: t, d + 1, v, h => getT_get? t d v (by simpa using h)
theorem getT_none : ∀ (t : List Value) (d : Nat), t[d]? = none → getT t d = undef
  | [], _, _ => rfl
  | _ :: _, 0, h => by simp at h
  | _ :: t, d + 1, h => getT_none t d (by simpa using h)
theorem yielded_eq (ops : Array Oper) (t : List Value) (j : Nat) : yielded ops t.toArray j = yieldT ops.toList t j := by
  unfold yielded yieldT dstOf
  have e : ops[j]? = ops.toList[j]? := by simp
  rw [e]
  cases ho : ops.toList[j]? with
  | none => rfl
  | some o =>
    simp only [Option.bind_some]
    cases o.dst with
    | none => rfl
    | some d =>
      simp only [Option.bind_some]
      have e2 : t.toArray[d]? = t[d]? := by simp
      rw [e2]
      cases hv : t[d]? with
      | none => rw [getT_none t d hv]; rfl
      | some v => rw [getT_get? t d v hv]; cases v <;> rfl
theorem wanted_eq (ops : Array Oper) (t : List Value) (o : Oper) : Region.wanted o (yielded ops t.toArray) = wantT ops.toList t o := by
  unfold Region.wanted wantT
  cases o.guard with
  | none => rfl
  | some g => obtain ⟨j, want⟩ := g; simp only [yielded_eq]
theorem setT_same : ∀ (t : List Value) (d : Nat), setT t d (getT t d) = t
  | [], _ => rfl
  | _ :: _, 0 => rfl
  | u :: t, d + 1 => by simp only [setT, getT, setT_same t d]

/-- An operation under its guard: what is done, and what isn't. -/
def guarded (all : List Oper) (o : Oper) (t : List Value) (yes no : List Value → Prop) : Prop := match o.guard with
  | none => yes t
  | some (j, want) => match dstOf all j with
    | none => no t
    | some d => match getT t d with
      | .bool b => Br b
          (match want with
            | true => yes (setT t d (.bool true))
            | false => no (setT t d (.bool true)))
          (match want with
            | true => no (setT t d (.bool false))
            | false => yes (setT t d (.bool false)))
      | _ => no t
theorem guarded_elim {all : List Oper} {o : Oper} {t : List Value} {yes no : List Value → Prop} (k : guarded all o t yes no) :
    (wantT all t o = true ∧ yes t) ∨ (wantT all t o = false ∧ no t) := by
  unfold guarded at k
  unfold wantT
  split at k
  · exact .inl ⟨rfl, k⟩
  · rename_i j want hg
    unfold yieldT
    split at k
    · rename_i hd
      rw [hd]
      exact .inr ⟨rfl, k⟩
    · rename_i d hd
      rw [hd]
      dsimp only
      split at k
      · rename_i b hv
        have hs : setT t d (.bool b) = t := by rw [← hv]; exact setT_same t d
        rcases k.elim with ⟨rfl, k⟩ | ⟨rfl, k⟩
        · rw [hs] at k
          cases want
          · exact .inr ⟨rfl, k⟩
          · exact .inl ⟨rfl, k⟩
        · rw [hs] at k
          cases want
          · exact .inl ⟨rfl, k⟩
          · exact .inr ⟨rfl, k⟩
      · exact .inr ⟨rfl, k⟩

/-! ### a region in the text's order -/
def opsA (P : Program) (all : List Oper) : List Oper → List Value → Heap → (List Value → Heap → Prop) → Prop
  | [], t, h, J => J t h
  | o :: os, t, h, J => guarded all o t
      (fun t => opA P t o h fun v h' => opsA P all os (putT t o.dst v) h' J)
      (fun t => opsA P all os (putT t o.dst undef) h J)
/-- Where a region ends. -/
def endsIn (J : List Value → Heap → Prop) (h0 : Heap) (w0 : World) (e : Exit) (a : Act) (w : World) : Prop :=
  e = .normal ∧ ∃ t h, a = ⟨t.toArray, []⟩ ∧ J t h ∧ Rep h w ∧ Fr h0 w0 h w
theorem opsA_sound (ops : Array Oper) (J : List Value → Heap → Prop) (h0 : Heap) (w0 : World) : ∀ (os : List Oper) (k : Nat) (t : List Value) (h : Heap) (w : World),
    ops.toList.drop k = os → opsA P ops.toList os t h J → Rep h w → Fr h0 w0 h w → wpOps P ops (endsIn J h0 w0) (List.range' k os.length) ⟨t.toArray, []⟩ w
  | [], k, t, h, w, _, q, r, f => ⟨rfl, t, h, rfl, q, r, f⟩
  | o :: os, k, t, h, w, hd, q, r, f => by
    have ho : ops[k]? = some o := by
      have : ops.toList[k]? = some o := by
        have := congrArg (·[0]?) hd
        simpa using this
      simpa using this
    have hd' : ops.toList.drop (k + 1) = os := by
      have := congrArg (List.drop 1) hd
      simpa [List.drop_drop, Nat.add_comm] using this
    rw [List.length_cons, List.range'_succ]
    unfold wpOps
    simp only [ho]
    rw [wanted_eq]
    rcases guarded_elim q with ⟨hw, q⟩ | ⟨hw, q⟩
    · rw [hw]
      refine .inl ((opA_SOp q).wp r fun v h' w' q' r' f' => ?_)
      exact opsA_sound ops J h0 w0 os (k + 1) _ h' w' hd' q' r' (f.trans f')
    · rw [hw]
      simp only [Bool.false_eq_true, if_false, putT_eq]
      exact opsA_sound ops J h0 w0 os (k + 1) _ h w hd' q r f

/-! ### the same, with what has been found laid down at once (for the kernel's sake) -/
def fcL : List Value → (List Value → Prop) → Prop
  | [], J => J []
  | v :: r, J => fcL r fun r' => J (v :: r')
theorem fcL_eq : ∀ (l : List Value) (J : List Value → Prop), fcL l J = J l
  | [], _ => rfl
  | v :: r, J => by unfold fcL; rw [fcL_eq r]
def fcV (v : Value) (J : Value → Prop) : Prop := match v with
  | .int k n => J (.int k n)
  | .bool b => J (.bool b)
  | .string s => J (.string s)
  | .pointer a => J (.pointer a)
  | .slice a n c => J (.slice a n c)
  | .agg ⟨l⟩ => fcL l fun l => J (.agg ⟨l⟩)
  | .tuple ⟨l⟩ => fcL l fun l => J (.tuple ⟨l⟩)
  | v => J v
theorem fcV_eq (v : Value) (J : Value → Prop) : fcV v J = J v := by
  unfold fcV
  split <;> first | rfl | exact fcL_eq _ _
def fcN (n : Nat) (J : Nat → Prop) : Prop := match n with
  | 0 => J 0
  | .succ m => J (.succ m)
theorem fcN_eq (n : Nat) (J : Nat → Prop) : fcN n J = J n := by cases n <;> rfl
def fcP (t : List Value) (d : Option Nat) (v : Value) (J : List Value → Prop) : Prop := match d with
  | none => J t
  | some d => fcV v fun v => fcL (setT t d v) J
theorem fcP_eq (t : List Value) (d : Option Nat) (v : Value) (J : List Value → Prop) : fcP t d v J = J (putT t d v) := by
  cases d with
  | none => rfl
  | some d => simp only [fcP, fcV_eq, fcL_eq]; rfl
def guardF (all : List Oper) (o : Oper) (t : List Value) (yes no : List Value → Prop) : Prop := match o.guard with
  | none => yes t
  | some (j, want) => match dstOf all j with
    | none => no t
    | some d => match getT t d with
      | .bool b => Br b
          (fcL (setT t d (.bool true)) fun t => match want with
            | true => yes t
            | false => no t)
          (fcL (setT t d (.bool false)) fun t => match want with
            | true => no t
            | false => yes t)
      | _ => no t
theorem guardF_eq (all : List Oper) (o : Oper) (t : List Value) (yes no : List Value → Prop) : guardF all o t yes no = guarded all o t yes no := by
  unfold guardF guarded
  simp only [fcL_eq]
def opsF (P : Program) (all : List Oper) : List Oper → List Value → Heap → (List Value → Heap → Prop) → Prop
  | [], t, h, J => J t h
  | o :: os, t, h, J => guardF all o t
      (fun t => opA P t o h fun v h' => fcP t o.dst v fun t' => opsF P all os t' h' J)
      (fun t => fcP t o.dst undef fun t' => opsF P all os t' h J)
theorem opsF_eq (P : Program) (all : List Oper) : ∀ (os : List Oper) (t : List Value) (h : Heap) (J : List Value → Heap → Prop), opsF P all os t h J = opsA P all os t h J
  | [], _, _, _ => rfl
  | o :: os, t, h, J => by unfold opsF opsA; simp only [guardF_eq, fcP_eq, opsF_eq P all os]
end Go.Sy

/- Regions that draw their order: one order stands for all. -/
namespace Go.Sy
variable {P : Program}

/-! ### who looks at what -/
def memN (d : Nat) : List Nat → Bool
  | [] => false
  | x :: xs => match Nat.beq d x with
    | true => true
    | false => memN d xs
theorem memN_false {d : Nat} : ∀ {l : List Nat}, memN d l = false → d ∉ l
  | [], _ => by simp
  | x :: xs, h => by
    unfold memN at h
    split at h
    · cases h
    · rename_i hx
      intro hm
      rcases List.mem_cons.1 hm with e | e
      · subst e; rw [Nat.beq_refl] at hx; cases hx
      · exact memN_false h e
def tmpsOf : List Operand → List Nat
  | [] => []
  | x :: xs => match x with
    | .tmp t => t :: tmpsOf xs
    | _ => tmpsOf xs
theorem mem_tmpsOf {d : Nat} : ∀ {l : List Operand}, Operand.tmp d ∈ l → d ∈ tmpsOf l
  | x :: xs, h => by
    unfold tmpsOf
    rcases List.mem_cons.1 h with e | e
    · subst e; simp
    · have := mem_tmpsOf e
      cases x <;> simp [this]
def guardL (all : List Oper) (o : Oper) : List Nat := match o.guard with
  | some (g, _) => match dstOf all g with
    | some d => [d]
    | none => []
  | none => []
def looksL (o : Oper) : List Nat := tmpsOf o.op.operands.toList
def noSel (o : Oper) : Bool := match o.op with
  | .select .. => false
  | _ => true
def dstIn (o : Oper) (l : List Nat) : Bool := match o.dst with
  | some d => memN d l
  | none => false
def dstSame (x y : Oper) : Bool := match x.dst with
  | some d => match y.dst with
    | some e => Nat.beq d e
    | none => false
  | none => false
/-- Two operations that don't meet in any slot. -/
def apartL (all : List Oper) (x y : Oper) : Bool :=
  !dstIn x (looksL y) && !dstIn x (guardL all y) && !dstIn y (looksL x) && !dstIn y (guardL all x) && !dstSame x y && noSel x && noSel y

theorem dstIn_false {o : Oper} {l : List Nat} (h : dstIn o l = false) (d : Nat) (e : o.dst = some d) : d ∉ l := by
  unfold dstIn at h; rw [e] at h; exact memN_false h
theorem apartL_spec {all : List Oper} {x y : Oper} (h : apartL all x y = true) :
    dstIn x (looksL y) = false ∧ dstIn x (guardL all y) = false ∧ dstIn y (looksL x) = false ∧ dstIn y (guardL all x) = false ∧ dstSame x y = false ∧ noSel x = true ∧ noSel y = true := by
  unfold apartL at h
  simp only [Bool.and_eq_true, Bool.not_eq_true'] at h
  exact ⟨h.1.1.1.1.1.1, h.1.1.1.1.1.2, h.1.1.1.1.2, h.1.1.1.2, h.1.1.2, h.1.2, h.2⟩
theorem noSel_spec {o : Oper} (h : noSel o = true) (cs : Array SelectCase) (b : Bool) : o.op ≠ .select cs b := fun e => by
  unfold noSel at h; rw [e] at h; cases h

theorem getT_set_ne : ∀ (t : List Value) (d e : Nat) (v : Value), d ≠ e → getT (setT t d v) e = getT t e
  | [], _, _, _, _ => rfl
  | _ :: _, 0, 0, _, h => (h rfl).elim
  | _ :: _, 0, e + 1, _, _ => rfl
  | _ :: _, d + 1, 0, _, _ => rfl
  | _ :: t, d + 1, e + 1, v, h => getT_set_ne t d e v (fun x => h (by rw [x]))
theorem setT_comm : ∀ (t : List Value) (d e : Nat) (v u : Value), d ≠ e → setT (setT t d v) e u = setT (setT t e u) d v
  | [], _, _, _, _, _ => rfl
  | _ :: _, 0, 0, _, _, h => (h rfl).elim
  | _ :: _, 0, e + 1, _, _, _ => rfl
  | _ :: _, d + 1, 0, _, _, _ => rfl
  | _ :: t, d + 1, e + 1, v, u, h => by simp only [setT, setT_comm t d e v u (fun x => h (by rw [x]))]
theorem getT_put {t : List Value} {o : Oper} {v : Value} {e : Nat} (h : ∀ d, o.dst = some d → d ≠ e) : getT (putT t o.dst v) e = getT t e := by
  unfold putT
  split
  · rename_i d hd; exact getT_set_ne t d e v (h d hd)
  · rfl
theorem putT_comm {t : List Value} {x y : Oper} {v u : Value} (h : dstSame x y = false) : putT (putT t x.dst v) y.dst u = putT (putT t y.dst u) x.dst v := by
  unfold dstSame at h
  unfold putT
  cases hx : x.dst with
  | none => rfl
  | some d =>
    cases hy : y.dst with
    | none => rfl
    | some e =>
      rw [hx, hy] at h
      exact setT_comm t d e v u (fun x => by subst x; dsimp only at h; rw [Nat.beq_refl] at h; cases h)
theorem evO_put {t : List Value} {o y : Oper} {v : Value} (h : dstIn o (looksL y) = false) (x : Operand) (hx : x ∈ y.op.operands) : evO (putT t o.dst v) x = evO t x := by
  cases x with
  | tmp i =>
    refine getT_put fun d hd e => ?_
    subst e
    exact dstIn_false h d hd (mem_tmpsOf (by simpa using hx))
  | _ => rfl
theorem execOp_putL {t : List Value} {o y : Oper} {v : Value} (h : dstIn o (looksL y) = false) (hs : noSel y = true) : execOp (evO (putT t o.dst v)) y = execOp (evO t) y :=
  execOp_congr y (noSel_spec hs) fun x hx => evO_put h x hx
theorem wantT_put {all : List Oper} {t : List Value} {o y : Oper} {v : Value} (h : dstIn o (guardL all y) = false) : wantT all (putT t o.dst v) y = wantT all t y := by
  unfold wantT
  cases hg : y.guard with
  | none => rfl
  | some g =>
    obtain ⟨j, want⟩ := g
    dsimp only
    unfold yieldT
    cases hd : dstOf all j with
    | none => rfl
    | some d =>
      dsimp only
      rw [getT_put fun d' hd' e => ?_]
      subst e
      refine dstIn_false h d' hd' ?_
      unfold guardL
      rw [hg]
      simp [hd]

/-! ### what may come up -/
def afterOk (L : Nat) : List Edge → Bool
  | [] => true
  | e :: es => match Region.binds .any e with
    | true => match L.testBit e.on with
      | true => afterOk L es
      | false => false
    | false => afterOk L es
def rdyM (L : Nat) (i : Nat) (o : Oper) : Bool := match L.testBit i with
  | true => false
  | false => afterOk L o.after.toList
def rdyAt (all : List Oper) (L i : Nat) : Bool := match all[i]? with
  | some o => rdyM L i o
  | none => false
def readOp : Op → Bool
  | .load .. | .lookup .. => true
  | _ => false
/-- All that must come ahead of each. -/
def edgeM (tab : List Nat) : List Edge → Nat
  | [] => 0
  | e :: es => match Region.binds .any e with
    | true => (2 ^ e.on ||| tab.getD e.on 0) ||| edgeM tab es
    | false => edgeM tab es
def befTab : List Nat → List Oper → List Nat
  | tab, [] => tab
  | tab, o :: os => befTab (tab ++ [edgeM tab o.after.toList]) os
/-- Is there one that reads, and needn't come ahead of what bears this mask? -/
def readsBeside (m i : Nat) : Nat → List Oper → Bool
  | _, [] => false
  | k, o :: os => match readOp o.op, m.testBit k, Nat.beq k i with
    | true, false, false => true
    | _, _, _ => readsBeside m i (k + 1) os
def needX (all : List Oper) (i : Nat) : Bool := readsBeside ((befTab [] all).getD i 0) i 0 all
theorem readsBeside_of {m i : Nat} : ∀ {os : List Oper} {k j : Nat} {o : Oper}, os[j]? = some o → readOp o.op = true → m.testBit (k + j) = false → k + j ≠ i → readsBeside m i k os = true
  | [], _, _, _, h, _, _, _ => by simp at h
  | o' :: os, k, 0, o, h, hr, hl, hn => by
    simp at h
    subst h
    have hb : Nat.beq k i = false := by
      cases e : Nat.beq k i with
      | false => rfl
      | true => exact (hn (Nat.eq_of_beq_eq_true e)).elim
    unfold readsBeside
    rw [Nat.add_zero] at hl
    rw [hl, hr, hb]
  | o' :: os, k, j + 1, o, h, hr, hl, hn => by
    unfold readsBeside
    split
    · rfl
    · exact readsBeside_of (k := k + 1) (j := j) (by simpa using h) hr (by rw [show k + 1 + j = k + (j + 1) from by omega]; exact hl) (by omega)
/-- Whatever has come up: all that must come ahead of it has. -/
def closed (all : List Oper) (L : Nat) : Prop := ∀ k o, all[k]? = some o → L.testBit k = true → afterOk L o.after.toList = true
theorem edgeM_le {all : List Oper} {L : Nat} {tab : List Nat} (hc : closed all L) (ht : ∀ (k m : Nat) (o : Oper), tab[k]? = some m → all[k]? = some o → afterOk L o.after.toList = true → ∀ x, m.testBit x = true → L.testBit x = true)
    (hl : tab.length ≤ all.length) : ∀ {es : List Edge}, afterOk L es = true → ∀ x, (edgeM tab es).testBit x = true → L.testBit x = true
  | [], _, x, hx => by simp [edgeM] at hx
  | e :: es, ha, x, hx => by
    unfold afterOk at ha
    unfold edgeM at hx
    split at ha
    · rename_i hb
      split at ha
      · rename_i hon
        rw [hb] at hx
        dsimp only at hx
        rw [Nat.testBit_or, Nat.testBit_or, Bool.or_eq_true, Bool.or_eq_true] at hx
        rcases hx with (hx | hx) | hx
        · rw [Nat.testBit_two_pow] at hx
          have : e.on = x := by simpa using hx
          rw [← this]; exact hon
        · rw [List.getD_eq_getElem?_getD] at hx
          cases htab : tab[e.on]? with
          | none => rw [htab] at hx; simp at hx
          | some m =>
            rw [htab] at hx
            have hlt : e.on < tab.length := (List.getElem?_eq_some_iff.1 htab).1
            have hall : all[e.on]? = some all[e.on] := List.getElem?_eq_getElem (by omega)
            exact ht _ m _ htab hall (hc _ _ hall hon) x hx
        · exact edgeM_le hc ht hl ha x hx
      · cases ha
    · rename_i hb
      rw [hb] at hx
      exact edgeM_le hc ht hl ha x hx
theorem befTab_le {all : List Oper} {L : Nat} (hc : closed all L) : ∀ (os : List Oper) (tab : List Nat), all = all.take tab.length ++ os → tab.length ≤ all.length →
    (∀ (k m : Nat) (o : Oper), tab[k]? = some m → all[k]? = some o → afterOk L o.after.toList = true → ∀ x, m.testBit x = true → L.testBit x = true) →
    ∀ (k m : Nat) (o : Oper), (befTab tab os)[k]? = some m → all[k]? = some o → afterOk L o.after.toList = true → ∀ x, m.testBit x = true → L.testBit x = true
  | [], tab, _, _, ht => ht
  | o' :: os, tab, he, hl, ht => by
    unfold befTab
    have hlen : all.length = tab.length + (os.length + 1) := by
      have := congrArg List.length he
      simp at this
      omega
    have ho' : all[tab.length]? = some o' := by
      have h1 : (all.take tab.length).length = tab.length := by simp; omega
      rw [he, List.getElem?_append_right (by omega), h1, Nat.sub_self]
      rfl
    refine befTab_le hc os _ ?_ (by simp; omega) ?_
    · rw [List.length_append, List.length_singleton, List.take_add_one, ho']
      simpa using he
    · intro k m o hk ho ha x hx
      by_cases hkl : k < tab.length
      · rw [List.getElem?_append_left hkl] at hk
        exact ht k m o hk ho ha x hx
      · have hke : k = tab.length := by
          have := (List.getElem?_eq_some_iff.1 hk).1
          simp at this
          omega
        subst hke
        rw [List.getElem?_append_right (Nat.le_refl _)] at hk
        simp at hk
        subst hk
        rw [ho'] at ho
        cases ho
        exact edgeM_le hc ht hl ha x hx
theorem bef_le {all : List Oper} {L : Nat} (hc : closed all L) {k : Nat} {o : Oper} (ho : all[k]? = some o) (ha : afterOk L o.after.toList = true) (x : Nat)
    (hx : ((befTab [] all).getD k 0).testBit x = true) : L.testBit x = true := by
  rw [List.getD_eq_getElem?_getD] at hx
  cases h : (befTab [] all)[k]? with
  | none => rw [h] at hx; simp at hx
  | some m =>
    rw [h] at hx
    exact befTab_le hc all [] (by simp) (by simp) (fun k m o hk => by simp at hk) k m o h ho ha x hx

def setB (L i : Nat) : Nat := L ||| 2 ^ i
theorem setB_same (L i : Nat) : (setB L i).testBit i = true := by unfold setB; simp
theorem setB_ne {L i j : Nat} (h : i ≠ j) : (setB L i).testBit j = L.testBit j := by
  unfold setB
  rw [Nat.testBit_or, Nat.testBit_two_pow]
  simp [h]
theorem setB_comm (L i j : Nat) : setB (setB L i) j = setB (setB L j) i := by unfold setB; rw [Nat.or_assoc, Nat.or_comm (2 ^ i), Nat.or_assoc]
theorem afterOk_mono {L i : Nat} : ∀ {es : List Edge}, afterOk L es = true → afterOk (setB L i) es = true
  | [], _ => rfl
  | e :: es, h => by
    unfold afterOk at h ⊢
    split at h
    · rename_i hb
      split at h
      · rename_i hl
        have : (setB L i).testBit e.on = true := by
          by_cases hi : i = e.on
          · subst hi; exact setB_same L _
          · rw [setB_ne hi]; exact hl
        rw [this]
        exact afterOk_mono h
      · cases h
    · rename_i hb
      exact afterOk_mono h
theorem rdy_mono {all : List Oper} {L i j : Nat} (h : rdyAt all L j = true) (hne : j ≠ i) : rdyAt all (setB L i) j = true := by
  unfold rdyAt rdyM at h ⊢
  split at h
  · rename_i o ho
    split at h
    · cases h
    · rename_i hl
      rw [setB_ne (Ne.symm hne), hl]
      exact afterOk_mono h
  · cases h

theorem closed_set {all : List Oper} {L j : Nat} (hc : closed all L) (hr : rdyAt all L j = true) : closed all (setB L j) := by
  intro k o hk hl
  by_cases hkj : j = k
  · subst hkj
    unfold rdyAt rdyM at hr
    rw [hk] at hr
    dsimp only at hr
    split at hr
    · cases hr
    · exact afterOk_mono hr
  · rw [setB_ne hkj] at hl
    exact afterOk_mono (hc k o hk hl)
/-- Operation i, at the heap. -/
def StepA (P : Program) (all : List Oper) (i : Nat) (t : List Value) (h : Heap) (K : List Value → Heap → Prop) : Prop := match all[i]? with
  | none => K t h
  | some o => (wantT all t o = true → SOp P (evO t) o h fun v h' => K (putT t o.dst v) h') ∧ (wantT all t o = false → K (putT t o.dst undef) h)
theorem StepA.mono {all : List Oper} {i : Nat} {t : List Value} {h : Heap} {K K' : List Value → Heap → Prop} (k : StepA P all i t h K) (m : ∀ t h, K t h → K' t h) : StepA P all i t h K' := by
  unfold StepA at *
  split at k
  · exact m _ _ k
  · exact ⟨fun e => (k.1 e).mono fun _ _ x => m _ _ x, fun e => m _ _ (k.2 e)⟩
/-! ### where a reading operation looks -/
def flagL (m : Nat) (l : List Nat) : Nat → List Oper → Bool
  | _, [] => true
  | k, y :: ys => match dstIn y l with
    | false => flagL m l (k + 1) ys
    | true => match m.testBit k with
      | true => flagL m l (k + 1) ys
      | false => false
theorem flagL_spec {m : Nat} {l : List Nat} : ∀ {ys : List Oper} {k : Nat}, flagL m l k ys = true → ∀ j y, ys[j]? = some y → dstIn y l = false ∨ m.testBit (k + j) = true
  | [], _, _, _, _, h => by simp at h
  | y' :: ys, k, hf, j, y, hj => by
    unfold flagL at hf
    cases j with
    | zero =>
      simp at hj
      subst hj
      split at hf
      · rename_i e; exact .inl e
      · split at hf
        · rename_i e; exact .inr e
        · cases hf
    | succ j =>
      have key : flagL m l (k + 1) ys = true → dstIn y l = false ∨ m.testBit (k + (j + 1)) = true := fun hf' => by
        have := flagL_spec hf' j y (by simpa using hj)
        rw [show k + (j + 1) = k + 1 + j from by omega]; exact this
      split at hf
      · exact key hf
      · split at hf
        · exact key hf
        · cases hf
/-- the block that is looked at, where it is known -/
def addrB (all : List Oper) (i : Nat) (o : Oper) (t : List Value) : Option Nat := match o.op with
  | .load _ a => match flagL ((befTab [] all).getD i 0) (looksL o) 0 all with
    | true => match evO t a with
      | .pointer (some ad) => some ad.block
      | _ => none
    | false => none
  | _ => none
theorem addrB_put {all : List Oper} {i : Nat} {o y : Oper} {t : List Value} {v : Value} (h : dstIn y (looksL o) = false) : addrB all i o (putT t y.dst v) = addrB all i o t := by
  unfold addrB
  cases ho : o.op <;> try rfl
  case load e a =>
    dsimp only
    rw [evO_put h a (by rw [ho]; simp [Op.operands])]
/-- what comes up later, or beside, is no part of the address -/
theorem addrB_put2 {all : List Oper} {i k : Nat} {o y : Oper} {t : List Value} {v : Value} (hk : all[k]? = some y) (hb : ((befTab [] all).getD i 0).testBit k = false) : addrB all i o (putT t y.dst v) = addrB all i o t := by
  cases hf : flagL ((befTab [] all).getD i 0) (looksL o) 0 all with
  | true =>
    rcases flagL_spec hf k y hk with e | e
    · exact addrB_put e
    · rw [Nat.zero_add, hb] at e; cases e
  | false =>
    unfold addrB
    rw [hf]
def KeepO (all : List Oper) (i : Nat) (o : Oper) (t : List Value) (h h' : Heap) : Prop := match addrB all i o t with
  | some b => ∀ x, h b = some x → h' b = some x
  | none => h.le h'
theorem KeepO.of_le {all : List Oper} {i : Nat} {o : Oper} {t : List Value} {h h' : Heap} (l : h.le h') : KeepO all i o t h h' := by
  unfold KeepO
  split
  · exact fun x e => l _ x e
  · exact l
theorem KeepO.congr {all : List Oper} {i : Nat} {o : Oper} {t t' : List Value} {h h' : Heap} (k : KeepO all i o t h h') (e : addrB all i o t' = addrB all i o t) : KeepO all i o t' h h' := by
  unfold KeepO at *
  rw [e]; exact k
def KeepC (all : List Oper) (j L : Nat) (t : List Value) (h h' : Heap) : Prop :=
  ∀ i o, all[i]? = some o → readOp o.op = true → i ≠ j → (L.testBit i = true ∨ rdyAt all L i = true) → ((befTab [] all).getD j 0).testBit i = false → KeepO all i o t h h'
theorem KeepC.of_le {all : List Oper} {j L : Nat} {t : List Value} {h h' : Heap} (l : h.le h') : KeepC all j L t h h' := fun _ _ _ _ _ _ _ => KeepO.of_le l
def Heap.only (h : Heap) (b : Nat) : Heap := fun x => match Nat.beq x b with
  | true => h x
  | false => none
theorem only_le (h : Heap) (b : Nat) : (h.only b).le h := fun x o e => by
  unfold Heap.only at e
  split at e
  · exact e
  · cases e
theorem only_cell (h : Heap) (b o : Nat) : (h.only b).cell b o = h.cell b o := by
  unfold Heap.cell Heap.only
  rw [Nat.beq_refl]
def footH (all : List Oper) (i : Nat) (o : Oper) (t : List Value) (h : Heap) : Heap := match addrB all i o t with
  | some b => h.only b
  | none => h
theorem footH_le (all : List Oper) (i : Nat) (o : Oper) (t : List Value) (h : Heap) : (footH all i o t h).le h := by
  unfold footH
  split
  · exact only_le _ _
  · exact h.le_refl
theorem footH_keep {all : List Oper} {i : Nat} {o : Oper} {t : List Value} {h h' : Heap} (k : KeepO all i o t h h') : (footH all i o t h).le (footH all i o t h') := by
  unfold footH
  unfold KeepO at k
  split
  · rename_i b e
    rw [e] at k
    intro x y hx
    unfold Heap.only at hx ⊢
    split at hx
    · rename_i hb
      have := Nat.eq_of_beq_eq_true hb
      subst this
      exact k y hx
    · cases hx
  · rename_i e
    rw [e] at k
    exact k
/-- Whatever order is taken from here on. -/
def AnyA (P : Program) (all : List Oper) (J : List Value → Heap → Prop) : Nat → Nat → List Value → Heap → Prop
  | 0, L, t, h => (∀ i, rdyAt all L i = false) ∧ J t h
  | f + 1, L, t, h => ((∀ i, rdyAt all L i = false) → J t h) ∧
    ∀ i, rdyAt all L i = true → StepA P all i t h fun t' h' => KeepC all i L t h h' ∧ AnyA P all J f (setB L i) t' h'

/-- Operation o yields v in all that h (or, where it reads nothing, in whatever) knows. -/
def QOp (P : Program) (all : List Oper) (i : Nat) (t : List Value) (o : Oper) (h : Heap) (v : Value) : Prop :=
  (wantT all t o = true ∧ ∀ w, (readOp o.op = true → Rep (footH all i o t h) w) → (execOp (evO t) o).run P w = .ok (.value v) w) ∨ (wantT all t o = false ∧ v = undef)
theorem QOp.step {all : List Oper} {i : Nat} {t : List Value} {o : Oper} {h : Heap} {v : Value} (hi : all[i]? = some o) (q : QOp P all i t o h v) {K : List Value → Heap → Prop} (k : K (putT t o.dst v) h) :
    StepA P all i t h K := by
  unfold StepA
  rw [hi]
  dsimp only
  rcases q with ⟨hw, q⟩ | ⟨hw, rfl⟩
  · exact ⟨fun _ w r => by rw [q w (fun _ => r.le (footH_le _ _ _ _ _))]; exact ⟨h, k, r, Fr.refl _ _⟩, fun e => by rw [hw] at e; cases e⟩
  · exact ⟨fun e => (by rw [hw] at e; cases e), fun _ => k⟩
theorem QOp.keep {all : List Oper} {i : Nat} {t : List Value} {o y : Oper} {h h' : Heap} {v u : Value} (q : QOp P all i t o h v) (hap : apartL all o y = true) (hh : readOp o.op = true → KeepO all i o t h h') :
    QOp P all i (putT t y.dst u) o h' v := by
  obtain ⟨_, _, a3, a4, _, a6, _⟩ := apartL_spec hap
  unfold QOp at *
  rw [wantT_put a4, execOp_putL a3 a6]
  rcases q with ⟨hw, q⟩ | q
  · refine .inl ⟨hw, fun w r => q w fun e => ?_⟩
    have r := r e
    have ea := addrB_put (all := all) (i := i) (t := t) (v := u) a3
    unfold footH at r
    rw [ea] at r
    exact r.le (footH_keep (hh e))
  · exact .inr q
/-- y, done where o's value lies already, could as well be done ahead of it. -/
theorem StepA_put {all : List Oper} {j : Nat} {t : List Value} {o y : Oper} {h : Heap} {v : Value} {K : List Value → Heap → Prop} (hj : all[j]? = some y) (hap : apartL all o y = true)
    (k : StepA P all j (putT t o.dst v) h K) : StepA P all j t h fun t' h' => (∃ u, t' = putT t y.dst u) ∧ K (putT t' o.dst v) h' := by
  obtain ⟨a1, a2, _, _, a5, _, a7⟩ := apartL_spec hap
  unfold StepA at *
  rw [hj] at *
  dsimp only at *
  rw [wantT_put a2] at k
  constructor
  · intro hw
    have k1 := k.1 hw
    unfold SOp at *
    rw [execOp_putL a1 a7] at k1
    exact fun w r => resOK_mono (fun u h' x => ⟨⟨u, rfl⟩, by rw [← putT_comm a5]; exact x⟩) (k1 w r)
  · intro hw
    exact ⟨⟨undef, rfl⟩, by rw [← putT_comm a5]; exact k.2 hw⟩

def waitsFor (i : Nat) : List Edge → Bool
  | [] => false
  | e :: es => match Region.binds .any e, Nat.beq e.on i with
    | true, true => true
    | _, _ => waitsFor i es
/-- All that haven't come up wait for o, or don't meet it. -/
def freeM (all : List Oper) (L i : Nat) (o : Oper) : Nat → List Oper → Bool
  | _, [] => true
  | j, y :: ys => match Nat.beq j i, L.testBit j with
    | false, false => match waitsFor i y.after.toList with
      | true => freeM all L i o (j + 1) ys
      | false => match apartL all o y with
        | true => freeM all L i o (j + 1) ys
        | false => false
    | _, _ => freeM all L i o (j + 1) ys
theorem waits_not {L i : Nat} : ∀ {es : List Edge}, waitsFor i es = true → L.testBit i = false → afterOk L es = false
  | [], h, _ => by cases h
  | e :: es, h, hl => by
    unfold waitsFor at h
    unfold afterOk
    split at h
    · rename_i h1 h2
      have := Nat.eq_of_beq_eq_true h2
      rw [h1, this, hl]
    · split
      · split
        · exact waits_not h hl
        · rfl
      · exact waits_not h hl
theorem freeM_spec {all : List Oper} {L i : Nat} {o : Oper} : ∀ {ys : List Oper} {k : Nat}, freeM all L i o k ys = true → ∀ j y, ys[j]? = some y → k + j ≠ i → L.testBit (k + j) = false →
    waitsFor i y.after.toList = false → apartL all o y = true
  | [], _, _, _, _, h, _, _, _ => by simp at h
  | y' :: ys, k, hf, j, y, hj, hne, hl, hw => by
    unfold freeM at hf
    cases j with
    | zero =>
      simp at hj
      subst hj
      have hb : Nat.beq k i = false := by
        cases e : Nat.beq k i with
        | false => rfl
        | true => exact (hne (Nat.eq_of_beq_eq_true e)).elim
      rw [Nat.add_zero] at hl
      rw [hb, hl] at hf
      dsimp only at hf
      rw [hw] at hf
      dsimp only at hf
      split at hf
      · assumption
      · cases hf
    | succ j =>
      have key : freeM all L i o (k + 1) ys = true → apartL all o y = true := fun hf' =>
        freeM_spec hf' j y (by simpa using hj) (by omega) (by rw [show k + 1 + j = k + (j + 1) from by omega]; exact hl) hw
      split at hf
      · split at hf
        · exact key hf
        · split at hf
          · exact key hf
          · cases hf
      · exact key hf
theorem AnyA_first {all : List Oper} {J : List Value → Heap → Prop} {i : Nat} {o : Oper} {v : Value} (hi : all[i]? = some o) : ∀ (f L : Nat) (t : List Value) (h : Heap), closed all L →
    (∀ j y, all[j]? = some y → j ≠ i → L.testBit j = false → waitsFor i y.after.toList = false → apartL all o y = true) →
    rdyAt all L i = true → QOp P all i t o h v → AnyA P all J f (setB L i) (putT t o.dst v) h → AnyA P all J (f + 1) L t h
  | 0, L, t, h, _, hfree, hr, q, H => by
    refine ⟨fun hn => (by rw [hn i] at hr; cases hr), fun j hj => ?_⟩
    by_cases hji : j = i
    · subst hji; exact q.step hi ⟨KeepC.of_le h.le_refl, H⟩
    · have := rdy_mono (i := i) hj hji
      rw [H.1 j] at this; cases this
  | f + 1, L, t, h, hc, hfree, hr, q, H => by
    refine ⟨fun hn => (by rw [hn i] at hr; cases hr), fun j hj => ?_⟩
    by_cases hji : j = i
    · subst hji; exact q.step hi ⟨KeepC.of_le h.le_refl, H⟩
    · have h1 := H.2 j (rdy_mono hj hji)
      obtain ⟨y, hy⟩ : ∃ y, all[j]? = some y := by
        unfold rdyAt at hj
        cases e : all[j]? with
        | none => rw [e] at hj; cases hj
        | some y => exact ⟨y, rfl⟩
      have hLi : L.testBit i = false := by
        unfold rdyAt rdyM at hr
        rw [hi] at hr
        dsimp only at hr
        split at hr
        · cases hr
        · rename_i e; exact e
      have hLj : L.testBit j = false ∧ afterOk L y.after.toList = true := by
        have hj' := hj
        unfold rdyAt rdyM at hj'
        rw [hy] at hj'
        dsimp only at hj'
        split at hj'
        · cases hj'
        · rename_i e; exact ⟨e, hj'⟩
      have hnw : waitsFor i y.after.toList = false := by
        cases e : waitsFor i y.after.toList with
        | false => rfl
        | true => have := waits_not e hLi; rw [hLj.2] at this; cases this
      have hap := hfree j y hy hji hLj.1 hnw
      have hbef : ((befTab [] all).getD j 0).testBit i = false := by
        cases e : ((befTab [] all).getD j 0).testBit i with
        | false => rfl
        | true =>
          rw [bef_le hc hy hLj.2 i e] at hLi
          cases hLi
      refine (StepA_put hy hap h1).mono fun t' h' x => ?_
      obtain ⟨⟨u, rfl⟩, x1, x2⟩ := x
      rw [setB_comm] at x2
      have kc : KeepC all j L t h h' := fun i' o' hi' hro hne hst hbj => by
        have aft : afterOk L o'.after.toList = true := by
          rcases hst with e | e
          · exact hc i' o' hi' e
          · unfold rdyAt at e
            rw [hi'] at e
            dsimp only at e
            unfold rdyM at e
            split at e
            · cases e
            · exact e
        have nb : ((befTab [] all).getD i' 0).testBit i = false := by
          cases e : ((befTab [] all).getD i' 0).testBit i with
          | false => rfl
          | true =>
            rw [bef_le hc hi' aft i e] at hLi
            cases hLi
        refine (x1 i' o' hi' hro hne ?_ hbj).congr (addrB_put2 hi nb).symm
        by_cases e : i' = i
        · subst e; exact .inl (setB_same L _)
        · rcases hst with e2 | e2
          · left; rw [setB_ne (Ne.symm e)]; exact e2
          · exact .inr (rdy_mono e2 e)
      have ko : readOp o.op = true → KeepO all i o t h h' := fun hro => kc i o hi hro (Ne.symm hji) (.inr hr) hbef
      refine ⟨kc, AnyA_first hi f (setB L j) _ h' (closed_set hc hj) (fun k z hz hki hl hw => hfree k z hz hki ?_ hw) (rdy_mono hr (Ne.symm hji)) (q.keep hap ko) x2⟩
      by_cases hjk : j = k
      · subst hjk; exact hLj.1
      · rw [setB_ne hjk] at hl; exact hl
/-! ### soundness against the kit's 'whatever order' -/
def corr (ops : Array Oper) (arr : Array Bool) (L : Nat) : Prop := arr.size = ops.size ∧ ∀ j, j < ops.size → arr[j]? = some (L.testBit j)
theorem afterOk_eq {ops : Array Oper} {arr : Array Bool} {L : Nat} (hc : corr ops arr L) (hin : ∀ j, ops.size ≤ j → L.testBit j = false) : ∀ (es : List Edge),
    (es.all fun e => !Region.binds .any e || arr.getD e.on false) = afterOk L es
  | [] => rfl
  | e :: es => by
    rw [List.all_cons, afterOk_eq hc hin es, afterOk]
    have hg : arr.getD e.on false = L.testBit e.on := by
      by_cases h : e.on < ops.size
      · have := hc.2 e.on h
        rw [Array.getD_eq_getD_getElem?, this]; rfl
      · rw [hin _ (by omega), Array.getD_eq_getD_getElem?, Array.getElem?_eq_none (by rw [hc.1]; omega)]; rfl
    rw [hg]
    cases Region.binds .any e <;> cases L.testBit e.on <;> simp
theorem ready_iff {ops : Array Oper} {arr : Array Bool} {L : Nat} (hc : corr ops arr L) (hin : ∀ j, ops.size ≤ j → L.testBit j = false) (i : Nat) :
    i ∈ Region.ready .any ops arr ↔ rdyAt ops.toList L i = true := by
  unfold Region.ready
  rw [List.mem_filter, List.mem_range]
  unfold rdyAt rdyM
  have e : ops.toList[i]? = ops[i]? := by simp
  rw [e]
  by_cases h : i < ops.size
  · have hg : arr.getD i true = L.testBit i := by
      rw [Array.getD_eq_getD_getElem?, hc.2 i h]; rfl
    rw [hg, Array.getElem?_eq_getElem h]
    simp only [h, true_and, Option.map_some, Option.getD_some, Bool.and_eq_true, Bool.not_eq_true']
    have e2 : (ops[i].after.all fun e => !Region.binds .any e || arr.getD e.on false) = afterOk L ops[i].after.toList := by
      rw [← afterOk_eq hc hin, Array.all_toList]
    rw [e2]
    cases L.testBit i <;> simp
  · rw [Array.getElem?_eq_none (by omega)]
    simp [h]
theorem AnyA_sound (ops : Array Oper) (J : List Value → Heap → Prop) (h0 : Heap) (w0 : World) : ∀ (f L : Nat) (arr : Array Bool) (t : List Value) (h : Heap) (w : World),
    corr ops arr L → (∀ j, ops.size ≤ j → L.testBit j = false) → AnyA P ops.toList J f L t h → Rep h w → Fr h0 w0 h w →
    wpAny P .any ops (endsIn J h0 w0) f arr ⟨t.toArray, []⟩ w
  | 0, L, arr, t, h, w, hc, hin, k, r, f => by
    refine ⟨?_, rfl, t, h, rfl, k.2, r, f⟩
    refine List.eq_nil_iff_forall_not_mem.2 fun i hi => ?_
    rw [ready_iff hc hin, k.1 i] at hi
    cases hi
  | n + 1, L, arr, t, h, w, hc, hin, k, r, f => by
    refine ⟨fun hn => ⟨rfl, t, h, rfl, k.1 fun i => ?_, r, f⟩, fun i hi => ?_⟩
    · cases e : rdyAt ops.toList L i with
      | false => rfl
      | true => rw [← ready_iff hc hin, hn] at e; cases e
    · have hr := (ready_iff hc hin i).1 hi
      have k1 := k.2 i hr
      have hlt : i < ops.size := by
        have := (List.mem_filter.1 hi).1
        simpa using this
      have hop : ops[i]? = some ops[i] := Array.getElem?_eq_getElem hlt
      have hc' : corr ops (arr.setIfInBounds i true) (setB L i) := by
        refine ⟨by simpa using hc.1, fun j hj => ?_⟩
        by_cases hij : i = j
        · subst hij
          rw [setB_same, Array.getElem?_setIfInBounds_self_of_lt (by rw [hc.1]; exact hj)]
        · rw [setB_ne hij, Array.getElem?_setIfInBounds_ne hij]
          exact hc.2 j hj
      have hin' : ∀ j, ops.size ≤ j → (setB L i).testBit j = false := fun j hj => by
        rw [setB_ne (by omega)]; exact hin j hj
      unfold wpOp
      rw [hop]
      dsimp only
      rw [wanted_eq]
      unfold StepA at k1
      have e : ops.toList[i]? = some ops[i] := by simp
      rw [e] at k1
      dsimp only at k1
      cases hw : wantT ops.toList t ops[i] with
      | true =>
        simp only [if_true]
        refine .inl ((k1.1 hw).wp r fun v h' w' q r' f' => ?_)
        exact AnyA_sound ops J h0 w0 n _ _ _ h' w' hc' hin' q.2 r' (f.trans f')
      | false =>
        simp only [Bool.false_eq_true, if_false, putT_eq]
        exact AnyA_sound ops J h0 w0 n _ _ _ h w hc' hin' (k1.2 hw).2 r f

/-! ### the one order that stands for all -/
def newOp : Op → Bool
  | .alloc _ | .box .. | .buildSlice .. | .makeSlice .. => true
  | _ => false
/-- The first quiet one that may come up, and that nobody else meets. -/
def pickQ (P : Program) (all : List Oper) (L : Nat) : Nat → List Oper → Option (Nat × Oper)
  | _, [] => none
  | i, o :: os => match quietOp P o.op, rdyM L i o with
    | true, true => match freeM all L i o 0 all with
      | true => some (i, o)
      | false => pickQ P all L (i + 1) os
    | _, _ => pickQ P all L (i + 1) os
def rdyL (L : Nat) : Nat → List Oper → List (Nat × Oper)
  | _, [] => []
  | i, o :: os => match rdyM L i o with
    | true => (i, o) :: rdyL L (i + 1) os
    | false => rdyL L (i + 1) os
/-- What an operation that makes new memory makes, and answers by its number. -/
def newForm (P : Program) (t : List Value) : Op → Option (Obj × (Nat → Value))
  | .alloc e => match zerosOf P e with
    | some z => some (.cells z.toArray e (0, 0), fun r => .pointer (some ⟨r, 0, none⟩))
    | none => none
  | .box e x => some (.cells (cellsL (evO t x)).toArray e (0, 0), fun r => .pointer (some ⟨r, 0, none⟩))
  | .buildSlice ty len ps => match P.underlying ty with
    | some (.slice e) => match P.info? e, zerosOf P e with
      | some i, some z => match fillL (rangePl i.size 0 len) (repL len z) (mapP t ps.toList) with
        | some cells => some (.cells cells.toArray e (0, 0), fun r => .slice (some ⟨r, 0, none⟩) len len)
        | none => none
      | _, _ => none
    | _ => none
  | .makeSlice ty l c => match evO t l, evO t c, P.underlying ty with
    | .int _ l, .int _ c, some (.slice e) => match zerosOf P e with
      | some z => some (.cells (repL c.toNat z).toArray e (0, 0), fun r => .slice (some ⟨r, 0, none⟩) l.toNat c.toNat)
      | none => none
    | _, _, _ => none
  | _ => none
/-- It can be made. -/
def newK (P : Program) (t : List Value) (op : Op) (X : Prop) : Prop := match op with
  | .alloc e => match zerosOf P e with
    | some _ => X
    | none => False
  | .box _ _ => X
  | .buildSlice ty len ps => match P.underlying ty with
    | some (.slice e) => match P.info? e, zerosOf P e with
      | some i, some z => match Nat.beq z.length i.size, Nat.ble (len * i.size) 16777216 with
        | true, true => match fillL (rangePl i.size 0 len) (repL len z) (mapP t ps.toList) with
          | some _ => X
          | none => False
        | _, _ => False
      | _, _ => False
    | _ => False
  | .makeSlice ty l c => match evO t l, evO t c, P.underlying ty with
    | .int _ l, .int _ c, some (.slice e) => match P.info? e, zerosOf P e with
      | some i, some z => match Nat.beq z.length i.size with
        | true => 0 ≤ l ∧ l ≤ c ∧ c ≤ 281474976710656 ∧ (i.bytes : Int) * c ≤ 281474976710656 ∧ X
        | false => False
      | _, _ => False
    | _, _, _ => False
  | _ => False
/-- Of those that may come up: the one to be taken, and the one (it makes new memory) that may come up beside it. -/
def pickE (all : List Oper) (L : Nat) : List (Nat × Oper) → Option ((Nat × Oper) × Option (Nat × Oper))
  | [x] => some (x, none)
  | [x, y] =>
    let c := match newOp x.2.op with | true => (match newOp y.2.op with | true => (x, y) | false => (y, x)) | false => (x, y)
    match newOp c.2.2.op, c.2.2.guard, apartL all c.2.2 c.1.2, rdyL (setB L c.2.1) 0 all with
    | true, none, true, [_] => some (c.1, some c.2)
    | _, _, _, _ => none
  | _ => none
def Keeps (bs : List Nat) (h h' : Heap) : Prop := ∀ b, b ∈ bs → ∀ x, h b = some x → h' b = some x
/-- the blocks that those look at that may come up beside c -/
def blkL (all : List Oper) (c L m : Nat) (t : List Value) : Nat → List Oper → Option (List Nat)
  | _, [] => some []
  | k, o :: os => match readOp o.op, Nat.beq k c, m.testBit k with
    | true, false, false => match L.testBit k, rdyM L k o with
      | false, false => blkL all c L m t (k + 1) os
      | _, _ => match addrB all k o t with
        | some b => match blkL all c L m t (k + 1) os with
          | some bs => some (b :: bs)
          | none => none
        | none => none
    | _, _, _ => blkL all c L m t (k + 1) os
def extC (bs : Option (List Nat)) (h h' : Heap) (X : Prop) : Prop := match bs with
  | some [] => X
  | some (b :: r) => (h.le h' ∨ Keeps (b :: r) h h') ∧ X
  | none => h.le h' ∧ X
def needL (all : List Oper) (o : Oper) (i L : Nat) (t : List Value) : Option (List Nat) := match newOp o.op with
  | true => some []
  | false => blkL all i L ((befTab [] all).getD i 0) t 0 all
theorem blkL_spec {all : List Oper} {c L m : Nat} {t : List Value} {h h' : Heap} : ∀ {os : List Oper} {k : Nat} {bs : List Nat}, blkL all c L m t k os = some bs → Keeps bs h h' →
    ∀ i o, os[i]? = some o → readOp o.op = true → k + i ≠ c → (L.testBit (k + i) = true ∨ rdyM L (k + i) o = true) → m.testBit (k + i) = false → KeepO all (k + i) o t h h'
  | [], _, _, _, _, _, _, e, _, _, _, _ => by simp at e
  | o' :: os, k, bs, e, kp, i, o, hi, hr, hne, hst, hm => by
    unfold blkL at e
    have key : ∀ bs, blkL all c L m t (k + 1) os = some bs → Keeps bs h h' → ∀ j, i = j + 1 → KeepO all (k + i) o t h h' := fun bs e kp j ej => by
      subst ej
      have hs : k + (j + 1) = k + 1 + j := by omega
      rw [hs] at hne hst hm ⊢
      exact blkL_spec e kp j o (by simpa using hi) hr hne hst hm
    cases i with
    | succ j =>
      split at e
      · split at e
        · exact key _ e kp j rfl
        · split at e
          · split at e
            · rename_i b _ bs' e2
              cases e
              exact key _ e2 (fun b hb => kp b (List.mem_cons_of_mem _ hb)) j rfl
            · cases e
          · cases e
      · exact key _ e kp j rfl
    | zero =>
      simp at hi
      subst hi
      rw [Nat.add_zero] at hne hst hm ⊢
      have hb : Nat.beq k c = false := by
        cases e : Nat.beq k c with
        | false => rfl
        | true => exact (hne (Nat.eq_of_beq_eq_true e)).elim
      rw [hr, hb, hm] at e
      dsimp only at e
      split at e
      · rename_i e1 e2
        rcases hst with e3 | e3
        · rw [e3] at e1; cases e1
        · rw [e3] at e2; cases e2
      · split at e
        · rename_i b ea
          split at e
          · cases e
            unfold KeepO
            rw [ea]
            exact kp b (List.mem_cons_self ..)
          · cases e
        · cases e
theorem extC_keep {all : List Oper} {o : Oper} {i L : Nat} {t : List Value} {h h' : Heap} {X : Prop} (hn : newOp o.op = false) (k : extC (needL all o i L t) h h' X) : KeepC all i L t h h' ∧ X := by
  unfold needL at k
  rw [hn] at k
  dsimp only at k
  have main : ∀ bs, blkL all i L ((befTab [] all).getD i 0) t 0 all = some bs → Keeps bs h h' → KeepC all i L t h h' := fun bs e kp j y hy hr hne hst hm => by
    have := blkL_spec e kp j y hy hr (by omega) (by
      rw [Nat.zero_add]
      rcases hst with e2 | e2
      · exact .inl e2
      · unfold rdyAt at e2
        rw [hy] at e2
        exact .inr e2) (by rw [Nat.zero_add]; exact hm)
    rw [Nat.zero_add] at this
    exact this
  unfold extC at k
  split at k
  · rename_i e
    exact ⟨main _ e (fun b hb => by cases hb), k⟩
  · rename_i b r e
    rcases k.1 with l | kp
    · exact ⟨KeepC.of_le l, k.2⟩
    · exact ⟨main _ e kp, k.2⟩
  · exact ⟨KeepC.of_le k.1, k.2⟩
def drawA (P : Program) (all : List Oper) (J : List Value → Heap → Prop) : Nat → Nat → List Value → Heap → Prop
  | 0, L, t, h => match rdyL L 0 all with
    | [] => J t h
    | _ => False
  | f + 1, L, t, h => match pickQ P all L 0 all with
    | some (i, o) => guarded all o t
        (fun t => opV P t o.op h fun v _ => drawA P all J f (setB L i) (putT t o.dst v) h)
        (fun t => drawA P all J f (setB L i) (putT t o.dst undef) h)
    | none => match rdyL L 0 all with
      | [] => J t h
      | l => match pickE all L l with
        | some ((i, o), none) => guarded all o t
            (fun t => opA P t o h fun v h' => extC (needL all o i L t) h h' (drawA P all J f (setB L i) (putT t o.dst v) h'))
            (fun t => drawA P all J f (setB L i) (putT t o.dst undef) h)
        | some ((i, o), some (_, y)) => match f with
          | 0 => False
          | f + 1 => newK P t y.op (guarded all o t
            (fun t => opA P t o h fun v h' => extC (needL all o i L t) h h' (drawA P all J (f + 1) (setB L i) (putT t o.dst v) h'))
            (fun t => drawA P all J (f + 1) (setB L i) (putT t o.dst undef) h))
        | none => False

theorem rdyL_mem {L : Nat} : ∀ {os : List Oper} {k i : Nat} {o : Oper}, os[i]? = some o → rdyM L (k + i) o = true → (k + i, o) ∈ rdyL L k os
  | [], _, _, _, h, _ => by simp at h
  | o' :: os, k, 0, o, h, hr => by
    simp at h
    subst h
    unfold rdyL
    rw [Nat.add_zero] at hr ⊢
    rw [hr]
    simp
  | o' :: os, k, i + 1, o, h, hr => by
    have := rdyL_mem (k := k + 1) (i := i) (os := os) (o := o) (by simpa using h) (by rw [show k + 1 + i = k + (i + 1) from by omega]; exact hr)
    rw [show k + 1 + i = k + (i + 1) from by omega] at this
    unfold rdyL
    split
    · exact List.mem_cons_of_mem _ this
    · exact this
theorem rdyL_of {L : Nat} : ∀ {os : List Oper} {k i : Nat} {o : Oper}, (i, o) ∈ rdyL L k os → k ≤ i ∧ os[i - k]? = some o ∧ rdyM L i o = true
  | [], _, _, _, h => by simp [rdyL] at h
  | o' :: os, k, i, o, h => by
    unfold rdyL at h
    have rest : (i, o) ∈ rdyL L (k + 1) os → k ≤ i ∧ (o' :: os)[i - k]? = some o ∧ rdyM L i o = true := fun h => by
      obtain ⟨h1, h2, h3⟩ := rdyL_of h
      refine ⟨by omega, ?_, h3⟩
      rw [show i - k = (i - (k + 1)) + 1 from by omega]
      simpa using h2
    split at h
    · rename_i hr
      rcases List.mem_cons.1 h with e | e
      · cases e
        exact ⟨Nat.le_refl _, by simp, hr⟩
      · exact rest e
    · exact rest h
theorem rdyL_none {all : List Oper} {L : Nat} (h : rdyL L 0 all = []) (i : Nat) : rdyAt all L i = false := by
  cases e : rdyAt all L i with
  | false => rfl
  | true =>
    unfold rdyAt at e
    split at e
    · rename_i o ho
      have := rdyL_mem (k := 0) (i := i) ho (by rw [Nat.zero_add]; exact e)
      rw [h] at this
      cases this
    · cases e
theorem pickQ_spec {all : List Oper} {L : Nat} : ∀ {os : List Oper} {k i : Nat} {o : Oper}, pickQ P all L k os = some (i, o) → k ≤ i ∧ os[i - k]? = some o ∧ quietOp P o.op = true ∧ rdyM L i o = true ∧ freeM all L i o 0 all = true
  | [], _, _, _, h => by simp [pickQ] at h
  | o' :: os, k, i, o, h => by
    unfold pickQ at h
    have rest : pickQ P all L (k + 1) os = some (i, o) → k ≤ i ∧ (o' :: os)[i - k]? = some o ∧ quietOp P o.op = true ∧ rdyM L i o = true ∧ freeM all L i o 0 all = true := fun h => by
      obtain ⟨h1, h2, h3⟩ := pickQ_spec h
      refine ⟨by omega, ?_, h3⟩
      rw [show i - k = (i - (k + 1)) + 1 from by omega]
      simpa using h2
    split at h
    · rename_i h1 h2
      split at h
      · rename_i h3
        cases h
        exact ⟨Nat.le_refl _, by simp, h1, h2, h3⟩
      · exact rest h
    · exact rest h
theorem opV_free {t : List Value} {op : Op} {h : Heap} {J : Value → Heap → Prop} (k : opV P t op h J) (hq : quietOp P op = true) (hr : readOp op = false) : opV P t op (fun _ => none) (fun v _ => J v h) := by
  unfold opV at k ⊢
  split at k <;> first
    | exact k
    | (cases hq; done)
    | (cases hr; done)
    | skip
  case _ s d x =>
    cases hu : isUns P s d with
    | true => unfold quietOp at hq; dsimp only at hq; rw [hu] at hq; cases hq
    | false =>
      have hq : convQ P s d = true := by unfold quietOp at hq; dsimp only at hq; rw [hu] at hq; exact hq
      rw [hu] at k
      dsimp only at k ⊢
      unfold convA at k ⊢
      rw [hq] at k ⊢
      exact k
  case _ b args ts =>
    unfold biV at k ⊢
    split at k <;> first
      | (cases hq; done)
      | exact k
      | skip
    split at k
    · rename_i t0 _ x0 _ ht hx
      dsimp only
      unfold lenV at k ⊢
      split at k
      · exact k
      · rename_i hu
        unfold quietOp at hq
        dsimp only at hq
        rw [ht] at hq
        dsimp only at hq
        rw [hu] at hq
        cases hq
      · exact k
      · exact k
      · exact k.elim
    · exact k.elim
theorem ldCells_only (h : Heap) (b : Nat) : ∀ (ss : List Sc) (o n : Nat) (K : List Value → Prop), ldCells ss (h.only b) b o n K = ldCells ss h b o n K
  | [], _, _, _ => rfl
  | s :: ss, o, n, K => by unfold ldCells; simp only [only_cell, ldCells_only h b ss]
theorem ldTy_only {t : TypeId} {h : Heap} {b o : Nat} {K : Value → Prop} (k : ldTy P t h b o K) : ldTy P t (h.only b) b o K := by
  unfold ldTy at *
  simp only [ldCells_only, only_cell]
  exact k
theorem opV_Q {all : List Oper} {i : Nat} {t : List Value} {o : Oper} {h : Heap} {J : Value → Heap → Prop} (k : opV P t o.op h J) (hq : quietOp P o.op = true) (hw : wantT all t o = true) :
    ∃ v, QOp P all i t o h v ∧ J v h := by
  cases hr : readOp o.op with
  | true =>
    cases ha : addrB all i o t with
    | none =>
      obtain ⟨v, e, q⟩ := opV_quiet k hq
      exact ⟨v, .inl ⟨hw, fun w r => e w (by have := r hr; unfold footH at this; rw [ha] at this; exact this)⟩, q⟩
    | some b =>
      have k2 : opV P t o.op (h.only b) fun v _ => J v h := by
        have ha2 := ha
        unfold addrB at ha2
        split at ha2
        · rename_i e a ho
          split at ha2
          · split at ha2
            · rename_i ad hv
              cases ha2
              rw [ho] at k ⊢
              unfold opV at k ⊢
              dsimp only at k ⊢
              rw [hv] at k ⊢
              dsimp only at k ⊢
              obtain ⟨b, o', e1, k3⟩ := withAddr_elim k
              cases e1
              exact ldTy_only k3
            · cases ha2
          · cases ha2
        · cases ha2
      obtain ⟨v, e, q⟩ := opV_quiet k2 hq
      exact ⟨v, .inl ⟨hw, fun w r => e w (by have := r hr; unfold footH at this; rw [ha] at this; exact this)⟩, q⟩
  | false =>
    obtain ⟨v, e, q⟩ := opV_quiet (opV_free k hq hr) hq
    exact ⟨v, .inl ⟨hw, fun w _ => e w (fun _ _ x => by cases x)⟩, q⟩
theorem le_ins {h : Heap} {r : Nat} {o : Obj} (e : h r = none) : h.le (h.ins r o) := fun x y hx => by
  unfold Heap.ins
  rw [if_neg (fun e2 => by rw [e2, e] at hx; cases hx)]
  exact hx
theorem newB_le {h : Heap} {cells : List Value} {T : TypeId} {J : Nat → Heap → Prop} (k : newB h cells T J) : newB h cells T fun r h' => h.le h' ∧ J r h' :=
  fun r hr => ⟨le_ins hr, k r hr⟩
theorem opV_new {t : List Value} {op : Op} {h : Heap} {J : Value → Heap → Prop} (k : opV P t op h J) (hn : newOp op = true) : opV P t op h fun v h' => h.le h' ∧ J v h' := by
  cases op <;> try (cases hn; done)
  case alloc e =>
    unfold opV allocV at *
    dsimp only at *
    split at k
    · exact newB_le k
    · exact k.elim
  case box e x => exact newB_le k
  case buildSlice e n ps =>
    unfold opV bsliceV at *
    dsimp only at *
    repeat' split at k
    all_goals first
      | exact k.elim
      | exact newB_le k
  case makeSlice e l c =>
    unfold opV makeV at *
    dsimp only at *
    repeat' split at k
    all_goals first
      | exact k.elim
      | (exact ⟨k.1, k.2.1, k.2.2.1, k.2.2.2.1, newB_le k.2.2.2.2⟩)
theorem rdyAt_of {all : List Oper} {L i : Nat} {o : Oper} (ho : all[i]? = some o) (hr : rdyM L i o = true) : rdyAt all L i = true := by
  unfold rdyAt; rw [ho]; exact hr
theorem rdyAt_mem {all : List Oper} {L j : Nat} (h : rdyAt all L j = true) : ∃ y, all[j]? = some y ∧ rdyM L j y = true ∧ (j, y) ∈ rdyL L 0 all := by
  unfold rdyAt at h
  split at h
  · rename_i y hy
    have := rdyL_mem (k := 0) (i := j) hy (by rw [Nat.zero_add]; exact h)
    rw [Nat.zero_add] at this
    exact ⟨y, hy, h, this⟩
  · cases h
theorem rdyM_not {L i : Nat} {o : Oper} (h : rdyM L i o = true) : L.testBit i = false := by
  unfold rdyM at h
  split at h
  · cases h
  · assumption
theorem rdyM_after {L i : Nat} {o : Oper} (h : rdyM L i o = true) : afterOk L o.after.toList = true := by
  unfold rdyM at h
  split at h
  · cases h
  · exact h
theorem opV_form {t : List Value} {op : Op} {h : Heap} {J : Value → Heap → Prop} (k : opV P t op h J) (hn : newOp op = true) :
    ∃ obj val, newForm P t op = some (obj, val) ∧ ∀ r, h r = none → J (val r) (h.ins r obj) := by
  cases op <;> try (cases hn; done)
  case alloc e =>
    unfold opV allocV at k
    dsimp only at k
    split at k
    · rename_i z hz
      exact ⟨_, _, by simp only [newForm, hz], k⟩
    · exact k.elim
  case box e x => exact ⟨_, _, rfl, k⟩
  case buildSlice e n ps =>
    unfold opV bsliceV at k
    dsimp only at k
    split at k
    · rename_i e' hu
      split at k
      · rename_i i z hi hz
        split at k
        · rename_i h1 h2
          split at k
          · rename_i cells hc
            exact ⟨_, _, by simp only [newForm, hu, hi, hz, hc], k⟩
          · exact k.elim
        · exact k.elim
      · exact k.elim
    · exact k.elim
  case makeSlice e l c =>
    unfold opV makeV at k
    dsimp only at k
    split at k
    · rename_i _ l' _ c' e' hl hc hu
      split at k
      · rename_i i z hi hz
        split at k
        · rename_i h1
          exact ⟨_, _, by simp only [newForm, hl, hc, hu, hz], k.2.2.2.2⟩
        · exact k.elim
      · exact k.elim
    · exact k.elim
theorem newK_spec {t : List Value} {op : Op} {X : Prop} (k : newK P t op X) : X ∧ ∃ obj val, newForm P t op = some (obj, val) ∧ ∀ h, opV P t op h fun v h' => ∃ r, h r = none ∧ v = val r ∧ h' = h.ins r obj := by
  cases op <;> try (exact k.elim)
  case alloc e =>
    unfold newK at k
    dsimp only at k
    split at k
    · rename_i z hz
      refine ⟨k, .cells z.toArray e (0, 0), fun r => .pointer (some ⟨r, 0, none⟩), by simp only [newForm, hz], fun h => ?_⟩
      simp only [opV, allocV, hz]
      exact fun r hr => ⟨r, hr, rfl, rfl⟩
    · exact k.elim
  case box e x => exact ⟨k, _, _, rfl, fun h r hr => ⟨r, hr, rfl, rfl⟩⟩
  case buildSlice e n ps =>
    unfold newK at k
    dsimp only at k
    split at k
    · rename_i e' hu
      split at k
      · rename_i i z hi hz
        split at k
        · rename_i h1 h2
          split at k
          · rename_i cells hc
            refine ⟨k, .cells cells.toArray e' (0, 0), fun r => .slice (some ⟨r, 0, none⟩) n n, by simp only [newForm, hu, hi, hz, hc], fun h => ?_⟩
            simp only [opV, bsliceV, hu, hi, hz, h1, h2, hc]
            exact fun r hr => ⟨r, hr, rfl, rfl⟩
          · exact k.elim
        · exact k.elim
      · exact k.elim
    · exact k.elim
  case makeSlice e l c =>
    unfold newK at k
    dsimp only at k
    split at k
    · rename_i _ l' _ c' e' hl hc hu
      split at k
      · rename_i i z hi hz
        split at k
        · rename_i h1
          refine ⟨k.2.2.2.2, .cells (repL c'.toNat z).toArray e' (0, 0), fun r => .slice (some ⟨r, 0, none⟩) l'.toNat c'.toNat, by simp only [newForm, hl, hc, hu, hz], fun h => ?_⟩
          simp only [opV, makeV, hl, hc, hu, hi, hz, h1]
          exact ⟨k.1, k.2.1, k.2.2.1, k.2.2.2.1, fun r hr => ⟨r, hr, rfl, rfl⟩⟩
        · exact k.elim
      · exact k.elim
    · exact k.elim
theorem mapP_put {t : List Value} {o y : Oper} {v : Value} (h : dstIn o (looksL y) = false) : ∀ (ps : List (Nat × Operand)), (∀ x ∈ ps, x.2 ∈ y.op.operands) → mapP (putT t o.dst v) ps = mapP t ps
  | [], _ => rfl
  | (i, x) :: ps, hm => by
    unfold mapP
    rw [evO_put h x (hm (i, x) (List.mem_cons_self ..)), mapP_put h ps fun z hz => hm z (List.mem_cons_of_mem _ hz)]
theorem newForm_put {t : List Value} {o y : Oper} {v : Value} (h : dstIn o (looksL y) = false) : newForm P (putT t o.dst v) y.op = newForm P t y.op := by
  have key : ∀ x, x ∈ y.op.operands → evO (putT t o.dst v) x = evO t x := fun x hx => evO_put h x hx
  have keyP : ∀ (ps : List (Nat × Operand)), (∀ x ∈ ps, x.2 ∈ y.op.operands) → mapP (putT t o.dst v) ps = mapP t ps := fun ps hm => mapP_put h ps hm
  cases ho : y.op <;> try rfl
  case box e x => simp only [newForm, key x (by rw [ho]; simp [Op.operands])]
  case buildSlice e n ps =>
    simp only [newForm, keyP ps.toList (fun x hx => by
      rw [ho]
      simp only [Op.operands]
      simp
      exact ⟨x.1, by simpa using hx⟩)]
  case makeSlice e l c =>
    simp only [newForm, key l (by rw [ho]; simp [Op.operands]), key c (by rw [ho]; simp [Op.operands])]
/-- What is done without knowing of a block leaves it. -/
theorem SOp.frame1 {ρ : Operand → Value} {o : Oper} {h : Heap} {K : Value → Heap → Prop} {r : Nat} {obj : Obj} (k : SOp P ρ o h K) (hr : h r = none) :
    SOp P ρ o (h.ins r obj) fun v h'' => ∃ h', K v h' ∧ h' r = none ∧ h'' = h'.ins r obj := by
  intro w rw'
  have r0 : Rep h w := rw'.le (le_ins hr)
  have hw : w.heap[r]? = some obj := rw' r obj (by unfold Heap.ins; rw [if_pos rfl])
  have hlt : r < w.heap.size := (Array.getElem?_eq_some_iff.1 hw).1
  have main : ∀ {v : Value} {h' : Heap} {w' : World}, K v h' → Rep h' w' → Fr h w h' w' → ∃ h'', (∃ h', K v h' ∧ h' r = none ∧ h'' = h'.ins r obj) ∧ Rep h'' w' ∧ Fr (h.ins r obj) w h'' w' := by
    intro v h' w' kk r' f
    have hn : h' r = none := f.dom r hlt hr
    refine ⟨h'.ins r obj, ⟨h', kk, hn, rfl⟩, ?_, ?_⟩
    · intro x y hx
      unfold Heap.ins at hx
      by_cases hxr : x = r
      · rw [if_pos hxr] at hx
        rw [hxr, f.keep r hlt hr, hw]; exact hx
      · rw [if_neg hxr] at hx; exact r' _ _ hx
    · refine ⟨f.os, f.tape, f.output, f.size, (f.more (le_ins hr)).keep, fun x hx hxn => ?_⟩
      unfold Heap.ins at hxn ⊢
      by_cases hxr : x = r
      · rw [if_pos hxr] at hxn; cases hxn
      · rw [if_neg hxr] at hxn ⊢
        exact f.dom x hx hxn
  have k1 := k w r0
  unfold resOK at k1 ⊢
  split at k1
  · obtain ⟨h', a, b, c⟩ := k1; exact main a b c
  · obtain ⟨h', a, b, c⟩ := k1; exact main a b c
  · refine k1.mono fun e w'' ⟨v, h', e1, a, b, c⟩ => ?_
    obtain ⟨h'', x, y, z⟩ := main a b c
    exact ⟨v, h'', e1, x, y, z⟩
  · exact k1.elim
theorem ins_le {h h' : Heap} {r : Nat} {obj : Obj} (l : h.le h') : (h.ins r obj).le (h'.ins r obj) := fun x y hx => by
  unfold Heap.ins at hx ⊢
  by_cases hxr : x = r
  · rw [if_pos hxr] at hx ⊢; exact hx
  · rw [if_neg hxr] at hx ⊢; exact l _ _ hx
theorem pickE_spec {all : List Oper} {L : Nat} {l : List (Nat × Oper)} {c : Nat × Oper} {n : Option (Nat × Oper)} (h : pickE all L l = some (c, n)) :
    (n = none ∧ l = [c]) ∨ ∃ y, n = some y ∧ (l = [c, y] ∨ l = [y, c]) ∧ newOp y.2.op = true ∧ y.2.guard = none ∧ apartL all y.2 c.2 = true ∧ (rdyL (setB L y.1) 0 all).length = 1 := by
  unfold pickE at h
  split at h
  · cases h; exact .inl ⟨rfl, rfl⟩
  · rename_i x y
    dsimp only at h
    split at h
    · rename_i z h1 h2 h3 h4
      cases h
      refine .inr ⟨_, rfl, ?_, h1, h2, h3, by rw [h4]; rfl⟩
      split
      · split
        · exact .inl rfl
        · exact .inr rfl
      · exact .inl rfl
    · cases h
  · cases h
theorem opA_new {t : List Value} {o : Oper} {h : Heap} {J : Value → Heap → Prop} (hn : newOp o.op = true) : opA P t o h J = opV P t o.op h J := by
  have hcv : isCallV o.op = none := by cases ho : o.op <;> rw [ho] at hn <;> first | rfl | cases hn
  unfold opA
  rw [hcv]
theorem extC_new {all : List Oper} {o : Oper} {i L : Nat} {t : List Value} {h h' : Heap} {X : Prop} (hn : newOp o.op = true) (x : extC (needL all o i L t) h h' X) : X := by
  unfold needL at x
  rw [hn] at x; exact x

/-- The one order stands for all; with or without one block that lies there ahead of its time. -/
theorem drawA_both {all : List Oper} {J : List Value → Heap → Prop} : ∀ (f L : Nat) (t : List Value) (h : Heap), closed all L → drawA P all J f L t h →
    AnyA P all J f L t h ∧ ∀ (g i : Nat) (o : Oper) (obj : Obj) (val : Nat → Value) (r : Nat), f = g + 1 → all[i]? = some o → newOp o.op = true → o.guard = none → rdyM L i o = true →
      newForm P t o.op = some (obj, val) → h r = none → AnyA P all J g (setB L i) (putT t o.dst (val r)) (h.ins r obj)
  | 0, L, t, h, _, k => by
    refine ⟨?_, fun g i o obj val r e => by omega⟩
    unfold drawA at k
    split at k
    · rename_i hn; exact ⟨rdyL_none hn, k⟩
    · exact k.elim
  | f + 1, L, t, h, hc, k => by
    unfold drawA at k
    split at k
    · -- a quiet one
      rename_i q o hp
      obtain ⟨_, hi, hq, hr, hfree⟩ := pickQ_spec hp
      rw [Nat.sub_zero] at hi
      have hra := rdyAt_of hi hr
      obtain ⟨v, hQ, k1⟩ : ∃ v, QOp P all q t o h v ∧ drawA P all J f (setB L q) (putT t o.dst v) h := by
        refine (guarded_elim k).elim (fun ⟨hw, k⟩ => ?_) (fun ⟨hw, k⟩ => ⟨undef, .inr ⟨hw, rfl⟩, k⟩)
        obtain ⟨v, q, k⟩ := opV_Q (all := all) (i := q) k hq hw
        exact ⟨v, q, k⟩
      have ih := drawA_both f _ _ h (closed_set hc hra) k1
      have hfree' : ∀ j y, all[j]? = some y → j ≠ q → L.testBit j = false → waitsFor q y.after.toList = false → apartL all o y = true := fun j y hj hne hl hwt =>
        freeM_spec (k := 0) hfree j y hj (by omega) (by rw [Nat.zero_add]; exact hl) hwt
      refine ⟨AnyA_first hi f L t h hc hfree' hra hQ ih.1, fun g i y obj val r e hy hn hgu hry hnf hrn => ?_⟩
      have hqi : q ≠ i := by
        rintro rfl
        rw [hi] at hy
        cases hy
        cases ho : o.op <;> rw [ho] at hq hn <;> first | (cases hn; done) | (cases hq; done)
      have hLq : L.testBit q = false := rdyM_not hr
      have hLi : L.testBit i = false := rdyM_not hry
      have hwq : waitsFor q y.after.toList = false := by
        cases e : waitsFor q y.after.toList with
        | false => rfl
        | true => have := waits_not e hLq; rw [rdyM_after hry] at this; cases this
      have hap := hfree' i y hy (Ne.symm hqi) hLi hwq
      obtain ⟨a1, _, _, _, a5, _, _⟩ := apartL_spec hap
      cases g with
      | zero =>
        exfalso
        have : f = 0 := by omega
        subst this
        have h0 := ih.1.1 i
        rw [rdy_mono (rdyAt_of hy hry) (Ne.symm hqi)] at h0
        cases h0
      | succ g =>
        have h2 := ih.2 g i y obj val r (by omega) hy hn hgu (by
          have := rdy_mono (i := q) (rdyAt_of hy hry) (Ne.symm hqi)
          unfold rdyAt at this
          rw [hy] at this
          exact this) (by rw [newForm_put a1]; exact hnf) hrn
        rw [setB_comm, putT_comm a5] at h2
        refine AnyA_first hi g (setB L i) _ _ (closed_set hc (rdyAt_of hy hry)) (fun j z hz hne hl hwt => hfree' j z hz hne ?_ hwt) (rdy_mono hra hqi) (hQ.keep hap fun _ => KeepO.of_le (le_ins hrn)) h2
        by_cases hij : i = j
        · subst hij; exact hLi
        · rw [setB_ne hij] at hl; exact hl
    · split at k
      · rename_i hn
        refine ⟨⟨fun _ => k, fun i hi => ?_⟩, fun g i y obj val r e hy hn2 hgu hry => ?_⟩
        · rw [rdyL_none hn i] at hi; cases hi
        · have := rdyL_none hn i
          rw [rdyAt_of hy hry] at this
          cases this
      · rename_i hnone
        obtain ⟨c, o, n, hp, k, hlate⟩ : ∃ c o n, pickE all L (rdyL L 0 all) = some ((c, o), n) ∧ (guarded all o t
            (fun t => opA P t o h fun v h' => extC (needL all o c L t) h h' (drawA P all J f (setB L c) (putT t o.dst v) h'))
            (fun t => drawA P all J f (setB L c) (putT t o.dst undef) h)) ∧
            ∀ z, n = some z → f ≠ 0 ∧ ∃ obj val, newForm P t z.2.op = some (obj, val) ∧ ∀ h, opV P t z.2.op h fun v h' => ∃ r, h r = none ∧ v = val r ∧ h' = h.ins r obj := by
          split at k
          · rename_i c o hp
            exact ⟨c, o, none, hp, k, fun z e => by cases e⟩
          · rename_i c o z1 y hp
            split at k
            · exact k.elim
            · obtain ⟨k1, k2⟩ := newK_spec k
              exact ⟨c, o, _, hp, k1, fun z e => by cases e; exact ⟨by omega, k2⟩⟩
          · exact k.elim
        have hcm : (c, o) ∈ rdyL L 0 all := by
          rcases pickE_spec hp with ⟨_, e⟩ | ⟨y, _, e | e, _⟩ <;> rw [e] <;> simp
        obtain ⟨_, hi, hr⟩ := rdyL_of hcm
        rw [Nat.sub_zero] at hi
        have hra := rdyAt_of hi hr
        -- what is done at c
        have stepC : StepA P all c t h fun t' h' => KeepC all c L t h h' ∧ drawA P all J f (setB L c) t' h' := by
          unfold StepA
          rw [hi]
          dsimp only
          refine (guarded_elim k).elim (fun ⟨hw, k⟩ => ⟨fun _ => ?_, fun e => (by rw [hw] at e; cases e)⟩) (fun ⟨hw, k⟩ => ⟨fun e => (by rw [hw] at e; cases e), fun _ => ⟨KeepC.of_le h.le_refl, k⟩⟩)
          cases e : newOp o.op with
          | false => exact (opA_SOp k).mono fun v h' x => extC_keep e x
          | true =>
            rw [opA_new e] at k
            have k2 := opV_new k e
            rw [← opA_new e] at k2
            exact (opA_SOp k2).mono fun v h' x => ⟨KeepC.of_le x.1, extC_new e x.2⟩
        -- who else may come up
        have others : ∀ j, rdyAt all L j = true → j = c ∨ ∃ y, n = some (j, y) ∧ all[j]? = some y ∧ rdyM L j y = true := by
          intro j hj
          obtain ⟨y, hy, hry, hm⟩ := rdyAt_mem hj
          rcases pickE_spec hp with ⟨_, e⟩ | ⟨z, e0, e | e, _⟩
          · rw [e] at hm
            simp at hm
            exact .inl hm.1
          · rw [e] at hm
            simp at hm
            rcases hm with hm | hm
            · exact .inl hm.1
            · subst hm; exact .inr ⟨y, e0, hy, hry⟩
          · rw [e] at hm
            simp at hm
            rcases hm with hm | hm
            · subst hm; exact .inr ⟨y, e0, hy, hry⟩
            · exact .inl hm.1
        have second : ∀ (g i : Nat) (y : Oper) (obj : Obj) (val : Nat → Value) (r : Nat), f + 1 = g + 1 → all[i]? = some y → newOp y.op = true → y.guard = none → rdyM L i y = true →
            newForm P t y.op = some (obj, val) → h r = none → AnyA P all J g (setB L i) (putT t y.dst (val r)) (h.ins r obj) := by
          intro g i y obj val r e hy hn hgu hry hnf hrn
          have e : g = f := by omega
          subst e
          by_cases hic : i = c
          · -- its time has come
            subst hic
            rw [hi] at hy
            cases hy
            have hw : wantT all t o = true := by unfold wantT; rw [hgu]
            rcases guarded_elim k with ⟨_, k⟩ | ⟨hw2, _⟩
            · rw [opA_new hn] at k
              obtain ⟨obj', val', e1, e3⟩ := opV_form k hn
              rw [hnf] at e1
              cases e1
              exact (drawA_both g _ _ _ (closed_set hc hra) (extC_new hn (e3 r hrn))).1
            · rw [hw] at hw2; cases hw2
          · obtain ⟨y', e0, hy', _⟩ := (others i (rdyAt_of hy hry)).resolve_left hic
            rw [hy] at hy'
            cases hy'
            rcases pickE_spec hp with ⟨e1, _⟩ | ⟨z, e1, _, _, _, hap, hone⟩
            · rw [e0] at e1; cases e1
            · rw [e0] at e1
              cases e1
              dsimp only at hap hone
              obtain ⟨a1, a2, a3, a4, a5, a6, a7⟩ := apartL_spec hap
              have hLi := rdyM_not hry
              have hcr : rdyAt all (setB L i) c = true := rdy_mono hra (Ne.symm hic)
              have only : ∀ j, rdyAt all (setB L i) j = true → j = c := by
                intro j hj
                obtain ⟨x, _, _, hm⟩ := rdyAt_mem hj
                obtain ⟨x', _, _, hm'⟩ := rdyAt_mem hcr
                obtain ⟨q, hq⟩ := List.length_eq_one_iff.1 hone
                rw [hq] at hm hm'
                simp at hm hm'
                rw [← hm] at hm'
                exact (congrArg Prod.fst hm').symm
              cases g with
              | zero => exact ((hlate _ e0).1 rfl).elim
              | succ g =>
                refine ⟨fun hno => (by rw [hno c] at hcr; cases hcr), fun j hj => ?_⟩
                have := only j hj
                subst this
                have st := stepC
                unfold StepA at st ⊢
                rw [hi] at st ⊢
                dsimp only at st ⊢
                have eS : ∀ (hh : Heap) (K : Value → Heap → Prop), SOp P (evO (putT t y.dst (val r))) o hh K ↔ SOp P (evO t) o hh K := fun hh K => by
                  unfold SOp; rw [execOp_putL a1 a7]
                rw [wantT_put a2, eS]
                constructor
                · intro hw
                  refine ((st.1 hw).frame1 (obj := obj) hrn).mono fun v h'' x => ?_
                  obtain ⟨h', ⟨x1, x2⟩, x3, rfl⟩ := x
                  have kc : KeepC all j (setB L i) (putT t y.dst (val r)) (h.ins r obj) (h'.ins r obj) := fun i' o' hi' hro hne hst hbj => by
                    have hii : i ≠ i' := by
                      rintro rfl
                      rw [hy] at hi'
                      cases hi'
                      cases hop : y.op <;> rw [hop] at hn hro <;> first | (cases hn; done) | (cases hro; done)
                    have hdone : L.testBit i' = true := by
                      rcases hst with e | e
                      · rw [setB_ne hii] at e; exact e
                      · exact (hne (only i' e)).elim
                    have nb : ((befTab [] all).getD i' 0).testBit i = false := by
                      cases e : ((befTab [] all).getD i' 0).testBit i with
                      | false => rfl
                      | true => rw [bef_le hc hi' (hc i' o' hi' hdone) i e] at hLi; cases hLi
                    have ko := x1 i' o' hi' hro hne (.inl hdone) hbj
                    have ea := addrB_put2 (t := t) (v := val r) (o := o') hy nb
                    unfold KeepO at ko ⊢
                    rw [ea]
                    split
                    · rename_i b eb
                      rw [eb] at ko
                      intro z hz
                      unfold Heap.ins at hz ⊢
                      split
                      · rename_i hbr; rw [if_pos hbr] at hz; exact hz
                      · rename_i hbr; rw [if_neg hbr] at hz; exact ko z hz
                    · rename_i eb
                      rw [eb] at ko
                      exact ins_le ko
                  refine ⟨kc, ?_⟩
                  have h2 := (drawA_both (g + 1) _ _ _ (closed_set hc hra) x2).2 g i y obj val r rfl hy hn hgu (by
                    have := rdy_mono (i := j) (rdyAt_of hy hry) hic
                    unfold rdyAt at this
                    rw [hy] at this
                    exact this) (by rw [newForm_put a3]; exact hnf) x3
                  rw [setB_comm, ← putT_comm a5] at h2
                  exact h2
                · intro hw
                  refine ⟨KeepC.of_le (Heap.le_refl _), ?_⟩
                  have h2 := (drawA_both (g + 1) _ _ _ (closed_set hc hra) (st.2 hw).2).2 g i y obj val r rfl hy hn hgu (by
                    have := rdy_mono (i := j) (rdyAt_of hy hry) hic
                    unfold rdyAt at this
                    rw [hy] at this
                    exact this) (by rw [newForm_put a3]; exact hnf) hrn
                  rw [setB_comm, ← putT_comm a5] at h2
                  exact h2
        refine ⟨⟨fun hno => (by rw [hno c] at hra; cases hra), fun j hj => ?_⟩, second⟩
        rcases others j hj with rfl | ⟨y, e0, hy, hry⟩
        · exact stepC.mono fun t' h' x => ⟨x.1, (drawA_both f _ _ h' (closed_set hc hra) x.2).1⟩
        · rcases pickE_spec hp with ⟨e1, _⟩ | ⟨z, e1, _, hn, hgu, _, _⟩
          · rw [e0] at e1; cases e1
          · rw [e0] at e1
            cases e1
            dsimp only at hn hgu
            unfold StepA
            rw [hy]
            dsimp only
            have hw : wantT all t y = true := by unfold wantT; rw [hgu]
            refine ⟨fun _ => ?_, fun e => by rw [hw] at e; cases e⟩
            obtain ⟨_, obj, val, hnf, hop⟩ := hlate _ e0
            have hop' := hop h
            rw [← opA_new hn] at hop'
            refine (opA_SOp hop').mono fun v h' x => ?_
            obtain ⟨r, hrn, rfl, rfl⟩ := x
            exact ⟨KeepC.of_le (le_ins hrn), second f j y obj val r rfl hy hn hgu hry hnf hrn⟩
theorem drawA_sound {all : List Oper} {J : List Value → Heap → Prop} (f L : Nat) (t : List Value) (h : Heap) (hc : closed all L) (k : drawA P all J f L t h) : AnyA P all J f L t h :=
  (drawA_both f L t h hc k).1

/-- the same, laid down at once -/
def drawF (P : Program) (all : List Oper) (J : List Value → Heap → Prop) : Nat → Nat → List Value → Heap → Prop
  | 0, L, t, h => match rdyL L 0 all with
    | [] => J t h
    | _ => False
  | f + 1, L, t, h => match pickQ P all L 0 all with
    | some (i, o) => fcN (setB L i) fun L' => guardF all o t
        (fun t => opV P t o.op h fun v _ => fcP t o.dst v fun t' => drawF P all J f L' t' h)
        (fun t => fcP t o.dst undef fun t' => drawF P all J f L' t' h)
    | none => match rdyL L 0 all with
      | [] => J t h
      | l => match pickE all L l with
        | some ((i, o), none) => fcN (setB L i) fun L' => guardF all o t
            (fun t => opA P t o h fun v h' => extC (needL all o i L t) h h' (fcP t o.dst v fun t' => drawF P all J f L' t' h'))
            (fun t => fcP t o.dst undef fun t' => drawF P all J f L' t' h)
        | some ((i, o), some (_, y)) => match f with
          | 0 => False
          | f + 1 => newK P t y.op (fcN (setB L i) fun L' => guardF all o t
            (fun t => opA P t o h fun v h' => extC (needL all o i L t) h h' (fcP t o.dst v fun t' => drawF P all J (f + 1) L' t' h'))
            (fun t => fcP t o.dst undef fun t' => drawF P all J (f + 1) L' t' h))
        | none => False
theorem drawF_eq (P : Program) (all : List Oper) (J : List Value → Heap → Prop) : ∀ (f L : Nat) (t : List Value) (h : Heap), drawF P all J f L t h = drawA P all J f L t h
  | 0, _, _, _ => rfl
  | f + 1, L, t, h => by
    unfold drawF drawA
    cases f with
    | zero => simp only [guardF_eq, fcP_eq, fcN_eq, drawF_eq P all J 0]
    | succ f => simp only [guardF_eq, fcP_eq, fcN_eq, drawF_eq P all J (f + 1)]
end Go.Sy

/- Whole functions, evaluated over partial heaps; and that it is sound. -/
namespace Go.Sy
variable {P : Program}

/-! ### what is still looked at -/
def maskL : List Nat → Nat
  | [] => 0
  | d :: ds => 2 ^ d ||| maskL ds
def unB (m : Nat) (d : Option Nat) : Nat := match d with
  | some d => m ^^^ (m &&& 2 ^ d)
  | none => m
def liveOps (all : List Oper) (nx : Nat) : List Oper → Nat
  | [] => nx
  | o :: os => unB (liveOps all nx os) o.dst ||| (maskL (looksL o) ||| maskL (guardL all o))
def opMask : Operand → Nat
  | .tmp t => 2 ^ t
  | _ => 0
def look2 (ex : List (Nat × Nat)) (id : Nat) : Nat := match ex with
  | [] => 0
  | (i, m) :: r => match Nat.beq i id with
    | true => m
    | false => look2 r id
def liveC (ex : List (Nat × Nat)) (rt : Nat) : Code → Nat → Nat
  | .skip, nx => nx
  | .label _, nx => nx
  | .region _ ops _, nx => liveOps ops.toList nx ops.toList
  | .seq a b, nx => liveC ex rt a (liveC ex rt b nx)
  | .cond c a b, nx => opMask c ||| (liveC ex rt a nx ||| liveC ex rt b nx)
  | .block id b, nx => liveC ((id, nx) :: ex) rt b nx
  | .loop b, _ => liveC ex rt b 0
  | .exit id, _ => look2 ex id
  | .scope b, nx => liveC ex rt b nx
  | .ret, _ => rt
  | .rangeFunc f _ _ b, nx => opMask f ||| (liveC ex rt b nx ||| nx)
  | _, _ => 0
def liveT (rt : Nat) : List Item → Nat × List (Nat × Nat)
  | [] => (rt, [])
  | it :: k => match liveT rt k with
    | (m, ex) => match it with
      | .code c => (liveC ex rt c m, ex)
      | .inBlock id => (m, (id, m) :: ex)
      | .inLoop b => (liveC ex rt b 0, ex)
      | _ => (m, ex)
def resMask : List ResultVar → Nat
  | [] => 0
  | .tmp t :: r => 2 ^ t ||| resMask r
  | .cell t _ :: r => 2 ^ t ||| resMask r
def liveTodo (fn : Func) (todo : List Item) : Nat := (liveT (resMask fn.results.toList) todo).1
def cleanL (m i : Nat) : List Value → List Value
  | [] => []
  | v :: t => (match m.testBit i with | true => v | false => undef) :: cleanL m (i + 1) t
def fillJ (m : Nat) (junk : Nat → Value) (i : Nat) : List Value → List Value
  | [] => []
  | v :: t => (match m.testBit i with | true => v | false => junk i) :: fillJ m junk (i + 1) t
theorem fill_clean (m : Nat) (junk : Nat → Value) : ∀ (t : List Value) (i : Nat), (∀ j, junk (i + j) = getT t j) → fillJ m junk i (cleanL m i t) = t
  | [], _, _ => rfl
  | v :: t, i, h => by
    have h0 := h 0
    have hr := fill_clean m junk t (i + 1) (fun j => by rw [show i + 1 + j = i + (j + 1) from by omega]; exact h (j + 1))
    simp only [cleanL, fillJ, hr]
    cases m.testBit i
    · simp only [Nat.add_zero] at h0; rw [h0]; rfl
    · rfl

/-- The rest of a call, at the head of a loop: whatever lies in the slots that nobody looks at. -/
def LoopAt (P : Program) (fn : Func) (fid : Nat) (todo : List Item) (t : List Value) (h : Heap) (K : Value → Heap → Prop) : Prop := match todo with
  | .inLoop b :: r => ∀ junk : Nat → Value, Run P fid (.code b :: .inLoop b :: r) (fillJ (liveTodo fn (.inLoop b :: r)) junk 0 t) h K
  | _ => False
theorem LoopAt.mono {fn : Func} {fid : Nat} {todo : List Item} {t : List Value} {h : Heap} {K K' : Value → Heap → Prop} (c : LoopAt P fn fid todo t h K) (m : ∀ v h', K v h' → K' v h') :
    LoopAt P fn fid todo t h K' := by
  unfold LoopAt at *
  split at c
  · exact fun j => (c j).mono m
  · exact c.elim
theorem LoopAt.drop {fn : Func} {fid : Nat} {todo : List Item} {t : List Value} {h h0 : Heap} {K : Value → Heap → Prop} (c : LoopAt P fn fid todo t h0 K) (l : h0.le h) :
    LoopAt P fn fid todo t h K := by
  unfold LoopAt at *
  split at c
  · exact fun j => (c j).drop l
  · exact c.elim

/-! ### results -/
def resV (P : Program) (t : List Value) (h : Heap) : List ResultVar → (List Value → Prop) → Prop
  | [], K => K []
  | .tmp i :: rs, K => resV P t h rs fun vs => K (getT t i :: vs)
  | .cell a ty :: rs, K => match getT t a with
    | .pointer ad => withAddr ad fun b o => ldTy P ty h b o fun v => resV P t h rs fun vs => K (v :: vs)
    | _ => False
def resOf (vs : List Value) : Value := match vs with
  | [v] => v
  | vs => .tuple vs.toArray
/-- An answer: less may be known than is. -/
def Ret (h : Heap) (K : Value → Heap → Prop) (v : Value) : Prop := ∃ h0, Heap.le h0 h ∧ K v h0
theorem Ret.mk {h : Heap} {K : Value → Heap → Prop} {v : Value} (k : K v h) : Ret h K v := ⟨h, h.le_refl, k⟩
def retA (P : Program) (fn : Func) (t : List Value) (h : Heap) (K : Value → Heap → Prop) : Prop := resV P t h fn.results.toList fun vs => Ret h K (resOf vs)
def resSem (tmps : Array Value) : ResultVar → Sem Value
  | .tmp t => pure (tmps.getD t undef)
  | .cell a t => do loadVar t (← asAddr (tmps.getD a undef))
theorem resV_sound {t : List Value} {h : Heap} : ∀ {rs : List ResultVar} {K : List Value → Prop}, resV P t h rs K →
    ∃ vs, (∀ w, Rep h w → (rs.mapM (resSem t.toArray)).run P w = .ok vs w) ∧ K vs
  | [], K, k => ⟨[], fun w _ => rfl, k⟩
  | .tmp i :: rs, K, k => by
    have k1 : resV P t h rs (fun vs => K (getT t i :: vs)) := k
    obtain ⟨vs, e, q⟩ := resV_sound k1
    refine ⟨_, fun w r => ?_, q⟩
    rw [List.mapM_cons]
    simp only [resSem, Sem.run_bind, Sem.run_pure, Result.andThen_ok, e w r, getT_eq]
  | .cell a ty :: rs, K, k => by
    unfold resV at k
    split at k
    · rename_i ad hv
      obtain ⟨b, o, rfl, k1⟩ := withAddr_elim k
      obtain ⟨v, e1, _, k2⟩ := swq_sound _ _ _ (ldTy_sound (q := true) k1)
      obtain ⟨vs, e, q⟩ := resV_sound k2
      refine ⟨_, fun w r => ?_, q⟩
      rw [List.mapM_cons]
      simp only [resSem, Sem.run_bind, Sem.run_pure, Result.andThen_ok, e w r, getT_eq, hv, asAddr, e1 w r]
    · exact k.elim
theorem results_eq (fn : Func) (tmps : Array Value) : results fn tmps = (do
    let vs ← fn.results.mapM (resSem tmps)
    pure (if h : vs.size = 1 then vs[0] else .tuple vs)) := by
  unfold results
  rfl
theorem resOf_eq (vs : List Value) : (if h : vs.toArray.size = 1 then vs.toArray[0] else .tuple vs.toArray) = resOf vs := by
  match vs with
  | [] => rfl
  | [v] => rfl
  | a :: b :: r => rw [dif_neg (by simp)]; rfl
theorem retA_sound {fn : Func} {t : List Value} {h : Heap} {K : Value → Heap → Prop} (k : retA P fn t h K) : ∃ v h0, (∀ w, Rep h w → (results fn t.toArray).run P w = .ok v w) ∧ h0.le h ∧ K v h0 := by
  obtain ⟨vs, e, h0, hl, q⟩ := resV_sound k
  refine ⟨resOf vs, h0, fun w r => ?_, hl, q⟩
  rw [results_eq, Array.mapM_eq_mapM_toList, Sem.run_bind, Sem.run_map, e w r]
  simp only [Result.andThen_ok, Sem.run_pure]
  rw [resOf_eq]

/-! ### the rest of a call, step by step -/
section
variable {fid : Nat} {t : List Value} {h : Heap} {K : Value → Heap → Prop}
theorem Run.step {todo todo' : List Item} (s : ∀ cs w, step P (lone ((fbase fid).at ⟨t.toArray, []⟩ todo) cs w) = .next (lone ((fbase fid).at ⟨t.toArray, []⟩ todo') cs w))
    (k : Run P fid todo' t h K) : Run P fid todo t h K := fun w cs r =>
  let ⟨v, h', w', fr, kk, r', f', st, x⟩ := k w cs r
  ⟨v, h', w', fr, kk, r', f', .head (s cs w) st, x⟩
theorem Run.of_ret {fn : Func} (hf : P.funcs[fid]? = some fn) (k : retA P fn t h K) (todo : List Item) (ht : todo = [] ∨ ∃ r, todo = .code .ret :: r) : Run P fid todo t h K := by
  obtain ⟨v, h0, e, hl, q⟩ := retA_sound k
  intro w cs r
  refine ⟨v, h0, w, { (fbase fid).at ⟨t.toArray, []⟩ todo with mode := .returning }, q, r.le hl, (Fr.refl h w).less hl, ?_, rfl, rfl, rfl, rfl, fn, hf, e w r⟩
  rcases ht with rfl | ⟨r, rfl⟩
  · exact .one step_end
  · exact .one step_ret
theorem Run.of_wp {c : Code} {k : List Item} {J : List Value → Heap → Prop} (x : ∀ w, Rep h w → c.wp P (endsIn J h w) ⟨t.toArray, []⟩ w) (kk : ∀ t' h', J t' h' → Run P fid k t' h' K) :
    Run P fid (.code c :: k) t h K := by
  intro w cs r
  obtain ⟨e, a', w', ⟨rfl, t', h', rfl, j, r', f'⟩, harr⟩ := x w r (fbase fid) k cs
  obtain ⟨v, h2, w2, fr, q, r2, f2, st, x2⟩ := kk t' h' j w' cs r'
  exact ⟨v, h2, w2, fr, q, r2, f'.trans f2, Steps.trans harr st, x2⟩
end

/-- The rest of a call, at some place of its text: whatever lies in the slots that nobody looks at. -/
def CutAt (P : Program) (fn : Func) (fid : Nat) (todo : List Item) (t : List Value) (h : Heap) (K : Value → Heap → Prop) : Prop := ∀ junk : Nat → Value, Run P fid todo (fillJ (liveTodo fn todo) junk 0 t) h K
theorem CutAt.mono {fn : Func} {fid : Nat} {todo : List Item} {t : List Value} {h : Heap} {K K' : Value → Heap → Prop} (c : CutAt P fn fid todo t h K) (m : ∀ v h', K v h' → K' v h') :
    CutAt P fn fid todo t h K' := fun j => (c j).mono m
theorem CutAt.run {fn : Func} {fid : Nat} {todo : List Item} {t : List Value} {h : Heap} {K : Value → Heap → Prop} (k : CutAt P fn fid todo (cleanL (liveTodo fn todo) 0 t) h K) : Run P fid todo t h K := by
  have := k (fun i => getT t i)
  rw [fill_clean _ _ _ _ (fun j => by rw [Nat.zero_add])] at this
  exact this
def memC : List Nat → Nat → Bool
  | [], _ => false
  | x :: xs, n => match Nat.beq x n with
    | true => true
    | false => memC xs n
/-- The evaluation: loops and calls are left standing; and the places that are named. -/
def evK (P : Program) (fn : Func) (fid : Nat) (K : Value → Heap → Prop) (cs : List Nat) : Nat → List Item → List Value → Heap → Prop
  | 0, _, _, _ => False
  | n + 1, todo, t, h => match todo with
    | [] => retA P fn t h K
    | it :: k => match it with
      | .code c => match c with
        | .skip => evK P fn fid K cs n k t h
        | .label _ => evK P fn fid K cs n k t h
        | .seq a b => evK P fn fid K cs n (.code a :: .code b :: k) t h
        | .cond c x y => match evO t c with
          | .bool b => Br b (evK P fn fid K cs n (.code x :: k) t h) (evK P fn fid K cs n (.code y :: k) t h)
          | _ => False
        | .block id b => evK P fn fid K cs n (.code b :: .inBlock id :: k) t h
        | .scope b => evK P fn fid K cs n (.code b :: .inScope b :: k) t h
        | .loop b => LoopAt P fn fid (.inLoop b :: k) (cleanL (liveTodo fn (.inLoop b :: k)) 0 t) h K
        | .exit id => match exitTo id k with
          | some k' => evK P fn fid K cs n k' t h
          | none => False
        | .ret => retA P fn t h K
        | .region id ops draw => match memC cs id with
          | true => CutAt P fn fid (.code (.region id ops draw) :: k) (cleanL (liveTodo fn (.code (.region id ops draw) :: k)) 0 t) h K
          | false => match draw with
            | false => opsF P ops.toList ops.toList t h fun t' h' => evK P fn fid K cs n k t' h'
            | true => drawF P ops.toList (fun t' h' => evK P fn fid K cs n k t' h') ops.size 0 t h
        | _ => False
      | .inBlock _ => evK P fn fid K cs n k t h
      | .inScope _ => evK P fn fid K cs n k t h
      | .inLoop b => LoopAt P fn fid (.inLoop b :: k) (cleanL (liveTodo fn (.inLoop b :: k)) 0 t) h K
      | _ => False
theorem LoopAt.run {fn : Func} {fid : Nat} {b : Code} {r : List Item} {t : List Value} {h : Heap} {K : Value → Heap → Prop} (k : LoopAt P fn fid (.inLoop b :: r) (cleanL (liveTodo fn (.inLoop b :: r)) 0 t) h K) :
    Run P fid (.code b :: .inLoop b :: r) t h K := by
  have := k (fun i => getT t i)
  rw [fill_clean _ _ _ _ (fun j => by rw [Nat.zero_add])] at this
  exact this
theorem region_run {fid : Nat} {K : Value → Heap → Prop} (hm : P.follows .mixedOrders = true) {id : Nat} {ops : Array Oper} {draw : Bool} {r : List Item} {t : List Value} {h : Heap} {J : List Value → Heap → Prop}
    (k : match draw with
      | false => opsF P ops.toList ops.toList t h J
      | true => drawF P ops.toList J ops.size 0 t h) (kk : ∀ t' h', J t' h' → Run P fid r t' h' K) : Run P fid (.code (.region id ops draw) :: r) t h K := by
  split at k
  · rw [opsF_eq] at k
    refine Run.of_wp (J := J) (fun w rw => wp_region ?_) kk
    have := opsA_sound ops _ h w ops.toList 0 t h w (by simp) k rw (Fr.refl h w)
    rw [List.range_eq_range']
    simpa using this
  · rw [drawF_eq] at k
    refine Run.of_wp (J := J) (fun w rw => wp_region_any hm ?_) kk
    refine AnyA_sound ops _ h w ops.size 0 _ t h { w with drawn := w.drawn + 1 } ⟨by simp, fun j hj => by simp [hj]⟩ (fun j _ => by simp) (drawA_sound _ _ _ _ (fun k o _ hl => by simp at hl) k) rw ⟨rfl, rfl, rfl, Nat.le_refl _, fun _ _ _ => rfl, fun _ _ e => e⟩
theorem evK_sound {fn : Func} {fid : Nat} {K : Value → Heap → Prop} {cs : List Nat} (hf : P.funcs[fid]? = some fn) (hm : P.follows .mixedOrders = true) : ∀ (n : Nat) (todo : List Item) (t : List Value) (h : Heap),
    evK P fn fid K cs n todo t h → Run P fid todo t h K
  | 0, _, _, _, k => k.elim
  | n + 1, todo, t, h, k => by
    unfold evK at k
    split at k
    · exact Run.of_ret hf k [] (.inl rfl)
    · rename_i it r
      split at k
      · rename_i c
        split at k
        · exact Run.step (fun _ _ => step_skip) (evK_sound hf hm n _ _ _ k)
        · exact Run.step (fun _ _ => step_label) (evK_sound hf hm n _ _ _ k)
        · exact Run.step (fun _ _ => step_seq) (evK_sound hf hm n _ _ _ k)
        · rename_i c x y
          split at k
          · rename_i b hb
            rcases k.elim with ⟨rfl, k⟩ | ⟨rfl, k⟩
            · exact Run.step (fun _ _ => step_cond (t := true) (by rw [evO_eq]; exact hb)) (evK_sound hf hm n _ _ _ k)
            · exact Run.step (fun _ _ => step_cond (t := false) (by rw [evO_eq]; exact hb)) (evK_sound hf hm n _ _ _ k)
          · exact k.elim
        · exact Run.step (fun _ _ => step_block) (evK_sound hf hm n _ _ _ k)
        · refine Run.step (fun _ _ => step_lone_go ?_) (evK_sound hf hm n _ _ _ k)
          simp [stepG, stepG.exec, Frame.at, fbase]
        · exact Run.step (fun _ _ => step_loop) (LoopAt.run k)
        · rename_i id
          split at k
          · rename_i k' hk
            exact Run.step (fun _ _ => step_exit hk) (evK_sound hf hm n _ _ _ k)
          · exact k.elim
        · exact Run.of_ret hf k _ (.inr ⟨r, rfl⟩)
        · rename_i id ops draw
          split at k
          · exact CutAt.run k
          split at k
          · rw [opsF_eq] at k
            refine Run.of_wp (J := fun t' h' => evK P fn fid K cs n r t' h') (fun w rw => wp_region ?_) (fun t' h' => evK_sound hf hm n r t' h')
            have := opsA_sound ops _ h w ops.toList 0 t h w (by simp) k rw (Fr.refl h w)
            rw [List.range_eq_range']
            simpa using this
          · rw [drawF_eq] at k
            refine Run.of_wp (J := fun t' h' => evK P fn fid K cs n r t' h') (fun w rw => wp_region_any hm ?_) (fun t' h' => evK_sound hf hm n r t' h')
            refine AnyA_sound ops _ h w ops.size 0 _ t h { w with drawn := w.drawn + 1 } ⟨by simp, fun j hj => by simp [hj]⟩ (fun j _ => by simp) (drawA_sound _ _ _ _ (fun k o _ hl => by simp at hl) k) rw ⟨rfl, rfl, rfl, Nat.le_refl _, fun _ _ _ => rfl, fun _ _ e => e⟩
        · exact k.elim
      · exact Run.step (fun _ _ => step_inBlock) (evK_sound hf hm n _ _ _ k)
      · refine Run.step (fun _ _ => step_lone_go ?_) (evK_sound hf hm n _ _ _ k)
        simp [stepG, stepG.exec, Frame.at, fbase]
      · exact Run.step (fun _ _ => step_inLoop) (LoopAt.run k)
      · exact k.elim

/-- The loops of a text, each with all that stands behind it. -/
def loopsC : Code → List Item → List (List Item)
  | .seq a b, k => loopsC a (.code b :: k) ++ loopsC b k
  | .cond _ x y, k => loopsC x k ++ loopsC y k
  | .block id b, k => loopsC b (.inBlock id :: k)
  | .scope b, k => loopsC b (.inScope b :: k)
  | .loop b, k => (.inLoop b :: k) :: loopsC b (.inLoop b :: k)
  | _, _ => []
def nthL : List (List Item) → Nat → List Item
  | [], _ => []
  | x :: _, 0 => x
  | _ :: xs, n + 1 => nthL xs n
def bodyOf (fn : Func) : Code := match fn.body with
  | some c => c
  | none => .skip
def loopK (fn : Func) (n : Nat) : List Item := nthL (loopsC (bodyOf fn) []) n
def undefs : Nat → List Value
  | 0 => []
  | n + 1 => undef :: undefs n
def padL (n : Nat) (args : List Value) : List Value := match n, args with
  | n, [] => undefs n
  | 0, l => l
  | n + 1, v :: l => v :: padL n l
/-- Slots, of which some are laid: the others hold nothing. -/
def sp (n : Nat) : List (Nat × Value) → List Value
  | [] => undefs n
  | (i, v) :: r => setT (sp n r) i v
/-- A whole call, evaluated. -/
def evF (P : Program) (fn : Func) (fid : Nat) (args : List Value) (h : Heap) (K : Value → Heap → Prop) (cs : List Nat := []) : Prop := evK P fn fid K cs 100000 [.code (bodyOf fn)] (padL fn.ntmps args) h
/-- A round of a loop, evaluated. -/
def evL (P : Program) (fn : Func) (fid : Nat) (todo : List Item) (t : List Value) (junk : Nat → Value) (h : Heap) (K : Value → Heap → Prop) (cs : List Nat := []) : Prop := match todo with
  | .inLoop b :: r => evK P fn fid K cs 100000 (.code b :: .inLoop b :: r) (fillJ (liveTodo fn (.inLoop b :: r)) junk 0 t) h
  | _ => False
/-- From a place that is named. -/
def evC (P : Program) (fn : Func) (fid : Nat) (todo : List Item) (t : List Value) (junk : Nat → Value) (h : Heap) (K : Value → Heap → Prop) (cs : List Nat := []) : Prop := match todo with
  | .code (.region _ ops draw) :: r => match draw with
    | false => opsF P ops.toList ops.toList (fillJ (liveTodo fn todo) junk 0 t) h fun t' h' => evK P fn fid K cs 100000 r t' h'
    | true => drawF P ops.toList (fun t' h' => evK P fn fid K cs 100000 r t' h') ops.size 0 (fillJ (liveTodo fn todo) junk 0 t) h
  | _ => False
/-- The places of a text, each with all that stands behind it. -/
def regsC (n : Nat) : Code → List Item → List (List Item)
  | .seq a b, k => regsC n a (.code b :: k) ++ regsC n b k
  | .cond _ x y, k => regsC n x k ++ regsC n y k
  | .block id b, k => regsC n b (.inBlock id :: k)
  | .scope b, k => regsC n b (.inScope b :: k)
  | .loop b, k => regsC n b (.inLoop b :: k)
  | .region id ops draw, k => match Nat.beq id n with
    | true => [.code (.region id ops draw) :: k]
    | false => []
  | _, _ => []
def cutK (fn : Func) (n : Nat) : List Item := nthL (regsC n (bodyOf fn) []) 0
theorem undefs_eq : ∀ n, undefs n = List.replicate n undef
  | 0 => rfl
  | n + 1 => by rw [undefs, undefs_eq n, List.replicate_succ]
theorem padL_eq : ∀ (n : Nat) (args : List Value), args.length ≤ n → padL n args = args ++ List.replicate (n - args.length) undef
  | n, [], _ => by unfold padL; simp [undefs_eq]
  | 0, v :: l, h => by simp at h
  | n + 1, v :: l, h => by
    unfold padL
    rw [padL_eq n l (by simpa using h)]
    simp
theorem CallA.of_ev {fn : Func} {fid : Nat} {args : List Value} {h : Heap} {K : Value → Heap → Prop} {cs : List Nat} (hf : P.funcs[fid]? = some fn) (hb : fn.body.isSome = true)
    (hc : ∀ (a : Array Value) (w : World), (callFunc fid a).run P w = .ok (.enter fid a) w) (hm : P.follows .mixedOrders = true) (hl : Nat.ble args.length fn.ntmps = true)
    {T : Prop} (e : T = evF P fn fid args h K cs) (k0 : T) : CallA P fid args h K := by
  have k : evF P fn fid args h K cs := e ▸ k0
  obtain ⟨c, hb⟩ := Option.isSome_iff_exists.1 hb
  refine CallA.of_run hf hb hc (evK_sound (cs := cs) hf hm 100000 _ _ _ ?_)
  have k' := k
  unfold evF bodyOf at k'
  rw [hb, padL_eq _ _ (Nat.le_of_ble_eq_true hl)] at k'
  exact k'
theorem LoopAt.of_ev {fn : Func} {fid : Nat} {todo : List Item} {t : List Value} {h : Heap} {K : Value → Heap → Prop} {cs : List Nat} (hf : P.funcs[fid]? = some fn) (hm : P.follows .mixedOrders = true)
    {T : Prop} (e : ∀ junk, T = evL P fn fid todo t junk h K cs) (k0 : T) : LoopAt P fn fid todo t h K := by
  have k : ∀ junk, evL P fn fid todo t junk h K cs := fun junk => e junk ▸ k0
  unfold LoopAt
  unfold evL at k
  split at k
  · exact fun junk => evK_sound hf hm 100000 _ _ _ (k junk)
  · exact k (fun _ => undef)
theorem CutAt.of_ev {fn : Func} {fid : Nat} {todo : List Item} {t : List Value} {h : Heap} {K : Value → Heap → Prop} {cs : List Nat} (hf : P.funcs[fid]? = some fn) (hm : P.follows .mixedOrders = true)
    {T : Prop} (e : ∀ junk, T = evC P fn fid todo t junk h K cs) (k0 : T) : CutAt P fn fid todo t h K := by
  have k : ∀ junk, evC P fn fid todo t junk h K cs := fun junk => e junk ▸ k0
  intro junk
  have k := k junk
  unfold evC at k
  split at k
  · exact region_run hm k (fun t' h' j => evK_sound hf hm 100000 _ _ _ j)
  · exact k.elim
end Go.Sy

/- Small words for proofs over evaluated texts: branches, ranges, bits. -/
namespace Go.Sy
theorem Br_t {A B : Prop} : Br true A B = A := rfl
theorem Br_f {A B : Prop} : Br false A B = B := rfl
theorem Br.yes {b : Bool} {A B : Prop} (e : b = true) (k : A) : Br b A B := by subst e; exact k
theorem Br.no {b : Bool} {A B : Prop} (e : b = false) (k : B) : Br b A B := by subst e; exact k
theorem Br.dec {p : Prop} [Decidable p] {A B : Prop} (h1 : p → A) (h2 : ¬ p → B) : Br (decide p) A B := by
  by_cases h : p
  · rw [decide_eq_true h]; exact h1 h
  · rw [decide_eq_false h]; exact h2 h
theorem Br.and {a b : Bool} {A B : Prop} : Br (a && b) A B ↔ Br a (Br b A B) B := by cases a <;> exact Iff.rfl

def I64 (n : Int) : Prop := -9223372036854775808 ≤ n ∧ n ≤ 9223372036854775807
def U64 (n : Int) : Prop := 0 ≤ n ∧ n ≤ 18446744073709551615

theorem wrap_u64 (n : Int) : IntKind.wrap IntKind.u64 n = n % 18446744073709551616 := rfl
theorem wrap_i64 (n : Int) : IntKind.wrap IntKind.i64 n = (n + 9223372036854775808) % 18446744073709551616 - 9223372036854775808 := by
  show (if (true && decide (n % 18446744073709551616 ≥ 9223372036854775808)) = true then n % 18446744073709551616 - 18446744073709551616 else n % 18446744073709551616) = _
  by_cases h : n % 18446744073709551616 ≥ 9223372036854775808
  · rw [decide_eq_true h]; simp only [Bool.and_self, if_true]; omega
  · rw [decide_eq_false h]; simp only [Bool.and_false, Bool.false_eq_true, if_false]; omega
theorem wrap_u8 (n : Int) : IntKind.wrap IntKind.u8 n = n % 256 := rfl
theorem wrap_i64_id {n : Int} (h1 : -9223372036854775808 ≤ n) (h2 : n ≤ 9223372036854775807) : IntKind.wrap IntKind.i64 n = n := by rw [wrap_i64]; omega
theorem wrap_u64_id {n : Int} (h1 : 0 ≤ n) (h2 : n ≤ 18446744073709551615) : IntKind.wrap IntKind.u64 n = n := by rw [wrap_u64]; omega

theorem ofInt_toNat64 {a : Int} (h : 0 ≤ a) : (BitVec.ofInt 64 a).toNat = a.toNat % 18446744073709551616 := by
  rw [BitVec.toNat_ofInt]
  omega
/-- the lower half -/
theorem and_low {a : Int} (h : 0 ≤ a) : ((BitVec.ofInt 64 a &&& BitVec.ofInt 64 4294967295).toNat : Int) = a % 4294967296 := by
  rw [BitVec.toNat_and, ofInt_toNat64 h, ofInt_toNat64 (by omega)]
  have e : (Int.toNat 4294967295 % 18446744073709551616) = 2 ^ 32 - 1 := by decide
  rw [e, Nat.and_two_pow_sub_one_eq_mod]
  omega
/-- a half above, a half below -/
theorem or_half {x y : Int} (h1 : 0 ≤ x) (h2 : x < 4294967296) (h3 : 0 ≤ y) (h4 : y < 4294967296) : ((BitVec.ofInt 64 x ||| BitVec.ofInt 64 (y * 4294967296)).toNat : Int) = y * 4294967296 + x := by
  rw [BitVec.toNat_or, ofInt_toNat64 h1, ofInt_toNat64 (by omega)]
  have e1 : x.toNat % 18446744073709551616 = x.toNat := by omega
  have e2 : (y * 4294967296).toNat % 18446744073709551616 = 2 ^ 32 * y.toNat := by omega
  rw [e1, e2, Nat.or_comm, ← Nat.two_pow_add_eq_or_of_lt (by omega)]
  omega
/-- a bit below -/
theorem or_bit {x c : Int} (h1 : 0 ≤ x) (h2 : x % 2 = 0) (h3 : x < 18446744073709551616) (h4 : 0 ≤ c) (h5 : c < 2) : ((BitVec.ofInt 64 x ||| BitVec.ofInt 64 c).toNat : Int) = x + c := by
  rw [BitVec.toNat_or, ofInt_toNat64 h1, ofInt_toNat64 h4]
  have e1 : x.toNat % 18446744073709551616 = 2 ^ 1 * (x.toNat / 2) := by omega
  have e2 : c.toNat % 18446744073709551616 = c.toNat := by omega
  rw [e1, e2, ← Nat.two_pow_add_eq_or_of_lt (by omega)]
  omega

theorem fdiv_pos (a : Int) {b : Int} (h : 0 ≤ b) : Int.fdiv a b = a / b := Int.fdiv_eq_ediv_of_nonneg a h

/-! cells of what was just made or written -/
theorem cell_ins_same (h : Heap) (r o : Nat) (c : List Value) (T : TypeId) (f : Nat × Nat) : (h.ins r (.cells c.toArray T f)).cell r o = c[o]? := by
  unfold Heap.cell Heap.ins; simp
theorem cell_ins_ne (h : Heap) {r b o : Nat} {x : Obj} (e : b ≠ r) : (h.ins r x).cell b o = h.cell b o := by
  unfold Heap.cell Heap.ins; rw [if_neg e]
theorem setN_ins (h : Heap) (r o : Nat) (c vs : List Value) (T : TypeId) (f : Nat × Nat) : (h.ins r (.cells c.toArray T f)).setN r o vs = h.ins r (.cells (setL c o vs).toArray T f) := by
  funext x
  unfold Heap.setN Heap.ins
  cases hx : Nat.beq x r with
  | true =>
    have := Nat.eq_of_beq_eq_true hx
    subst this
    simp
  | false =>
    have : x ≠ r := fun e => by subst e; rw [Nat.beq_refl] at hx; cases hx
    simp [this]
theorem canSt_ins (h : Heap) (r o n : Nat) (c : List Value) (T : TypeId) (e : o + n ≤ c.length) : (h.ins r (.cells c.toArray T (0, 0))).canSt r o n :=
  ⟨c.toArray, T, by unfold Heap.ins; rw [if_pos rfl], by simpa using e⟩
theorem cell_lt {h : Heap} {b o : Nat} {v : Value} (e : h.cell b o = some v) : ∃ x, h b = some x := by
  unfold Heap.cell at e
  cases hb : h b with
  | none => rw [hb] at e; cases e
  | some x => exact ⟨x, rfl⟩
theorem cell_ins {h : Heap} {r b o : Nat} {x : Obj} {v : Value} (e : h.cell b o = some v) (hr : h r = none) : (h.ins r x).cell b o = some v := by
  rw [cell_ins_ne _ (fun e2 => by subst e2; obtain ⟨y, hy⟩ := cell_lt e; rw [hr] at hy; cases hy), e]
theorem cell_le {h h' : Heap} {b o : Nat} {v : Value} (l : h.le h') (e : h.cell b o = some v) : h'.cell b o = some v := by
  obtain ⟨x, hx⟩ := cell_lt e
  unfold Heap.cell at *
  rw [l b x hx]; rw [hx] at e; exact e

/-! lists in memory -/
theorem rdL_le {h h' : Heap} {a : Option Addr} {vs : List Value} (l : h.le h') (r : rdL h a vs) : rdL h' a vs := by
  rcases r with r | ⟨b, o, e, r⟩
  · exact .inl r
  · refine .inr ⟨b, o, e, fun j hj => ?_⟩
    have := r j hj
    rw [List.getElem?_eq_getElem hj] at this ⊢
    exact cell_le l this
/-- whole numbers of a kind -/
def intsV (k : IntKind) : List Int → List Value
  | [] => []
  | n :: l => .int k n :: intsV k l
theorem intsV_map (k : IntKind) : ∀ l, intsV k l = l.map (Value.int k)
  | [] => rfl
  | n :: l => by rw [intsV, intsV_map k l]; rfl
theorem intsV_length (k : IntKind) (l : List Int) : (intsV k l).length = l.length := by rw [intsV_map]; simp
theorem intsV_append (k : IntKind) (l m : List Int) : intsV k (l ++ m) = intsV k l ++ intsV k m := by simp [intsV_map]
theorem allCells_ints (k : IntKind) : ∀ l, allCells (intsV k l) = true
  | [] => rfl
  | n :: l => by rw [intsV, allCells]; exact allCells_ints k l
def Ints (k : IntKind) (h : Heap) (a : Option Addr) (l : List Int) : Prop := rdL h a (intsV k l)
theorem Ints.le {k : IntKind} {h h' : Heap} {a : Option Addr} {l : List Int} (i : Ints k h a l) (e : h.le h') : Ints k h' a l := rdL_le e i
theorem Ints.at {k : IntKind} {h : Heap} {a : Option Addr} {l : List Int} (i : Ints k h a l) {j : Nat} (hj : j < l.length) :
    ∃ b o, a = some ⟨b, o, none⟩ ∧ h.cell b (o + j) = some (.int k l[j]) := by
  rcases i with i | ⟨b, o, e, i⟩
  · have := congrArg List.length i; rw [intsV_length] at this; simp at this; subst this; simp at hj
  · refine ⟨b, o, e, ?_⟩
    rw [i j (by rw [intsV_length]; exact hj), intsV_map]
    simp [hj]
theorem rdL_new (h : Heap) (r : Nat) (c : List Value) (T : TypeId) (f : Nat × Nat) : rdL (h.ins r (.cells c.toArray T f)) (some ⟨r, 0, none⟩) c := by
  refine .inr ⟨r, 0, rfl, fun j hj => ?_⟩
  rw [cell_ins_same, Nat.zero_add]
theorem rdL_take {h : Heap} {a : Option Addr} {vs ws : List Value} (r : rdL h a (vs ++ ws)) : rdL h a vs := by
  rcases r with r | ⟨b, o, e, r⟩
  · exact .inl (List.append_eq_nil_iff.1 r).1
  · refine .inr ⟨b, o, e, fun j hj => ?_⟩
    rw [r j (by rw [List.length_append]; omega), List.getElem?_append_left hj]
theorem setL_get : ∀ (vs c : List Value) (o i : Nat), o + vs.length ≤ c.length → (setL c o vs)[i]? = if o ≤ i ∧ i < o + vs.length then vs[i - o]? else c[i]?
  | [], c, o, i, _ => by simp [setL]; omega
  | v :: vs, c, o, i, h => by
    have hl : (setT c o v).length = c.length := by rw [setT_eq]; simp
    simp only [List.length_cons] at h
    rw [setL, setL_get vs _ (o + 1) i (by rw [hl]; omega), setT_eq]
    by_cases h1 : o + 1 ≤ i ∧ i < o + 1 + vs.length
    · rw [if_pos h1, if_pos (by simp; omega), show i - o = (i - (o + 1)) + 1 from by omega]; rfl
    · rw [if_neg h1]
      by_cases h2 : i = o
      · subst h2
        rw [if_pos (by simp), List.getElem?_set_self (by omega)]
        simp
      · rw [if_neg (by simp; omega), List.getElem?_set_ne (by omega)]
theorem setN_other {h : Heap} {b o r : Nat} {vs : List Value} (e : r ≠ b) : h.setN b o vs r = h r := by
  unfold Heap.setN
  split
  · rename_i hx; exact (e (Nat.eq_of_beq_eq_true hx)).elim
  · rfl
theorem setN_cell {h : Heap} {b o i : Nat} {vs : List Value} (c : h.canSt b o vs.length) : (h.setN b o vs).cell b i = if o ≤ i ∧ i < o + vs.length then vs[i - o]? else h.cell b i := by
  obtain ⟨c, T, hb, hl⟩ := c
  have e : h.setN b o vs b = some (.cells (setL c.toList o vs).toArray T (0, 0)) := by
    unfold Heap.setN
    rw [Nat.beq_refl, hb]
  unfold Heap.cell
  rw [e, hb]
  dsimp only
  rw [List.getElem?_toArray, setL_get _ _ _ _ (by simpa using hl)]
  simp
/-- An append of cells, whether it stays or moves. -/
theorem AppA.mk {z : List Value} {t : TypeId} {h : Heap} {base : Option Addr} {len cap n : Nat} {a : Option Addr} {J : Option Addr → Nat → Heap → Prop} (old vs : List Value)
    (hlen : len + n ≤ 1073741824) (hv : vs.length = n * z.length) (rv : rdL h a vs) (av : allCells vs = true) (ho : old.length = len * z.length) (ro : rdL h base old)
    (room : len + n ≤ cap → vs = [] ∨ ∃ b o, base = some ⟨b, o, none⟩ ∧ h.canSt b (o + len * z.length) vs.length)
    (k : ∀ base' cap' h', len + n ≤ cap' → rdL h' base' (old ++ vs) → (∀ r x, h r = some x → (∀ o, base ≠ some ⟨r, o, none⟩) → h' r = some x) →
      ((base' = base ∧ cap' = cap ∧ (h' = h ∨ ∃ b o, base = some ⟨b, o, none⟩ ∧ h.canSt b (o + len * z.length) vs.length ∧ h' = h.setN b (o + len * z.length) vs)) ∨
        (cap < len + n ∧ ∃ r, base' = some ⟨r, 0, none⟩ ∧ h r = none ∧ h' = h.ins r (.cells (old ++ vs ++ repL (cap' - (len + n)) z).toArray t (0, 0)))) → J base' cap' h') : AppA z t h base len cap n a J := by
  refine ⟨hlen, vs, hv, rv, av, ?_⟩
  by_cases hc : len + n ≤ cap
  · refine .inl ⟨hc, room hc, ?_⟩
    rcases room hc with e | ⟨b, o, e, cs⟩
    · subst e
      refine k base cap h hc ?_ (fun r x hx _ => hx) (.inl ⟨rfl, rfl, .inl rfl⟩)
      rw [List.append_nil]; exact ro
    · subst e
      have main : J (some ⟨b, o, none⟩) cap (h.setN b (o + len * z.length) vs) := by
        refine k _ _ _ hc ?_ (fun r x hx hn => ?_) (.inl ⟨rfl, rfl, .inr ⟨b, o, rfl, cs, rfl⟩⟩)
        · refine .inr ⟨b, o, rfl, fun j hj => ?_⟩
          rw [setN_cell cs]
          rw [List.length_append] at hj
          by_cases hjo : j < old.length
          · rw [if_neg (by omega), List.getElem?_append_left hjo]
            rcases ro with ro | ⟨b', o', e, ro⟩
            · subst ro; simp at hjo
            · cases e; exact ro j hjo
          · rw [if_pos (by omega), List.getElem?_append_right (by omega)]
            congr 1
            omega
        · rw [setN_other (fun e => hn o (by rw [e]))]; exact hx
      cases vs with
      | nil =>
        have : h.setN b (o + len * z.length) [] = h := stOpt_nil h b _
        rw [this] at main
        exact main
      | cons v vs => exact main
  · refine .inr ⟨by omega, old, ho, ro, fun cap' r hcap hr => ?_⟩
    refine k _ _ _ hcap ?_ (fun r' x hx _ => le_ins hr _ _ hx) (.inr ⟨by omega, r, rfl, hr, rfl⟩)
    have := rdL_new h r (old ++ vs ++ repL (cap' - (len + n)) z) t (0, 0)
    exact rdL_take this
/-- What the world holds, all of it. -/
def heapOf (w : World) : Heap := fun r => w.heap[r]?
theorem heapOf_rep (w : World) : Rep (heapOf w) w := fun _ _ e => e
theorem walk_of {P : Program} {f : FuncId} {args : List Value} {w : World} {v0 : Value} (c : CallA P f args (heapOf w) fun v h' => v = v0 ∧ (heapOf w).le h') :
    Calls P f args.toArray w fun e w' => e = .returned v0 ∧ Go.RowKit.Below w.heap.size w w' := by
  refine (c w (heapOf_rep w)).2.mono fun e w' ⟨v, h', he, ⟨hv, hle⟩, r, f⟩ => ⟨by rw [he, hv], ⟨f.os, f.tape, f.output, f.size, fun k hk => ?_⟩⟩
  have hx : w.heap[k]? = some w.heap[k] := Array.getElem?_eq_getElem hk
  rw [hx]
  exact r k _ (hle k _ hx)

theorem I64.of_wf {n : Int} (h : (Lit.int .i64 n).wf = true) : I64 n := by
  have h1 : (decide (IntKind.i64.min ≤ n) && decide (n ≤ IntKind.i64.max)) = true := h
  rw [Bool.and_eq_true, decide_eq_true_eq, decide_eq_true_eq] at h1
  have e1 : IntKind.i64.min = -9223372036854775808 := by decide
  have e2 : IntKind.i64.max = 9223372036854775807 := by decide
  rw [e1, e2] at h1
  exact h1
end Go.Sy
