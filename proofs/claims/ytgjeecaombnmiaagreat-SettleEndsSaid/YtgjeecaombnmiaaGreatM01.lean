import Derived.Test.YtgjeecaombnmiaaGreatM00
import Derived.Laws.StructEq
import Derived.Below
/- Whole functions, read over partial heaps: operations, regions, code; and that it is sound for the kit's calls. -/
namespace Go.Sy
variable {P : Program}

/-! ### one operation that answers a value -/
def qG5 (t : List Value) : List Operand → List Value
  | [] => []
  | x :: xs => evO t x :: qG5 t xs
def qIW (t : List Value) : List (Nat × Operand) → List (Nat × Value)
  | [] => []
  | (i, x) :: xs => (i, evO t x) :: qIW t xs
theorem qIu (t : List Value) : ∀ xs, qG5 t xs = xs.map (evO t)
  | [] => rfl
  | x :: xs => by rw [qG5, qIu t xs]; rfl
theorem qOW (t : List Value) : ∀ xs, qIW t xs = xs.map fun x => (x.1, evO t x.2)
  | [] => rfl
  | (i, x) :: xs => by rw [qIW, qOW t xs]; rfl
def qPp (t : List Value) : Option Operand → Option Value
  | none => none
  | some x => some (evO t x)
def qXQ (x y : Value) (J : Value → Prop) : Prop := match x, y with
  | .int k a, .int _ b => J (.int k (if b > a then b else a))
  | _, _ => False
def qX7 (x y : Value) (J : Value → Prop) : Prop := match x, y with
  | .int k a, .int _ b => J (.int k (if b < a then b else a))
  | _, _ => False
def qUw (P : Program) (t : TypeId) (x : Value) (h : Heap) (J : Value → Prop) : Prop := match x, P.underlying t with
  | .string s, some .string => J (.int .i64 (s.size : Int))
  | .map m, some (.map _ _) => qYG h m fun n => J (.int .i64 (n : Int))
  | .slice _ n _, some (.slice _) => J (.int .i64 (n : Int))
  | _, some (.array n _) => J (.int .i64 (n : Int))
  | _, _ => False
def qVf (P : Program) (src dst : TypeId) (x : Value) (J : Value → Prop) : Prop := match x, P.underlying src, P.underlying dst with
  | .int _ n, some _, some (.int k) => J (.int k (k.wrap n))
  | .string s, some .string, some .string => J (.string s)
  | _, _, _ => False
def qTC (P : Program) (s d : TypeId) : Bool := match P.underlying d, P.underlying s with
  | some (.int _), _ => true
  | some .string, some .string => true
  | _, _ => false
def qR5 (P : Program) (s d : TypeId) (x : Value) (h : Heap) (J : Value → Heap → Prop) : Prop := match qTC P s d with
  | true => qVf P s d x fun v => J v h
  | false => match P.underlying s, P.underlying d with
    | some (.slice e), some .string => match P.underlying e, x with
      | some (.int .u8), .slice a n _ => qXV h a n fun t => J (.string t) h
      | _, _ => False
    | some .string, some (.slice e) => match P.underlying e, x with
      | some (.int .u8), .string t => qP1 t e h fun a c h' => J (.slice a t.size c) h'
      | _, _ => False
    | _, _ => False
def biV (P : Program) (b : Builtin) (ts : List TypeId) (xs : List Value) (h : Heap) (J : Value → Heap → Prop) : Prop := match b with
  | .append => match qXj xs with
    | true => qVM P ts xs h J
    | false => qUd P ts xs h J
  | .len => match ts, xs with
    | t :: _, x :: _ => qUw P t x h fun v => J v h
    | _, _ => False
  | .max => match xs with
    | [x, y] => qXQ x y fun v => J v h
    | _ => False
  | .min => match xs with
    | [x, y] => qX7 x y fun v => J v h
    | _ => False
  | .clear => qQY P ts xs h J
  | .copy => qSV P ts xs h J
  | .cap => match ts, xs with
    | t :: _, .slice _ _ n :: _ => match P.underlying t with
      | some (.slice _) => J (.int .i64 (n : Int)) h
      | _ => False
    | _, _ => False
  | .unsafeSliceData => qSh xs h J
  | .unsafeString => qS3 P ts xs h J
  | _ => False
def qNR (P : Program) : List Field → List Value → List Value → (Bool → Prop) → Prop
  | [], _, _, J => J true
  | f :: fs, xs, ys, J => match decide (f.name = "_") with
    | true => qNR P fs xs ys J
    | false => match P.underlying f.type with
      | some (.int _) => match xs[f.offset]?, ys[f.offset]? with
        | some (.int k a), some (.int k' b) => match qND k k' with
          | true => qNR P fs xs ys fun r => J ((a == b) && r)
          | false => False
        | _, _ => False
      | some .bool => match xs[f.offset]?, ys[f.offset]? with
        | some (.bool a), some (.bool b) => qNR P fs xs ys fun r => J ((a == b) && r)
        | _, _ => False
      | some .string => match xs[f.offset]?, ys[f.offset]? with
        | some (.string a), some (.string b) => qNR P fs xs ys fun r => J ((a.toList == b.toList) && r)
        | _, _ => False
      | _ => False
def qSn : List Nat → List Value → List Value → (Bool → Prop) → Prop
  | [], _, _, J => J true
  | i :: is, xs, ys, J => match xs[i]?, ys[i]? with
    | some (.int k a), some (.int k' b) => match qND k k' with
      | true => qSn is xs ys fun r => J ((a == b) && r)
      | false => False
    | _, _ => False
def arB : List Nat → List Value → List Value → Option Bool
  | [], _, _ => some true
  | i :: is, xs, ys => match xs[i]?, ys[i]? with
    | some (.int k a), some (.int k' b) => match qND k k', arB is xs ys with
      | true, some r => some ((a == b) && r)
      | _, _ => none
    | _, _ => none
theorem qQt : ∀ {is : List Nat} {xs ys : List Value} {J : Bool → Prop}, qSn is xs ys J → ∃ b, arB is xs ys = some b ∧ J b
  | [], _, _, J, k => ⟨true, rfl, k⟩
  | i :: is, xs, ys, J, k => by
    unfold qSn at k
    split at k
    · rename_i k1 a k2 b hx hy
      split at k
      · rename_i hk
        obtain ⟨r, e, j⟩ := qQt k
        exact ⟨_, by unfold arB; rw [hx, hy]; dsimp only; rw [hk, e], j⟩
      · exact k.elim
    · exact k.elim
def qVP (P : Program) (op : BinOp) (t : TypeId) (xs : List Value) (y : Value) (J : Value → Prop) : Prop := match y with
  | .agg ys => match P.underlying t with
    | some (.struct fs) => match P.eqGuardType P.depth t, P.stoodInHeld t with
      | false, false => qNR P fs.toList xs ys.toList fun b => eqN op b J
      | _, _ => False
    | some (.array n e) => match P.underlying e, Nat.beq (P.cellsOf e) 1, P.eqGuardType P.depth t with
      | some (.int _), true, false => qSn (List.range' 0 n) xs ys.toList fun b => eqN op b J
      | _, _, _ => False
    | _ => False
  | _ => False
theorem qKw {t : TypeId} {d : TypeDesc} {cs : Array Value} {off : Nat} {v : Value} (hd : P.underlying t = some d) (ha : qKi d = false) (hv : cs.toList[off]? = some v) (w : World) :
    (part t cs off).run P w = .ok v w := by
  have k : qH3 P t cs.toList off (fun u => u = v) := by
    obtain ⟨i, hi⟩ := qHW hd
    unfold qH3
    rw [hd, hi]
    dsimp only
    rw [ha]
    dsimp only
    rw [hv]
  obtain ⟨u, e, _, rfl⟩ := qFu _ (fun _ => none) _ (qJ5 (q := true) k)
  exact e w (fun _ _ x => by cases x)
theorem qG0 {d : Nat} {xs ys : Array Value} : ∀ {fs : List Field} {J : Bool → Prop}, qNR P fs xs.toList ys.toList J →
    ∃ b, (∀ w, (Op.eqFields (d + 1) xs ys fs).run P w = .ok b w) ∧ J b
  | [], J, k => ⟨true, fun _ => rfl, k⟩
  | f :: fs, J, k => by
    have step : ∀ {dd : TypeDesc} {u v : Value} {c : Bool} {J' : Bool → Prop}, f.name ≠ "_" → P.underlying f.type = some dd → qKi dd = false → xs.toList[f.offset]? = some u → ys.toList[f.offset]? = some v →
        (∀ w, (Op.equalIn (d + 1) f.type u v).run P w = .ok c w) → (∃ b, (∀ w, (Op.eqFields (d + 1) xs ys fs).run P w = .ok b w) ∧ J' b) → (∀ b, J' b → J (c && b)) →
        ∃ b, (∀ w, (Op.eqFields (d + 1) xs ys (f :: fs)).run P w = .ok b w) ∧ J b := by
      intro dd u v c J' hn hu hag h1 h2 h3 hr hj
      obtain ⟨b, e, j⟩ := hr
      refine ⟨c && b, fun w => ?_, hj b j⟩
      unfold Op.eqFields
      rw [if_pos hn]
      simp only [Sem.run_bind, qKw hu hag h1, qKw hu hag h2, h3, Result.andThen_ok]
      cases c
      · rfl
      · simp only [Bool.not_true, Bool.false_eq_true, if_false, Bool.true_and]
        exact e w
    unfold qNR at k
    split at k
    · rename_i hn
      obtain ⟨b, e, j⟩ := qG0 (d := d) k
      refine ⟨b, fun w => ?_, j⟩
      unfold Op.eqFields
      rw [if_neg (fun x => x (of_decide_eq_true hn))]
      exact e w
    · rename_i hn
      have hn := of_decide_eq_false hn
      split at k
      · rename_i hu
        split at k
        · rename_i h1 h2
          split at k
          · rename_i hk
            have hk := qIp hk
            subst hk
            exact step hn hu rfl h1 h2 (fun w => run_equalIn_int w d _ _ _ _ _ hu) (qG0 (d := d) k) (fun _ j => j)
          · exact k.elim
        · exact k.elim
      · rename_i hu
        split at k
        · rename_i h1 h2
          exact step hn hu rfl h1 h2 (fun w => run_equalIn_bool' w d _ _ _ hu) (qG0 (d := d) k) (fun _ j => j)
        · exact k.elim
      · rename_i hu
        split at k
        · rename_i h1 h2
          exact step hn hu rfl h1 h2 (fun w => run_equalIn_string w d _ _ _ hu) (qG0 (d := d) k) (fun _ j => j)
        · exact k.elim
      · exact k.elim
theorem qV3 {t e : TypeId} {n d : Nat} {k0 : IntKind} {xs ys : Array Value} {b : Bool} (hu : P.underlying t = some (.array n e)) (he : P.underlying e = some (.int k0)) (hc : P.cellsOf e = 1)
    (h : arB (List.range' 0 n) xs.toList ys.toList = some b) (w : World) : (Op.equalIn (d + 2) t (.agg xs) (.agg ys)).run P w = .ok b w := by
  obtain ⟨i, hi⟩ := qHW he
  have hs : i.size = 1 := by rw [← hc]; unfold Program.cellsOf; rw [hi]; rfl
  have hsz : ∀ w, (sizeOf e).run P w = .ok 1 w := fun w => by
    obtain ⟨m, e1, _, rfl⟩ := qFu (P := P) (sizeOf e) (fun _ => none) (fun m h => h = (fun _ => none) ∧ m = 1) (by rw [qAS hi]; exact ⟨rfl, hs⟩)
    exact e1 w (fun _ _ x => by cases x)
  rw [show d + 2 = (d + 1) + 1 from rfl, Op.equalIn]
  simp only [Sem.run_bind, run_underlying hu, hsz, Result.andThen_ok, Std.Legacy.Range.forIn_eq_forIn_range', Std.Legacy.Range.size, Nat.sub_zero, Nat.add_sub_cancel, Nat.div_one]
  generalize List.range' 0 n = l at *
  induction l generalizing w b with
  | nil =>
    cases h
    simp
  | cons j l ih =>
    unfold arB at h
    split at h
    · rename_i k1 a k2 c hx hy
      split at h
      · rename_i r hk hr
        cases h
        have hk := qIp hk
        subst hk
        have p1 := fun w => qKw (P := P) he rfl (off := j * 1) (by rw [Nat.mul_one]; exact hx) w
        have p2 := fun w => qKw (P := P) he rfl (off := j * 1) (by rw [Nat.mul_one]; exact hy) w
        simp only [List.forIn_cons, Sem.run_bind, p1, p2, Result.andThen_ok, run_equalIn_int _ d _ _ _ _ _ he]
        cases hab : (a == c) with
        | false => simp
        | true =>
          simp only [Bool.not_true, Bool.false_eq_true, if_false, Sem.run_pure, Result.andThen_ok, Bool.true_and]
          exact ih w hr
      · cases h
    · cases h
theorem qSC {op : BinOp} {t : TypeId} {xs : Array Value} {y : Value} {J : Value → Prop} {ox oy : Operand} (k : qVP P op t xs.toList y J) :
    ∃ v, (∀ w, (do eqGuard op t ox oy (.agg xs) y; binOp op t (.agg xs) y : Sem Value).run P w = .ok v w) ∧ J v := by
  unfold qVP at k
  split at k
  · rename_i ys
    split at k
    · rename_i fs hu
      split at k
      · rename_i h1 h2
        obtain ⟨b, e, j⟩ := qG0 (d := 9998) k
        have hf : P.fieldsOf t = fs := by unfold Program.fieldsOf; rw [hu]
        have e2 : ∀ w, (Op.equalIn 10000 t (.agg xs) (.agg ys)).run P w = .ok b w := fun w => by
          have := run_equalIn_struct (P := P) w 9999 t xs ys (by rw [hf]; exact hu) h2
          rw [this, hf]; exact e w
        cases op <;> first
          | exact j.elim
          | exact ⟨_, fun w => by rw [Sem.run_bind, run_eqGuard_agg w _ t ox oy xs ys h1, Result.andThen_ok, run_eql_struct, e2 w]; rfl, j⟩
          | exact ⟨_, fun w => by rw [Sem.run_bind, run_eqGuard_agg w _ t ox oy xs ys h1, Result.andThen_ok, run_neq_struct, e2 w]; rfl, j⟩
      · exact k.elim
    · rename_i n e hu
      split at k
      · rename_i k0 he hc h1
        obtain ⟨b, e, j⟩ := qQt k
        have e2 : ∀ w, (Op.equalIn 10000 t (.agg xs) (.agg ys)).run P w = .ok b w := fun w => qV3 (d := 9998) hu he (Nat.eq_of_beq_eq_true hc) e w
        cases op <;> first
          | exact j.elim
          | exact ⟨_, fun w => by rw [Sem.run_bind, run_eqGuard_agg w _ t ox oy xs ys h1, Result.andThen_ok, run_eql_struct, e2 w]; rfl, j⟩
          | exact ⟨_, fun w => by rw [Sem.run_bind, run_eqGuard_agg w _ t ox oy xs ys h1, Result.andThen_ok, run_neq_struct, e2 w]; rfl, j⟩
      · exact k.elim
    · exact k.elim
  · exact k.elim
def qXU (h : Heap) (s : ByteArray) (J : Nat → Heap → Prop) : Prop := ∀ r, h r = none → J r (h.ins r (.stringIter s 0))
def qYB (h : Heap) (r : Nat) (J : Value → Heap → Prop) : Prop := ∃ (s : ByteArray) (pos : Nat), h r = some (.stringIter s pos) ∧
  Br (decide (pos < s.size)) (J (.tuple #[.bool true, .int .i64 (pos : Int), .int .i32 ((Utf8.decode s pos).1 : Int)]) (h.ins r (.stringIter s (pos + (Utf8.decode s pos).2)))) (J (.tuple #[.bool false]) h)
def isAgg (v : Value) : Bool := match v with
  | .agg _ => true
  | _ => false
def opV (P : Program) (t : List Value) (op : Op) (h : Heap) (J : Value → Heap → Prop) : Prop := match op with
  | .move x => J (evO t x) h
  | .assign x => J (evO t x) h
  | .pick c a b => match evO t c with
    | .bool v => Br v (J (evO t a) h) (J (evO t b) h)
    | _ => False
  | .alloc e => qKW P e h J
  | .box e x => qR h (qCB (evO t x)) e fun r h' => J (.pointer (some ⟨r, 0, none⟩)) h'
  | .build e ps => match qQs P e (qIW t ps.toList) with
    | some cs => J (.agg cs.toArray) h
    | none => False
  | .buildSlice e n ps => qIt P e n (qIW t ps.toList) h J
  | .load e a => match evO t a with
    | .pointer ad => qA ad fun b o => qM8 P e h b o fun v => J v h
    | _ => False
  | .store e a x => match evO t a with
    | .pointer ad => qA ad fun b o => qUt P e h b o (evO t x) fun h' => J undef h'
    | _ => False
  | .nilCheck x => match evO t x with
    | .pointer ad => qA ad fun b o => J (.pointer (some ⟨b, o, none⟩)) h
    | .func (.func f) x y => J (.func (.func f) x y) h
    | _ => False
  | .binOp op xT x y _ => match qXZ (evO t x) y with
    | true => qUN P op xT (evO t x) (evO t y) fun v => J v h
    | false => match evO t x with
      | .agg xs => qVP P op xT xs.toList (evO t y) fun v => J v h
      | _ => qUv P op xT (evO t x) (evO t y) fun v => J v h
  | .range xT x => match evO t x, P.underlying xT with
    | .string s, some .string => qXU h s fun r h' => J (.pointer (some ⟨r, 0, none⟩)) h'
    | _, _ => False
  | .next it isS => match isS, evO t it with
    | true, .pointer (some ⟨r, 0, _⟩) => qYB h r J
    | _, _ => False
  | .unOp op _ x => unV op (evO t x) fun v => J v h
  | .convert s d x => match qSM P s d with
    | true => qUK P s d (evO t x) h fun v => J v h
    | false => qR5 P s d (evO t x) h J
  | .makeFunc fn a b => J (.func fn (qG5 t a.toList).toArray (qG5 t b.toList).toArray) h
  | .makeSlice e l c => qMm P e (evO t l) (evO t c) h J
  | .slice e x lo hi mx => qQE P e (evO t x) (qPp t lo) (qPp t hi) (qPp t mx) fun v => J v h
  | .fieldAddr s x f => qSH P s (evO t x) f fun v => J v h
  | .field s x f => qQn P s (evO t x) f fun v => J v h
  | .indexAddr s x i => qSw P s (evO t x) (evO t i) fun v => J v h
  | .index s x i => qQ0 P s (evO t x) (evO t i) fun v => J v h
  | .extract x i => qNQ (evO t x) i fun v => J v h
  | .makeMap _ r => match r with
    | none => qSz h fun r h' => J (.map (some r)) h'
    | some _ => False
  | .lookup xT x i ok => match isAgg (evO t i) with
    | true => qSG P xT (evO t x) (evO t i) ok h fun v => J v h
    | false => qSq P xT (evO t x) (evO t i) ok h fun v => J v h
  | .mapUpdate mT m k v => qSp P mT (evO t m) (evO t k) (evO t v) h J
  | .mapEntry mT m k => qSD P mT (evO t m) (evO t k) h J
  | .entryStore mT m s v => qUx P mT (evO t m) (evO t s) (evO t v) h J
  | .call { callee := .builtin b, args, argTypes } => biV P b argTypes.toList (qG5 t args.toList) h J
  | _ => False

def qDk (P : Program) : Op → Bool
  | .convert s d _ => match qSM P s d with
    | true => false
    | false => qTC P s d
  | .move _ | .assign _ | .pick .. | .build .. | .load .. | .nilCheck _ | .binOp .. | .unOp .. | .makeFunc .. | .slice .. | .fieldAddr .. | .field ..
  | .indexAddr .. | .index .. | .extract .. | .lookup .. => true
  | .call { callee := .builtin b, argTypes, .. } => match b with
    | .len => match argTypes.toList with
      | t :: _ => match P.underlying t with
        | some (.map _ _) => false
        | _ => true
      | _ => false
    | .max | .min | .cap | .unsafeSliceData => true
    | _ => false
  | _ => false
def qNV (q : Bool) (J : Value → Heap → Prop) (n : Next) (h : Heap) : Prop := match n with
  | .value v => J v h
  | .skip => q = false ∧ J undef h
  | _ => False
theorem qDm {q : Bool} {s : Sem Value} {h : Heap} {J : Value → Heap → Prop} (k : swp P q s h J) : swp P q (do pure (Next.value (← s))) h (qNV q J) := by
  rw [qD]; exact k
theorem qCx {q : Bool} {s : Sem Value} {h : Heap} {J : Value → Heap → Prop} (k : swp P q s h fun v h' => h' = h ∧ J v h) : swp P q (do pure (Next.value (← s))) h (qNV q J) :=
  qDm (qER _ _ _ _ (fun _ _ ⟨e, qq⟩ => by rw [e]; exact qq) k)
def qHm (t : List Value) : Op → Bool
  | .build .. => true
  | .binOp _ _ x _ _ => match evO t x with
    | .agg _ => true
    | _ => false
  | _ => false
def qN1 (t : List Value) : Op → Bool
  | .lookup _ _ i _ => isAgg (evO t i)
  | .mapEntry .. | .entryStore .. => true
  | _ => false
theorem qTa {q : Bool} {b : Builtin} {ts : Array TypeId} {ty : TypeId} {cs : Array Bool} {xs : Array Value} {h : Heap} {J : Value → Heap → Prop}
    (k : biV P b ts.toList xs.toList h J) (hq : q = true → b = .len ∨ b = .max ∨ b = .min ∨ b = .cap ∨ b = .unsafeSliceData) : swp P q (builtin b ts ty cs xs) h (qNV q J) := by
  unfold biV at k
  split at k
  · have : q = false := by
      cases q
      · rfl
      · rcases hq rfl with e | e | e | e | e <;> cases e
    subst this
    split at k
    · exact qDm (qSW k)
    · exact qDm (qSm k)
  · split at k
    · rename_i t0 _ x0 _ ht hx
      have ht0 : ts[0]? = some t0 := by rw [← Array.getElem?_toList, ht]; rfl
      have hx0 : xs[0]? = some x0 := by rw [← Array.getElem?_toList, hx]; rfl
      refine qCx ?_
      unfold Builtin.len_
      simp only [ht0, hx0]
      unfold qUw at k
      split at k
      · rename_i hu
        rw [qD, qE hu]; exact ⟨rfl, k⟩
      · rename_i hu
        obtain ⟨r, n, rfl, ⟨es, c, hr, hn⟩, k⟩ := k
        rw [qD, qE hu]
        dsimp only
        rw [qD]
        refine ⟨_, hr, rfl, ?_⟩
        rw [qHv]
        dsimp only
        rw [hn]
        exact ⟨rfl, k⟩
      · rename_i hu
        rw [qD, qE hu]; exact ⟨rfl, k⟩
      · rename_i y _ _ _ _ hu
        rw [qD, qE hu]; cases y <;> exact ⟨rfl, k⟩
      · exact k.elim
    · exact k.elim
  · split at k
    · rename_i x y hx
      refine qCx ?_
      unfold Builtin.max_
      rw [hx]
      unfold qXQ at k
      split at k
      · simp only [List.foldlM_cons, List.foldlM_nil, Builtin.max2, qD, qd, true_and]
        exact k
      · exact k.elim
    · exact k.elim
  · split at k
    · rename_i x y hx
      refine qCx ?_
      unfold Builtin.min_
      rw [hx]
      unfold qX7 at k
      split at k
      · simp only [List.foldlM_cons, List.foldlM_nil, Builtin.min2, qD, qd, true_and]
        exact k
      · exact k.elim
    · exact k.elim
  · have : q = false := by
      cases q
      · rfl
      · rcases hq rfl with e | e | e | e | e <;> cases e
    subst this
    exact qDm (qQm k)
  · have : q = false := by
      cases q
      · rfl
      · rcases hq rfl with e | e | e | e | e <;> cases e
    subst this
    exact qDm (qQ5 k)
  · split at k
    · rename_i t0 _ _ _ n _ ht hx
      have ht0 : ts[0]? = some t0 := by rw [← Array.getElem?_toList, ht]; rfl
      have hx0 := congrArg (fun l => l[0]?) hx
      simp only [List.getElem?_cons_zero, Array.getElem?_toList] at hx0
      split at k
      · rename_i hu
        refine qCx ?_
        unfold Builtin.cap_
        simp only [ht0, hx0]
        rw [qD, qE hu]
        exact ⟨rfl, k⟩
      · exact k.elim
    · exact k.elim
  · exact qCx (qQ8 k)
  · have : q = false := by
      cases q
      · rfl
      · rcases hq rfl with e | e | e | e | e <;> cases e
    subst this
    exact qDm (qRC k)
  · exact k.elim

theorem qRc {q : Bool} {t : List Value} {o : Oper} {h : Heap} {J : Value → Heap → Prop} (k : opV P t o.op h J) (hb : qHm t o.op = false) (hky : qN1 t o.op = false) (hq : q = true → qDk P o.op = true) :
    swp P q (execOp (evO t) o) h (qNV q J) := by
  obtain ⟨dst, op, type, pos, after, guard⟩ := o
  dsimp only at k hb hky hq
  have nq : qDk P op = false → q = false := fun e => by
    cases q
    · rfl
    · rw [hq rfl] at e; cases e
  unfold execOp
  dsimp only
  unfold opV at k
  split at k <;> try dsimp only
  case _ => exact k
  case _ => exact k
  case _ =>
    split at k
    · rename_i v hv
      rw [hv]
      rcases k.elim with ⟨rfl, qq⟩ | ⟨rfl, qq⟩ <;> exact qq
    · exact k.elim
  case _ => cases nq rfl; exact qDm (qQa k)
  case _ => cases nq rfl; exact qDm (qR7 k)
  case _ => cases hb
  case _ e n ps =>
    cases nq rfl
    refine qDm (qPl ?_)
    rw [qOW] at k
    simpa using k
  case _ e a =>
    split at k
    · rename_i ad hv
      rw [hv]
      obtain ⟨b, o, rfl, k⟩ := qAP k
      exact qCx (qOH k)
    · exact k.elim
  case _ e a x =>
    cases nq rfl
    split at k
    · rename_i ad hv
      rw [hv]
      obtain ⟨b, o, rfl, k⟩ := qAP k
      rw [qD]
      exact qER _ _ _ _ (fun _ _ qq => ⟨rfl, qq⟩) (qSK k)
    · exact k.elim
  case _ x =>
    split at k
    · rename_i ad hv
      rw [hv]
      obtain ⟨b, o, rfl, k⟩ := qAP k
      exact k
    · rename_i hv
      rw [hv]
      exact k
    · exact k.elim
  case _ op xT x y _ =>
    split at k
    · exact qCx (qSB k)
    · split at k
      · rename_i xs hx
        simp only [qHm, hx] at hb
        cases hb
      · exact qCx (qR4 k)
  case _ xT x =>
    cases nq rfl
    split at k
    · rename_i s hx hu
      rw [hx]
      refine qDm ?_
      unfold Instr.range
      rw [qD, qE hu]
      simp only [qD, qd]
      exact ⟨rfl, fun r hr => k r hr⟩
    · exact k.elim
  case _ it isS =>
    cases nq rfl
    split at k
    · rename_i r sp hx
      rw [hx]
      refine qDm ?_
      unfold Instr.next
      obtain ⟨s, pos, hr, k⟩ := k
      simp only [qD]
      refine ⟨_, hr, rfl, ?_⟩
      show swp P false (if pos < s.size then (do
          let (c, width) := Utf8.decode s pos
          setObj r (.stringIter s (pos + width))
          pure (.tuple #[.bool true, goInt pos, .int .i32 c]) : Sem Value) else pure (.tuple #[.bool false])) h J
      rcases k.elim with ⟨hp, k⟩ | ⟨hp, k⟩
      · rw [if_pos (of_decide_eq_true hp)]
        simp only [qD]
        exact ⟨rfl, _, hr, rfl, k⟩
      · rw [if_neg (of_decide_eq_false hp)]
        exact k
    · exact k.elim
  case _ => exact qCx (qTE k)
  case _ s d x =>
    split at k
    · exact qCx (qR6 k)
    rename_i hun
    unfold qR5 at k
    split at k
    case h_2 hcq =>
      have hq2 : q = false := nq (by unfold qDk; dsimp only; rw [hun]; exact hcq)
      subst hq2
      split at k
      · rename_i e hs hd
        split at k
        · rename_i a n c he hx
          rw [hx]
          refine qDm ?_
          unfold convert
          rw [qD, qE hs, qD, qE hd]
          have main : swp P false (Conv.bytesToString (.slice a n c)) h J := qER _ _ _ _ (fun _ _ ⟨e1, s1, e2, j⟩ => by subst e1 e2; exact j) (qS7 k)
          cases a with
          | none =>
            dsimp only
            rw [qD, qE he]
            exact main
          | some ad =>
            dsimp only
            rw [qD, qE he]
            exact main
        · exact k.elim
      · rename_i e hs hd
        split at k
        · rename_i t0 he hx
          rw [hx]
          refine qDm ?_
          unfold convert
          rw [qD, qE hs, qD, qE hd]
          dsimp only
          rw [qD, qE he]
          exact qQg k
        · exact k.elim
      · exact k.elim
    refine qCx ?_
    unfold qVf at k
    split at k
    · rename_i hx hs hd
      rw [hx]
      unfold convert
      rw [qD, qE hs, qD, qE hd]
      exact ⟨rfl, k⟩
    · rename_i hx hs hd
      rw [hx]
      unfold convert
      rw [qD, qE hs, qD, qE hd]
      exact ⟨rfl, k⟩
    · exact k.elim
  case _ fn a b =>
    rw [qIu, qIu] at k
    have e1 : (a.toList.map (evO t)).toArray = a.map (evO t) := by apply Array.toList_inj.1; simp
    have e2 : (b.toList.map (evO t)).toArray = b.map (evO t) := by apply Array.toList_inj.1; simp
    rw [e1, e2] at k
    exact k
  case _ => cases nq rfl; exact qDm (qRX k)
  case _ e x lo hi mx =>
    refine qCx (qP3 ?_)
    have e1 : ∀ x : Option Operand, qPp t x = x.map (evO t) := fun x => by cases x <;> rfl
    rw [e1, e1, e1] at k
    exact k
  case _ => exact qCx (qRQ k)
  case _ => exact qCx (qQR k)
  case _ => exact qCx (qRS k)
  case _ => exact qCx (qP5 k)
  case _ => exact qCx (qOa k)
  case _ =>
    cases nq rfl
    split at k
    · exact qDm (qRV k)
    · exact k.elim
  case _ =>
    have hky : isAgg (evO t _) = false := hky
    rw [hky] at k
    exact qCx (qRR k)
  case _ =>
    cases nq rfl
    rw [qD]
    exact qER _ _ _ _ (fun _ _ qq => ⟨rfl, qq⟩) (qRG k)
  case _ => cases hky
  case _ => cases hky
  case _ b args ts =>
    have e1 : qG5 t args.toList = (args.map (evO t)).toList := by rw [qIu]; simp
    rw [e1] at k
    simp only [resolve, qD, qd, invoke]
    refine qTa k fun e => ?_
    have := hq e
    cases b <;> first | (simp [qDk] at this; done) | simp
  case _ => exact k.elim
theorem qOF {t : List Value} {o : Oper} {h : Heap} {J : Value → Heap → Prop} (ho : qHm t o.op = true) (k : opV P t o.op h J) :
    ∃ v, (∀ w, (execOp (evO t) o).run P w = .ok (.value v) w) ∧ J v h := by
  obtain ⟨dst, op, type, pos, after, guard⟩ := o
  dsimp only at k ho
  cases op <;> try (cases ho; done)
  case build e ps =>
    unfold opV at k
    dsimp only at k
    split at k
    · rename_i cs hc
      refine ⟨_, fun w => ?_, k⟩
      unfold execOp
      dsimp only
      rw [Sem.run_bind, run_build w e _ cs.toArray]
      · rfl
      · rw [qOW] at hc
        rw [← qTV hc]
        simp
    · exact k.elim
  case binOp op xT x y yT =>
    unfold opV at k
    dsimp only at k
    split at k
    · rename_i h2
      unfold qHm at ho
      dsimp only at ho
      split at ho
      · rename_i xs hx2
        rw [hx2] at h2
        cases h2
      · cases ho
    split at k
    · rename_i xs hx
      obtain ⟨v, e, j⟩ := qSC (ox := x) (oy := y) k
      refine ⟨v, fun w => ?_, j⟩
      unfold execOp
      dsimp only
      rw [hx, Sem.run_bind, e w]
      rfl
    · rename_i hx
      unfold qHm at ho
      dsimp only at ho
      split at ho
      · rename_i xs hx2; exact (hx xs hx2).elim
      · cases ho
theorem qQb {t : List Value} {o : Oper} {h : Heap} {J : Value → Heap → Prop} {xT : TypeId} {x i : Operand} {ok : Bool} (ho : o.op = .lookup xT x i ok) (hk : isAgg (evO t i) = true) (k : opV P t o.op h J) :
    ∃ v, (∀ w, Rep h w → (execOp (evO t) o).run P w = .ok (.value v) w) ∧ J v h := by
  obtain ⟨dst, op, type, pos, after, guard⟩ := o
  dsimp only at k ho
  subst ho
  unfold opV at k
  dsimp only at k
  rw [hk] at k
  obtain ⟨v, e, j⟩ := qTy k
  refine ⟨v, fun w r => ?_, j⟩
  unfold execOp
  dsimp only
  rw [Sem.run_bind, e w r]
  rfl
theorem qWF {t : List Value} {o : Oper} {h : Heap} {J : Value → Heap → Prop} {mT : TypeId} {m i : Operand} (ho : o.op = .mapEntry mT m i) (k : opV P t o.op h J) :
    ssp P (execOp (evO t) o) h (qNV false J) := by
  obtain ⟨dst, op, type, pos, after, guard⟩ := o
  dsimp only at k ho
  subst ho
  unfold opV at k
  unfold execOp
  dsimp only at k ⊢
  refine qDQ fun w r => ?_
  obtain ⟨a, h', w', e, j, r', f⟩ := qTl k w r
  exact ⟨a, h', w', e, qKj j, r', f⟩
theorem qWK {t : List Value} {o : Oper} {h : Heap} {J : Value → Heap → Prop} {mT : TypeId} {m i v : Operand} (ho : o.op = .entryStore mT m i v) (k : opV P t o.op h J) :
    ssp P (execOp (evO t) o) h (qNV false J) := by
  obtain ⟨dst, op, type, pos, after, guard⟩ := o
  dsimp only at k ho
  subst ho
  unfold opV at k
  unfold execOp
  dsimp only at k ⊢
  refine qDQ fun w r => ?_
  obtain ⟨a, h', w', e, j, r', f⟩ := qVA k w r
  exact ⟨a, h', w', e, qKj ⟨rfl, j⟩, r', f⟩
theorem qT6 {t : List Value} {o : Oper} {h : Heap} {J : Value → Heap → Prop} (k : opV P t o.op h J) : ssp P (execOp (evO t) o) h (qNV false J) := by
  cases hb : qHm t o.op with
  | false =>
    cases hky : qN1 t o.op with
    | false => exact qC4 (qRc k hb hky (fun e => by cases e))
    | true =>
      unfold qN1 at hky
      split at hky
      · rename_i ho
        obtain ⟨v, e1, e2⟩ := qQb ho hky k
        exact fun w r => ⟨_, h, w, e1 w r, e2, r, Fr.refl _ _⟩
      · rename_i ho
        exact qWF ho k
      · rename_i ho
        exact qWK ho k
      · cases hky
  | true =>
    obtain ⟨v, e1, e2⟩ := qOF hb k
    exact qKm e1 e2
theorem qL0 {t : List Value} {o : Oper} {h : Heap} {J : Value → Heap → Prop} (k : opV P t o.op h J) (hq : qDk P o.op = true) :
    ∃ v, (∀ w, Rep h w → (execOp (evO t) o).run P w = .ok (.value v) w) ∧ J v h := by
  cases hb : qHm t o.op with
  | false =>
    cases hky : qN1 t o.op with
    | false =>
      obtain ⟨a, e, qq⟩ := qFu _ _ _ (qRc (q := true) k hb hky (fun _ => hq))
      cases a <;> first | exact ⟨_, e, qq⟩ | exact qq.elim | cases qq.1
    | true =>
      unfold qN1 at hky
      split at hky
      · rename_i ho
        exact qQb ho hky k
      · rename_i ho
        rw [ho] at hq; cases hq
      · rename_i ho
        rw [ho] at hq; cases hq
      · cases hky
  | true =>
    obtain ⟨v, e1, e2⟩ := qOF hb k
    exact ⟨v, fun w _ => e1 w, e2⟩

end Go.Sy

/- Operations with calls, regions in the text's order, and regions that draw their order. -/
namespace Go.Sy
variable {P : Program}

def qSA : List Func → Nat → Option Func
  | [], _ => none
  | f :: _, 0 => some f
  | _ :: l, n + 1 => qSA l n
theorem qRh : ∀ (l : List Func) (n : Nat), qSA l n = l[n]?
  | [], _ => rfl
  | _ :: _, 0 => rfl
  | _ :: l, n + 1 => by rw [qSA, qRh l n]; rfl
def qVB (P : Program) (id : Nat) : Bool := match qSA P.funcs.toList id with
  | some fn => match fn.body with
    | some _ => false
    | none => match decide (fn.name = "internal/abi.NoEscape") with
      | true => decide (fn.origin = "")
      | false => false
  | none => false
theorem qU7 : Extern.allNextRows.lookup "internal/abi.NoEscape" = none := by kernel_rfl
theorem qTd : Extern.allNextRows.lookup "" = none := by kernel_rfl
theorem qWT : Extern.allGenericRows.lookup "internal/abi.NoEscape" = none := by kernel_rfl
theorem qTt : Extern.allTypedRows.lookup "internal/abi.NoEscape" = none := by kernel_rfl
theorem qVN : Extern.allRows.lookup "internal/abi.NoEscape" = some Extern.AbiNoEscape.same := by kernel_rfl
theorem qVL {id : Nat} (e : qVB P id = true) (v : Value) (w : World) : (callFunc id #[v]).run P w = .ok (.value v) w := by
  unfold qVB at e
  split at e
  · rename_i fn hf
    rw [qRh] at hf
    have hf' : P.funcs[id]? = some fn := by simpa using hf
    split at e
    · cases e
    · rename_i hb
      split at e
      · rename_i hn
        have hn := of_decide_eq_true hn
        have ho := of_decide_eq_true e
        have h1 : Extern.findNext fn = none := by
          unfold Extern.findNext
          simp only [hn, ho, qU7, qTd]
          rfl
        have h2 : Extern.find fn = some Extern.AbiNoEscape.same := by
          unfold Extern.find
          simp only [hn, qWT, qTt, qVN]
          rfl
        have hp : (program : Sem Program).run P w = .ok P w := rfl
        have hs : (fn.name == "runtime.NumGoroutine") = false := by rw [hn]; decide
        have hm : ∀ m, (mark m).run P w = .ok () w := fun _ => rfl
        unfold callFunc
        simp only [Sem.run_bind, hp, Result.andThen_ok, hf', hs, hb, Option.isNone_none, if_true, Bool.false_eq_true, if_false, hm, h1, h2]
        rfl
      · cases e
  · cases e
def qVw (P : Program) (t : List Value) (c : Call) (ty : TypeId) (h : Heap) (J : Value → Heap → Prop) : Prop := match c.callee with
  | .value f => match evO t f with
    | .func (.func id) first captured => match qVB P id with
      | false => CallA P id (first.toList ++ (qG5 t c.args.toList ++ captured.toList)) h fun v h' => qPm P ty fun u => v = u ∧ J u h'
      | true => match first.toList ++ (qG5 t c.args.toList ++ captured.toList) with
        | [v] => J v h
        | _ => False
    | _ => False
  | _ => False
def qKU : Op → Option Call
  | .call c => match c.callee with
    | .builtin _ => none
    | _ => some c
  | _ => none
def opA (P : Program) (t : List Value) (o : Oper) (h : Heap) (J : Value → Heap → Prop) : Prop := match qKU o.op with
  | some c => qVw P t c o.type h J
  | none => opV P t o.op h J

def resOK (P : Program) (r : Result Next) (h : Heap) (w : World) (K : Value → Heap → Prop) : Prop := match r with
  | .ok (.value v) w' => ∃ h', K v h' ∧ Rep h' w' ∧ Fr h w h' w'
  | .ok .skip w' => ∃ h', K undef h' ∧ Rep h' w' ∧ Fr h w h' w'
  | .ok (.enter f args) w' => Calls P f args w' fun e w'' => ∃ v h', e = .returned v ∧ K v h' ∧ Rep h' w'' ∧ Fr h w h' w''
  | _ => False
def SOp (P : Program) (ρ : Operand → Value) (o : Oper) (h : Heap) (K : Value → Heap → Prop) : Prop := ∀ w, Rep h w → resOK P ((execOp ρ o).run P w) h w K
theorem qKg {r : Result Next} {h : Heap} {w : World} {K K' : Value → Heap → Prop} (m : ∀ v h', K v h' → K' v h') (k : resOK P r h w K) : resOK P r h w K' := by
  unfold resOK at *
  split at k
  · obtain ⟨h', a, b⟩ := k; exact ⟨h', m _ _ a, b⟩
  · obtain ⟨h', a, b⟩ := k; exact ⟨h', m _ _ a, b⟩
  · exact k.mono fun e w'' ⟨v, h', e1, a, b⟩ => ⟨v, h', e1, m _ _ a, b⟩
  · exact k.elim
theorem SOp.mono {ρ : Operand → Value} {o : Oper} {h : Heap} {K K' : Value → Heap → Prop} (k : SOp P ρ o h K) (m : ∀ v h', K v h' → K' v h') : SOp P ρ o h K' :=
  fun w r => qKg m (k w r)
theorem qKE {t : List Value} {o : Oper} {h : Heap} {J : Value → Heap → Prop} (k : opA P t o h J) : SOp P (evO t) o h J := by
  intro w r
  unfold opA at k
  split at k
  · rename_i c hc
    have ho : o.op = .call c := by
      cases e : o.op <;> rw [e] at hc <;> simp only [qKU] at hc <;> try (cases hc; done)
      split at hc
      · cases hc
      · cases hc; rfl
    unfold qVw at k
    split at k
    · rename_i f hf
      split at k
      · rename_i id first captured hv
        have e1 : (first ++ c.args.map (evO t)) ++ captured = (first.toList ++ (qG5 t c.args.toList ++ captured.toList)).toArray := by
          apply Array.toList_inj.1
          rw [qIu]
          simp
        have e2 : (execOp (evO t) o).run P w = (callFunc id (first.toList ++ (qG5 t c.args.toList ++ captured.toList)).toArray).run P w := by
          rw [← e1]
          unfold execOp
          simp only [ho, resolve, hf, hv, Deferred.ofValue, Sem.run_bind, Sem.run_pure, Result.andThen_ok, invoke]
        rw [e2]
        split at k
        · rw [(k w r).1]
          exact (k w r).2.mono fun e w'' ⟨v, h', e3, q, x⟩ => by
            obtain ⟨u, rfl, j⟩ := qN8 q
            exact ⟨v, h', e3, j, x⟩
        · rename_i hq
          split at k
          · rename_i v hl
            rw [hl, qVL hq v w]
            exact ⟨h, k, r, Fr.refl h w⟩
          · exact k.elim
      · exact k.elim
    · exact k.elim
  · obtain ⟨n, h', w', e, q, r', f⟩ := qT6 k w r
    rw [e]
    cases n <;> first | exact ⟨h', q, r', f⟩ | exact ⟨h', q.2, r', f⟩ | exact q.elim
theorem SOp.wp {t : List Value} {o : Oper} {h : Heap} {K : Value → Heap → Prop} (k : SOp P (evO t) o h K) {w : World} (r : Rep h w) {next : Act → World → Prop} {Q : Exit → Act → World → Prop}
    (n : ∀ v h' w', K v h' → Rep h' w' → Fr h w h' w' → next ⟨(qAV t o.dst v).toArray, []⟩ w') : o.wp P ⟨t.toArray, []⟩ w next Q := by
  have he : (Act.mk t.toArray []).eval = evO t := funext (qQz t)
  have k1 := k w r
  unfold Oper.wp
  rw [he]
  unfold resOK at k1
  generalize (execOp (evO t) o).run P w = res at k1 ⊢
  split at k1
  · obtain ⟨h', a, b, c⟩ := k1
    rw [Oper.upon_value, qKS]; exact n _ _ _ a b c
  · obtain ⟨h', a, b, c⟩ := k1
    rw [Oper.upon_skip, qKS]; exact n _ _ _ a b c
  · rw [Oper.upon_enter]
    refine k1.mono fun e w'' ⟨v, h', e1, a, b, c⟩ => ?_
    subst e1
    dsimp only
    rw [qKS]; exact n _ _ _ a b c
  · exact k1.elim

/-! ### guards -/
def qMg (all : List Oper) (j : Nat) : Option Nat := match all[j]? with
  | some o => o.dst
  | none => none
def qLt (all : List Oper) (t : List Value) (j : Nat) : Option Bool := match qMg all j with
  | some d => match qA2 t d with
    | .bool b => some b
    | _ => none
  | none => none
def qD0 (all : List Oper) (t : List Value) (o : Oper) : Bool := match o.guard with
  | none => true
  | some (j, want) => qLt all t j == some want
theorem qPU : ∀ (t : List Value) (d : Nat) (v : Value), t[d]? = some v → qA2 t d = v
  | [], _, _, h => by simp at h
  | _ :: _, 0, _, h => by simpa [qA2] using h
  | _ :: t, d + 1, v, h => qPU t d v (by simpa using h)
theorem qPI : ∀ (t : List Value) (d : Nat), t[d]? = none → qA2 t d = undef
  | [], _, _ => rfl
  | _ :: _, 0, h => by simp at h
  | _ :: t, d + 1, h => qPI t d (by simpa using h)
theorem qSo (ops : Array Oper) (t : List Value) (j : Nat) : yielded ops t.toArray j = qLt ops.toList t j := by
  unfold yielded qLt qMg
  have e : ops[j]? = ops.toList[j]? := by simp
  rw [e]
  cases ho : ops.toList[j]? with
  | none => rfl
  | some o =>
    simp only [Option.bind_some]
    cases o.dst with
    | none => rfl
    | some d =>
      simp only [Option.bind_some]
      have e2 : t.toArray[d]? = t[d]? := by simp
      rw [e2]
      cases hv : t[d]? with
      | none => rw [qPI t d hv]; rfl
      | some v => rw [qPU t d v hv]; cases v <;> rfl
theorem qLU (ops : Array Oper) (t : List Value) (o : Oper) : Region.wanted o (yielded ops t.toArray) = qD0 ops.toList t o := by
  unfold Region.wanted qD0
  cases o.guard with
  | none => rfl
  | some g => obtain ⟨j, want⟩ := g; simp only [qSo]
theorem qPR : ∀ (t : List Value) (d : Nat), setT t d (qA2 t d) = t
  | [], _ => rfl
  | _ :: _, 0 => rfl
  | u :: t, d + 1 => by simp only [setT, qA2, qPR t d]

def qF0 (all : List Oper) (o : Oper) (t : List Value) (yes no : List Value → Prop) : Prop := match o.guard with
  | none => yes t
  | some (j, want) => match qMg all j with
    | none => no t
    | some d => match qA2 t d with
      | .bool b => Br b
          (match want with
            | true => yes (setT t d (.bool true))
            | false => no (setT t d (.bool true)))
          (match want with
            | true => no (setT t d (.bool false))
            | false => yes (setT t d (.bool false)))
      | _ => no t
theorem qFd {all : List Oper} {o : Oper} {t : List Value} {yes no : List Value → Prop} (k : qF0 all o t yes no) :
    (qD0 all t o = true ∧ yes t) ∨ (qD0 all t o = false ∧ no t) := by
  unfold qF0 at k
  unfold qD0
  split at k
  · exact .inl ⟨rfl, k⟩
  · rename_i j want hg
    unfold qLt
    split at k
    · rename_i hd
      rw [hd]
      exact .inr ⟨rfl, k⟩
    · rename_i d hd
      rw [hd]
      dsimp only
      split at k
      · rename_i b hv
        have hs : setT t d (.bool b) = t := by rw [← hv]; exact qPR t d
        rcases k.elim with ⟨rfl, k⟩ | ⟨rfl, k⟩
        · rw [hs] at k
          cases want
          · exact .inr ⟨rfl, k⟩
          · exact .inl ⟨rfl, k⟩
        · rw [hs] at k
          cases want
          · exact .inl ⟨rfl, k⟩
          · exact .inr ⟨rfl, k⟩
      · exact .inr ⟨rfl, k⟩

/-! ### a region in the text's order -/
def qPz (P : Program) (all : List Oper) : List Oper → List Value → Heap → (List Value → Heap → Prop) → Prop
  | [], t, h, J => J t h
  | o :: os, t, h, J => qF0 all o t
      (fun t => opA P t o h fun v h' => qPz P all os (qAV t o.dst v) h' J)
      (fun t => qPz P all os (qAV t o.dst undef) h J)
def qQv (J : List Value → Heap → Prop) (h0 : Heap) (w0 : World) (e : Exit) (a : Act) (w : World) : Prop :=
  e = .normal ∧ ∃ t h, a = ⟨t.toArray, []⟩ ∧ J t h ∧ Rep h w ∧ Fr h0 w0 h w
theorem qIm (ops : Array Oper) (J : List Value → Heap → Prop) (h0 : Heap) (w0 : World) : ∀ (os : List Oper) (k : Nat) (t : List Value) (h : Heap) (w : World),
    ops.toList.drop k = os → qPz P ops.toList os t h J → Rep h w → Fr h0 w0 h w → wpOps P ops (qQv J h0 w0) (List.range' k os.length) ⟨t.toArray, []⟩ w
  | [], k, t, h, w, _, q, r, f => ⟨rfl, t, h, rfl, q, r, f⟩
  | o :: os, k, t, h, w, hd, q, r, f => by
    have ho : ops[k]? = some o := by
      have : ops.toList[k]? = some o := by
        have := congrArg (·[0]?) hd
        simpa using this
      simpa using this
    have hd' : ops.toList.drop (k + 1) = os := by
      have := congrArg (List.drop 1) hd
      simpa [List.drop_drop, Nat.add_comm] using this
    rw [List.length_cons, List.range'_succ]
    unfold wpOps
    simp only [ho]
    rw [qLU]
    rcases qFd q with ⟨hw, q⟩ | ⟨hw, q⟩
    · rw [hw]
      refine .inl ((qKE q).wp r fun v h' w' q' r' f' => ?_)
      exact qIm ops J h0 w0 os (k + 1) _ h' w' hd' q' r' (f.trans f')
    · rw [hw]
      simp only [Bool.false_eq_true, if_false, qKS]
      exact qIm ops J h0 w0 os (k + 1) _ h w hd' q r f

/-! ### the same, with what has been found laid down at once (for the kernel's sake) -/
def fcL : List Value → (List Value → Prop) → Prop
  | [], J => J []
  | v :: r, J => fcL r fun r' => J (v :: r')
theorem qN6 : ∀ (l : List Value) (J : List Value → Prop), fcL l J = J l
  | [], _ => rfl
  | v :: r, J => by unfold fcL; rw [qN6 r]
def fcV (v : Value) (J : Value → Prop) : Prop := match v with
  | .int k n => J (.int k n)
  | .bool b => J (.bool b)
  | .string s => J (.string s)
  | .pointer a => J (.pointer a)
  | .slice a n c => J (.slice a n c)
  | .agg ⟨l⟩ => fcL l fun l => J (.agg ⟨l⟩)
  | .tuple ⟨l⟩ => fcL l fun l => J (.tuple ⟨l⟩)
  | v => J v
theorem qXA (v : Value) (J : Value → Prop) : fcV v J = J v := by
  unfold fcV
  split <;> first | rfl | exact qN6 _ _
def fcN (n : Nat) (J : Nat → Prop) : Prop := match n with
  | 0 => J 0
  | .succ m => J (.succ m)
theorem qTQ (n : Nat) (J : Nat → Prop) : fcN n J = J n := by cases n <;> rfl
def fcP (t : List Value) (d : Option Nat) (v : Value) (J : List Value → Prop) : Prop := match d with
  | none => J t
  | some d => fcV v fun v => fcL (setT t d v) J
theorem qLf (t : List Value) (d : Option Nat) (v : Value) (J : List Value → Prop) : fcP t d v J = J (qAV t d v) := by
  cases d with
  | none => rfl
  | some d => simp only [fcP, qXA, qN6]; rfl
def qI6 (all : List Oper) (o : Oper) (t : List Value) (yes no : List Value → Prop) : Prop := match o.guard with
  | none => yes t
  | some (j, want) => match qMg all j with
    | none => no t
    | some d => match qA2 t d with
      | .bool b => Br b
          (fcL (setT t d (.bool true)) fun t => match want with
            | true => yes t
            | false => no t)
          (fcL (setT t d (.bool false)) fun t => match want with
            | true => no t
            | false => yes t)
      | _ => no t
theorem qJa (all : List Oper) (o : Oper) (t : List Value) (yes no : List Value → Prop) : qI6 all o t yes no = qF0 all o t yes no := by
  unfold qI6 qF0
  simp only [qN6]
def qNS (P : Program) (all : List Oper) : List Oper → List Value → Heap → (List Value → Heap → Prop) → Prop
  | [], t, h, J => J t h
  | o :: os, t, h, J => qI6 all o t
      (fun t => opA P t o h fun v h' => fcP t o.dst v fun t' => qNS P all os t' h' J)
      (fun t => fcP t o.dst undef fun t' => qNS P all os t' h J)
theorem qOu (P : Program) (all : List Oper) : ∀ (os : List Oper) (t : List Value) (h : Heap) (J : List Value → Heap → Prop), qNS P all os t h J = qPz P all os t h J
  | [], _, _, _ => rfl
  | o :: os, t, h, J => by unfold qNS qPz; simp only [qJa, qLf, qOu P all os]
end Go.Sy

/- Regions that draw their order: one order stands for all. -/
namespace Go.Sy
variable {P : Program}

/-! ### who looks at what -/
def qSv (d : Nat) : List Nat → Bool
  | [] => false
  | x :: xs => match Nat.beq d x with
    | true => true
    | false => qSv d xs
theorem qOB {d : Nat} : ∀ {l : List Nat}, qSv d l = false → d ∉ l
  | [], _ => by simp
  | x :: xs, h => by
    unfold qSv at h
    split at h
    · cases h
    · rename_i hx
      intro hm
      rcases List.mem_cons.1 hm with e | e
      · subst e; rw [Nat.beq_refl] at hx; cases hx
      · exact qOB h e
def qMA : List Operand → List Nat
  | [] => []
  | x :: xs => match x with
    | .tmp t => t :: qMA xs
    | _ => qMA xs
theorem qNa {d : Nat} : ∀ {l : List Operand}, Operand.tmp d ∈ l → d ∈ qMA l
  | x :: xs, h => by
    unfold qMA
    rcases List.mem_cons.1 h with e | e
    · subst e; simp
    · have := qNa e
      cases x <;> simp [this]
def qJD (all : List Oper) (o : Oper) : List Nat := match o.guard with
  | some (g, _) => match qMg all g with
    | some d => [d]
    | none => []
  | none => []
def qFH (o : Oper) : List Nat := qMA o.op.operands.toList
def qK4 (o : Oper) : Bool := match o.op with
  | .select .. => false
  | _ => true
def qDY (o : Oper) (l : List Nat) : Bool := match o.dst with
  | some d => qSv d l
  | none => false
def qMo (x y : Oper) : Bool := match x.dst with
  | some d => match y.dst with
    | some e => Nat.beq d e
    | none => false
  | none => false
def qFj (all : List Oper) (x y : Oper) : Bool :=
  !qDY x (qFH y) && !qDY x (qJD all y) && !qDY y (qFH x) && !qDY y (qJD all x) && !qMo x y && qK4 x && qK4 y

theorem qM5 {o : Oper} {l : List Nat} (h : qDY o l = false) (d : Nat) (e : o.dst = some d) : d ∉ l := by
  unfold qDY at h; rw [e] at h; exact qOB h
theorem qH2 {all : List Oper} {x y : Oper} (h : qFj all x y = true) :
    qDY x (qFH y) = false ∧ qDY x (qJD all y) = false ∧ qDY y (qFH x) = false ∧ qDY y (qJD all x) = false ∧ qMo x y = false ∧ qK4 x = true ∧ qK4 y = true := by
  unfold qFj at h
  simp only [Bool.and_eq_true, Bool.not_eq_true'] at h
  exact ⟨h.1.1.1.1.1.1, h.1.1.1.1.1.2, h.1.1.1.1.2, h.1.1.1.2, h.1.1.2, h.1.2, h.2⟩
theorem qSF {o : Oper} (h : qK4 o = true) (cs : Array SelectCase) (b : Bool) : o.op ≠ .select cs b := fun e => by
  unfold qK4 at h; rw [e] at h; cases h

theorem qMy : ∀ (t : List Value) (d e : Nat) (v : Value), d ≠ e → qA2 (setT t d v) e = qA2 t e
  | [], _, _, _, _ => rfl
  | _ :: _, 0, 0, _, h => (h rfl).elim
  | _ :: _, 0, e + 1, _, _ => rfl
  | _ :: _, d + 1, 0, _, _ => rfl
  | _ :: t, d + 1, e + 1, v, h => qMy t d e v (fun x => h (by rw [x]))
theorem qPK : ∀ (t : List Value) (d e : Nat) (v u : Value), d ≠ e → setT (setT t d v) e u = setT (setT t e u) d v
  | [], _, _, _, _, _ => rfl
  | _ :: _, 0, 0, _, _, h => (h rfl).elim
  | _ :: _, 0, e + 1, _, _, _ => rfl
  | _ :: _, d + 1, 0, _, _, _ => rfl
  | _ :: t, d + 1, e + 1, v, u, h => by simp only [setT, qPK t d e v u (fun x => h (by rw [x]))]
theorem qQG {t : List Value} {o : Oper} {v : Value} {e : Nat} (h : ∀ d, o.dst = some d → d ≠ e) : qA2 (qAV t o.dst v) e = qA2 t e := by
  unfold qAV
  split
  · rename_i d hd; exact qMy t d e v (h d hd)
  · rfl
theorem qH9 {t : List Value} {x y : Oper} {v u : Value} (h : qMo x y = false) : qAV (qAV t x.dst v) y.dst u = qAV (qAV t y.dst u) x.dst v := by
  unfold qMo at h
  unfold qAV
  cases hx : x.dst with
  | none => rfl
  | some d =>
    cases hy : y.dst with
    | none => rfl
    | some e =>
      rw [hx, hy] at h
      exact qPK t d e v u (fun x => by subst x; dsimp only at h; rw [Nat.beq_refl] at h; cases h)
theorem qMX {t : List Value} {o y : Oper} {v : Value} (h : qDY o (qFH y) = false) (x : Operand) (hx : x ∈ y.op.operands) : evO (qAV t o.dst v) x = evO t x := by
  cases x with
  | tmp i =>
    refine qQG fun d hd e => ?_
    subst e
    exact qM5 h d hd (qNa (by simpa using hx))
  | _ => rfl
theorem qJ4 {t : List Value} {o y : Oper} {v : Value} (h : qDY o (qFH y) = false) (hs : qK4 y = true) : execOp (evO (qAV t o.dst v)) y = execOp (evO t) y :=
  execOp_congr y (qSF hs) fun x hx => qMX h x hx
theorem qLc {all : List Oper} {t : List Value} {o y : Oper} {v : Value} (h : qDY o (qJD all y) = false) : qD0 all (qAV t o.dst v) y = qD0 all t y := by
  unfold qD0
  cases hg : y.guard with
  | none => rfl
  | some g =>
    obtain ⟨j, want⟩ := g
    dsimp only
    unfold qLt
    cases hd : qMg all j with
    | none => rfl
    | some d =>
      dsimp only
      rw [qQG fun d' hd' e => ?_]
      subst e
      refine qM5 h d' hd' ?_
      unfold qJD
      rw [hg]
      simp [hd]

/-! ### what may come up -/
def qBF (L : Nat) : List Edge → Bool
  | [] => true
  | e :: es => match Region.binds .any e with
    | true => match L.testBit e.on with
      | true => qBF L es
      | false => false
    | false => qBF L es
def qDM (L : Nat) (i : Nat) (o : Oper) : Bool := match L.testBit i with
  | true => false
  | false => qBF L o.after.toList
def qA3 (all : List Oper) (L i : Nat) : Bool := match all[i]? with
  | some o => qDM L i o
  | none => false
def qH6 : Op → Bool
  | .load .. | .lookup .. => true
  | _ => false
def qMd (tab : List Nat) : List Edge → Nat
  | [] => 0
  | e :: es => match Region.binds .any e with
    | true => (2 ^ e.on ||| tab.getD e.on 0) ||| qMd tab es
    | false => qMd tab es
def qDE : List Nat → List Oper → List Nat
  | tab, [] => tab
  | tab, o :: os => qDE (tab ++ [qMd tab o.after.toList]) os
def qIJ (all : List Oper) (L : Nat) : Prop := ∀ k o, all[k]? = some o → L.testBit k = true → qBF L o.after.toList = true
theorem qNK {all : List Oper} {L : Nat} {tab : List Nat} (hc : qIJ all L) (ht : ∀ (k m : Nat) (o : Oper), tab[k]? = some m → all[k]? = some o → qBF L o.after.toList = true → ∀ x, m.testBit x = true → L.testBit x = true)
    (hl : tab.length ≤ all.length) : ∀ {es : List Edge}, qBF L es = true → ∀ x, (qMd tab es).testBit x = true → L.testBit x = true
  | [], _, x, hx => by simp [qMd] at hx
  | e :: es, ha, x, hx => by
    unfold qBF at ha
    unfold qMd at hx
    split at ha
    · rename_i hb
      split at ha
      · rename_i hon
        rw [hb] at hx
        dsimp only at hx
        rw [Nat.testBit_or, Nat.testBit_or, Bool.or_eq_true, Bool.or_eq_true] at hx
        rcases hx with (hx | hx) | hx
        · rw [Nat.testBit_two_pow] at hx
          have : e.on = x := by simpa using hx
          rw [← this]; exact hon
        · rw [List.getD_eq_getElem?_getD] at hx
          cases htab : tab[e.on]? with
          | none => rw [htab] at hx; simp at hx
          | some m =>
            rw [htab] at hx
            have hlt : e.on < tab.length := (List.getElem?_eq_some_iff.1 htab).1
            have hall : all[e.on]? = some all[e.on] := List.getElem?_eq_getElem (by omega)
            exact ht _ m _ htab hall (hc _ _ hall hon) x hx
        · exact qNK hc ht hl ha x hx
      · cases ha
    · rename_i hb
      rw [hb] at hx
      exact qNK hc ht hl ha x hx
theorem qO7 {all : List Oper} {L : Nat} (hc : qIJ all L) : ∀ (os : List Oper) (tab : List Nat), all = all.take tab.length ++ os → tab.length ≤ all.length →
    (∀ (k m : Nat) (o : Oper), tab[k]? = some m → all[k]? = some o → qBF L o.after.toList = true → ∀ x, m.testBit x = true → L.testBit x = true) →
    ∀ (k m : Nat) (o : Oper), (qDE tab os)[k]? = some m → all[k]? = some o → qBF L o.after.toList = true → ∀ x, m.testBit x = true → L.testBit x = true
  | [], tab, _, _, ht => ht
  | o' :: os, tab, he, hl, ht => by
    unfold qDE
    have hlen : all.length = tab.length + (os.length + 1) := by
      have := congrArg List.length he
      simp at this
      omega
    have ho' : all[tab.length]? = some o' := by
      have h1 : (all.take tab.length).length = tab.length := by simp; omega
      rw [he, List.getElem?_append_right (by omega), h1, Nat.sub_self]
      rfl
    refine qO7 hc os _ ?_ (by simp; omega) ?_
    · rw [List.length_append, List.length_singleton, List.take_add_one, ho']
      simpa using he
    · intro k m o hk ho ha x hx
      by_cases hkl : k < tab.length
      · rw [List.getElem?_append_left hkl] at hk
        exact ht k m o hk ho ha x hx
      · have hke : k = tab.length := by
          have := (List.getElem?_eq_some_iff.1 hk).1
          simp at this
          omega
        subst hke
        rw [List.getElem?_append_right (Nat.le_refl _)] at hk
        simp at hk
        subst hk
        rw [ho'] at ho
        cases ho
        exact qNK hc ht hl ha x hx
theorem qQc {all : List Oper} {L : Nat} (hc : qIJ all L) {k : Nat} {o : Oper} (ho : all[k]? = some o) (ha : qBF L o.after.toList = true) (x : Nat)
    (hx : ((qDE [] all).getD k 0).testBit x = true) : L.testBit x = true := by
  rw [List.getD_eq_getElem?_getD] at hx
  cases h : (qDE [] all)[k]? with
  | none => rw [h] at hx; simp at hx
  | some m =>
    rw [h] at hx
    exact qO7 hc all [] (by simp) (by simp) (fun k m o hk => by simp at hk) k m o h ho ha x hx

def qA5 (L i : Nat) : Nat := L ||| 2 ^ i
theorem qMO (L i : Nat) : (qA5 L i).testBit i = true := by unfold qA5; simp
theorem qGA {L i j : Nat} (h : i ≠ j) : (qA5 L i).testBit j = L.testBit j := by
  unfold qA5
  rw [Nat.testBit_or, Nat.testBit_two_pow]
  simp [h]
theorem qJp (L i j : Nat) : qA5 (qA5 L i) j = qA5 (qA5 L j) i := by unfold qA5; rw [Nat.or_assoc, Nat.or_comm (2 ^ i), Nat.or_assoc]
theorem qFr {L i : Nat} : ∀ {es : List Edge}, qBF L es = true → qBF (qA5 L i) es = true
  | [], _ => rfl
  | e :: es, h => by
    unfold qBF at h ⊢
    split at h
    · rename_i hb
      split at h
      · rename_i hl
        have : (qA5 L i).testBit e.on = true := by
          by_cases hi : i = e.on
          · subst hi; exact qMO L _
          · rw [qGA hi]; exact hl
        rw [this]
        exact qFr h
      · cases h
    · rename_i hb
      exact qFr h
theorem qEU {all : List Oper} {L i j : Nat} (h : qA3 all L j = true) (hne : j ≠ i) : qA3 all (qA5 L i) j = true := by
  unfold qA3 qDM at h ⊢
  split at h
  · rename_i o ho
    split at h
    · cases h
    · rename_i hl
      rw [qGA (Ne.symm hne), hl]
      exact qFr h
  · cases h

theorem qE2 {all : List Oper} {L j : Nat} (hc : qIJ all L) (hr : qA3 all L j = true) : qIJ all (qA5 L j) := by
  intro k o hk hl
  by_cases hkj : j = k
  · subst hkj
    unfold qA3 qDM at hr
    rw [hk] at hr
    dsimp only at hr
    split at hr
    · cases hr
    · exact qFr hr
  · rw [qGA hkj] at hl
    exact qFr (hc k o hk hl)
def StepA (P : Program) (all : List Oper) (i : Nat) (t : List Value) (h : Heap) (K : List Value → Heap → Prop) : Prop := match all[i]? with
  | none => K t h
  | some o => (qD0 all t o = true → SOp P (evO t) o h fun v h' => K (qAV t o.dst v) h') ∧ (qD0 all t o = false → K (qAV t o.dst undef) h)
theorem StepA.mono {all : List Oper} {i : Nat} {t : List Value} {h : Heap} {K K' : List Value → Heap → Prop} (k : StepA P all i t h K) (m : ∀ t h, K t h → K' t h) : StepA P all i t h K' := by
  unfold StepA at *
  split at k
  · exact m _ _ k
  · exact ⟨fun e => (k.1 e).mono fun _ _ x => m _ _ x, fun e => m _ _ (k.2 e)⟩
/-! ### where a reading operation looks -/
def qK0 (m : Nat) (l : List Nat) : Nat → List Oper → Bool
  | _, [] => true
  | k, y :: ys => match qDY y l with
    | false => qK0 m l (k + 1) ys
    | true => match m.testBit k with
      | true => qK0 m l (k + 1) ys
      | false => false
theorem qNe {m : Nat} {l : List Nat} : ∀ {ys : List Oper} {k : Nat}, qK0 m l k ys = true → ∀ j y, ys[j]? = some y → qDY y l = false ∨ m.testBit (k + j) = true
  | [], _, _, _, _, h => by simp at h
  | y' :: ys, k, hf, j, y, hj => by
    unfold qK0 at hf
    cases j with
    | zero =>
      simp at hj
      subst hj
      split at hf
      · rename_i e; exact .inl e
      · split at hf
        · rename_i e; exact .inr e
        · cases hf
    | succ j =>
      have key : qK0 m l (k + 1) ys = true → qDY y l = false ∨ m.testBit (k + (j + 1)) = true := fun hf' => by
        have := qNe hf' j y (by simpa using hj)
        rw [show k + (j + 1) = k + 1 + j from by omega]; exact this
      split at hf
      · exact key hf
      · split at hf
        · exact key hf
        · cases hf
def qFy (all : List Oper) (i : Nat) (o : Oper) (t : List Value) : Option Nat := match o.op with
  | .load _ a => match qK0 ((qDE [] all).getD i 0) (qFH o) 0 all with
    | true => match evO t a with
      | .pointer (some ad) => some ad.block
      | _ => none
    | false => none
  | _ => none
theorem qPG {all : List Oper} {i : Nat} {o y : Oper} {t : List Value} {v : Value} (h : qDY y (qFH o) = false) : qFy all i o (qAV t y.dst v) = qFy all i o t := by
  unfold qFy
  cases ho : o.op <;> try rfl
  case load e a =>
    dsimp only
    rw [qMX h a (by rw [ho]; simp [Op.operands])]
theorem qNu {all : List Oper} {i k : Nat} {o y : Oper} {t : List Value} {v : Value} (hk : all[k]? = some y) (hb : ((qDE [] all).getD i 0).testBit k = false) : qFy all i o (qAV t y.dst v) = qFy all i o t := by
  cases hf : qK0 ((qDE [] all).getD i 0) (qFH o) 0 all with
  | true =>
    rcases qNe hf k y hk with e | e
    · exact qPG e
    · rw [Nat.zero_add, hb] at e; cases e
  | false =>
    unfold qFy
    rw [hf]
def KeepO (all : List Oper) (i : Nat) (o : Oper) (t : List Value) (h h' : Heap) : Prop := match qFy all i o t with
  | some b => ∀ x, h b = some x → h' b = some x
  | none => h.le h'
theorem KeepO.of_le {all : List Oper} {i : Nat} {o : Oper} {t : List Value} {h h' : Heap} (l : h.le h') : KeepO all i o t h h' := by
  unfold KeepO
  split
  · exact fun x e => l _ x e
  · exact l
theorem KeepO.congr {all : List Oper} {i : Nat} {o : Oper} {t t' : List Value} {h h' : Heap} (k : KeepO all i o t h h') (e : qFy all i o t' = qFy all i o t) : KeepO all i o t' h h' := by
  unfold KeepO at *
  rw [e]; exact k
def KeepC (all : List Oper) (j L : Nat) (t : List Value) (h h' : Heap) : Prop :=
  ∀ i o, all[i]? = some o → qH6 o.op = true → i ≠ j → (L.testBit i = true ∨ qA3 all L i = true) → ((qDE [] all).getD j 0).testBit i = false → KeepO all i o t h h'
theorem KeepC.of_le {all : List Oper} {j L : Nat} {t : List Value} {h h' : Heap} (l : h.le h') : KeepC all j L t h h' := fun _ _ _ _ _ _ _ => KeepO.of_le l
def Heap.only (h : Heap) (b : Nat) : Heap := fun x => match Nat.beq x b with
  | true => h x
  | false => none
theorem qWX (h : Heap) (b : Nat) : (h.only b).le h := fun x o e => by
  unfold Heap.only at e
  split at e
  · exact e
  · cases e
theorem qPJ (h : Heap) (b o : Nat) : (h.only b).cell b o = h.cell b o := by
  unfold Heap.cell Heap.only
  rw [Nat.beq_refl]
def qIf (all : List Oper) (i : Nat) (o : Oper) (t : List Value) (h : Heap) : Heap := match qFy all i o t with
  | some b => h.only b
  | none => h
theorem qU6 (all : List Oper) (i : Nat) (o : Oper) (t : List Value) (h : Heap) : (qIf all i o t h).le h := by
  unfold qIf
  split
  · exact qWX _ _
  · exact h.le_refl
theorem qS6 {all : List Oper} {i : Nat} {o : Oper} {t : List Value} {h h' : Heap} (k : KeepO all i o t h h') : (qIf all i o t h).le (qIf all i o t h') := by
  unfold qIf
  unfold KeepO at k
  split
  · rename_i b e
    rw [e] at k
    intro x y hx
    unfold Heap.only at hx ⊢
    split at hx
    · rename_i hb
      have := Nat.eq_of_beq_eq_true hb
      subst this
      exact k y hx
    · cases hx
  · rename_i e
    rw [e] at k
    exact k
def qLd (P : Program) (all : List Oper) (J : List Value → Heap → Prop) : Nat → Nat → List Value → Heap → Prop
  | 0, L, t, h => (∀ i, qA3 all L i = false) ∧ J t h
  | f + 1, L, t, h => ((∀ i, qA3 all L i = false) → J t h) ∧
    ∀ i, qA3 all L i = true → StepA P all i t h fun t' h' => KeepC all i L t h h' ∧ qLd P all J f (qA5 L i) t' h'

def QOp (P : Program) (all : List Oper) (i : Nat) (t : List Value) (o : Oper) (h : Heap) (v : Value) : Prop :=
  (qD0 all t o = true ∧ ∀ w, (qH6 o.op = true → Rep (qIf all i o t h) w) → (execOp (evO t) o).run P w = .ok (.value v) w) ∨ (qD0 all t o = false ∧ v = undef)
theorem QOp.step {all : List Oper} {i : Nat} {t : List Value} {o : Oper} {h : Heap} {v : Value} (hi : all[i]? = some o) (q : QOp P all i t o h v) {K : List Value → Heap → Prop} (k : K (qAV t o.dst v) h) :
    StepA P all i t h K := by
  unfold StepA
  rw [hi]
  dsimp only
  rcases q with ⟨hw, q⟩ | ⟨hw, rfl⟩
  · exact ⟨fun _ w r => by rw [q w (fun _ => r.le (qU6 _ _ _ _ _))]; exact ⟨h, k, r, Fr.refl _ _⟩, fun e => by rw [hw] at e; cases e⟩
  · exact ⟨fun e => (by rw [hw] at e; cases e), fun _ => k⟩
theorem QOp.keep {all : List Oper} {i : Nat} {t : List Value} {o y : Oper} {h h' : Heap} {v u : Value} (q : QOp P all i t o h v) (hap : qFj all o y = true) (hh : qH6 o.op = true → KeepO all i o t h h') :
    QOp P all i (qAV t y.dst u) o h' v := by
  obtain ⟨_, _, a3, a4, _, a6, _⟩ := qH2 hap
  unfold QOp at *
  rw [qLc a4, qJ4 a3 a6]
  rcases q with ⟨hw, q⟩ | q
  · refine .inl ⟨hw, fun w r => q w fun e => ?_⟩
    have r := r e
    have ea := qPG (all := all) (i := i) (t := t) (v := u) a3
    unfold qIf at r
    rw [ea] at r
    exact r.le (qS6 (hh e))
  · exact .inr q
theorem qTr {all : List Oper} {j : Nat} {t : List Value} {o y : Oper} {h : Heap} {v : Value} {K : List Value → Heap → Prop} (hj : all[j]? = some y) (hap : qFj all o y = true)
    (k : StepA P all j (qAV t o.dst v) h K) : StepA P all j t h fun t' h' => (∃ u, t' = qAV t y.dst u) ∧ K (qAV t' o.dst v) h' := by
  obtain ⟨a1, a2, _, _, a5, _, a7⟩ := qH2 hap
  unfold StepA at *
  rw [hj] at *
  dsimp only at *
  rw [qLc a2] at k
  constructor
  · intro hw
    have k1 := k.1 hw
    unfold SOp at *
    rw [qJ4 a1 a7] at k1
    exact fun w r => qKg (fun u h' x => ⟨⟨u, rfl⟩, by rw [← qH9 a5]; exact x⟩) (k1 w r)
  · intro hw
    exact ⟨⟨undef, rfl⟩, by rw [← qH9 a5]; exact k.2 hw⟩

def qDx (i : Nat) : List Edge → Bool
  | [] => false
  | e :: es => match Region.binds .any e, Nat.beq e.on i with
    | true, true => true
    | _, _ => qDx i es
def qIk (all : List Oper) (L i : Nat) (o : Oper) : Nat → List Oper → Bool
  | _, [] => true
  | j, y :: ys => match Nat.beq j i, L.testBit j with
    | false, false => match qDx i y.after.toList with
      | true => qIk all L i o (j + 1) ys
      | false => match qFj all o y with
        | true => qIk all L i o (j + 1) ys
        | false => false
    | _, _ => qIk all L i o (j + 1) ys
theorem qJo {L i : Nat} : ∀ {es : List Edge}, qDx i es = true → L.testBit i = false → qBF L es = false
  | [], h, _ => by cases h
  | e :: es, h, hl => by
    unfold qDx at h
    unfold qBF
    split at h
    · rename_i h1 h2
      have := Nat.eq_of_beq_eq_true h2
      rw [h1, this, hl]
    · split
      · split
        · exact qJo h hl
        · rfl
      · exact qJo h hl
theorem qNz {all : List Oper} {L i : Nat} {o : Oper} : ∀ {ys : List Oper} {k : Nat}, qIk all L i o k ys = true → ∀ j y, ys[j]? = some y → k + j ≠ i → L.testBit (k + j) = false →
    qDx i y.after.toList = false → qFj all o y = true
  | [], _, _, _, _, h, _, _, _ => by simp at h
  | y' :: ys, k, hf, j, y, hj, hne, hl, hw => by
    unfold qIk at hf
    cases j with
    | zero =>
      simp at hj
      subst hj
      have hb : Nat.beq k i = false := by
        cases e : Nat.beq k i with
        | false => rfl
        | true => exact (hne (Nat.eq_of_beq_eq_true e)).elim
      rw [Nat.add_zero] at hl
      rw [hb, hl] at hf
      dsimp only at hf
      rw [hw] at hf
      dsimp only at hf
      split at hf
      · assumption
      · cases hf
    | succ j =>
      have key : qIk all L i o (k + 1) ys = true → qFj all o y = true := fun hf' =>
        qNz hf' j y (by simpa using hj) (by omega) (by rw [show k + 1 + j = k + (j + 1) from by omega]; exact hl) hw
      split at hf
      · split at hf
        · exact key hf
        · split at hf
          · exact key hf
          · cases hf
      · exact key hf
theorem qKn {all : List Oper} {J : List Value → Heap → Prop} {i : Nat} {o : Oper} {v : Value} (hi : all[i]? = some o) : ∀ (f L : Nat) (t : List Value) (h : Heap), qIJ all L →
    (∀ j y, all[j]? = some y → j ≠ i → L.testBit j = false → qDx i y.after.toList = false → qFj all o y = true) →
    qA3 all L i = true → QOp P all i t o h v → qLd P all J f (qA5 L i) (qAV t o.dst v) h → qLd P all J (f + 1) L t h
  | 0, L, t, h, _, hfree, hr, q, H => by
    refine ⟨fun hn => (by rw [hn i] at hr; cases hr), fun j hj => ?_⟩
    by_cases hji : j = i
    · subst hji; exact q.step hi ⟨KeepC.of_le h.le_refl, H⟩
    · have := qEU (i := i) hj hji
      rw [H.1 j] at this; cases this
  | f + 1, L, t, h, hc, hfree, hr, q, H => by
    refine ⟨fun hn => (by rw [hn i] at hr; cases hr), fun j hj => ?_⟩
    by_cases hji : j = i
    · subst hji; exact q.step hi ⟨KeepC.of_le h.le_refl, H⟩
    · have h1 := H.2 j (qEU hj hji)
      obtain ⟨y, hy⟩ : ∃ y, all[j]? = some y := by
        unfold qA3 at hj
        cases e : all[j]? with
        | none => rw [e] at hj; cases hj
        | some y => exact ⟨y, rfl⟩
      have hLi : L.testBit i = false := by
        unfold qA3 qDM at hr
        rw [hi] at hr
        dsimp only at hr
        split at hr
        · cases hr
        · rename_i e; exact e
      have hLj : L.testBit j = false ∧ qBF L y.after.toList = true := by
        have hj' := hj
        unfold qA3 qDM at hj'
        rw [hy] at hj'
        dsimp only at hj'
        split at hj'
        · cases hj'
        · rename_i e; exact ⟨e, hj'⟩
      have hnw : qDx i y.after.toList = false := by
        cases e : qDx i y.after.toList with
        | false => rfl
        | true => have := qJo e hLi; rw [hLj.2] at this; cases this
      have hap := hfree j y hy hji hLj.1 hnw
      have hbef : ((qDE [] all).getD j 0).testBit i = false := by
        cases e : ((qDE [] all).getD j 0).testBit i with
        | false => rfl
        | true =>
          rw [qQc hc hy hLj.2 i e] at hLi
          cases hLi
      refine (qTr hy hap h1).mono fun t' h' x => ?_
      obtain ⟨⟨u, rfl⟩, x1, x2⟩ := x
      rw [qJp] at x2
      have kc : KeepC all j L t h h' := fun i' o' hi' hro hne hst hbj => by
        have aft : qBF L o'.after.toList = true := by
          rcases hst with e | e
          · exact hc i' o' hi' e
          · unfold qA3 at e
            rw [hi'] at e
            dsimp only at e
            unfold qDM at e
            split at e
            · cases e
            · exact e
        have nb : ((qDE [] all).getD i' 0).testBit i = false := by
          cases e : ((qDE [] all).getD i' 0).testBit i with
          | false => rfl
          | true =>
            rw [qQc hc hi' aft i e] at hLi
            cases hLi
        refine (x1 i' o' hi' hro hne ?_ hbj).congr (qNu hi nb).symm
        by_cases e : i' = i
        · subst e; exact .inl (qMO L _)
        · rcases hst with e2 | e2
          · left; rw [qGA (Ne.symm e)]; exact e2
          · exact .inr (qEU e2 e)
      have ko : qH6 o.op = true → KeepO all i o t h h' := fun hro => kc i o hi hro (Ne.symm hji) (.inr hr) hbef
      refine ⟨kc, qKn hi f (qA5 L j) _ h' (qE2 hc hj) (fun k z hz hki hl hw => hfree k z hz hki ?_ hw) (qEU hr (Ne.symm hji)) (q.keep hap ko) x2⟩
      by_cases hjk : j = k
      · subst hjk; exact hLj.1
      · rw [qGA hjk] at hl; exact hl
/-! ### soundness against the kit's 'whatever order' -/
def qSs (ops : Array Oper) (arr : Array Bool) (L : Nat) : Prop := arr.size = ops.size ∧ ∀ j, j < ops.size → arr[j]? = some (L.testBit j)
theorem qNy {ops : Array Oper} {arr : Array Bool} {L : Nat} (hc : qSs ops arr L) (hin : ∀ j, ops.size ≤ j → L.testBit j = false) : ∀ (es : List Edge),
    (es.all fun e => !Region.binds .any e || arr.getD e.on false) = qBF L es
  | [] => rfl
  | e :: es => by
    rw [List.all_cons, qNy hc hin es, qBF]
    have hg : arr.getD e.on false = L.testBit e.on := by
      by_cases h : e.on < ops.size
      · have := hc.2 e.on h
        rw [Array.getD_eq_getD_getElem?, this]; rfl
      · rw [hin _ (by omega), Array.getD_eq_getD_getElem?, Array.getElem?_eq_none (by rw [hc.1]; omega)]; rfl
    rw [hg]
    cases Region.binds .any e <;> cases L.testBit e.on <;> simp
theorem qLr {ops : Array Oper} {arr : Array Bool} {L : Nat} (hc : qSs ops arr L) (hin : ∀ j, ops.size ≤ j → L.testBit j = false) (i : Nat) :
    i ∈ Region.ready .any ops arr ↔ qA3 ops.toList L i = true := by
  unfold Region.ready
  rw [List.mem_filter, List.mem_range]
  unfold qA3 qDM
  have e : ops.toList[i]? = ops[i]? := by simp
  rw [e]
  by_cases h : i < ops.size
  · have hg : arr.getD i true = L.testBit i := by
      rw [Array.getD_eq_getD_getElem?, hc.2 i h]; rfl
    rw [hg, Array.getElem?_eq_getElem h]
    simp only [h, true_and, Option.map_some, Option.getD_some, Bool.and_eq_true, Bool.not_eq_true']
    have e2 : (ops[i].after.all fun e => !Region.binds .any e || arr.getD e.on false) = qBF L ops[i].after.toList := by
      rw [← qNy hc hin, Array.all_toList]
    rw [e2]
    cases L.testBit i <;> simp
  · rw [Array.getElem?_eq_none (by omega)]
    simp [h]
theorem qIe (ops : Array Oper) (J : List Value → Heap → Prop) (h0 : Heap) (w0 : World) : ∀ (f L : Nat) (arr : Array Bool) (t : List Value) (h : Heap) (w : World),
    qSs ops arr L → (∀ j, ops.size ≤ j → L.testBit j = false) → qLd P ops.toList J f L t h → Rep h w → Fr h0 w0 h w →
    wpAny P .any ops (qQv J h0 w0) f arr ⟨t.toArray, []⟩ w
  | 0, L, arr, t, h, w, hc, hin, k, r, f => by
    refine ⟨?_, rfl, t, h, rfl, k.2, r, f⟩
    refine List.eq_nil_iff_forall_not_mem.2 fun i hi => ?_
    rw [qLr hc hin, k.1 i] at hi
    cases hi
  | n + 1, L, arr, t, h, w, hc, hin, k, r, f => by
    refine ⟨fun hn => ⟨rfl, t, h, rfl, k.1 fun i => ?_, r, f⟩, fun i hi => ?_⟩
    · cases e : qA3 ops.toList L i with
      | false => rfl
      | true => rw [← qLr hc hin, hn] at e; cases e
    · have hr := (qLr hc hin i).1 hi
      have k1 := k.2 i hr
      have hlt : i < ops.size := by
        have := (List.mem_filter.1 hi).1
        simpa using this
      have hop : ops[i]? = some ops[i] := Array.getElem?_eq_getElem hlt
      have hc' : qSs ops (arr.setIfInBounds i true) (qA5 L i) := by
        refine ⟨by simpa using hc.1, fun j hj => ?_⟩
        by_cases hij : i = j
        · subst hij
          rw [qMO, Array.getElem?_setIfInBounds_self_of_lt (by rw [hc.1]; exact hj)]
        · rw [qGA hij, Array.getElem?_setIfInBounds_ne hij]
          exact hc.2 j hj
      have hin' : ∀ j, ops.size ≤ j → (qA5 L i).testBit j = false := fun j hj => by
        rw [qGA (by omega)]; exact hin j hj
      unfold wpOp
      rw [hop]
      dsimp only
      rw [qLU]
      unfold StepA at k1
      have e : ops.toList[i]? = some ops[i] := by simp
      rw [e] at k1
      dsimp only at k1
      cases hw : qD0 ops.toList t ops[i] with
      | true =>
        simp only [if_true]
        refine .inl ((k1.1 hw).wp r fun v h' w' q r' f' => ?_)
        exact qIe ops J h0 w0 n _ _ _ h' w' hc' hin' q.2 r' (f.trans f')
      | false =>
        simp only [Bool.false_eq_true, if_false, qKS]
        exact qIe ops J h0 w0 n _ _ _ h w hc' hin' (k1.2 hw).2 r f

/-! ### the one order that stands for all -/
def qF6 : Op → Bool
  | .alloc _ | .box .. | .buildSlice .. | .makeSlice .. => true
  | _ => false
def qJT (P : Program) (all : List Oper) (L : Nat) : Nat → List Oper → Option (Nat × Oper)
  | _, [] => none
  | i, o :: os => match qDk P o.op, qDM L i o with
    | true, true => match qIk all L i o 0 all with
      | true => some (i, o)
      | false => qJT P all L (i + 1) os
    | _, _ => qJT P all L (i + 1) os
def qE8 (L : Nat) : Nat → List Oper → List (Nat × Oper)
  | _, [] => []
  | i, o :: os => match qDM L i o with
    | true => (i, o) :: qE8 L (i + 1) os
    | false => qE8 L (i + 1) os
def qCd (P : Program) (t : List Value) : Op → Option (Obj × (Nat → Value))
  | .alloc e => match qBQ P e with
    | some z => some (.cells z.toArray e (0, 0), fun r => .pointer (some ⟨r, 0, none⟩))
    | none => none
  | .box e x => some (.cells (qCB (evO t x)).toArray e (0, 0), fun r => .pointer (some ⟨r, 0, none⟩))
  | .buildSlice ty len ps => match P.underlying ty with
    | some (.slice e) => match P.info? e, qBQ P e with
      | some i, some z => match qJv (qFK i.size 0 len) (q3 len z) (qIW t ps.toList) with
        | some cells => some (.cells cells.toArray e (0, 0), fun r => .slice (some ⟨r, 0, none⟩) len len)
        | none => none
      | _, _ => none
    | _ => none
  | .makeSlice ty l c => match evO t l, evO t c, P.underlying ty with
    | .int _ l, .int _ c, some (.slice e) => match qBQ P e with
      | some z => some (.cells (q3 c.toNat z).toArray e (0, 0), fun r => .slice (some ⟨r, 0, none⟩) l.toNat c.toNat)
      | none => none
    | _, _, _ => none
  | _ => none
def qOO (P : Program) (t : List Value) (op : Op) (X : Prop) : Prop := match op with
  | .alloc e => match qBQ P e with
    | some _ => X
    | none => False
  | .box _ _ => X
  | .buildSlice ty len ps => match P.underlying ty with
    | some (.slice e) => match P.info? e, qBQ P e with
      | some i, some z => match Nat.beq z.length i.size, Nat.ble (len * i.size) 16777216 with
        | true, true => match qJv (qFK i.size 0 len) (q3 len z) (qIW t ps.toList) with
          | some _ => X
          | none => False
        | _, _ => False
      | _, _ => False
    | _ => False
  | .makeSlice ty l c => match evO t l, evO t c, P.underlying ty with
    | .int _ l, .int _ c, some (.slice e) => match P.info? e, qBQ P e with
      | some i, some z => match Nat.beq z.length i.size with
        | true => 0 ≤ l ∧ l ≤ c ∧ c ≤ 281474976710656 ∧ (i.bytes : Int) * c ≤ 281474976710656 ∧ X
        | false => False
      | _, _ => False
    | _, _, _ => False
  | _ => False
def qNo (all : List Oper) (L : Nat) : List (Nat × Oper) → Option ((Nat × Oper) × Option (Nat × Oper))
  | [x] => some (x, none)
  | [x, y] =>
    let c := match qF6 x.2.op with | true => (match qF6 y.2.op with | true => (x, y) | false => (y, x)) | false => (x, y)
    match qF6 c.2.2.op, c.2.2.guard, qFj all c.2.2 c.1.2, qE8 (qA5 L c.2.1) 0 all with
    | true, none, true, [_] => some (c.1, some c.2)
    | _, _, _, _ => none
  | _ => none
def qFX (bs : List Nat) (h h' : Heap) : Prop := ∀ b, b ∈ bs → ∀ x, h b = some x → h' b = some x
def qLk (all : List Oper) (c L m : Nat) (t : List Value) : Nat → List Oper → Option (List Nat)
  | _, [] => some []
  | k, o :: os => match qH6 o.op, Nat.beq k c, m.testBit k with
    | true, false, false => match L.testBit k, qDM L k o with
      | false, false => qLk all c L m t (k + 1) os
      | _, _ => match qFy all k o t with
        | some b => match qLk all c L m t (k + 1) os with
          | some bs => some (b :: bs)
          | none => none
        | none => none
    | _, _, _ => qLk all c L m t (k + 1) os
def qMI (bs : Option (List Nat)) (h h' : Heap) (X : Prop) : Prop := match bs with
  | some [] => X
  | some (b :: r) => (h.le h' ∨ qFX (b :: r) h h') ∧ X
  | none => h.le h' ∧ X
def qIo (all : List Oper) (o : Oper) (i L : Nat) (t : List Value) : Option (List Nat) := match qF6 o.op with
  | true => some []
  | false => qLk all i L ((qDE [] all).getD i 0) t 0 all
theorem qPX {all : List Oper} {c L m : Nat} {t : List Value} {h h' : Heap} : ∀ {os : List Oper} {k : Nat} {bs : List Nat}, qLk all c L m t k os = some bs → qFX bs h h' →
    ∀ i o, os[i]? = some o → qH6 o.op = true → k + i ≠ c → (L.testBit (k + i) = true ∨ qDM L (k + i) o = true) → m.testBit (k + i) = false → KeepO all (k + i) o t h h'
  | [], _, _, _, _, _, _, e, _, _, _, _ => by simp at e
  | o' :: os, k, bs, e, kp, i, o, hi, hr, hne, hst, hm => by
    unfold qLk at e
    have key : ∀ bs, qLk all c L m t (k + 1) os = some bs → qFX bs h h' → ∀ j, i = j + 1 → KeepO all (k + i) o t h h' := fun bs e kp j ej => by
      subst ej
      have hs : k + (j + 1) = k + 1 + j := by omega
      rw [hs] at hne hst hm ⊢
      exact qPX e kp j o (by simpa using hi) hr hne hst hm
    cases i with
    | succ j =>
      split at e
      · split at e
        · exact key _ e kp j rfl
        · split at e
          · split at e
            · rename_i b _ bs' e2
              cases e
              exact key _ e2 (fun b hb => kp b (List.mem_cons_of_mem _ hb)) j rfl
            · cases e
          · cases e
      · exact key _ e kp j rfl
    | zero =>
      simp at hi
      subst hi
      rw [Nat.add_zero] at hne hst hm ⊢
      have hb : Nat.beq k c = false := by
        cases e : Nat.beq k c with
        | false => rfl
        | true => exact (hne (Nat.eq_of_beq_eq_true e)).elim
      rw [hr, hb, hm] at e
      dsimp only at e
      split at e
      · rename_i e1 e2
        rcases hst with e3 | e3
        · rw [e3] at e1; cases e1
        · rw [e3] at e2; cases e2
      · split at e
        · rename_i b ea
          split at e
          · cases e
            unfold KeepO
            rw [ea]
            exact kp b (List.mem_cons_self ..)
          · cases e
        · cases e
theorem qTf {all : List Oper} {o : Oper} {i L : Nat} {t : List Value} {h h' : Heap} {X : Prop} (hn : qF6 o.op = false) (k : qMI (qIo all o i L t) h h' X) : KeepC all i L t h h' ∧ X := by
  unfold qIo at k
  rw [hn] at k
  dsimp only at k
  have main : ∀ bs, qLk all i L ((qDE [] all).getD i 0) t 0 all = some bs → qFX bs h h' → KeepC all i L t h h' := fun bs e kp j y hy hr hne hst hm => by
    have := qPX e kp j y hy hr (by omega) (by
      rw [Nat.zero_add]
      rcases hst with e2 | e2
      · exact .inl e2
      · unfold qA3 at e2
        rw [hy] at e2
        exact .inr e2) (by rw [Nat.zero_add]; exact hm)
    rw [Nat.zero_add] at this
    exact this
  unfold qMI at k
  split at k
  · rename_i e
    exact ⟨main _ e (fun b hb => by cases hb), k⟩
  · rename_i b r e
    rcases k.1 with l | kp
    · exact ⟨KeepC.of_le l, k.2⟩
    · exact ⟨main _ e kp, k.2⟩
  · exact ⟨KeepC.of_le k.1, k.2⟩
def qEb (P : Program) (all : List Oper) (J : List Value → Heap → Prop) : Nat → Nat → List Value → Heap → Prop
  | 0, L, t, h => match qE8 L 0 all with
    | [] => J t h
    | _ => False
  | f + 1, L, t, h => match qJT P all L 0 all with
    | some (i, o) => qF0 all o t
        (fun t => opV P t o.op h fun v _ => qEb P all J f (qA5 L i) (qAV t o.dst v) h)
        (fun t => qEb P all J f (qA5 L i) (qAV t o.dst undef) h)
    | none => match qE8 L 0 all with
      | [] => J t h
      | l => match qNo all L l with
        | some ((i, o), none) => qF0 all o t
            (fun t => opA P t o h fun v h' => qMI (qIo all o i L t) h h' (qEb P all J f (qA5 L i) (qAV t o.dst v) h'))
            (fun t => qEb P all J f (qA5 L i) (qAV t o.dst undef) h)
        | some ((i, o), some (_, y)) => match f with
          | 0 => False
          | f + 1 => qOO P t y.op (qF0 all o t
            (fun t => opA P t o h fun v h' => qMI (qIo all o i L t) h h' (qEb P all J (f + 1) (qA5 L i) (qAV t o.dst v) h'))
            (fun t => qEb P all J (f + 1) (qA5 L i) (qAV t o.dst undef) h))
        | none => False

theorem qM9 {L : Nat} : ∀ {os : List Oper} {k i : Nat} {o : Oper}, os[i]? = some o → qDM L (k + i) o = true → (k + i, o) ∈ qE8 L k os
  | [], _, _, _, h, _ => by simp at h
  | o' :: os, k, 0, o, h, hr => by
    simp at h
    subst h
    unfold qE8
    rw [Nat.add_zero] at hr ⊢
    rw [hr]
    simp
  | o' :: os, k, i + 1, o, h, hr => by
    have := qM9 (k := k + 1) (i := i) (os := os) (o := o) (by simpa using h) (by rw [show k + 1 + i = k + (i + 1) from by omega]; exact hr)
    rw [show k + 1 + i = k + (i + 1) from by omega] at this
    unfold qE8
    split
    · exact List.mem_cons_of_mem _ this
    · exact this
theorem qRy {L : Nat} : ∀ {os : List Oper} {k i : Nat} {o : Oper}, (i, o) ∈ qE8 L k os → k ≤ i ∧ os[i - k]? = some o ∧ qDM L i o = true
  | [], _, _, _, h => by simp [qE8] at h
  | o' :: os, k, i, o, h => by
    unfold qE8 at h
    have rest : (i, o) ∈ qE8 L (k + 1) os → k ≤ i ∧ (o' :: os)[i - k]? = some o ∧ qDM L i o = true := fun h => by
      obtain ⟨h1, h2, h3⟩ := qRy h
      refine ⟨by omega, ?_, h3⟩
      rw [show i - k = (i - (k + 1)) + 1 from by omega]
      simpa using h2
    split at h
    · rename_i hr
      rcases List.mem_cons.1 h with e | e
      · cases e
        exact ⟨Nat.le_refl _, by simp, hr⟩
      · exact rest e
    · exact rest h
theorem qLs {all : List Oper} {L : Nat} (h : qE8 L 0 all = []) (i : Nat) : qA3 all L i = false := by
  cases e : qA3 all L i with
  | false => rfl
  | true =>
    unfold qA3 at e
    split at e
    · rename_i o ho
      have := qM9 (k := 0) (i := i) ho (by rw [Nat.zero_add]; exact e)
      rw [h] at this
      cases this
    · cases e
theorem qOI {all : List Oper} {L : Nat} : ∀ {os : List Oper} {k i : Nat} {o : Oper}, qJT P all L k os = some (i, o) → k ≤ i ∧ os[i - k]? = some o ∧ qDk P o.op = true ∧ qDM L i o = true ∧ qIk all L i o 0 all = true
  | [], _, _, _, h => by simp [qJT] at h
  | o' :: os, k, i, o, h => by
    unfold qJT at h
    have rest : qJT P all L (k + 1) os = some (i, o) → k ≤ i ∧ (o' :: os)[i - k]? = some o ∧ qDk P o.op = true ∧ qDM L i o = true ∧ qIk all L i o 0 all = true := fun h => by
      obtain ⟨h1, h2, h3⟩ := qOI h
      refine ⟨by omega, ?_, h3⟩
      rw [show i - k = (i - (k + 1)) + 1 from by omega]
      simpa using h2
    split at h
    · rename_i h1 h2
      split at h
      · rename_i h3
        cases h
        exact ⟨Nat.le_refl _, by simp, h1, h2, h3⟩
      · exact rest h
    · exact rest h
theorem qVU {t : List Value} {op : Op} {h : Heap} {J : Value → Heap → Prop} (k : opV P t op h J) (hq : qDk P op = true) (hr : qH6 op = false) : opV P t op (fun _ => none) (fun v _ => J v h) := by
  unfold opV at k ⊢
  split at k <;> first
    | exact k
    | (cases hq; done)
    | (cases hr; done)
    | skip
  case _ s d x =>
    cases hu : qSM P s d with
    | true => unfold qDk at hq; dsimp only at hq; rw [hu] at hq; cases hq
    | false =>
      have hq : qTC P s d = true := by unfold qDk at hq; dsimp only at hq; rw [hu] at hq; exact hq
      rw [hu] at k
      dsimp only at k ⊢
      unfold qR5 at k ⊢
      rw [hq] at k ⊢
      exact k
  case _ b args ts =>
    unfold biV at k ⊢
    split at k <;> first
      | (cases hq; done)
      | exact k
      | skip
    split at k
    · rename_i t0 _ x0 _ ht hx
      dsimp only
      unfold qUw at k ⊢
      split at k
      · exact k
      · rename_i hu
        unfold qDk at hq
        dsimp only at hq
        rw [ht] at hq
        dsimp only at hq
        rw [hu] at hq
        cases hq
      · exact k
      · exact k
      · exact k.elim
    · exact k.elim
theorem qLp (h : Heap) (b : Nat) : ∀ (ss : List Sc) (o n : Nat) (K : List Value → Prop), qIv ss (h.only b) b o n K = qIv ss h b o n K
  | [], _, _, _ => rfl
  | s :: ss, o, n, K => by unfold qIv; simp only [qPJ, qLp h b ss]
theorem qTu {t : TypeId} {h : Heap} {b o : Nat} {K : Value → Prop} (k : qM8 P t h b o K) : qM8 P t (h.only b) b o K := by
  unfold qM8 at *
  simp only [qLp, qPJ]
  exact k
theorem qYI {all : List Oper} {i : Nat} {t : List Value} {o : Oper} {h : Heap} {J : Value → Heap → Prop} (k : opV P t o.op h J) (hq : qDk P o.op = true) (hw : qD0 all t o = true) :
    ∃ v, QOp P all i t o h v ∧ J v h := by
  cases hr : qH6 o.op with
  | true =>
    cases ha : qFy all i o t with
    | none =>
      obtain ⟨v, e, q⟩ := qL0 k hq
      exact ⟨v, .inl ⟨hw, fun w r => e w (by have := r hr; unfold qIf at this; rw [ha] at this; exact this)⟩, q⟩
    | some b =>
      have k2 : opV P t o.op (h.only b) fun v _ => J v h := by
        have ha2 := ha
        unfold qFy at ha2
        split at ha2
        · rename_i e a ho
          split at ha2
          · split at ha2
            · rename_i ad hv
              cases ha2
              rw [ho] at k ⊢
              unfold opV at k ⊢
              dsimp only at k ⊢
              rw [hv] at k ⊢
              dsimp only at k ⊢
              obtain ⟨b, o', e1, k3⟩ := qAP k
              cases e1
              exact qTu k3
            · cases ha2
          · cases ha2
        · cases ha2
      obtain ⟨v, e, q⟩ := qL0 k2 hq
      exact ⟨v, .inl ⟨hw, fun w r => e w (by have := r hr; unfold qIf at this; rw [ha] at this; exact this)⟩, q⟩
  | false =>
    obtain ⟨v, e, q⟩ := qL0 (qVU k hq hr) hq
    exact ⟨v, .inl ⟨hw, fun w _ => e w (fun _ _ x => by cases x)⟩, q⟩
theorem qb {h : Heap} {r : Nat} {o : Obj} (e : h r = none) : h.le (h.ins r o) := fun x y hx => by
  unfold Heap.ins
  rw [if_neg (fun e2 => by rw [e2, e] at hx; cases hx)]
  exact hx
theorem qMY {h : Heap} {cells : List Value} {T : TypeId} {J : Nat → Heap → Prop} (k : qR h cells T J) : qR h cells T fun r h' => h.le h' ∧ J r h' :=
  fun r hr => ⟨qb hr, k r hr⟩
theorem qWJ {t : List Value} {op : Op} {h : Heap} {J : Value → Heap → Prop} (k : opV P t op h J) (hn : qF6 op = true) : opV P t op h fun v h' => h.le h' ∧ J v h' := by
  cases op <;> try (cases hn; done)
  case alloc e =>
    unfold opV qKW at *
    dsimp only at *
    split at k
    · exact qMY k
    · exact k.elim
  case box e x => exact qMY k
  case buildSlice e n ps =>
    unfold opV qIt at *
    dsimp only at *
    repeat' split at k
    all_goals first
      | exact k.elim
      | exact qMY k
  case makeSlice e l c =>
    unfold opV qMm at *
    dsimp only at *
    repeat' split at k
    all_goals first
      | exact k.elim
      | (exact ⟨k.1, k.2.1, k.2.2.1, k.2.2.2.1, qMY k.2.2.2.2⟩)
theorem qEz {all : List Oper} {L i : Nat} {o : Oper} (ho : all[i]? = some o) (hr : qDM L i o = true) : qA3 all L i = true := by
  unfold qA3; rw [ho]; exact hr
theorem qMU {all : List Oper} {L j : Nat} (h : qA3 all L j = true) : ∃ y, all[j]? = some y ∧ qDM L j y = true ∧ (j, y) ∈ qE8 L 0 all := by
  unfold qA3 at h
  split at h
  · rename_i y hy
    have := qM9 (k := 0) (i := j) hy (by rw [Nat.zero_add]; exact h)
    rw [Nat.zero_add] at this
    exact ⟨y, hy, h, this⟩
  · cases h
theorem qNC {L i : Nat} {o : Oper} (h : qDM L i o = true) : L.testBit i = false := by
  unfold qDM at h
  split at h
  · cases h
  · assumption
theorem qSY {L i : Nat} {o : Oper} (h : qDM L i o = true) : qBF L o.after.toList = true := by
  unfold qDM at h
  split at h
  · cases h
  · exact h
theorem qUR {t : List Value} {op : Op} {h : Heap} {J : Value → Heap → Prop} (k : opV P t op h J) (hn : qF6 op = true) :
    ∃ obj val, qCd P t op = some (obj, val) ∧ ∀ r, h r = none → J (val r) (h.ins r obj) := by
  cases op <;> try (cases hn; done)
  case alloc e =>
    unfold opV qKW at k
    dsimp only at k
    split at k
    · rename_i z hz
      exact ⟨_, _, by simp only [qCd, hz], k⟩
    · exact k.elim
  case box e x => exact ⟨_, _, rfl, k⟩
  case buildSlice e n ps =>
    unfold opV qIt at k
    dsimp only at k
    split at k
    · rename_i e' hu
      split at k
      · rename_i i z hi hz
        split at k
        · rename_i h1 h2
          split at k
          · rename_i cells hc
            exact ⟨_, _, by simp only [qCd, hu, hi, hz, hc], k⟩
          · exact k.elim
        · exact k.elim
      · exact k.elim
    · exact k.elim
  case makeSlice e l c =>
    unfold opV qMm at k
    dsimp only at k
    split at k
    · rename_i _ l' _ c' e' hl hc hu
      split at k
      · rename_i i z hi hz
        split at k
        · rename_i h1
          exact ⟨_, _, by simp only [qCd, hl, hc, hu, hz], k.2.2.2.2⟩
        · exact k.elim
      · exact k.elim
    · exact k.elim
theorem qTe {t : List Value} {op : Op} {X : Prop} (k : qOO P t op X) : X ∧ ∃ obj val, qCd P t op = some (obj, val) ∧ ∀ h, opV P t op h fun v h' => ∃ r, h r = none ∧ v = val r ∧ h' = h.ins r obj := by
  cases op <;> try (exact k.elim)
  case alloc e =>
    unfold qOO at k
    dsimp only at k
    split at k
    · rename_i z hz
      refine ⟨k, .cells z.toArray e (0, 0), fun r => .pointer (some ⟨r, 0, none⟩), by simp only [qCd, hz], fun h => ?_⟩
      simp only [opV, qKW, hz]
      exact fun r hr => ⟨r, hr, rfl, rfl⟩
    · exact k.elim
  case box e x => exact ⟨k, _, _, rfl, fun h r hr => ⟨r, hr, rfl, rfl⟩⟩
  case buildSlice e n ps =>
    unfold qOO at k
    dsimp only at k
    split at k
    · rename_i e' hu
      split at k
      · rename_i i z hi hz
        split at k
        · rename_i h1 h2
          split at k
          · rename_i cells hc
            refine ⟨k, .cells cells.toArray e' (0, 0), fun r => .slice (some ⟨r, 0, none⟩) n n, by simp only [qCd, hu, hi, hz, hc], fun h => ?_⟩
            simp only [opV, qIt, hu, hi, hz, h1, h2, hc]
            exact fun r hr => ⟨r, hr, rfl, rfl⟩
          · exact k.elim
        · exact k.elim
      · exact k.elim
    · exact k.elim
  case makeSlice e l c =>
    unfold qOO at k
    dsimp only at k
    split at k
    · rename_i _ l' _ c' e' hl hc hu
      split at k
      · rename_i i z hi hz
        split at k
        · rename_i h1
          refine ⟨k.2.2.2.2, .cells (q3 c'.toNat z).toArray e' (0, 0), fun r => .slice (some ⟨r, 0, none⟩) l'.toNat c'.toNat, by simp only [qCd, hl, hc, hu, hz], fun h => ?_⟩
          simp only [opV, qMm, hl, hc, hu, hi, hz, h1]
          exact ⟨k.1, k.2.1, k.2.2.1, k.2.2.2.1, fun r hr => ⟨r, hr, rfl, rfl⟩⟩
        · exact k.elim
      · exact k.elim
    · exact k.elim
theorem qPy {t : List Value} {o y : Oper} {v : Value} (h : qDY o (qFH y) = false) : ∀ (ps : List (Nat × Operand)), (∀ x ∈ ps, x.2 ∈ y.op.operands) → qIW (qAV t o.dst v) ps = qIW t ps
  | [], _ => rfl
  | (i, x) :: ps, hm => by
    unfold qIW
    rw [qMX h x (hm (i, x) (List.mem_cons_self ..)), qPy h ps fun z hz => hm z (List.mem_cons_of_mem _ hz)]
theorem qJz {t : List Value} {o y : Oper} {v : Value} (h : qDY o (qFH y) = false) : qCd P (qAV t o.dst v) y.op = qCd P t y.op := by
  have key : ∀ x, x ∈ y.op.operands → evO (qAV t o.dst v) x = evO t x := fun x hx => qMX h x hx
  have keyP : ∀ (ps : List (Nat × Operand)), (∀ x ∈ ps, x.2 ∈ y.op.operands) → qIW (qAV t o.dst v) ps = qIW t ps := fun ps hm => qPy h ps hm
  cases ho : y.op <;> try rfl
  case box e x => simp only [qCd, key x (by rw [ho]; simp [Op.operands])]
  case buildSlice e n ps =>
    simp only [qCd, keyP ps.toList (fun x hx => by
      rw [ho]
      simp only [Op.operands]
      simp
      exact ⟨x.1, by simpa using hx⟩)]
  case makeSlice e l c =>
    simp only [qCd, key l (by rw [ho]; simp [Op.operands]), key c (by rw [ho]; simp [Op.operands])]
theorem SOp.frame1 {ρ : Operand → Value} {o : Oper} {h : Heap} {K : Value → Heap → Prop} {r : Nat} {obj : Obj} (k : SOp P ρ o h K) (hr : h r = none) :
    SOp P ρ o (h.ins r obj) fun v h'' => ∃ h', K v h' ∧ h' r = none ∧ h'' = h'.ins r obj := by
  intro w rw'
  have r0 : Rep h w := rw'.le (qb hr)
  have hw : w.heap[r]? = some obj := rw' r obj (by unfold Heap.ins; rw [if_pos rfl])
  have hlt : r < w.heap.size := (Array.getElem?_eq_some_iff.1 hw).1
  have main : ∀ {v : Value} {h' : Heap} {w' : World}, K v h' → Rep h' w' → Fr h w h' w' → ∃ h'', (∃ h', K v h' ∧ h' r = none ∧ h'' = h'.ins r obj) ∧ Rep h'' w' ∧ Fr (h.ins r obj) w h'' w' := by
    intro v h' w' kk r' f
    have hn : h' r = none := f.dom r hlt hr
    refine ⟨h'.ins r obj, ⟨h', kk, hn, rfl⟩, ?_, ?_⟩
    · intro x y hx
      unfold Heap.ins at hx
      by_cases hxr : x = r
      · rw [if_pos hxr] at hx
        rw [hxr, f.keep r hlt hr, hw]; exact hx
      · rw [if_neg hxr] at hx; exact r' _ _ hx
    · refine ⟨f.os, f.tape, f.output, f.size, (f.more (qb hr)).keep, fun x hx hxn => ?_⟩
      unfold Heap.ins at hxn ⊢
      by_cases hxr : x = r
      · rw [if_pos hxr] at hxn; cases hxn
      · rw [if_neg hxr] at hxn ⊢
        exact f.dom x hx hxn
  have k1 := k w r0
  unfold resOK at k1 ⊢
  split at k1
  · obtain ⟨h', a, b, c⟩ := k1; exact main a b c
  · obtain ⟨h', a, b, c⟩ := k1; exact main a b c
  · refine k1.mono fun e w'' ⟨v, h', e1, a, b, c⟩ => ?_
    obtain ⟨h'', x, y, z⟩ := main a b c
    exact ⟨v, h'', e1, x, y, z⟩
  · exact k1.elim
theorem qXT {h h' : Heap} {r : Nat} {obj : Obj} (l : h.le h') : (h.ins r obj).le (h'.ins r obj) := fun x y hx => by
  unfold Heap.ins at hx ⊢
  by_cases hxr : x = r
  · rw [if_pos hxr] at hx ⊢; exact hx
  · rw [if_neg hxr] at hx ⊢; exact l _ _ hx
theorem qIi {all : List Oper} {L : Nat} {l : List (Nat × Oper)} {c : Nat × Oper} {n : Option (Nat × Oper)} (h : qNo all L l = some (c, n)) :
    (n = none ∧ l = [c]) ∨ ∃ y, n = some y ∧ (l = [c, y] ∨ l = [y, c]) ∧ qF6 y.2.op = true ∧ y.2.guard = none ∧ qFj all y.2 c.2 = true ∧ (qE8 (qA5 L y.1) 0 all).length = 1 := by
  unfold qNo at h
  split at h
  · cases h; exact .inl ⟨rfl, rfl⟩
  · rename_i x y
    dsimp only at h
    split at h
    · rename_i z h1 h2 h3 h4
      cases h
      refine .inr ⟨_, rfl, ?_, h1, h2, h3, by rw [h4]; rfl⟩
      split
      · split
        · exact .inl rfl
        · exact .inr rfl
      · exact .inl rfl
    · cases h
  · cases h
theorem qMj {t : List Value} {o : Oper} {h : Heap} {J : Value → Heap → Prop} (hn : qF6 o.op = true) : opA P t o h J = opV P t o.op h J := by
  have hcv : qKU o.op = none := by cases ho : o.op <;> rw [ho] at hn <;> first | rfl | cases hn
  unfold opA
  rw [hcv]
theorem qQo {all : List Oper} {o : Oper} {i L : Nat} {t : List Value} {h h' : Heap} {X : Prop} (hn : qF6 o.op = true) (x : qMI (qIo all o i L t) h h' X) : X := by
  unfold qIo at x
  rw [hn] at x; exact x

theorem qF5 {all : List Oper} {J : List Value → Heap → Prop} : ∀ (f L : Nat) (t : List Value) (h : Heap), qIJ all L → qEb P all J f L t h →
    qLd P all J f L t h ∧ ∀ (g i : Nat) (o : Oper) (obj : Obj) (val : Nat → Value) (r : Nat), f = g + 1 → all[i]? = some o → qF6 o.op = true → o.guard = none → qDM L i o = true →
      qCd P t o.op = some (obj, val) → h r = none → qLd P all J g (qA5 L i) (qAV t o.dst (val r)) (h.ins r obj)
  | 0, L, t, h, _, k => by
    refine ⟨?_, fun g i o obj val r e => by omega⟩
    unfold qEb at k
    split at k
    · rename_i hn; exact ⟨qLs hn, k⟩
    · exact k.elim
  | f + 1, L, t, h, hc, k => by
    unfold qEb at k
    split at k
    · -- a quiet one
      rename_i q o hp
      obtain ⟨_, hi, hq, hr, hfree⟩ := qOI hp
      rw [Nat.sub_zero] at hi
      have hra := qEz hi hr
      obtain ⟨v, hQ, k1⟩ : ∃ v, QOp P all q t o h v ∧ qEb P all J f (qA5 L q) (qAV t o.dst v) h := by
        refine (qFd k).elim (fun ⟨hw, k⟩ => ?_) (fun ⟨hw, k⟩ => ⟨undef, .inr ⟨hw, rfl⟩, k⟩)
        obtain ⟨v, q, k⟩ := qYI (all := all) (i := q) k hq hw
        exact ⟨v, q, k⟩
      have ih := qF5 f _ _ h (qE2 hc hra) k1
      have hfree' : ∀ j y, all[j]? = some y → j ≠ q → L.testBit j = false → qDx q y.after.toList = false → qFj all o y = true := fun j y hj hne hl hwt =>
        qNz (k := 0) hfree j y hj (by omega) (by rw [Nat.zero_add]; exact hl) hwt
      refine ⟨qKn hi f L t h hc hfree' hra hQ ih.1, fun g i y obj val r e hy hn hgu hry hnf hrn => ?_⟩
      have hqi : q ≠ i := by
        rintro rfl
        rw [hi] at hy
        cases hy
        cases ho : o.op <;> rw [ho] at hq hn <;> first | (cases hn; done) | (cases hq; done)
      have hLq : L.testBit q = false := qNC hr
      have hLi : L.testBit i = false := qNC hry
      have hwq : qDx q y.after.toList = false := by
        cases e : qDx q y.after.toList with
        | false => rfl
        | true => have := qJo e hLq; rw [qSY hry] at this; cases this
      have hap := hfree' i y hy (Ne.symm hqi) hLi hwq
      obtain ⟨a1, _, _, _, a5, _, _⟩ := qH2 hap
      cases g with
      | zero =>
        exfalso
        have : f = 0 := by omega
        subst this
        have h0 := ih.1.1 i
        rw [qEU (qEz hy hry) (Ne.symm hqi)] at h0
        cases h0
      | succ g =>
        have h2 := ih.2 g i y obj val r (by omega) hy hn hgu (by
          have := qEU (i := q) (qEz hy hry) (Ne.symm hqi)
          unfold qA3 at this
          rw [hy] at this
          exact this) (by rw [qJz a1]; exact hnf) hrn
        rw [qJp, qH9 a5] at h2
        refine qKn hi g (qA5 L i) _ _ (qE2 hc (qEz hy hry)) (fun j z hz hne hl hwt => hfree' j z hz hne ?_ hwt) (qEU hra hqi) (hQ.keep hap fun _ => KeepO.of_le (qb hrn)) h2
        by_cases hij : i = j
        · subst hij; exact hLi
        · rw [qGA hij] at hl; exact hl
    · split at k
      · rename_i hn
        refine ⟨⟨fun _ => k, fun i hi => ?_⟩, fun g i y obj val r e hy hn2 hgu hry => ?_⟩
        · rw [qLs hn i] at hi; cases hi
        · have := qLs hn i
          rw [qEz hy hry] at this
          cases this
      · rename_i hnone
        obtain ⟨c, o, n, hp, k, hlate⟩ : ∃ c o n, qNo all L (qE8 L 0 all) = some ((c, o), n) ∧ (qF0 all o t
            (fun t => opA P t o h fun v h' => qMI (qIo all o c L t) h h' (qEb P all J f (qA5 L c) (qAV t o.dst v) h'))
            (fun t => qEb P all J f (qA5 L c) (qAV t o.dst undef) h)) ∧
            ∀ z, n = some z → f ≠ 0 ∧ ∃ obj val, qCd P t z.2.op = some (obj, val) ∧ ∀ h, opV P t z.2.op h fun v h' => ∃ r, h r = none ∧ v = val r ∧ h' = h.ins r obj := by
          split at k
          · rename_i c o hp
            exact ⟨c, o, none, hp, k, fun z e => by cases e⟩
          · rename_i c o z1 y hp
            split at k
            · exact k.elim
            · obtain ⟨k1, k2⟩ := qTe k
              exact ⟨c, o, _, hp, k1, fun z e => by cases e; exact ⟨by omega, k2⟩⟩
          · exact k.elim
        have hcm : (c, o) ∈ qE8 L 0 all := by
          rcases qIi hp with ⟨_, e⟩ | ⟨y, _, e | e, _⟩ <;> rw [e] <;> simp
        obtain ⟨_, hi, hr⟩ := qRy hcm
        rw [Nat.sub_zero] at hi
        have hra := qEz hi hr
        -- what is done at c
        have stepC : StepA P all c t h fun t' h' => KeepC all c L t h h' ∧ qEb P all J f (qA5 L c) t' h' := by
          unfold StepA
          rw [hi]
          dsimp only
          refine (qFd k).elim (fun ⟨hw, k⟩ => ⟨fun _ => ?_, fun e => (by rw [hw] at e; cases e)⟩) (fun ⟨hw, k⟩ => ⟨fun e => (by rw [hw] at e; cases e), fun _ => ⟨KeepC.of_le h.le_refl, k⟩⟩)
          cases e : qF6 o.op with
          | false => exact (qKE k).mono fun v h' x => qTf e x
          | true =>
            rw [qMj e] at k
            have k2 := qWJ k e
            rw [← qMj e] at k2
            exact (qKE k2).mono fun v h' x => ⟨KeepC.of_le x.1, qQo e x.2⟩
        -- who else may come up
        have others : ∀ j, qA3 all L j = true → j = c ∨ ∃ y, n = some (j, y) ∧ all[j]? = some y ∧ qDM L j y = true := by
          intro j hj
          obtain ⟨y, hy, hry, hm⟩ := qMU hj
          rcases qIi hp with ⟨_, e⟩ | ⟨z, e0, e | e, _⟩
          · rw [e] at hm
            simp at hm
            exact .inl hm.1
          · rw [e] at hm
            simp at hm
            rcases hm with hm | hm
            · exact .inl hm.1
            · subst hm; exact .inr ⟨y, e0, hy, hry⟩
          · rw [e] at hm
            simp at hm
            rcases hm with hm | hm
            · subst hm; exact .inr ⟨y, e0, hy, hry⟩
            · exact .inl hm.1
        have second : ∀ (g i : Nat) (y : Oper) (obj : Obj) (val : Nat → Value) (r : Nat), f + 1 = g + 1 → all[i]? = some y → qF6 y.op = true → y.guard = none → qDM L i y = true →
            qCd P t y.op = some (obj, val) → h r = none → qLd P all J g (qA5 L i) (qAV t y.dst (val r)) (h.ins r obj) := by
          intro g i y obj val r e hy hn hgu hry hnf hrn
          have e : g = f := by omega
          subst e
          by_cases hic : i = c
          · -- its time has come
            subst hic
            rw [hi] at hy
            cases hy
            have hw : qD0 all t o = true := by unfold qD0; rw [hgu]
            rcases qFd k with ⟨_, k⟩ | ⟨hw2, _⟩
            · rw [qMj hn] at k
              obtain ⟨obj', val', e1, e3⟩ := qUR k hn
              rw [hnf] at e1
              cases e1
              exact (qF5 g _ _ _ (qE2 hc hra) (qQo hn (e3 r hrn))).1
            · rw [hw] at hw2; cases hw2
          · obtain ⟨y', e0, hy', _⟩ := (others i (qEz hy hry)).resolve_left hic
            rw [hy] at hy'
            cases hy'
            rcases qIi hp with ⟨e1, _⟩ | ⟨z, e1, _, _, _, hap, hone⟩
            · rw [e0] at e1; cases e1
            · rw [e0] at e1
              cases e1
              dsimp only at hap hone
              obtain ⟨a1, a2, a3, a4, a5, a6, a7⟩ := qH2 hap
              have hLi := qNC hry
              have hcr : qA3 all (qA5 L i) c = true := qEU hra (Ne.symm hic)
              have only : ∀ j, qA3 all (qA5 L i) j = true → j = c := by
                intro j hj
                obtain ⟨x, _, _, hm⟩ := qMU hj
                obtain ⟨x', _, _, hm'⟩ := qMU hcr
                obtain ⟨q, hq⟩ := List.length_eq_one_iff.1 hone
                rw [hq] at hm hm'
                simp at hm hm'
                rw [← hm] at hm'
                exact (congrArg Prod.fst hm').symm
              cases g with
              | zero => exact ((hlate _ e0).1 rfl).elim
              | succ g =>
                refine ⟨fun hno => (by rw [hno c] at hcr; cases hcr), fun j hj => ?_⟩
                have := only j hj
                subst this
                have st := stepC
                unfold StepA at st ⊢
                rw [hi] at st ⊢
                dsimp only at st ⊢
                have eS : ∀ (hh : Heap) (K : Value → Heap → Prop), SOp P (evO (qAV t y.dst (val r))) o hh K ↔ SOp P (evO t) o hh K := fun hh K => by
                  unfold SOp; rw [qJ4 a1 a7]
                rw [qLc a2, eS]
                constructor
                · intro hw
                  refine ((st.1 hw).frame1 (obj := obj) hrn).mono fun v h'' x => ?_
                  obtain ⟨h', ⟨x1, x2⟩, x3, rfl⟩ := x
                  have kc : KeepC all j (qA5 L i) (qAV t y.dst (val r)) (h.ins r obj) (h'.ins r obj) := fun i' o' hi' hro hne hst hbj => by
                    have hii : i ≠ i' := by
                      rintro rfl
                      rw [hy] at hi'
                      cases hi'
                      cases hop : y.op <;> rw [hop] at hn hro <;> first | (cases hn; done) | (cases hro; done)
                    have hdone : L.testBit i' = true := by
                      rcases hst with e | e
                      · rw [qGA hii] at e; exact e
                      · exact (hne (only i' e)).elim
                    have nb : ((qDE [] all).getD i' 0).testBit i = false := by
                      cases e : ((qDE [] all).getD i' 0).testBit i with
                      | false => rfl
                      | true => rw [qQc hc hi' (hc i' o' hi' hdone) i e] at hLi; cases hLi
                    have ko := x1 i' o' hi' hro hne (.inl hdone) hbj
                    have ea := qNu (t := t) (v := val r) (o := o') hy nb
                    unfold KeepO at ko ⊢
                    rw [ea]
                    split
                    · rename_i b eb
                      rw [eb] at ko
                      intro z hz
                      unfold Heap.ins at hz ⊢
                      split
                      · rename_i hbr; rw [if_pos hbr] at hz; exact hz
                      · rename_i hbr; rw [if_neg hbr] at hz; exact ko z hz
                    · rename_i eb
                      rw [eb] at ko
                      exact qXT ko
                  refine ⟨kc, ?_⟩
                  have h2 := (qF5 (g + 1) _ _ _ (qE2 hc hra) x2).2 g i y obj val r rfl hy hn hgu (by
                    have := qEU (i := j) (qEz hy hry) hic
                    unfold qA3 at this
                    rw [hy] at this
                    exact this) (by rw [qJz a3]; exact hnf) x3
                  rw [qJp, ← qH9 a5] at h2
                  exact h2
                · intro hw
                  refine ⟨KeepC.of_le (Heap.le_refl _), ?_⟩
                  have h2 := (qF5 (g + 1) _ _ _ (qE2 hc hra) (st.2 hw).2).2 g i y obj val r rfl hy hn hgu (by
                    have := qEU (i := j) (qEz hy hry) hic
                    unfold qA3 at this
                    rw [hy] at this
                    exact this) (by rw [qJz a3]; exact hnf) hrn
                  rw [qJp, ← qH9 a5] at h2
                  exact h2
        refine ⟨⟨fun hno => (by rw [hno c] at hra; cases hra), fun j hj => ?_⟩, second⟩
        rcases others j hj with rfl | ⟨y, e0, hy, hry⟩
        · exact stepC.mono fun t' h' x => ⟨x.1, (qF5 f _ _ h' (qE2 hc hra) x.2).1⟩
        · rcases qIi hp with ⟨e1, _⟩ | ⟨z, e1, _, hn, hgu, _, _⟩
          · rw [e0] at e1; cases e1
          · rw [e0] at e1
            cases e1
            dsimp only at hn hgu
            unfold StepA
            rw [hy]
            dsimp only
            have hw : qD0 all t y = true := by unfold qD0; rw [hgu]
            refine ⟨fun _ => ?_, fun e => by rw [hw] at e; cases e⟩
            obtain ⟨_, obj, val, hnf, hop⟩ := hlate _ e0
            have hop' := hop h
            rw [← qMj hn] at hop'
            refine (qKE hop').mono fun v h' x => ?_
            obtain ⟨r, hrn, rfl, rfl⟩ := x
            exact ⟨KeepC.of_le (qb hrn), second f j y obj val r rfl hy hn hgu hry hnf hrn⟩
theorem qMz {all : List Oper} {J : List Value → Heap → Prop} (f L : Nat) (t : List Value) (h : Heap) (hc : qIJ all L) (k : qEb P all J f L t h) : qLd P all J f L t h :=
  (qF5 f L t h hc k).1

def qHQ (P : Program) (all : List Oper) (J : List Value → Heap → Prop) : Nat → Nat → List Value → Heap → Prop
  | 0, L, t, h => match qE8 L 0 all with
    | [] => J t h
    | _ => False
  | f + 1, L, t, h => match qJT P all L 0 all with
    | some (i, o) => fcN (qA5 L i) fun L' => qI6 all o t
        (fun t => opV P t o.op h fun v _ => fcP t o.dst v fun t' => qHQ P all J f L' t' h)
        (fun t => fcP t o.dst undef fun t' => qHQ P all J f L' t' h)
    | none => match qE8 L 0 all with
      | [] => J t h
      | l => match qNo all L l with
        | some ((i, o), none) => fcN (qA5 L i) fun L' => qI6 all o t
            (fun t => opA P t o h fun v h' => qMI (qIo all o i L t) h h' (fcP t o.dst v fun t' => qHQ P all J f L' t' h'))
            (fun t => fcP t o.dst undef fun t' => qHQ P all J f L' t' h)
        | some ((i, o), some (_, y)) => match f with
          | 0 => False
          | f + 1 => qOO P t y.op (fcN (qA5 L i) fun L' => qI6 all o t
            (fun t => opA P t o h fun v h' => qMI (qIo all o i L t) h h' (fcP t o.dst v fun t' => qHQ P all J (f + 1) L' t' h'))
            (fun t => fcP t o.dst undef fun t' => qHQ P all J (f + 1) L' t' h))
        | none => False
theorem qKs (P : Program) (all : List Oper) (J : List Value → Heap → Prop) : ∀ (f L : Nat) (t : List Value) (h : Heap), qHQ P all J f L t h = qEb P all J f L t h
  | 0, _, _, _ => rfl
  | f + 1, L, t, h => by
    unfold qHQ qEb
    cases f with
    | zero => simp only [qJa, qLf, qTQ, qKs P all J 0]
    | succ f => simp only [qJa, qLf, qTQ, qKs P all J (f + 1)]
end Go.Sy

/- Whole functions, evaluated over partial heaps; and that it is sound. -/
namespace Go.Sy
variable {P : Program}

/-! ### what is still looked at -/
def qSQ : List Nat → Nat
  | [] => 0
  | d :: ds => 2 ^ d ||| qSQ ds
def unB (m : Nat) (d : Option Nat) : Nat := match d with
  | some d => m ^^^ (m &&& 2 ^ d)
  | none => m
def qR0 (all : List Oper) (nx : Nat) : List Oper → Nat
  | [] => nx
  | o :: os => unB (qR0 all nx os) o.dst ||| (qSQ (qFH o) ||| qSQ (qJD all o))
def qTL : Operand → Nat
  | .tmp t => 2 ^ t
  | _ => 0
def qVz (ex : List (Nat × Nat)) (id : Nat) : Nat := match ex with
  | [] => 0
  | (i, m) :: r => match Nat.beq i id with
    | true => m
    | false => qVz r id
def qHz (ex : List (Nat × Nat)) (rt : Nat) : Code → Nat → Nat
  | .skip, nx => nx
  | .label _, nx => nx
  | .region _ ops _, nx => qR0 ops.toList nx ops.toList
  | .seq a b, nx => qHz ex rt a (qHz ex rt b nx)
  | .cond c a b, nx => qTL c ||| (qHz ex rt a nx ||| qHz ex rt b nx)
  | .block id b, nx => qHz ((id, nx) :: ex) rt b nx
  | .loop b, _ => qHz ex rt b 0
  | .exit id, _ => qVz ex id
  | .scope b, nx => qHz ex rt b nx
  | .ret, _ => rt
  | .rangeFunc f _ _ b, nx => qTL f ||| (qHz ex rt b nx ||| nx)
  | _, _ => 0
def qVq (rt : Nat) : List Item → Nat × List (Nat × Nat)
  | [] => (rt, [])
  | it :: k => match qVq rt k with
    | (m, ex) => match it with
      | .code c => (qHz ex rt c m, ex)
      | .inBlock id => (m, (id, m) :: ex)
      | .inLoop b => (qHz ex rt b 0, ex)
      | _ => (m, ex)
def qOQ : List ResultVar → Nat
  | [] => 0
  | .tmp t :: r => 2 ^ t ||| qOQ r
  | .cell t _ :: r => 2 ^ t ||| qOQ r
def qEQ (fn : Func) (todo : List Item) : Nat := (qVq (qOQ fn.results.toList) todo).1
def qIA (m i : Nat) : List Value → List Value
  | [] => []
  | v :: t => (match m.testBit i with | true => v | false => undef) :: qIA m (i + 1) t
def qJf (m : Nat) (junk : Nat → Value) (i : Nat) : List Value → List Value
  | [] => []
  | v :: t => (match m.testBit i with | true => v | false => junk i) :: qJf m junk (i + 1) t
theorem qKv (m : Nat) (junk : Nat → Value) : ∀ (t : List Value) (i : Nat), (∀ j, junk (i + j) = qA2 t j) → qJf m junk i (qIA m i t) = t
  | [], _, _ => rfl
  | v :: t, i, h => by
    have h0 := h 0
    have hr := qKv m junk t (i + 1) (fun j => by rw [show i + 1 + j = i + (j + 1) from by omega]; exact h (j + 1))
    simp only [qIA, qJf, hr]
    cases m.testBit i
    · simp only [Nat.add_zero] at h0; rw [h0]; rfl
    · rfl

def LoopAt (P : Program) (fn : Func) (fid : Nat) (todo : List Item) (t : List Value) (h : Heap) (K : Value → Heap → Prop) : Prop := match todo with
  | .inLoop b :: r => ∀ junk : Nat → Value, Run P fid (.code b :: .inLoop b :: r) (qJf (qEQ fn (.inLoop b :: r)) junk 0 t) h K
  | _ => False
theorem LoopAt.mono {fn : Func} {fid : Nat} {todo : List Item} {t : List Value} {h : Heap} {K K' : Value → Heap → Prop} (c : LoopAt P fn fid todo t h K) (m : ∀ v h', K v h' → K' v h') :
    LoopAt P fn fid todo t h K' := by
  unfold LoopAt at *
  split at c
  · exact fun j => (c j).mono m
  · exact c.elim
theorem LoopAt.drop {fn : Func} {fid : Nat} {todo : List Item} {t : List Value} {h h0 : Heap} {K : Value → Heap → Prop} (c : LoopAt P fn fid todo t h0 K) (l : h0.le h) :
    LoopAt P fn fid todo t h K := by
  unfold LoopAt at *
  split at c
  · exact fun j => (c j).drop l
  · exact c.elim

/-! ### results -/
def qOZ (P : Program) (t : List Value) (h : Heap) : List ResultVar → (List Value → Prop) → Prop
  | [], K => K []
  | .tmp i :: rs, K => qOZ P t h rs fun vs => K (qA2 t i :: vs)
  | .cell a ty :: rs, K => match qA2 t a with
    | .pointer ad => qA ad fun b o => qM8 P ty h b o fun v => qOZ P t h rs fun vs => K (v :: vs)
    | _ => False
def qTD (vs : List Value) : Value := match vs with
  | [v] => v
  | vs => .tuple vs.toArray
def Ret (h : Heap) (K : Value → Heap → Prop) (v : Value) : Prop := ∃ h0, Heap.le h0 h ∧ K v h0
theorem Ret.mk {h : Heap} {K : Value → Heap → Prop} {v : Value} (k : K v h) : Ret h K v := ⟨h, h.le_refl, k⟩
def qLn (P : Program) (fn : Func) (t : List Value) (h : Heap) (K : Value → Heap → Prop) : Prop := qOZ P t h fn.results.toList fun vs => Ret h K (qTD vs)
def qOJ (tmps : Array Value) : ResultVar → Sem Value
  | .tmp t => pure (tmps.getD t undef)
  | .cell a t => do loadVar t (← asAddr (tmps.getD a undef))
theorem qKb {t : List Value} {h : Heap} : ∀ {rs : List ResultVar} {K : List Value → Prop}, qOZ P t h rs K →
    ∃ vs, (∀ w, Rep h w → (rs.mapM (qOJ t.toArray)).run P w = .ok vs w) ∧ K vs
  | [], K, k => ⟨[], fun w _ => rfl, k⟩
  | .tmp i :: rs, K, k => by
    have k1 : qOZ P t h rs (fun vs => K (qA2 t i :: vs)) := k
    obtain ⟨vs, e, q⟩ := qKb k1
    refine ⟨_, fun w r => ?_, q⟩
    rw [List.mapM_cons]
    simp only [qOJ, Sem.run_bind, Sem.run_pure, Result.andThen_ok, e w r, qKF]
  | .cell a ty :: rs, K, k => by
    unfold qOZ at k
    split at k
    · rename_i ad hv
      obtain ⟨b, o, rfl, k1⟩ := qAP k
      obtain ⟨v, e1, _, k2⟩ := qFu _ _ _ (qOH (q := true) k1)
      obtain ⟨vs, e, q⟩ := qKb k2
      refine ⟨_, fun w r => ?_, q⟩
      rw [List.mapM_cons]
      simp only [qOJ, Sem.run_bind, Sem.run_pure, Result.andThen_ok, e w r, qKF, hv, asAddr, e1 w r]
    · exact k.elim
theorem qS8 (fn : Func) (tmps : Array Value) : results fn tmps = (do
    let vs ← fn.results.mapM (qOJ tmps)
    pure (if h : vs.size = 1 then vs[0] else .tuple vs)) := by
  unfold results
  rfl
theorem qUY (vs : List Value) : (if h : vs.toArray.size = 1 then vs.toArray[0] else .tuple vs.toArray) = qTD vs := by
  match vs with
  | [] => rfl
  | [v] => rfl
  | a :: b :: r => rw [dif_neg (by simp)]; rfl
theorem qNg {fn : Func} {t : List Value} {h : Heap} {K : Value → Heap → Prop} (k : qLn P fn t h K) : ∃ v h0, (∀ w, Rep h w → (results fn t.toArray).run P w = .ok v w) ∧ h0.le h ∧ K v h0 := by
  obtain ⟨vs, e, h0, hl, q⟩ := qKb k
  refine ⟨qTD vs, h0, fun w r => ?_, hl, q⟩
  rw [qS8, Array.mapM_eq_mapM_toList, Sem.run_bind, Sem.run_map, e w r]
  simp only [Result.andThen_ok, Sem.run_pure]
  rw [qUY]

/-! ### the rest of a call, step by step -/
section
variable {fid : Nat} {t : List Value} {h : Heap} {K : Value → Heap → Prop}
theorem Run.step {todo todo' : List Item} (s : ∀ cs w, step P (lone ((qIg fid).at ⟨t.toArray, []⟩ todo) cs w) = .next (lone ((qIg fid).at ⟨t.toArray, []⟩ todo') cs w))
    (k : Run P fid todo' t h K) : Run P fid todo t h K := fun w cs r =>
  let ⟨v, h', w', fr, kk, r', f', st, x⟩ := k w cs r
  ⟨v, h', w', fr, kk, r', f', .head (s cs w) st, x⟩
theorem Run.of_ret {fn : Func} (hf : P.funcs[fid]? = some fn) (k : qLn P fn t h K) (todo : List Item) (ht : todo = [] ∨ ∃ r, todo = .code .ret :: r) : Run P fid todo t h K := by
  obtain ⟨v, h0, e, hl, q⟩ := qNg k
  intro w cs r
  refine ⟨v, h0, w, { (qIg fid).at ⟨t.toArray, []⟩ todo with mode := .returning }, q, r.le hl, (Fr.refl h w).less hl, ?_, rfl, rfl, rfl, rfl, fn, hf, e w r⟩
  rcases ht with rfl | ⟨r, rfl⟩
  · exact .one step_end
  · exact .one step_ret
theorem Run.of_wp {c : Code} {k : List Item} {J : List Value → Heap → Prop} (x : ∀ w, Rep h w → c.wp P (qQv J h w) ⟨t.toArray, []⟩ w) (kk : ∀ t' h', J t' h' → Run P fid k t' h' K) :
    Run P fid (.code c :: k) t h K := by
  intro w cs r
  obtain ⟨e, a', w', ⟨rfl, t', h', rfl, j, r', f'⟩, harr⟩ := x w r (qIg fid) k cs
  obtain ⟨v, h2, w2, fr, q, r2, f2, st, x2⟩ := kk t' h' j w' cs r'
  exact ⟨v, h2, w2, fr, q, r2, f'.trans f2, Steps.trans harr st, x2⟩
end

def CutAt (P : Program) (fn : Func) (fid : Nat) (todo : List Item) (t : List Value) (h : Heap) (K : Value → Heap → Prop) : Prop := ∀ junk : Nat → Value, Run P fid todo (qJf (qEQ fn todo) junk 0 t) h K
theorem CutAt.mono {fn : Func} {fid : Nat} {todo : List Item} {t : List Value} {h : Heap} {K K' : Value → Heap → Prop} (c : CutAt P fn fid todo t h K) (m : ∀ v h', K v h' → K' v h') :
    CutAt P fn fid todo t h K' := fun j => (c j).mono m
theorem CutAt.run {fn : Func} {fid : Nat} {todo : List Item} {t : List Value} {h : Heap} {K : Value → Heap → Prop} (k : CutAt P fn fid todo (qIA (qEQ fn todo) 0 t) h K) : Run P fid todo t h K := by
  have := k (fun i => qA2 t i)
  rw [qKv _ _ _ _ (fun j => by rw [Nat.zero_add])] at this
  exact this
def qW8 : List Nat → Nat → Bool
  | [], _ => false
  | x :: xs, n => match Nat.beq x n with
    | true => true
    | false => qW8 xs n
def evK (P : Program) (fn : Func) (fid : Nat) (K : Value → Heap → Prop) (cs : List Nat) : Nat → List Item → List Value → Heap → Prop
  | 0, _, _, _ => False
  | n + 1, todo, t, h => match todo with
    | [] => qLn P fn t h K
    | it :: k => match it with
      | .code c => match c with
        | .skip => evK P fn fid K cs n k t h
        | .label _ => evK P fn fid K cs n k t h
        | .seq a b => evK P fn fid K cs n (.code a :: .code b :: k) t h
        | .cond c x y => match evO t c with
          | .bool b => Br b (evK P fn fid K cs n (.code x :: k) t h) (evK P fn fid K cs n (.code y :: k) t h)
          | _ => False
        | .block id b => evK P fn fid K cs n (.code b :: .inBlock id :: k) t h
        | .scope b => evK P fn fid K cs n (.code b :: .inScope b :: k) t h
        | .loop b => LoopAt P fn fid (.inLoop b :: k) (qIA (qEQ fn (.inLoop b :: k)) 0 t) h K
        | .exit id => match exitTo id k with
          | some k' => evK P fn fid K cs n k' t h
          | none => False
        | .ret => qLn P fn t h K
        | .region id ops draw => match qW8 cs id with
          | true => CutAt P fn fid (.code (.region id ops draw) :: k) (qIA (qEQ fn (.code (.region id ops draw) :: k)) 0 t) h K
          | false => match draw with
            | false => qNS P ops.toList ops.toList t h fun t' h' => evK P fn fid K cs n k t' h'
            | true => qHQ P ops.toList (fun t' h' => evK P fn fid K cs n k t' h') ops.size 0 t h
        | _ => False
      | .inBlock _ => evK P fn fid K cs n k t h
      | .inScope _ => evK P fn fid K cs n k t h
      | .inLoop b => LoopAt P fn fid (.inLoop b :: k) (qIA (qEQ fn (.inLoop b :: k)) 0 t) h K
      | _ => False
theorem LoopAt.run {fn : Func} {fid : Nat} {b : Code} {r : List Item} {t : List Value} {h : Heap} {K : Value → Heap → Prop} (k : LoopAt P fn fid (.inLoop b :: r) (qIA (qEQ fn (.inLoop b :: r)) 0 t) h K) :
    Run P fid (.code b :: .inLoop b :: r) t h K := by
  have := k (fun i => qA2 t i)
  rw [qKv _ _ _ _ (fun j => by rw [Nat.zero_add])] at this
  exact this
theorem qTB {fid : Nat} {K : Value → Heap → Prop} (hm : P.follows .mixedOrders = true) {id : Nat} {ops : Array Oper} {draw : Bool} {r : List Item} {t : List Value} {h : Heap} {J : List Value → Heap → Prop}
    (k : match draw with
      | false => qNS P ops.toList ops.toList t h J
      | true => qHQ P ops.toList J ops.size 0 t h) (kk : ∀ t' h', J t' h' → Run P fid r t' h' K) : Run P fid (.code (.region id ops draw) :: r) t h K := by
  split at k
  · rw [qOu] at k
    refine Run.of_wp (J := J) (fun w rw => wp_region ?_) kk
    have := qIm ops _ h w ops.toList 0 t h w (by simp) k rw (Fr.refl h w)
    rw [List.range_eq_range']
    simpa using this
  · rw [qKs] at k
    refine Run.of_wp (J := J) (fun w rw => wp_region_any hm ?_) kk
    refine qIe ops _ h w ops.size 0 _ t h { w with drawn := w.drawn + 1 } ⟨by simp, fun j hj => by simp [hj]⟩ (fun j _ => by simp) (qMz _ _ _ _ (fun k o _ hl => by simp at hl) k) rw ⟨rfl, rfl, rfl, Nat.le_refl _, fun _ _ _ => rfl, fun _ _ e => e⟩
theorem qBb {fn : Func} {fid : Nat} {K : Value → Heap → Prop} {cs : List Nat} (hf : P.funcs[fid]? = some fn) (hm : P.follows .mixedOrders = true) : ∀ (n : Nat) (todo : List Item) (t : List Value) (h : Heap),
    evK P fn fid K cs n todo t h → Run P fid todo t h K
  | 0, _, _, _, k => k.elim
  | n + 1, todo, t, h, k => by
    unfold evK at k
    split at k
    · exact Run.of_ret hf k [] (.inl rfl)
    · rename_i it r
      split at k
      · rename_i c
        split at k
        · exact Run.step (fun _ _ => step_skip) (qBb hf hm n _ _ _ k)
        · exact Run.step (fun _ _ => step_label) (qBb hf hm n _ _ _ k)
        · exact Run.step (fun _ _ => step_seq) (qBb hf hm n _ _ _ k)
        · rename_i c x y
          split at k
          · rename_i b hb
            rcases k.elim with ⟨rfl, k⟩ | ⟨rfl, k⟩
            · exact Run.step (fun _ _ => step_cond (t := true) (by rw [qQz]; exact hb)) (qBb hf hm n _ _ _ k)
            · exact Run.step (fun _ _ => step_cond (t := false) (by rw [qQz]; exact hb)) (qBb hf hm n _ _ _ k)
          · exact k.elim
        · exact Run.step (fun _ _ => step_block) (qBb hf hm n _ _ _ k)
        · refine Run.step (fun _ _ => step_lone_go ?_) (qBb hf hm n _ _ _ k)
          simp [stepG, stepG.exec, Frame.at, qIg]
        · exact Run.step (fun _ _ => step_loop) (LoopAt.run k)
        · rename_i id
          split at k
          · rename_i k' hk
            exact Run.step (fun _ _ => step_exit hk) (qBb hf hm n _ _ _ k)
          · exact k.elim
        · exact Run.of_ret hf k _ (.inr ⟨r, rfl⟩)
        · rename_i id ops draw
          split at k
          · exact CutAt.run k
          split at k
          · rw [qOu] at k
            refine Run.of_wp (J := fun t' h' => evK P fn fid K cs n r t' h') (fun w rw => wp_region ?_) (fun t' h' => qBb hf hm n r t' h')
            have := qIm ops _ h w ops.toList 0 t h w (by simp) k rw (Fr.refl h w)
            rw [List.range_eq_range']
            simpa using this
          · rw [qKs] at k
            refine Run.of_wp (J := fun t' h' => evK P fn fid K cs n r t' h') (fun w rw => wp_region_any hm ?_) (fun t' h' => qBb hf hm n r t' h')
            refine qIe ops _ h w ops.size 0 _ t h { w with drawn := w.drawn + 1 } ⟨by simp, fun j hj => by simp [hj]⟩ (fun j _ => by simp) (qMz _ _ _ _ (fun k o _ hl => by simp at hl) k) rw ⟨rfl, rfl, rfl, Nat.le_refl _, fun _ _ _ => rfl, fun _ _ e => e⟩
        · exact k.elim
      · exact Run.step (fun _ _ => step_inBlock) (qBb hf hm n _ _ _ k)
      · refine Run.step (fun _ _ => step_lone_go ?_) (qBb hf hm n _ _ _ k)
        simp [stepG, stepG.exec, Frame.at, qIg]
      · exact Run.step (fun _ _ => step_inLoop) (LoopAt.run k)
      · exact k.elim

def qH8 : Code → List Item → List (List Item)
  | .seq a b, k => qH8 a (.code b :: k) ++ qH8 b k
  | .cond _ x y, k => qH8 x k ++ qH8 y k
  | .block id b, k => qH8 b (.inBlock id :: k)
  | .scope b, k => qH8 b (.inScope b :: k)
  | .loop b, k => (.inLoop b :: k) :: qH8 b (.inLoop b :: k)
  | _, _ => []
def qVd : List (List Item) → Nat → List Item
  | [], _ => []
  | x :: _, 0 => x
  | _ :: xs, n + 1 => qVd xs n
def qIx (fn : Func) : Code := match fn.body with
  | some c => c
  | none => .skip
def qe (fn : Func) (n : Nat) : List Item := qVd (qH8 (qIx fn) []) n
def qLx : Nat → List Value
  | 0 => []
  | n + 1 => undef :: qLx n
def qLw (n : Nat) (args : List Value) : List Value := match n, args with
  | n, [] => qLx n
  | 0, l => l
  | n + 1, v :: l => v :: qLw n l
def sp (n : Nat) : List (Nat × Value) → List Value
  | [] => qLx n
  | (i, v) :: r => setT (sp n r) i v
def evF (P : Program) (fn : Func) (fid : Nat) (args : List Value) (h : Heap) (K : Value → Heap → Prop) (cs : List Nat := []) : Prop := evK P fn fid K cs 100000 [.code (qIx fn)] (qLw fn.ntmps args) h
def evL (P : Program) (fn : Func) (fid : Nat) (todo : List Item) (t : List Value) (junk : Nat → Value) (h : Heap) (K : Value → Heap → Prop) (cs : List Nat := []) : Prop := match todo with
  | .inLoop b :: r => evK P fn fid K cs 100000 (.code b :: .inLoop b :: r) (qJf (qEQ fn (.inLoop b :: r)) junk 0 t) h
  | _ => False
def evC (P : Program) (fn : Func) (fid : Nat) (todo : List Item) (t : List Value) (junk : Nat → Value) (h : Heap) (K : Value → Heap → Prop) (cs : List Nat := []) : Prop := match todo with
  | .code (.region _ ops draw) :: r => match draw with
    | false => qNS P ops.toList ops.toList (qJf (qEQ fn todo) junk 0 t) h fun t' h' => evK P fn fid K cs 100000 r t' h'
    | true => qHQ P ops.toList (fun t' h' => evK P fn fid K cs 100000 r t' h') ops.size 0 (qJf (qEQ fn todo) junk 0 t) h
  | _ => False
def qJS (n : Nat) : Code → List Item → List (List Item)
  | .seq a b, k => qJS n a (.code b :: k) ++ qJS n b k
  | .cond _ x y, k => qJS n x k ++ qJS n y k
  | .block id b, k => qJS n b (.inBlock id :: k)
  | .scope b, k => qJS n b (.inScope b :: k)
  | .loop b, k => qJS n b (.inLoop b :: k)
  | .region id ops draw, k => match Nat.beq id n with
    | true => [.code (.region id ops draw) :: k]
    | false => []
  | _, _ => []
def qVb (fn : Func) (n : Nat) : List Item := qVd (qJS n (qIx fn) []) 0
theorem qPQ : ∀ n, qLx n = List.replicate n undef
  | 0 => rfl
  | n + 1 => by rw [qLx, qPQ n, List.replicate_succ]
theorem qOj : ∀ (n : Nat) (args : List Value), args.length ≤ n → qLw n args = args ++ List.replicate (n - args.length) undef
  | n, [], _ => by unfold qLw; simp [qPQ]
  | 0, v :: l, h => by simp at h
  | n + 1, v :: l, h => by
    unfold qLw
    rw [qOj n l (by simpa using h)]
    simp
theorem CallA.of_ev {fn : Func} {fid : Nat} {args : List Value} {h : Heap} {K : Value → Heap → Prop} {cs : List Nat} (hf : P.funcs[fid]? = some fn) (hb : fn.body.isSome = true)
    (hc : ∀ (a : Array Value) (w : World), (callFunc fid a).run P w = .ok (.enter fid a) w) (hm : P.follows .mixedOrders = true) (hl : Nat.ble args.length fn.ntmps = true)
    {T : Prop} (e : T = evF P fn fid args h K cs) (k0 : T) : CallA P fid args h K := by
  have k : evF P fn fid args h K cs := e ▸ k0
  obtain ⟨c, hb⟩ := Option.isSome_iff_exists.1 hb
  refine CallA.of_run hf hb hc (qBb (cs := cs) hf hm 100000 _ _ _ ?_)
  have k' := k
  unfold evF qIx at k'
  rw [hb, qOj _ _ (Nat.le_of_ble_eq_true hl)] at k'
  exact k'
theorem LoopAt.of_ev {fn : Func} {fid : Nat} {todo : List Item} {t : List Value} {h : Heap} {K : Value → Heap → Prop} {cs : List Nat} (hf : P.funcs[fid]? = some fn) (hm : P.follows .mixedOrders = true)
    {T : Prop} (e : ∀ junk, T = evL P fn fid todo t junk h K cs) (k0 : T) : LoopAt P fn fid todo t h K := by
  have k : ∀ junk, evL P fn fid todo t junk h K cs := fun junk => e junk ▸ k0
  unfold LoopAt
  unfold evL at k
  split at k
  · exact fun junk => qBb hf hm 100000 _ _ _ (k junk)
  · exact k (fun _ => undef)
theorem CutAt.of_ev {fn : Func} {fid : Nat} {todo : List Item} {t : List Value} {h : Heap} {K : Value → Heap → Prop} {cs : List Nat} (hf : P.funcs[fid]? = some fn) (hm : P.follows .mixedOrders = true)
    {T : Prop} (e : ∀ junk, T = evC P fn fid todo t junk h K cs) (k0 : T) : CutAt P fn fid todo t h K := by
  have k : ∀ junk, evC P fn fid todo t junk h K cs := fun junk => e junk ▸ k0
  intro junk
  have k := k junk
  unfold evC at k
  split at k
  · exact qTB hm k (fun t' h' j => qBb hf hm 100000 _ _ _ j)
  · exact k.elim
end Go.Sy

/- Small words for proofs over evaluated texts: branches, ranges, bits. -/
namespace Go.Sy
theorem qXb {A B : Prop} : Br true A B = A := rfl
theorem qXG {A B : Prop} : Br false A B = B := rfl
theorem Br.yes {b : Bool} {A B : Prop} (e : b = true) (k : A) : Br b A B := by subst e; exact k
theorem Br.no {b : Bool} {A B : Prop} (e : b = false) (k : B) : Br b A B := by subst e; exact k
theorem Br.dec {p : Prop} [Decidable p] {A B : Prop} (h1 : p → A) (h2 : ¬ p → B) : Br (decide p) A B := by
  by_cases h : p
  · rw [decide_eq_true h]; exact h1 h
  · rw [decide_eq_false h]; exact h2 h
theorem Br.and {a b : Bool} {A B : Prop} : Br (a && b) A B ↔ Br a (Br b A B) B := by cases a <;> exact Iff.rfl

def I64 (n : Int) : Prop := -9223372036854775808 ≤ n ∧ n ≤ 9223372036854775807
def U64 (n : Int) : Prop := 0 ≤ n ∧ n ≤ 18446744073709551615

theorem qC2 (n : Int) : IntKind.wrap IntKind.u64 n = n % 18446744073709551616 := rfl
theorem qDp (n : Int) : IntKind.wrap IntKind.i64 n = (n + 9223372036854775808) % 18446744073709551616 - 9223372036854775808 := by
  show (if (true && decide (n % 18446744073709551616 ≥ 9223372036854775808)) = true then n % 18446744073709551616 - 18446744073709551616 else n % 18446744073709551616) = _
  by_cases h : n % 18446744073709551616 ≥ 9223372036854775808
  · rw [decide_eq_true h]; simp only [Bool.and_self, if_true]; omega
  · rw [decide_eq_false h]; simp only [Bool.and_false, Bool.false_eq_true, if_false]; omega
theorem qOd (n : Int) : IntKind.wrap IntKind.u8 n = n % 256 := rfl
theorem qO {n : Int} (h1 : -9223372036854775808 ≤ n) (h2 : n ≤ 9223372036854775807) : IntKind.wrap IntKind.i64 n = n := by rw [qDp]; omega
theorem qCQ {n : Int} (h1 : 0 ≤ n) (h2 : n ≤ 18446744073709551615) : IntKind.wrap IntKind.u64 n = n := by rw [qC2]; omega

theorem qD7 {a : Int} (h : 0 ≤ a) : (BitVec.ofInt 64 a).toNat = a.toNat % 18446744073709551616 := by
  rw [BitVec.toNat_ofInt]
  omega
theorem qKQ {a : Int} (h : 0 ≤ a) : ((BitVec.ofInt 64 a &&& BitVec.ofInt 64 4294967295).toNat : Int) = a % 4294967296 := by
  rw [BitVec.toNat_and, qD7 h, qD7 (by omega)]
  have e : (Int.toNat 4294967295 % 18446744073709551616) = 2 ^ 32 - 1 := by decide
  rw [e, Nat.and_two_pow_sub_one_eq_mod]
  omega
theorem qWV {x y : Int} (h1 : 0 ≤ x) (h2 : x < 4294967296) (h3 : 0 ≤ y) (h4 : y < 4294967296) : ((BitVec.ofInt 64 x ||| BitVec.ofInt 64 (y * 4294967296)).toNat : Int) = y * 4294967296 + x := by
  rw [BitVec.toNat_or, qD7 h1, qD7 (by omega)]
  have e1 : x.toNat % 18446744073709551616 = x.toNat := by omega
  have e2 : (y * 4294967296).toNat % 18446744073709551616 = 2 ^ 32 * y.toNat := by omega
  rw [e1, e2, Nat.or_comm, ← Nat.two_pow_add_eq_or_of_lt (by omega)]
  omega
theorem qTp {x c : Int} (h1 : 0 ≤ x) (h2 : x % 2 = 0) (h3 : x < 18446744073709551616) (h4 : 0 ≤ c) (h5 : c < 2) : ((BitVec.ofInt 64 x ||| BitVec.ofInt 64 c).toNat : Int) = x + c := by
  rw [BitVec.toNat_or, qD7 h1, qD7 h4]
  have e1 : x.toNat % 18446744073709551616 = 2 ^ 1 * (x.toNat / 2) := by omega
  have e2 : c.toNat % 18446744073709551616 = c.toNat := by omega
  rw [e1, e2, ← Nat.two_pow_add_eq_or_of_lt (by omega)]
  omega

theorem qJK (a : Int) {b : Int} (h : 0 ≤ b) : Int.fdiv a b = a / b := Int.fdiv_eq_ediv_of_nonneg a h

/-! cells of what was just made or written -/
theorem qLH (h : Heap) (r o : Nat) (c : List Value) (T : TypeId) (f : Nat × Nat) : (h.ins r (.cells c.toArray T f)).cell r o = c[o]? := by
  unfold Heap.cell Heap.ins; simp
theorem qQQ (h : Heap) (r o : Nat) (c vs : List Value) (T : TypeId) (f : Nat × Nat) : (h.ins r (.cells c.toArray T f)).setN r o vs = h.ins r (.cells (qg c o vs).toArray T f) := by
  funext x
  unfold Heap.setN Heap.ins
  cases hx : Nat.beq x r with
  | true =>
    have := Nat.eq_of_beq_eq_true hx
    subst this
    simp
  | false =>
    have : x ≠ r := fun e => by subst e; rw [Nat.beq_refl] at hx; cases hx
    simp [this]
theorem qII (h : Heap) (r o n : Nat) (c : List Value) (T : TypeId) (e : o + n ≤ c.length) : (h.ins r (.cells c.toArray T (0, 0))).canSt r o n :=
  ⟨c.toArray, T, by unfold Heap.ins; rw [if_pos rfl], by simpa using e⟩
theorem qWS {h : Heap} {b o : Nat} {v : Value} (e : h.cell b o = some v) : ∃ x, h b = some x := by
  unfold Heap.cell at e
  cases hb : h b with
  | none => rw [hb] at e; cases e
  | some x => exact ⟨x, rfl⟩
theorem qRd {h h' : Heap} {b o : Nat} {v : Value} (l : h.le h') (e : h.cell b o = some v) : h'.cell b o = some v := by
  obtain ⟨x, hx⟩ := qWS e
  unfold Heap.cell at *
  rw [l b x hx]; rw [hx] at e; exact e

/-! lists in memory -/
theorem qAX {h h' : Heap} {a : Option Addr} {vs : List Value} (l : h.le h') (r : rdL h a vs) : rdL h' a vs := by
  rcases r with r | ⟨b, o, e, r⟩
  · exact .inl r
  · refine .inr ⟨b, o, e, fun j hj => ?_⟩
    have := r j hj
    rw [List.getElem?_eq_getElem hj] at this ⊢
    exact qRd l this
def qK (k : IntKind) : List Int → List Value
  | [] => []
  | n :: l => .int k n :: qK k l
theorem qBt (k : IntKind) : ∀ l, qK k l = l.map (Value.int k)
  | [] => rfl
  | n :: l => by rw [qK, qBt k l]; rfl
theorem qL (k : IntKind) (l : List Int) : (qK k l).length = l.length := by rw [qBt]; simp
theorem qAF (k : IntKind) (l m : List Int) : qK k (l ++ m) = qK k l ++ qK k m := by simp [qBt]
theorem qD8 (k : IntKind) : ∀ l, qAE (qK k l) = true
  | [] => rfl
  | n :: l => by rw [qK, qAE]; exact qD8 k l
def Ints (k : IntKind) (h : Heap) (a : Option Addr) (l : List Int) : Prop := rdL h a (qK k l)
theorem Ints.le {k : IntKind} {h h' : Heap} {a : Option Addr} {l : List Int} (i : Ints k h a l) (e : h.le h') : Ints k h' a l := qAX e i
theorem Ints.at {k : IntKind} {h : Heap} {a : Option Addr} {l : List Int} (i : Ints k h a l) {j : Nat} (hj : j < l.length) :
    ∃ b o, a = some ⟨b, o, none⟩ ∧ h.cell b (o + j) = some (.int k l[j]) := by
  rcases i with i | ⟨b, o, e, i⟩
  · have := congrArg List.length i; rw [qL] at this; simp at this; subst this; simp at hj
  · refine ⟨b, o, e, ?_⟩
    rw [i j (by rw [qL]; exact hj), qBt]
    simp [hj]
theorem qIq (h : Heap) (r : Nat) (c : List Value) (T : TypeId) (f : Nat × Nat) : rdL (h.ins r (.cells c.toArray T f)) (some ⟨r, 0, none⟩) c := by
  refine .inr ⟨r, 0, rfl, fun j hj => ?_⟩
  rw [qLH, Nat.zero_add]
theorem qQy {h : Heap} {a : Option Addr} {vs ws : List Value} (r : rdL h a (vs ++ ws)) : rdL h a vs := by
  rcases r with r | ⟨b, o, e, r⟩
  · exact .inl (List.append_eq_nil_iff.1 r).1
  · refine .inr ⟨b, o, e, fun j hj => ?_⟩
    rw [r j (by rw [List.length_append]; omega), List.getElem?_append_left hj]
theorem qQM : ∀ (vs c : List Value) (o i : Nat), o + vs.length ≤ c.length → (qg c o vs)[i]? = if o ≤ i ∧ i < o + vs.length then vs[i - o]? else c[i]?
  | [], c, o, i, _ => by simp [qg]; omega
  | v :: vs, c, o, i, h => by
    have hl : (setT c o v).length = c.length := by rw [qBU]; simp
    simp only [List.length_cons] at h
    rw [qg, qQM vs _ (o + 1) i (by rw [hl]; omega), qBU]
    by_cases h1 : o + 1 ≤ i ∧ i < o + 1 + vs.length
    · rw [if_pos h1, if_pos (by simp; omega), show i - o = (i - (o + 1)) + 1 from by omega]; rfl
    · rw [if_neg h1]
      by_cases h2 : i = o
      · subst h2
        rw [if_pos (by simp), List.getElem?_set_self (by omega)]
        simp
      · rw [if_neg (by simp; omega), List.getElem?_set_ne (by omega)]
theorem qz {h : Heap} {b o r : Nat} {vs : List Value} (e : r ≠ b) : h.setN b o vs r = h r := by
  unfold Heap.setN
  split
  · rename_i hx; exact (e (Nat.eq_of_beq_eq_true hx)).elim
  · rfl
theorem qTo {h : Heap} {b o i : Nat} {vs : List Value} (c : h.canSt b o vs.length) : (h.setN b o vs).cell b i = if o ≤ i ∧ i < o + vs.length then vs[i - o]? else h.cell b i := by
  obtain ⟨c, T, hb, hl⟩ := c
  have e : h.setN b o vs b = some (.cells (qg c.toList o vs).toArray T (0, 0)) := by
    unfold Heap.setN
    rw [Nat.beq_refl, hb]
  unfold Heap.cell
  rw [e, hb]
  dsimp only
  rw [List.getElem?_toArray, qQM _ _ _ _ (by simpa using hl)]
  simp
theorem AppA.mk {z : List Value} {t : TypeId} {h : Heap} {base : Option Addr} {len cap n : Nat} {a : Option Addr} {J : Option Addr → Nat → Heap → Prop} (old vs : List Value)
    (hlen : len + n ≤ 1073741824) (hv : vs.length = n * z.length) (rv : rdL h a vs) (av : qAE vs = true) (ho : old.length = len * z.length) (ro : rdL h base old)
    (room : len + n ≤ cap → vs = [] ∨ ∃ b o, base = some ⟨b, o, none⟩ ∧ h.canSt b (o + len * z.length) vs.length)
    (k : ∀ base' cap' h', len + n ≤ cap' → rdL h' base' (old ++ vs) → (∀ r x, h r = some x → (∀ o, base ≠ some ⟨r, o, none⟩) → h' r = some x) →
      ((base' = base ∧ cap' = cap ∧ (h' = h ∨ ∃ b o, base = some ⟨b, o, none⟩ ∧ h.canSt b (o + len * z.length) vs.length ∧ h' = h.setN b (o + len * z.length) vs)) ∨
        (cap < len + n ∧ ∃ r, base' = some ⟨r, 0, none⟩ ∧ h r = none ∧ h' = h.ins r (.cells (old ++ vs ++ q3 (cap' - (len + n)) z).toArray t (0, 0)))) → J base' cap' h') : AppA z t h base len cap n a J := by
  refine ⟨hlen, vs, hv, rv, av, ?_⟩
  by_cases hc : len + n ≤ cap
  · refine .inl ⟨hc, room hc, ?_⟩
    rcases room hc with e | ⟨b, o, e, cs⟩
    · subst e
      refine k base cap h hc ?_ (fun r x hx _ => hx) (.inl ⟨rfl, rfl, .inl rfl⟩)
      rw [List.append_nil]; exact ro
    · subst e
      have main : J (some ⟨b, o, none⟩) cap (h.setN b (o + len * z.length) vs) := by
        refine k _ _ _ hc ?_ (fun r x hx hn => ?_) (.inl ⟨rfl, rfl, .inr ⟨b, o, rfl, cs, rfl⟩⟩)
        · refine .inr ⟨b, o, rfl, fun j hj => ?_⟩
          rw [qTo cs]
          rw [List.length_append] at hj
          by_cases hjo : j < old.length
          · rw [if_neg (by omega), List.getElem?_append_left hjo]
            rcases ro with ro | ⟨b', o', e, ro⟩
            · subst ro; simp at hjo
            · cases e; exact ro j hjo
          · rw [if_pos (by omega), List.getElem?_append_right (by omega)]
            congr 1
            omega
        · rw [qz (fun e => hn o (by rw [e]))]; exact hx
      cases vs with
      | nil =>
        have : h.setN b (o + len * z.length) [] = h := qLY h b _
        rw [this] at main
        exact main
      | cons v vs => exact main
  · refine .inr ⟨by omega, old, ho, ro, fun cap' r hcap hr => ?_⟩
    refine k _ _ _ hcap ?_ (fun r' x hx _ => qb hr _ _ hx) (.inr ⟨by omega, r, rfl, hr, rfl⟩)
    have := qIq h r (old ++ vs ++ q3 (cap' - (len + n)) z) t (0, 0)
    exact qQy this
def qHM (w : World) : Heap := fun r => w.heap[r]?
theorem qS0 (w : World) : Rep (qHM w) w := fun _ _ e => e
theorem qWW {P : Program} {f : FuncId} {args : List Value} {w : World} {v0 : Value} (c : CallA P f args (qHM w) fun v h' => v = v0 ∧ (qHM w).le h') :
    Calls P f args.toArray w fun e w' => e = .returned v0 ∧ Go.RowKit.Below w.heap.size w w' := by
  refine (c w (qS0 w)).2.mono fun e w' ⟨v, h', he, ⟨hv, hle⟩, r, f⟩ => ⟨by rw [he, hv], ⟨f.os, f.tape, f.output, f.size, fun k hk => ?_⟩⟩
  have hx : w.heap[k]? = some w.heap[k] := Array.getElem?_eq_getElem hk
  rw [hx]
  exact r k _ (hle k _ hx)

theorem I64.of_wf {n : Int} (h : (Lit.int .i64 n).wf = true) : I64 n := by
  have h1 : (decide (IntKind.i64.min ≤ n) && decide (n ≤ IntKind.i64.max)) = true := h
  rw [Bool.and_eq_true, decide_eq_true_eq, decide_eq_true_eq] at h1
  have e1 : IntKind.i64.min = -9223372036854775808 := by decide
  have e2 : IntKind.i64.max = 9223372036854775807 := by decide
  rw [e1, e2] at h1
  exact h1
end Go.Sy
