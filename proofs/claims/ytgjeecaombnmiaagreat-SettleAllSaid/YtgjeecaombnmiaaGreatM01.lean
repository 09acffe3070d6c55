import Derived.Test.YtgjeecaombnmiaaGreatM00
import Derived.Laws.StructEq
import Derived.Below
/- Whole functions, read over partial heaps: operations, regions, code; and that it is sound for the kit's calls. -/
namespace Go.Sy
variable {P : Program}

/-! ### one operation that answers a value -/
def qHX (t : List Value) : List Operand → List Value
  | [] => []
  | x :: xs => evO t x :: qHX t xs
def qIh (t : List Value) : List (Nat × Operand) → List (Nat × Value)
  | [] => []
  | (i, x) :: xs => (i, evO t x) :: qIh t xs
theorem qI0 (t : List Value) : ∀ xs, qHX t xs = xs.map (evO t)
  | [] => rfl
  | x :: xs => by rw [qHX, qI0 t xs]; rfl
theorem qOi (t : List Value) : ∀ xs, qIh t xs = xs.map fun x => (x.1, evO t x.2)
  | [] => rfl
  | (i, x) :: xs => by rw [qIh, qOi t xs]; rfl
def qP0 (t : List Value) : Option Operand → Option Value
  | none => none
  | some x => some (evO t x)
def qXP (x y : Value) (J : Value → Prop) : Prop := match x, y with
  | .int k a, .int _ b => J (.int k (if b > a then b else a))
  | _, _ => False
def qYJ (x y : Value) (J : Value → Prop) : Prop := match x, y with
  | .int k a, .int _ b => J (.int k (if b < a then b else a))
  | _, _ => False
def qUl (P : Program) (t : TypeId) (x : Value) (h : Heap) (J : Value → Prop) : Prop := match x, P.underlying t with
  | .string s, some .string => J (.int .i64 (s.size : Int))
  | .map m, some (.map _ _) => qYt h m fun n => J (.int .i64 (n : Int))
  | .slice _ n _, some (.slice _) => J (.int .i64 (n : Int))
  | _, some (.array n _) => J (.int .i64 (n : Int))
  | _, _ => False
def qWP (P : Program) (src dst : TypeId) (x : Value) (J : Value → Prop) : Prop := match x, P.underlying src, P.underlying dst with
  | .int _ n, some _, some (.int k) => J (.int k (k.wrap n))
  | .string s, some .string, some .string => J (.string s)
  | _, _, _ => False
def qTD (P : Program) (s d : TypeId) : Bool := match P.underlying d, P.underlying s with
  | some (.int _), _ => true
  | some .string, some .string => true
  | _, _ => false
def qTH (P : Program) (s d : TypeId) (x : Value) (h : Heap) (J : Value → Heap → Prop) : Prop := match qTD P s d with
  | true => qWP P s d x fun v => J v h
  | false => match P.underlying s, P.underlying d with
    | some (.slice e), some .string => match P.underlying e, x with
      | some (.int .u8), .slice a n _ => qXb h a n fun t => J (.string t) h
      | _, _ => False
    | some .string, some (.slice e) => match P.underlying e, x with
      | some (.int .u8), .string t => qQO t e h fun a c h' => J (.slice a t.size c) h'
      | _, _ => False
    | _, _ => False
def biV (P : Program) (b : Builtin) (ts : List TypeId) (xs : List Value) (h : Heap) (J : Value → Heap → Prop) : Prop := match b with
  | .append => match qX1 xs with
    | true => qVp P ts xs h J
    | false => qVF P ts xs h J
  | .len => match ts, xs with
    | t :: _, x :: _ => qUl P t x h fun v => J v h
    | _, _ => False
  | .max => match xs with
    | [x, y] => qXP x y fun v => J v h
    | _ => False
  | .min => match xs with
    | [x, y] => qYJ x y fun v => J v h
    | _ => False
  | .clear => qQd P ts xs h J
  | .copy => qS7 P ts xs h J
  | .cap => match ts, xs with
    | t :: _, .slice _ _ n :: _ => match P.underlying t with
      | some (.slice _) => J (.int .i64 (n : Int)) h
      | _ => False
    | _, _ => False
  | .unsafeSliceData => qSN xs h J
  | .unsafeString => qSj P ts xs h J
  | _ => False
def qNf (P : Program) : List Field → List Value → List Value → (Bool → Prop) → Prop
  | [], _, _, J => J true
  | f :: fs, xs, ys, J => match decide (f.name = "_") with
    | true => qNf P fs xs ys J
    | false => match P.underlying f.type with
      | some (.int _) => match xs[f.offset]?, ys[f.offset]? with
        | some (.int k a), some (.int k' b) => match qNk k k' with
          | true => qNf P fs xs ys fun r => J ((a == b) && r)
          | false => False
        | _, _ => False
      | some .bool => match xs[f.offset]?, ys[f.offset]? with
        | some (.bool a), some (.bool b) => qNf P fs xs ys fun r => J ((a == b) && r)
        | _, _ => False
      | some .string => match xs[f.offset]?, ys[f.offset]? with
        | some (.string a), some (.string b) => qNf P fs xs ys fun r => J ((a.toList == b.toList) && r)
        | _, _ => False
      | _ => False
def qTF : List Nat → List Value → List Value → (Bool → Prop) → Prop
  | [], _, _, J => J true
  | i :: is, xs, ys, J => match xs[i]?, ys[i]? with
    | some (.int k a), some (.int k' b) => match qNk k k' with
      | true => qTF is xs ys fun r => J ((a == b) && r)
      | false => False
    | _, _ => False
def arB : List Nat → List Value → List Value → Option Bool
  | [], _, _ => some true
  | i :: is, xs, ys => match xs[i]?, ys[i]? with
    | some (.int k a), some (.int k' b) => match qNk k k', arB is xs ys with
      | true, some r => some ((a == b) && r)
      | _, _ => none
    | _, _ => none
theorem qRB : ∀ {is : List Nat} {xs ys : List Value} {J : Bool → Prop}, qTF is xs ys J → ∃ b, arB is xs ys = some b ∧ J b
  | [], _, _, J, k => ⟨true, rfl, k⟩
  | i :: is, xs, ys, J, k => by
    unfold qTF at k
    split at k
    · rename_i k1 a k2 b hx hy
      split at k
      · rename_i hk
        obtain ⟨r, e, j⟩ := qRB k
        exact ⟨_, by unfold arB; rw [hx, hy]; dsimp only; rw [hk, e], j⟩
      · exact k.elim
    · exact k.elim
def qVv (P : Program) (op : BinOp) (t : TypeId) (xs : List Value) (y : Value) (J : Value → Prop) : Prop := match y with
  | .agg ys => match P.underlying t with
    | some (.struct fs) => match P.eqGuardType P.depth t, P.stoodInHeld t with
      | false, false => qNf P fs.toList xs ys.toList fun b => eqN op b J
      | _, _ => False
    | some (.array n e) => match P.underlying e, Nat.beq (P.cellsOf e) 1, P.eqGuardType P.depth t with
      | some (.int _), true, false => qTF (List.range' 0 n) xs ys.toList fun b => eqN op b J
      | _, _, _ => False
    | _ => False
  | _ => False
theorem qKy {t : TypeId} {d : TypeDesc} {cs : Array Value} {off : Nat} {v : Value} (hd : P.underlying t = some d) (ha : qLB d = false) (hv : cs.toList[off]? = some v) (w : World) :
    (part t cs off).run P w = .ok v w := by
  have k : qIA P t cs.toList off (fun u => u = v) := by
    obtain ⟨i, hi⟩ := qHc hd
    unfold qIA
    rw [hd, hi]
    dsimp only
    rw [ha]
    dsimp only
    rw [hv]
  obtain ⟨u, e, _, rfl⟩ := qFw _ (fun _ => none) _ (qKN (q := true) k)
  exact e w (fun _ _ x => by cases x)
theorem qHR {d : Nat} {xs ys : Array Value} : ∀ {fs : List Field} {J : Bool → Prop}, qNf P fs xs.toList ys.toList J →
    ∃ b, (∀ w, (Op.eqFields (d + 1) xs ys fs).run P w = .ok b w) ∧ J b
  | [], J, k => ⟨true, fun _ => rfl, k⟩
  | f :: fs, J, k => by
    have step : ∀ {dd : TypeDesc} {u v : Value} {c : Bool} {J' : Bool → Prop}, f.name ≠ "_" → P.underlying f.type = some dd → qLB dd = false → xs.toList[f.offset]? = some u → ys.toList[f.offset]? = some v →
        (∀ w, (Op.equalIn (d + 1) f.type u v).run P w = .ok c w) → (∃ b, (∀ w, (Op.eqFields (d + 1) xs ys fs).run P w = .ok b w) ∧ J' b) → (∀ b, J' b → J (c && b)) →
        ∃ b, (∀ w, (Op.eqFields (d + 1) xs ys (f :: fs)).run P w = .ok b w) ∧ J b := by
      intro dd u v c J' hn hu hag h1 h2 h3 hr hj
      obtain ⟨b, e, j⟩ := hr
      refine ⟨c && b, fun w => ?_, hj b j⟩
      unfold Op.eqFields
      rw [if_pos hn]
      simp only [Sem.run_bind, qKy hu hag h1, qKy hu hag h2, h3, Result.andThen_ok]
      cases c
      · rfl
      · simp only [Bool.not_true, Bool.false_eq_true, if_false, Bool.true_and]
        exact e w
    unfold qNf at k
    split at k
    · rename_i hn
      obtain ⟨b, e, j⟩ := qHR (d := d) k
      refine ⟨b, fun w => ?_, j⟩
      unfold Op.eqFields
      rw [if_neg (fun x => x (of_decide_eq_true hn))]
      exact e w
    · rename_i hn
      have hn := of_decide_eq_false hn
      split at k
      · rename_i hu
        split at k
        · rename_i h1 h2
          split at k
          · rename_i hk
            have hk := qI5 hk
            subst hk
            exact step hn hu rfl h1 h2 (fun w => run_equalIn_int w d _ _ _ _ _ hu) (qHR (d := d) k) (fun _ j => j)
          · exact k.elim
        · exact k.elim
      · rename_i hu
        split at k
        · rename_i h1 h2
          exact step hn hu rfl h1 h2 (fun w => run_equalIn_bool' w d _ _ _ hu) (qHR (d := d) k) (fun _ j => j)
        · exact k.elim
      · rename_i hu
        split at k
        · rename_i h1 h2
          exact step hn hu rfl h1 h2 (fun w => run_equalIn_string w d _ _ _ hu) (qHR (d := d) k) (fun _ j => j)
        · exact k.elim
      · exact k.elim
theorem qXK {t e : TypeId} {n d : Nat} {k0 : IntKind} {xs ys : Array Value} {b : Bool} (hu : P.underlying t = some (.array n e)) (he : P.underlying e = some (.int k0)) (hc : P.cellsOf e = 1)
    (h : arB (List.range' 0 n) xs.toList ys.toList = some b) (w : World) : (Op.equalIn (d + 2) t (.agg xs) (.agg ys)).run P w = .ok b w := by
  obtain ⟨i, hi⟩ := qHc he
  have hs : i.size = 1 := by rw [← hc]; unfold Program.cellsOf; rw [hi]; rfl
  have hsz : ∀ w, (sizeOf e).run P w = .ok 1 w := fun w => by
    obtain ⟨m, e1, _, rfl⟩ := qFw (P := P) (sizeOf e) (fun _ => none) (fun m h => h = (fun _ => none) ∧ m = 1) (by rw [qAX hi]; exact ⟨rfl, hs⟩)
    exact e1 w (fun _ _ x => by cases x)
  rw [show d + 2 = (d + 1) + 1 from rfl, Op.equalIn]
  simp only [Sem.run_bind, run_underlying hu, hsz, Result.andThen_ok, Std.Legacy.Range.forIn_eq_forIn_range', Std.Legacy.Range.size, Nat.sub_zero, Nat.add_sub_cancel, Nat.div_one]
  generalize List.range' 0 n = l at *
  induction l generalizing w b with
  | nil =>
    cases h
    simp
  | cons j l ih =>
    unfold arB at h
    split at h
    · rename_i k1 a k2 c hx hy
      split at h
      · rename_i r hk hr
        cases h
        have hk := qI5 hk
        subst hk
        have p1 := fun w => qKy (P := P) he rfl (off := j * 1) (by rw [Nat.mul_one]; exact hx) w
        have p2 := fun w => qKy (P := P) he rfl (off := j * 1) (by rw [Nat.mul_one]; exact hy) w
        simp only [List.forIn_cons, Sem.run_bind, p1, p2, Result.andThen_ok, run_equalIn_int _ d _ _ _ _ _ he]
        cases hab : (a == c) with
        | false => simp
        | true =>
          simp only [Bool.not_true, Bool.false_eq_true, if_false, Sem.run_pure, Result.andThen_ok, Bool.true_and]
          exact ih w hr
      · cases h
    · cases h
theorem qSQ {op : BinOp} {t : TypeId} {xs : Array Value} {y : Value} {J : Value → Prop} {ox oy : Operand} (k : qVv P op t xs.toList y J) :
    ∃ v, (∀ w, (do eqGuard op t ox oy (.agg xs) y; binOp op t (.agg xs) y : Sem Value).run P w = .ok v w) ∧ J v := by
  unfold qVv at k
  split at k
  · rename_i ys
    split at k
    · rename_i fs hu
      split at k
      · rename_i h1 h2
        obtain ⟨b, e, j⟩ := qHR (d := 9998) k
        have hf : P.fieldsOf t = fs := by unfold Program.fieldsOf; rw [hu]
        have e2 : ∀ w, (Op.equalIn 10000 t (.agg xs) (.agg ys)).run P w = .ok b w := fun w => by
          have := run_equalIn_struct (P := P) w 9999 t xs ys (by rw [hf]; exact hu) h2
          rw [this, hf]; exact e w
        cases op <;> first
          | exact j.elim
          | exact ⟨_, fun w => by rw [Sem.run_bind, run_eqGuard_agg w _ t ox oy xs ys h1, Result.andThen_ok, run_eql_struct, e2 w]; rfl, j⟩
          | exact ⟨_, fun w => by rw [Sem.run_bind, run_eqGuard_agg w _ t ox oy xs ys h1, Result.andThen_ok, run_neq_struct, e2 w]; rfl, j⟩
      · exact k.elim
    · rename_i n e hu
      split at k
      · rename_i k0 he hc h1
        obtain ⟨b, e, j⟩ := qRB k
        have e2 : ∀ w, (Op.equalIn 10000 t (.agg xs) (.agg ys)).run P w = .ok b w := fun w => qXK (d := 9998) hu he (Nat.eq_of_beq_eq_true hc) e w
        cases op <;> first
          | exact j.elim
          | exact ⟨_, fun w => by rw [Sem.run_bind, run_eqGuard_agg w _ t ox oy xs ys h1, Result.andThen_ok, run_eql_struct, e2 w]; rfl, j⟩
          | exact ⟨_, fun w => by rw [Sem.run_bind, run_eqGuard_agg w _ t ox oy xs ys h1, Result.andThen_ok, run_neq_struct, e2 w]; rfl, j⟩
      · exact k.elim
    · exact k.elim
  · exact k.elim
def qYR (h : Heap) (s : ByteArray) (J : Nat → Heap → Prop) : Prop := ∀ r, h r = none → J r (h.ins r (.stringIter s 0))
def qYj (h : Heap) (r : Nat) (J : Value → Heap → Prop) : Prop := ∃ (s : ByteArray) (pos : Nat), h r = some (.stringIter s pos) ∧
  Br (decide (pos < s.size)) (J (.tuple #[.bool true, .int .i64 (pos : Int), .int .i32 ((Utf8.decode s pos).1 : Int)]) (h.ins r (.stringIter s (pos + (Utf8.decode s pos).2)))) (J (.tuple #[.bool false]) h)
def isAgg (v : Value) : Bool := match v with
  | .agg _ => true
  | _ => false
def opV (P : Program) (t : List Value) (op : Op) (h : Heap) (J : Value → Heap → Prop) : Prop := match op with
  | .move x => J (evO t x) h
  | .assign x => J (evO t x) h
  | .pick c a b => match evO t c with
    | .bool v => Br v (J (evO t a) h) (J (evO t b) h)
    | _ => False
  | .alloc e => qKS P e h J
  | .box e x => qQ h (qCE (evO t x)) e fun r h' => J (.pointer (some ⟨r, 0, none⟩)) h'
  | .build e ps => match qQC P e (qIh t ps.toList) with
    | some cs => J (.agg cs.toArray) h
    | none => False
  | .buildSlice e n ps => qI6 P e n (qIh t ps.toList) h J
  | .load e a => match evO t a with
    | .pointer ad => qA ad fun b o => qNh P e h b o fun v => J v h
    | _ => False
  | .store e a x => match evO t a with
    | .pointer ad => qA ad fun b o => qU3 P e h b o (evO t x) fun h' => J undef h'
    | _ => False
  | .nilCheck x => match evO t x with
    | .pointer ad => qA ad fun b o => J (.pointer (some ⟨b, o, none⟩)) h
    | .func (.func f) x y => J (.func (.func f) x y) h
    | _ => False
  | .binOp op xT x y _ => match qX5 (evO t x) y with
    | true => qUz P op xT (evO t x) (evO t y) fun v => J v h
    | false => match evO t x with
      | .agg xs => qVv P op xT xs.toList (evO t y) fun v => J v h
      | _ => qVT P op xT (evO t x) (evO t y) fun v => J v h
  | .range xT x => match evO t x, P.underlying xT with
    | .string s, some .string => qYR h s fun r h' => J (.pointer (some ⟨r, 0, none⟩)) h'
    | _, _ => False
  | .next it isS => match isS, evO t it with
    | true, .pointer (some ⟨r, 0, _⟩) => qYj h r J
    | _, _ => False
  | .unOp op _ x => unV op (evO t x) fun v => J v h
  | .convert s d x => match qSo P s d with
    | true => qUr P s d (evO t x) h fun v => J v h
    | false => qTH P s d (evO t x) h J
  | .makeFunc fn a b => J (.func fn (qHX t a.toList).toArray (qHX t b.toList).toArray) h
  | .makeSlice e l c => qM4 P e (evO t l) (evO t c) h J
  | .slice e x lo hi mx => qQx P e (evO t x) (qP0 t lo) (qP0 t hi) (qP0 t mx) fun v => J v h
  | .fieldAddr s x f => qS0 P s (evO t x) f fun v => J v h
  | .field s x f => qP6 P s (evO t x) f fun v => J v h
  | .indexAddr s x i => qTP P s (evO t x) (evO t i) fun v => J v h
  | .index s x i => qQr P s (evO t x) (evO t i) fun v => J v h
  | .extract x i => qNn (evO t x) i fun v => J v h
  | .makeMap _ r => match r with
    | none => qSX h fun r h' => J (.map (some r)) h'
    | some _ => False
  | .lookup xT x i ok => match isAgg (evO t i) with
    | true => qTR P xT (evO t x) (evO t i) ok h fun v => J v h
    | false => qSw P xT (evO t x) (evO t i) ok h fun v => J v h
  | .mapUpdate mT m k v => qSg P mT (evO t m) (evO t k) (evO t v) h J
  | .mapEntry mT m k => qSk P mT (evO t m) (evO t k) h J
  | .entryStore mT m s v => qVo P mT (evO t m) (evO t s) (evO t v) h J
  | .call { callee := .builtin b, args, argTypes } => biV P b argTypes.toList (qHX t args.toList) h J
  | _ => False

def qDp (P : Program) : Op → Bool
  | .convert s d _ => match qSo P s d with
    | true => false
    | false => qTD P s d
  | .move _ | .assign _ | .pick .. | .build .. | .load .. | .nilCheck _ | .binOp .. | .unOp .. | .makeFunc .. | .slice .. | .fieldAddr .. | .field ..
  | .indexAddr .. | .index .. | .extract .. | .lookup .. => true
  | .call { callee := .builtin b, argTypes, .. } => match b with
    | .len => match argTypes.toList with
      | t :: _ => match P.underlying t with
        | some (.map _ _) => false
        | _ => true
      | _ => false
    | .max | .min | .cap | .unsafeSliceData => true
    | _ => false
  | _ => false
def qNZ (q : Bool) (J : Value → Heap → Prop) (n : Next) (h : Heap) : Prop := match n with
  | .value v => J v h
  | .skip => q = false ∧ J undef h
  | _ => False
theorem qD2 {q : Bool} {s : Sem Value} {h : Heap} {J : Value → Heap → Prop} (k : swp P q s h J) : swp P q (do pure (Next.value (← s))) h (qNZ q J) := by
  rw [qD]; exact k
theorem qC3 {q : Bool} {s : Sem Value} {h : Heap} {J : Value → Heap → Prop} (k : swp P q s h fun v h' => h' = h ∧ J v h) : swp P q (do pure (Next.value (← s))) h (qNZ q J) :=
  qD2 (qEV _ _ _ _ (fun _ _ ⟨e, qq⟩ => by rw [e]; exact qq) k)
def qH3 (t : List Value) : Op → Bool
  | .build .. => true
  | .binOp _ _ x _ _ => match evO t x with
    | .agg _ => true
    | _ => false
  | _ => false
def qOX (t : List Value) : Op → Bool
  | .lookup _ _ i _ => isAgg (evO t i)
  | .mapEntry .. | .entryStore .. => true
  | _ => false
theorem qTk {q : Bool} {b : Builtin} {ts : Array TypeId} {ty : TypeId} {cs : Array Bool} {xs : Array Value} {h : Heap} {J : Value → Heap → Prop}
    (k : biV P b ts.toList xs.toList h J) (hq : q = true → b = .len ∨ b = .max ∨ b = .min ∨ b = .cap ∨ b = .unsafeSliceData) : swp P q (builtin b ts ty cs xs) h (qNZ q J) := by
  unfold biV at k
  split at k
  · have : q = false := by
      cases q
      · rfl
      · rcases hq rfl with e | e | e | e | e <;> cases e
    subst this
    split at k
    · exact qD2 (qTZ k)
    · exact qD2 (qS4 k)
  · split at k
    · rename_i t0 _ x0 _ ht hx
      have ht0 : ts[0]? = some t0 := by rw [← Array.getElem?_toList, ht]; rfl
      have hx0 : xs[0]? = some x0 := by rw [← Array.getElem?_toList, hx]; rfl
      refine qC3 ?_
      unfold Builtin.len_
      simp only [ht0, hx0]
      unfold qUl at k
      split at k
      · rename_i hu
        rw [qD, qE hu]; exact ⟨rfl, k⟩
      · rename_i hu
        obtain ⟨r, n, rfl, ⟨es, c, hr, hn⟩, k⟩ := k
        rw [qD, qE hu]
        dsimp only
        rw [qD]
        refine ⟨_, hr, rfl, ?_⟩
        rw [qHq]
        dsimp only
        rw [hn]
        exact ⟨rfl, k⟩
      · rename_i hu
        rw [qD, qE hu]; exact ⟨rfl, k⟩
      · rename_i y _ _ _ _ hu
        rw [qD, qE hu]; cases y <;> exact ⟨rfl, k⟩
      · exact k.elim
    · exact k.elim
  · split at k
    · rename_i x y hx
      refine qC3 ?_
      unfold Builtin.max_
      rw [hx]
      unfold qXP at k
      split at k
      · simp only [List.foldlM_cons, List.foldlM_nil, Builtin.max2, qD, qd, true_and]
        exact k
      · exact k.elim
    · exact k.elim
  · split at k
    · rename_i x y hx
      refine qC3 ?_
      unfold Builtin.min_
      rw [hx]
      unfold qYJ at k
      split at k
      · simp only [List.foldlM_cons, List.foldlM_nil, Builtin.min2, qD, qd, true_and]
        exact k
      · exact k.elim
    · exact k.elim
  · have : q = false := by
      cases q
      · rfl
      · rcases hq rfl with e | e | e | e | e <;> cases e
    subst this
    exact qD2 (qQb k)
  · have : q = false := by
      cases q
      · rfl
      · rcases hq rfl with e | e | e | e | e <;> cases e
    subst this
    exact qD2 (qRT k)
  · split at k
    · rename_i t0 _ _ _ n _ ht hx
      have ht0 : ts[0]? = some t0 := by rw [← Array.getElem?_toList, ht]; rfl
      have hx0 := congrArg (fun l => l[0]?) hx
      simp only [List.getElem?_cons_zero, Array.getElem?_toList] at hx0
      split at k
      · rename_i hu
        refine qC3 ?_
        unfold Builtin.cap_
        simp only [ht0, hx0]
        rw [qD, qE hu]
        exact ⟨rfl, k⟩
      · exact k.elim
    · exact k.elim
  · exact qC3 (qRa k)
  · have : q = false := by
      cases q
      · rfl
      · rcases hq rfl with e | e | e | e | e <;> cases e
    subst this
    exact qD2 (qRe k)
  · exact k.elim

theorem qSK {q : Bool} {t : List Value} {o : Oper} {h : Heap} {J : Value → Heap → Prop} (k : opV P t o.op h J) (hb : qH3 t o.op = false) (hky : qOX t o.op = false) (hq : q = true → qDp P o.op = true) :
    swp P q (execOp (evO t) o) h (qNZ q J) := by
  obtain ⟨dst, op, type, pos, after, guard⟩ := o
  dsimp only at k hb hky hq
  have nq : qDp P op = false → q = false := fun e => by
    cases q
    · rfl
    · rw [hq rfl] at e; cases e
  unfold execOp
  dsimp only
  unfold opV at k
  split at k <;> try dsimp only
  case _ => exact k
  case _ => exact k
  case _ =>
    split at k
    · rename_i v hv
      rw [hv]
      rcases k.elim with ⟨rfl, qq⟩ | ⟨rfl, qq⟩ <;> exact qq
    · exact k.elim
  case _ => cases nq rfl; exact qD2 (qRM k)
  case _ => cases nq rfl; exact qD2 (qTb k)
  case _ => cases hb
  case _ e n ps =>
    cases nq rfl
    refine qD2 (qPm ?_)
    rw [qOi] at k
    simpa using k
  case _ e a =>
    split at k
    · rename_i ad hv
      rw [hv]
      obtain ⟨b, o, rfl, k⟩ := qAU k
      exact qC3 (qOK k)
    · exact k.elim
  case _ e a x =>
    cases nq rfl
    split at k
    · rename_i ad hv
      rw [hv]
      obtain ⟨b, o, rfl, k⟩ := qAU k
      rw [qD]
      exact qEV _ _ _ _ (fun _ _ qq => ⟨rfl, qq⟩) (qSm k)
    · exact k.elim
  case _ x =>
    split at k
    · rename_i ad hv
      rw [hv]
      obtain ⟨b, o, rfl, k⟩ := qAU k
      exact k
    · rename_i hv
      rw [hv]
      exact k
    · exact k.elim
  case _ op xT x y _ =>
    split at k
    · exact qC3 (qTU k)
    · split at k
      · rename_i xs hx
        simp only [qH3, hx] at hb
        cases hb
      · exact qC3 (qTa k)
  case _ xT x =>
    cases nq rfl
    split at k
    · rename_i s hx hu
      rw [hx]
      refine qD2 ?_
      unfold Instr.range
      rw [qD, qE hu]
      simp only [qD, qd]
      exact ⟨rfl, fun r hr => k r hr⟩
    · exact k.elim
  case _ it isS =>
    cases nq rfl
    split at k
    · rename_i r sp hx
      rw [hx]
      refine qD2 ?_
      unfold Instr.next
      obtain ⟨s, pos, hr, k⟩ := k
      simp only [qD]
      refine ⟨_, hr, rfl, ?_⟩
      show swp P false (if pos < s.size then (do
          let (c, width) := Utf8.decode s pos
          setObj r (.stringIter s (pos + width))
          pure (.tuple #[.bool true, goInt pos, .int .i32 c]) : Sem Value) else pure (.tuple #[.bool false])) h J
      rcases k.elim with ⟨hp, k⟩ | ⟨hp, k⟩
      · rw [if_pos (of_decide_eq_true hp)]
        simp only [qD]
        exact ⟨rfl, _, hr, rfl, k⟩
      · rw [if_neg (of_decide_eq_false hp)]
        exact k
    · exact k.elim
  case _ => exact qC3 (qTs k)
  case _ s d x =>
    split at k
    · exact qC3 (qSp k)
    rename_i hun
    unfold qTH at k
    split at k
    case h_2 hcq =>
      have hq2 : q = false := nq (by unfold qDp; dsimp only; rw [hun]; exact hcq)
      subst hq2
      split at k
      · rename_i e hs hd
        split at k
        · rename_i a n c he hx
          rw [hx]
          refine qD2 ?_
          unfold convert
          rw [qD, qE hs, qD, qE hd]
          have main : swp P false (Conv.bytesToString (.slice a n c)) h J := qEV _ _ _ _ (fun _ _ ⟨e1, s1, e2, j⟩ => by subst e1 e2; exact j) (qSf k)
          cases a with
          | none =>
            dsimp only
            rw [qD, qE he]
            exact main
          | some ad =>
            dsimp only
            rw [qD, qE he]
            exact main
        · exact k.elim
      · rename_i e hs hd
        split at k
        · rename_i t0 he hx
          rw [hx]
          refine qD2 ?_
          unfold convert
          rw [qD, qE hs, qD, qE hd]
          dsimp only
          rw [qD, qE he]
          exact qRC k
        · exact k.elim
      · exact k.elim
    refine qC3 ?_
    unfold qWP at k
    split at k
    · rename_i hx hs hd
      rw [hx]
      unfold convert
      rw [qD, qE hs, qD, qE hd]
      exact ⟨rfl, k⟩
    · rename_i hx hs hd
      rw [hx]
      unfold convert
      rw [qD, qE hs, qD, qE hd]
      exact ⟨rfl, k⟩
    · exact k.elim
  case _ fn a b =>
    rw [qI0, qI0] at k
    have e1 : (a.toList.map (evO t)).toArray = a.map (evO t) := by apply Array.toList_inj.1; simp
    have e2 : (b.toList.map (evO t)).toArray = b.map (evO t) := by apply Array.toList_inj.1; simp
    rw [e1, e2] at k
    exact k
  case _ => cases nq rfl; exact qD2 (qRX k)
  case _ e x lo hi mx =>
    refine qC3 (qP9 ?_)
    have e1 : ∀ x : Option Operand, qP0 t x = x.map (evO t) := fun x => by cases x <;> rfl
    rw [e1, e1, e1] at k
    exact k
  case _ => exact qC3 (qRo k)
  case _ => exact qC3 (qQo k)
  case _ => exact qC3 (qRn k)
  case _ => exact qC3 (qRF k)
  case _ => exact qC3 (qOx k)
  case _ =>
    cases nq rfl
    split at k
    · exact qD2 (qRc k)
    · exact k.elim
  case _ =>
    have hky : isAgg (evO t _) = false := hky
    rw [hky] at k
    exact qC3 (qRP k)
  case _ =>
    cases nq rfl
    rw [qD]
    exact qEV _ _ _ _ (fun _ _ qq => ⟨rfl, qq⟩) (qRk k)
  case _ => cases hky
  case _ => cases hky
  case _ b args ts =>
    have e1 : qHX t args.toList = (args.map (evO t)).toList := by rw [qI0]; simp
    rw [e1] at k
    simp only [resolve, qD, qd, invoke]
    refine qTk k fun e => ?_
    have := hq e
    cases b <;> first | (simp [qDp] at this; done) | simp
  case _ => exact k.elim
theorem qOF {t : List Value} {o : Oper} {h : Heap} {J : Value → Heap → Prop} (ho : qH3 t o.op = true) (k : opV P t o.op h J) :
    ∃ v, (∀ w, (execOp (evO t) o).run P w = .ok (.value v) w) ∧ J v h := by
  obtain ⟨dst, op, type, pos, after, guard⟩ := o
  dsimp only at k ho
  cases op <;> try (cases ho; done)
  case build e ps =>
    unfold opV at k
    dsimp only at k
    split at k
    · rename_i cs hc
      refine ⟨_, fun w => ?_, k⟩
      unfold execOp
      dsimp only
      rw [Sem.run_bind, run_build w e _ cs.toArray]
      · rfl
      · rw [qOi] at hc
        rw [← qTp hc]
        simp
    · exact k.elim
  case binOp op xT x y yT =>
    unfold opV at k
    dsimp only at k
    split at k
    · rename_i h2
      unfold qH3 at ho
      dsimp only at ho
      split at ho
      · rename_i xs hx2
        rw [hx2] at h2
        cases h2
      · cases ho
    split at k
    · rename_i xs hx
      obtain ⟨v, e, j⟩ := qSQ (ox := x) (oy := y) k
      refine ⟨v, fun w => ?_, j⟩
      unfold execOp
      dsimp only
      rw [hx, Sem.run_bind, e w]
      rfl
    · rename_i hx
      unfold qH3 at ho
      dsimp only at ho
      split at ho
      · rename_i xs hx2; exact (hx xs hx2).elim
      · cases ho
theorem qQw {t : List Value} {o : Oper} {h : Heap} {J : Value → Heap → Prop} {xT : TypeId} {x i : Operand} {ok : Bool} (ho : o.op = .lookup xT x i ok) (hk : isAgg (evO t i) = true) (k : opV P t o.op h J) :
    ∃ v, (∀ w, Rep h w → (execOp (evO t) o).run P w = .ok (.value v) w) ∧ J v h := by
  obtain ⟨dst, op, type, pos, after, guard⟩ := o
  dsimp only at k ho
  subst ho
  unfold opV at k
  dsimp only at k
  rw [hk] at k
  obtain ⟨v, e, j⟩ := qT7 k
  refine ⟨v, fun w r => ?_, j⟩
  unfold execOp
  dsimp only
  rw [Sem.run_bind, e w r]
  rfl
theorem qWW {t : List Value} {o : Oper} {h : Heap} {J : Value → Heap → Prop} {mT : TypeId} {m i : Operand} (ho : o.op = .mapEntry mT m i) (k : opV P t o.op h J) :
    ssp P (execOp (evO t) o) h (qNZ false J) := by
  obtain ⟨dst, op, type, pos, after, guard⟩ := o
  dsimp only at k ho
  subst ho
  unfold opV at k
  unfold execOp
  dsimp only at k ⊢
  refine qDT fun w r => ?_
  obtain ⟨a, h', w', e, j, r', f⟩ := qUA k w r
  exact ⟨a, h', w', e, qK1 j, r', f⟩
theorem qWs {t : List Value} {o : Oper} {h : Heap} {J : Value → Heap → Prop} {mT : TypeId} {m i v : Operand} (ho : o.op = .entryStore mT m i v) (k : opV P t o.op h J) :
    ssp P (execOp (evO t) o) h (qNZ false J) := by
  obtain ⟨dst, op, type, pos, after, guard⟩ := o
  dsimp only at k ho
  subst ho
  unfold opV at k
  unfold execOp
  dsimp only at k ⊢
  refine qDT fun w r => ?_
  obtain ⟨a, h', w', e, j, r', f⟩ := qVk k w r
  exact ⟨a, h', w', e, qK1 ⟨rfl, j⟩, r', f⟩
theorem qUH {t : List Value} {o : Oper} {h : Heap} {J : Value → Heap → Prop} (k : opV P t o.op h J) : ssp P (execOp (evO t) o) h (qNZ false J) := by
  cases hb : qH3 t o.op with
  | false =>
    cases hky : qOX t o.op with
    | false => exact qDA (qSK k hb hky (fun e => by cases e))
    | true =>
      unfold qOX at hky
      split at hky
      · rename_i ho
        obtain ⟨v, e1, e2⟩ := qQw ho hky k
        exact fun w r => ⟨_, h, w, e1 w r, e2, r, Fr.refl _ _⟩
      · rename_i ho
        exact qWW ho k
      · rename_i ho
        exact qWs ho k
      · cases hky
  | true =>
    obtain ⟨v, e1, e2⟩ := qOF hb k
    exact qLA e1 e2
theorem qLz {t : List Value} {o : Oper} {h : Heap} {J : Value → Heap → Prop} (k : opV P t o.op h J) (hq : qDp P o.op = true) :
    ∃ v, (∀ w, Rep h w → (execOp (evO t) o).run P w = .ok (.value v) w) ∧ J v h := by
  cases hb : qH3 t o.op with
  | false =>
    cases hky : qOX t o.op with
    | false =>
      obtain ⟨a, e, qq⟩ := qFw _ _ _ (qSK (q := true) k hb hky (fun _ => hq))
      cases a <;> first | exact ⟨_, e, qq⟩ | exact qq.elim | cases qq.1
    | true =>
      unfold qOX at hky
      split at hky
      · rename_i ho
        exact qQw ho hky k
      · rename_i ho
        rw [ho] at hq; cases hq
      · rename_i ho
        rw [ho] at hq; cases hq
      · cases hky
  | true =>
    obtain ⟨v, e1, e2⟩ := qOF hb k
    exact ⟨v, fun w _ => e1 w, e2⟩

end Go.Sy

/- Operations with calls, regions in the text's order, and regions that draw their order. -/
namespace Go.Sy
variable {P : Program}

def qTA : List Func → Nat → Option Func
  | [], _ => none
  | f :: _, 0 => some f
  | _ :: l, n + 1 => qTA l n
theorem qRv : ∀ (l : List Func) (n : Nat), qTA l n = l[n]?
  | [], _ => rfl
  | _ :: _, 0 => rfl
  | _ :: l, n + 1 => by rw [qTA, qRv l n]; rfl
def qUi (P : Program) (id : Nat) : Bool := match qTA P.funcs.toList id with
  | some fn => match fn.body with
    | some _ => false
    | none => match decide (fn.name = "internal/abi.NoEscape") with
      | true => decide (fn.origin = "")
      | false => false
  | none => false
theorem qVu : Extern.allNextRows.lookup "internal/abi.NoEscape" = none := by kernel_rfl
theorem qTo : Extern.allNextRows.lookup "" = none := by kernel_rfl
theorem qWy : Extern.allGenericRows.lookup "internal/abi.NoEscape" = none := by kernel_rfl
theorem qT4 : Extern.allTypedRows.lookup "internal/abi.NoEscape" = none := by kernel_rfl
theorem qUo : Extern.allRows.lookup "internal/abi.NoEscape" = some Extern.AbiNoEscape.same := by kernel_rfl
theorem qVe {id : Nat} (e : qUi P id = true) (v : Value) (w : World) : (callFunc id #[v]).run P w = .ok (.value v) w := by
  unfold qUi at e
  split at e
  · rename_i fn hf
    rw [qRv] at hf
    have hf' : P.funcs[id]? = some fn := by simpa using hf
    split at e
    · cases e
    · rename_i hb
      split at e
      · rename_i hn
        have hn := of_decide_eq_true hn
        have ho := of_decide_eq_true e
        have h1 : Extern.findNext fn = none := by
          unfold Extern.findNext
          simp only [hn, ho, qVu, qTo]
          rfl
        have h2 : Extern.find fn = some Extern.AbiNoEscape.same := by
          unfold Extern.find
          simp only [hn, qWy, qT4, qUo]
          rfl
        have hp : (program : Sem Program).run P w = .ok P w := rfl
        have hs : (fn.name == "runtime.NumGoroutine") = false := by rw [hn]; decide
        have hm : ∀ m, (mark m).run P w = .ok () w := fun _ => rfl
        unfold callFunc
        simp only [Sem.run_bind, hp, Result.andThen_ok, hf', hs, hb, Option.isNone_none, if_true, Bool.false_eq_true, if_false, hm, h1, h2]
        rfl
      · cases e
  · cases e
def qWF (P : Program) (t : List Value) (c : Call) (ty : TypeId) (h : Heap) (J : Value → Heap → Prop) : Prop := match c.callee with
  | .value f => match evO t f with
    | .func (.func id) first captured => match qUi P id with
      | false => CallA P id (first.toList ++ (qHX t c.args.toList ++ captured.toList)) h fun v h' => qPz P ty fun u => v = u ∧ J u h'
      | true => match first.toList ++ (qHX t c.args.toList ++ captured.toList) with
        | [v] => J v h
        | _ => False
    | _ => False
  | _ => False
def qKQ : Op → Option Call
  | .call c => match c.callee with
    | .builtin _ => none
    | _ => some c
  | _ => none
def opA (P : Program) (t : List Value) (o : Oper) (h : Heap) (J : Value → Heap → Prop) : Prop := match qKQ o.op with
  | some c => qWF P t c o.type h J
  | none => opV P t o.op h J

def resOK (P : Program) (r : Result Next) (h : Heap) (w : World) (K : Value → Heap → Prop) : Prop := match r with
  | .ok (.value v) w' => ∃ h', K v h' ∧ Rep h' w' ∧ Fr h w h' w'
  | .ok .skip w' => ∃ h', K undef h' ∧ Rep h' w' ∧ Fr h w h' w'
  | .ok (.enter f args) w' => Calls P f args w' fun e w'' => ∃ v h', e = .returned v ∧ K v h' ∧ Rep h' w'' ∧ Fr h w h' w''
  | _ => False
def SOp (P : Program) (ρ : Operand → Value) (o : Oper) (h : Heap) (K : Value → Heap → Prop) : Prop := ∀ w, Rep h w → resOK P ((execOp ρ o).run P w) h w K
theorem qKw {r : Result Next} {h : Heap} {w : World} {K K' : Value → Heap → Prop} (m : ∀ v h', K v h' → K' v h') (k : resOK P r h w K) : resOK P r h w K' := by
  unfold resOK at *
  split at k
  · obtain ⟨h', a, b⟩ := k; exact ⟨h', m _ _ a, b⟩
  · obtain ⟨h', a, b⟩ := k; exact ⟨h', m _ _ a, b⟩
  · exact k.mono fun e w'' ⟨v, h', e1, a, b⟩ => ⟨v, h', e1, m _ _ a, b⟩
  · exact k.elim
theorem SOp.mono {ρ : Operand → Value} {o : Oper} {h : Heap} {K K' : Value → Heap → Prop} (k : SOp P ρ o h K) (m : ∀ v h', K v h' → K' v h') : SOp P ρ o h K' :=
  fun w r => qKw m (k w r)
theorem qKT {t : List Value} {o : Oper} {h : Heap} {J : Value → Heap → Prop} (k : opA P t o h J) : SOp P (evO t) o h J := by
  intro w r
  unfold opA at k
  split at k
  · rename_i c hc
    have ho : o.op = .call c := by
      cases e : o.op <;> rw [e] at hc <;> simp only [qKQ] at hc <;> try (cases hc; done)
      split at hc
      · cases hc
      · cases hc; rfl
    unfold qWF at k
    split at k
    · rename_i f hf
      split at k
      · rename_i id first captured hv
        have e1 : (first ++ c.args.map (evO t)) ++ captured = (first.toList ++ (qHX t c.args.toList ++ captured.toList)).toArray := by
          apply Array.toList_inj.1
          rw [qI0]
          simp
        have e2 : (execOp (evO t) o).run P w = (callFunc id (first.toList ++ (qHX t c.args.toList ++ captured.toList)).toArray).run P w := by
          rw [← e1]
          unfold execOp
          simp only [ho, resolve, hf, hv, Deferred.ofValue, Sem.run_bind, Sem.run_pure, Result.andThen_ok, invoke]
        rw [e2]
        split at k
        · rw [(k w r).1]
          exact (k w r).2.mono fun e w'' ⟨v, h', e3, q, x⟩ => by
            obtain ⟨u, rfl, j⟩ := qOW q
            exact ⟨v, h', e3, j, x⟩
        · rename_i hq
          split at k
          · rename_i v hl
            rw [hl, qVe hq v w]
            exact ⟨h, k, r, Fr.refl h w⟩
          · exact k.elim
      · exact k.elim
    · exact k.elim
  · obtain ⟨n, h', w', e, q, r', f⟩ := qUH k w r
    rw [e]
    cases n <;> first | exact ⟨h', q, r', f⟩ | exact ⟨h', q.2, r', f⟩ | exact q.elim
theorem SOp.wp {t : List Value} {o : Oper} {h : Heap} {K : Value → Heap → Prop} (k : SOp P (evO t) o h K) {w : World} (r : Rep h w) {next : Act → World → Prop} {Q : Exit → Act → World → Prop}
    (n : ∀ v h' w', K v h' → Rep h' w' → Fr h w h' w' → next ⟨(qAZ t o.dst v).toArray, []⟩ w') : o.wp P ⟨t.toArray, []⟩ w next Q := by
  have he : (Act.mk t.toArray []).eval = evO t := funext (qQB t)
  have k1 := k w r
  unfold Oper.wp
  rw [he]
  unfold resOK at k1
  generalize (execOp (evO t) o).run P w = res at k1 ⊢
  split at k1
  · obtain ⟨h', a, b, c⟩ := k1
    rw [Oper.upon_value, qKf]; exact n _ _ _ a b c
  · obtain ⟨h', a, b, c⟩ := k1
    rw [Oper.upon_skip, qKf]; exact n _ _ _ a b c
  · rw [Oper.upon_enter]
    refine k1.mono fun e w'' ⟨v, h', e1, a, b, c⟩ => ?_
    subst e1
    dsimp only
    rw [qKf]; exact n _ _ _ a b c
  · exact k1.elim

/-! ### guards -/
def qMt (all : List Oper) (j : Nat) : Option Nat := match all[j]? with
  | some o => o.dst
  | none => none
def qMd (all : List Oper) (t : List Value) (j : Nat) : Option Bool := match qMt all j with
  | some d => match qA3 t d with
    | .bool b => some b
    | _ => none
  | none => none
def qD6 (all : List Oper) (t : List Value) (o : Oper) : Bool := match o.guard with
  | none => true
  | some (j, want) => qMd all t j == some want
theorem qPA : ∀ (t : List Value) (d : Nat) (v : Value), t[d]? = some v → qA3 t d = v
  | [], _, _, h => by simp at h
  | _ :: _, 0, _, h => by simpa [qA3] using h
  | _ :: t, d + 1, v, h => qPA t d v (by simpa using h)
theorem qPV : ∀ (t : List Value) (d : Nat), t[d]? = none → qA3 t d = undef
  | [], _, _ => rfl
  | _ :: _, 0, h => by simp at h
  | _ :: t, d + 1, h => qPV t d (by simpa using h)
theorem qSa (ops : Array Oper) (t : List Value) (j : Nat) : yielded ops t.toArray j = qMd ops.toList t j := by
  unfold yielded qMd qMt
  have e : ops[j]? = ops.toList[j]? := by simp
  rw [e]
  cases ho : ops.toList[j]? with
  | none => rfl
  | some o =>
    simp only [Option.bind_some]
    cases o.dst with
    | none => rfl
    | some d =>
      simp only [Option.bind_some]
      have e2 : t.toArray[d]? = t[d]? := by simp
      rw [e2]
      cases hv : t[d]? with
      | none => rw [qPV t d hv]; rfl
      | some v => rw [qPA t d v hv]; cases v <;> rfl
theorem qMj (ops : Array Oper) (t : List Value) (o : Oper) : Region.wanted o (yielded ops t.toArray) = qD6 ops.toList t o := by
  unfold Region.wanted qD6
  cases o.guard with
  | none => rfl
  | some g => obtain ⟨j, want⟩ := g; simp only [qSa]
theorem qPK : ∀ (t : List Value) (d : Nat), setT t d (qA3 t d) = t
  | [], _ => rfl
  | _ :: _, 0 => rfl
  | u :: t, d + 1 => by simp only [setT, qA3, qPK t d]

def qF6 (all : List Oper) (o : Oper) (t : List Value) (yes no : List Value → Prop) : Prop := match o.guard with
  | none => yes t
  | some (j, want) => match qMt all j with
    | none => no t
    | some d => match qA3 t d with
      | .bool b => Br b
          (match want with
            | true => yes (setT t d (.bool true))
            | false => no (setT t d (.bool true)))
          (match want with
            | true => no (setT t d (.bool false))
            | false => yes (setT t d (.bool false)))
      | _ => no t
theorem qFu {all : List Oper} {o : Oper} {t : List Value} {yes no : List Value → Prop} (k : qF6 all o t yes no) :
    (qD6 all t o = true ∧ yes t) ∨ (qD6 all t o = false ∧ no t) := by
  unfold qF6 at k
  unfold qD6
  split at k
  · exact .inl ⟨rfl, k⟩
  · rename_i j want hg
    unfold qMd
    split at k
    · rename_i hd
      rw [hd]
      exact .inr ⟨rfl, k⟩
    · rename_i d hd
      rw [hd]
      dsimp only
      split at k
      · rename_i b hv
        have hs : setT t d (.bool b) = t := by rw [← hv]; exact qPK t d
        rcases k.elim with ⟨rfl, k⟩ | ⟨rfl, k⟩
        · rw [hs] at k
          cases want
          · exact .inr ⟨rfl, k⟩
          · exact .inl ⟨rfl, k⟩
        · rw [hs] at k
          cases want
          · exact .inl ⟨rfl, k⟩
          · exact .inr ⟨rfl, k⟩
      · exact .inr ⟨rfl, k⟩

/-! ### a region in the text's order -/
def qQi (P : Program) (all : List Oper) : List Oper → List Value → Heap → (List Value → Heap → Prop) → Prop
  | [], t, h, J => J t h
  | o :: os, t, h, J => qF6 all o t
      (fun t => opA P t o h fun v h' => qQi P all os (qAZ t o.dst v) h' J)
      (fun t => qQi P all os (qAZ t o.dst undef) h J)
def qQz (J : List Value → Heap → Prop) (h0 : Heap) (w0 : World) (e : Exit) (a : Act) (w : World) : Prop :=
  e = .normal ∧ ∃ t h, a = ⟨t.toArray, []⟩ ∧ J t h ∧ Rep h w ∧ Fr h0 w0 h w
theorem qIn (ops : Array Oper) (J : List Value → Heap → Prop) (h0 : Heap) (w0 : World) : ∀ (os : List Oper) (k : Nat) (t : List Value) (h : Heap) (w : World),
    ops.toList.drop k = os → qQi P ops.toList os t h J → Rep h w → Fr h0 w0 h w → wpOps P ops (qQz J h0 w0) (List.range' k os.length) ⟨t.toArray, []⟩ w
  | [], k, t, h, w, _, q, r, f => ⟨rfl, t, h, rfl, q, r, f⟩
  | o :: os, k, t, h, w, hd, q, r, f => by
    have ho : ops[k]? = some o := by
      have : ops.toList[k]? = some o := by
        have := congrArg (·[0]?) hd
        simpa using this
      simpa using this
    have hd' : ops.toList.drop (k + 1) = os := by
      have := congrArg (List.drop 1) hd
      simpa [List.drop_drop, Nat.add_comm] using this
    rw [List.length_cons, List.range'_succ]
    unfold wpOps
    simp only [ho]
    rw [qMj]
    rcases qFu q with ⟨hw, q⟩ | ⟨hw, q⟩
    · rw [hw]
      refine .inl ((qKT q).wp r fun v h' w' q' r' f' => ?_)
      exact qIn ops J h0 w0 os (k + 1) _ h' w' hd' q' r' (f.trans f')
    · rw [hw]
      simp only [Bool.false_eq_true, if_false, qKf]
      exact qIn ops J h0 w0 os (k + 1) _ h w hd' q r f

/-! ### the same, with what has been found laid down at once (for the kernel's sake) -/
def fcL : List Value → (List Value → Prop) → Prop
  | [], J => J []
  | v :: r, J => fcL r fun r' => J (v :: r')
theorem qOB : ∀ (l : List Value) (J : List Value → Prop), fcL l J = J l
  | [], _ => rfl
  | v :: r, J => by unfold fcL; rw [qOB r]
def fcV (v : Value) (J : Value → Prop) : Prop := match v with
  | .int k n => J (.int k n)
  | .bool b => J (.bool b)
  | .string s => J (.string s)
  | .pointer a => J (.pointer a)
  | .slice a n c => J (.slice a n c)
  | .agg ⟨l⟩ => fcL l fun l => J (.agg ⟨l⟩)
  | .tuple ⟨l⟩ => fcL l fun l => J (.tuple ⟨l⟩)
  | v => J v
theorem qXa (v : Value) (J : Value → Prop) : fcV v J = J v := by
  unfold fcV
  split <;> first | rfl | exact qOB _ _
def fcN (n : Nat) (J : Nat → Prop) : Prop := match n with
  | 0 => J 0
  | .succ m => J (.succ m)
theorem qT0 (n : Nat) (J : Nat → Prop) : fcN n J = J n := by cases n <;> rfl
def fcP (t : List Value) (d : Option Nat) (v : Value) (J : List Value → Prop) : Prop := match d with
  | none => J t
  | some d => fcV v fun v => fcL (setT t d v) J
theorem qLt (t : List Value) (d : Option Nat) (v : Value) (J : List Value → Prop) : fcP t d v J = J (qAZ t d v) := by
  cases d with
  | none => rfl
  | some d => simp only [fcP, qXa, qOB]; rfl
def qI9 (all : List Oper) (o : Oper) (t : List Value) (yes no : List Value → Prop) : Prop := match o.guard with
  | none => yes t
  | some (j, want) => match qMt all j with
    | none => no t
    | some d => match qA3 t d with
      | .bool b => Br b
          (fcL (setT t d (.bool true)) fun t => match want with
            | true => yes t
            | false => no t)
          (fcL (setT t d (.bool false)) fun t => match want with
            | true => no t
            | false => yes t)
      | _ => no t
theorem qJt (all : List Oper) (o : Oper) (t : List Value) (yes no : List Value → Prop) : qI9 all o t yes no = qF6 all o t yes no := by
  unfold qI9 qF6
  simp only [qOB]
def qNl (P : Program) (all : List Oper) : List Oper → List Value → Heap → (List Value → Heap → Prop) → Prop
  | [], t, h, J => J t h
  | o :: os, t, h, J => qI9 all o t
      (fun t => opA P t o h fun v h' => fcP t o.dst v fun t' => qNl P all os t' h' J)
      (fun t => fcP t o.dst undef fun t' => qNl P all os t' h J)
theorem qOf (P : Program) (all : List Oper) : ∀ (os : List Oper) (t : List Value) (h : Heap) (J : List Value → Heap → Prop), qNl P all os t h J = qQi P all os t h J
  | [], _, _, _ => rfl
  | o :: os, t, h, J => by unfold qNl qQi; simp only [qJt, qLt, qOf P all os]
end Go.Sy

/- Regions that draw their order: one order stands for all. -/
namespace Go.Sy
variable {P : Program}

/-! ### who looks at what -/
def qS1 (d : Nat) : List Nat → Bool
  | [] => false
  | x :: xs => match Nat.beq d x with
    | true => true
    | false => qS1 d xs
theorem qNy {d : Nat} : ∀ {l : List Nat}, qS1 d l = false → d ∉ l
  | [], _ => by simp
  | x :: xs, h => by
    unfold qS1 at h
    split at h
    · cases h
    · rename_i hx
      intro hm
      rcases List.mem_cons.1 hm with e | e
      · subst e; rw [Nat.beq_refl] at hx; cases hx
      · exact qNy h e
def qMP : List Operand → List Nat
  | [] => []
  | x :: xs => match x with
    | .tmp t => t :: qMP xs
    | _ => qMP xs
theorem qOJ {d : Nat} : ∀ {l : List Operand}, Operand.tmp d ∈ l → d ∈ qMP l
  | x :: xs, h => by
    unfold qMP
    rcases List.mem_cons.1 h with e | e
    · subst e; simp
    · have := qOJ e
      cases x <;> simp [this]
def qJQ (all : List Oper) (o : Oper) : List Nat := match o.guard with
  | some (g, _) => match qMt all g with
    | some d => [d]
    | none => []
  | none => []
def qFM (o : Oper) : List Nat := qMP o.op.operands.toList
def qK4 (o : Oper) : Bool := match o.op with
  | .select .. => false
  | _ => true
def qDg (o : Oper) (l : List Nat) : Bool := match o.dst with
  | some d => qS1 d l
  | none => false
def qMv (x y : Oper) : Bool := match x.dst with
  | some d => match y.dst with
    | some e => Nat.beq d e
    | none => false
  | none => false
def qFv (all : List Oper) (x y : Oper) : Bool :=
  !qDg x (qFM y) && !qDg x (qJQ all y) && !qDg y (qFM x) && !qDg y (qJQ all x) && !qMv x y && qK4 x && qK4 y

theorem qNH {o : Oper} {l : List Nat} (h : qDg o l = false) (d : Nat) (e : o.dst = some d) : d ∉ l := by
  unfold qDg at h; rw [e] at h; exact qNy h
theorem qH8 {all : List Oper} {x y : Oper} (h : qFv all x y = true) :
    qDg x (qFM y) = false ∧ qDg x (qJQ all y) = false ∧ qDg y (qFM x) = false ∧ qDg y (qJQ all x) = false ∧ qMv x y = false ∧ qK4 x = true ∧ qK4 y = true := by
  unfold qFv at h
  simp only [Bool.and_eq_true, Bool.not_eq_true'] at h
  exact ⟨h.1.1.1.1.1.1, h.1.1.1.1.1.2, h.1.1.1.1.2, h.1.1.1.2, h.1.1.2, h.1.2, h.2⟩
theorem qSi {o : Oper} (h : qK4 o = true) (cs : Array SelectCase) (b : Bool) : o.op ≠ .select cs b := fun e => by
  unfold qK4 at h; rw [e] at h; cases h

theorem qNE : ∀ (t : List Value) (d e : Nat) (v : Value), d ≠ e → qA3 (setT t d v) e = qA3 t e
  | [], _, _, _, _ => rfl
  | _ :: _, 0, 0, _, h => (h rfl).elim
  | _ :: _, 0, e + 1, _, _ => rfl
  | _ :: _, d + 1, 0, _, _ => rfl
  | _ :: t, d + 1, e + 1, v, h => qNE t d e v (fun x => h (by rw [x]))
theorem qPa : ∀ (t : List Value) (d e : Nat) (v u : Value), d ≠ e → setT (setT t d v) e u = setT (setT t e u) d v
  | [], _, _, _, _, _ => rfl
  | _ :: _, 0, 0, _, _, h => (h rfl).elim
  | _ :: _, 0, e + 1, _, _, _ => rfl
  | _ :: _, d + 1, 0, _, _, _ => rfl
  | _ :: t, d + 1, e + 1, v, u, h => by simp only [setT, qPa t d e v u (fun x => h (by rw [x]))]
theorem qQ5 {t : List Value} {o : Oper} {v : Value} {e : Nat} (h : ∀ d, o.dst = some d → d ≠ e) : qA3 (qAZ t o.dst v) e = qA3 t e := by
  unfold qAZ
  split
  · rename_i d hd; exact qNE t d e v (h d hd)
  · rfl
theorem qIR {t : List Value} {x y : Oper} {v u : Value} (h : qMv x y = false) : qAZ (qAZ t x.dst v) y.dst u = qAZ (qAZ t y.dst u) x.dst v := by
  unfold qMv at h
  unfold qAZ
  cases hx : x.dst with
  | none => rfl
  | some d =>
    cases hy : y.dst with
    | none => rfl
    | some e =>
      rw [hx, hy] at h
      exact qPa t d e v u (fun x => by subst x; dsimp only at h; rw [Nat.beq_refl] at h; cases h)
theorem qMn {t : List Value} {o y : Oper} {v : Value} (h : qDg o (qFM y) = false) (x : Operand) (hx : x ∈ y.op.operands) : evO (qAZ t o.dst v) x = evO t x := by
  cases x with
  | tmp i =>
    refine qQ5 fun d hd e => ?_
    subst e
    exact qNH h d hd (qOJ (by simpa using hx))
  | _ => rfl
theorem qKB {t : List Value} {o y : Oper} {v : Value} (h : qDg o (qFM y) = false) (hs : qK4 y = true) : execOp (evO (qAZ t o.dst v)) y = execOp (evO t) y :=
  execOp_congr y (qSi hs) fun x hx => qMn h x hx
theorem qMX {all : List Oper} {t : List Value} {o y : Oper} {v : Value} (h : qDg o (qJQ all y) = false) : qD6 all (qAZ t o.dst v) y = qD6 all t y := by
  unfold qD6
  cases hg : y.guard with
  | none => rfl
  | some g =>
    obtain ⟨j, want⟩ := g
    dsimp only
    unfold qMd
    cases hd : qMt all j with
    | none => rfl
    | some d =>
      dsimp only
      rw [qQ5 fun d' hd' e => ?_]
      subst e
      refine qNH h d' hd' ?_
      unfold qJQ
      rw [hg]
      simp [hd]

/-! ### what may come up -/
def qBF (L : Nat) : List Edge → Bool
  | [] => true
  | e :: es => match Region.binds .any e with
    | true => match L.testBit e.on with
      | true => qBF L es
      | false => false
    | false => qBF L es
def qDX (L : Nat) (i : Nat) (o : Oper) : Bool := match L.testBit i with
  | true => false
  | false => qBF L o.after.toList
def qA4 (all : List Oper) (L i : Nat) : Bool := match all[i]? with
  | some o => qDX L i o
  | none => false
def qIF : Op → Bool
  | .load .. | .lookup .. => true
  | _ => false
def qM3 (tab : List Nat) : List Edge → Nat
  | [] => 0
  | e :: es => match Region.binds .any e with
    | true => (2 ^ e.on ||| tab.getD e.on 0) ||| qM3 tab es
    | false => qM3 tab es
def qDJ : List Nat → List Oper → List Nat
  | tab, [] => tab
  | tab, o :: os => qDJ (tab ++ [qM3 tab o.after.toList]) os
def qIK (all : List Oper) (L : Nat) : Prop := ∀ k o, all[k]? = some o → L.testBit k = true → qBF L o.after.toList = true
theorem qNU {all : List Oper} {L : Nat} {tab : List Nat} (hc : qIK all L) (ht : ∀ (k m : Nat) (o : Oper), tab[k]? = some m → all[k]? = some o → qBF L o.after.toList = true → ∀ x, m.testBit x = true → L.testBit x = true)
    (hl : tab.length ≤ all.length) : ∀ {es : List Edge}, qBF L es = true → ∀ x, (qM3 tab es).testBit x = true → L.testBit x = true
  | [], _, x, hx => by simp [qM3] at hx
  | e :: es, ha, x, hx => by
    unfold qBF at ha
    unfold qM3 at hx
    split at ha
    · rename_i hb
      split at ha
      · rename_i hon
        rw [hb] at hx
        dsimp only at hx
        rw [Nat.testBit_or, Nat.testBit_or, Bool.or_eq_true, Bool.or_eq_true] at hx
        rcases hx with (hx | hx) | hx
        · rw [Nat.testBit_two_pow] at hx
          have : e.on = x := by simpa using hx
          rw [← this]; exact hon
        · rw [List.getD_eq_getElem?_getD] at hx
          cases htab : tab[e.on]? with
          | none => rw [htab] at hx; simp at hx
          | some m =>
            rw [htab] at hx
            have hlt : e.on < tab.length := (List.getElem?_eq_some_iff.1 htab).1
            have hall : all[e.on]? = some all[e.on] := List.getElem?_eq_getElem (by omega)
            exact ht _ m _ htab hall (hc _ _ hall hon) x hx
        · exact qNU hc ht hl ha x hx
      · cases ha
    · rename_i hb
      rw [hb] at hx
      exact qNU hc ht hl ha x hx
theorem qPg {all : List Oper} {L : Nat} (hc : qIK all L) : ∀ (os : List Oper) (tab : List Nat), all = all.take tab.length ++ os → tab.length ≤ all.length →
    (∀ (k m : Nat) (o : Oper), tab[k]? = some m → all[k]? = some o → qBF L o.after.toList = true → ∀ x, m.testBit x = true → L.testBit x = true) →
    ∀ (k m : Nat) (o : Oper), (qDJ tab os)[k]? = some m → all[k]? = some o → qBF L o.after.toList = true → ∀ x, m.testBit x = true → L.testBit x = true
  | [], tab, _, _, ht => ht
  | o' :: os, tab, he, hl, ht => by
    unfold qDJ
    have hlen : all.length = tab.length + (os.length + 1) := by
      have := congrArg List.length he
      simp at this
      omega
    have ho' : all[tab.length]? = some o' := by
      have h1 : (all.take tab.length).length = tab.length := by simp; omega
      rw [he, List.getElem?_append_right (by omega), h1, Nat.sub_self]
      rfl
    refine qPg hc os _ ?_ (by simp; omega) ?_
    · rw [List.length_append, List.length_singleton, List.take_add_one, ho']
      simpa using he
    · intro k m o hk ho ha x hx
      by_cases hkl : k < tab.length
      · rw [List.getElem?_append_left hkl] at hk
        exact ht k m o hk ho ha x hx
      · have hke : k = tab.length := by
          have := (List.getElem?_eq_some_iff.1 hk).1
          simp at this
          omega
        subst hke
        rw [List.getElem?_append_right (Nat.le_refl _)] at hk
        simp at hk
        subst hk
        rw [ho'] at ho
        cases ho
        exact qNU hc ht hl ha x hx
theorem qQf {all : List Oper} {L : Nat} (hc : qIK all L) {k : Nat} {o : Oper} (ho : all[k]? = some o) (ha : qBF L o.after.toList = true) (x : Nat)
    (hx : ((qDJ [] all).getD k 0).testBit x = true) : L.testBit x = true := by
  rw [List.getD_eq_getElem?_getD] at hx
  cases h : (qDJ [] all)[k]? with
  | none => rw [h] at hx; simp at hx
  | some m =>
    rw [h] at hx
    exact qPg hc all [] (by simp) (by simp) (fun k m o hk => by simp at hk) k m o h ho ha x hx

def qA5 (L i : Nat) : Nat := L ||| 2 ^ i
theorem qMf (L i : Nat) : (qA5 L i).testBit i = true := by unfold qA5; simp
theorem qF5 {L i j : Nat} (h : i ≠ j) : (qA5 L i).testBit j = L.testBit j := by
  unfold qA5
  rw [Nat.testBit_or, Nat.testBit_two_pow]
  simp [h]
theorem qJl (L i j : Nat) : qA5 (qA5 L i) j = qA5 (qA5 L j) i := by unfold qA5; rw [Nat.or_assoc, Nat.or_comm (2 ^ i), Nat.or_assoc]
theorem qFk {L i : Nat} : ∀ {es : List Edge}, qBF L es = true → qBF (qA5 L i) es = true
  | [], _ => rfl
  | e :: es, h => by
    unfold qBF at h ⊢
    split at h
    · rename_i hb
      split at h
      · rename_i hl
        have : (qA5 L i).testBit e.on = true := by
          by_cases hi : i = e.on
          · subst hi; exact qMf L _
          · rw [qF5 hi]; exact hl
        rw [this]
        exact qFk h
      · cases h
    · rename_i hb
      exact qFk h
theorem qER {all : List Oper} {L i j : Nat} (h : qA4 all L j = true) (hne : j ≠ i) : qA4 all (qA5 L i) j = true := by
  unfold qA4 qDX at h ⊢
  split at h
  · rename_i o ho
    split at h
    · cases h
    · rename_i hl
      rw [qF5 (Ne.symm hne), hl]
      exact qFk h
  · cases h

theorem qFD {all : List Oper} {L j : Nat} (hc : qIK all L) (hr : qA4 all L j = true) : qIK all (qA5 L j) := by
  intro k o hk hl
  by_cases hkj : j = k
  · subst hkj
    unfold qA4 qDX at hr
    rw [hk] at hr
    dsimp only at hr
    split at hr
    · cases hr
    · exact qFk hr
  · rw [qF5 hkj] at hl
    exact qFk (hc k o hk hl)
def StepA (P : Program) (all : List Oper) (i : Nat) (t : List Value) (h : Heap) (K : List Value → Heap → Prop) : Prop := match all[i]? with
  | none => K t h
  | some o => (qD6 all t o = true → SOp P (evO t) o h fun v h' => K (qAZ t o.dst v) h') ∧ (qD6 all t o = false → K (qAZ t o.dst undef) h)
theorem StepA.mono {all : List Oper} {i : Nat} {t : List Value} {h : Heap} {K K' : List Value → Heap → Prop} (k : StepA P all i t h K) (m : ∀ t h, K t h → K' t h) : StepA P all i t h K' := by
  unfold StepA at *
  split at k
  · exact m _ _ k
  · exact ⟨fun e => (k.1 e).mono fun _ _ x => m _ _ x, fun e => m _ _ (k.2 e)⟩
/-! ### where a reading operation looks -/
def qKn (m : Nat) (l : List Nat) : Nat → List Oper → Bool
  | _, [] => true
  | k, y :: ys => match qDg y l with
    | false => qKn m l (k + 1) ys
    | true => match m.testBit k with
      | true => qKn m l (k + 1) ys
      | false => false
theorem qNx {m : Nat} {l : List Nat} : ∀ {ys : List Oper} {k : Nat}, qKn m l k ys = true → ∀ j y, ys[j]? = some y → qDg y l = false ∨ m.testBit (k + j) = true
  | [], _, _, _, _, h => by simp at h
  | y' :: ys, k, hf, j, y, hj => by
    unfold qKn at hf
    cases j with
    | zero =>
      simp at hj
      subst hj
      split at hf
      · rename_i e; exact .inl e
      · split at hf
        · rename_i e; exact .inr e
        · cases hf
    | succ j =>
      have key : qKn m l (k + 1) ys = true → qDg y l = false ∨ m.testBit (k + (j + 1)) = true := fun hf' => by
        have := qNx hf' j y (by simpa using hj)
        rw [show k + (j + 1) = k + 1 + j from by omega]; exact this
      split at hf
      · exact key hf
      · split at hf
        · exact key hf
        · cases hf
def qF1 (all : List Oper) (i : Nat) (o : Oper) (t : List Value) : Option Nat := match o.op with
  | .load _ a => match qKn ((qDJ [] all).getD i 0) (qFM o) 0 all with
    | true => match evO t a with
      | .pointer (some ad) => some ad.block
      | _ => none
    | false => none
  | _ => none
theorem qO8 {all : List Oper} {i : Nat} {o y : Oper} {t : List Value} {v : Value} (h : qDg y (qFM o) = false) : qF1 all i o (qAZ t y.dst v) = qF1 all i o t := by
  unfold qF1
  cases ho : o.op <;> try rfl
  case load e a =>
    dsimp only
    rw [qMn h a (by rw [ho]; simp [Op.operands])]
theorem qOC {all : List Oper} {i k : Nat} {o y : Oper} {t : List Value} {v : Value} (hk : all[k]? = some y) (hb : ((qDJ [] all).getD i 0).testBit k = false) : qF1 all i o (qAZ t y.dst v) = qF1 all i o t := by
  cases hf : qKn ((qDJ [] all).getD i 0) (qFM o) 0 all with
  | true =>
    rcases qNx hf k y hk with e | e
    · exact qO8 e
    · rw [Nat.zero_add, hb] at e; cases e
  | false =>
    unfold qF1
    rw [hf]
def KeepO (all : List Oper) (i : Nat) (o : Oper) (t : List Value) (h h' : Heap) : Prop := match qF1 all i o t with
  | some b => ∀ x, h b = some x → h' b = some x
  | none => h.le h'
theorem KeepO.of_le {all : List Oper} {i : Nat} {o : Oper} {t : List Value} {h h' : Heap} (l : h.le h') : KeepO all i o t h h' := by
  unfold KeepO
  split
  · exact fun x e => l _ x e
  · exact l
theorem KeepO.congr {all : List Oper} {i : Nat} {o : Oper} {t t' : List Value} {h h' : Heap} (k : KeepO all i o t h h') (e : qF1 all i o t' = qF1 all i o t) : KeepO all i o t' h h' := by
  unfold KeepO at *
  rw [e]; exact k
def KeepC (all : List Oper) (j L : Nat) (t : List Value) (h h' : Heap) : Prop :=
  ∀ i o, all[i]? = some o → qIF o.op = true → i ≠ j → (L.testBit i = true ∨ qA4 all L i = true) → ((qDJ [] all).getD j 0).testBit i = false → KeepO all i o t h h'
theorem KeepC.of_le {all : List Oper} {j L : Nat} {t : List Value} {h h' : Heap} (l : h.le h') : KeepC all j L t h h' := fun _ _ _ _ _ _ _ => KeepO.of_le l
def Heap.only (h : Heap) (b : Nat) : Heap := fun x => match Nat.beq x b with
  | true => h x
  | false => none
theorem qW5 (h : Heap) (b : Nat) : (h.only b).le h := fun x o e => by
  unfold Heap.only at e
  split at e
  · exact e
  · cases e
theorem qPI (h : Heap) (b o : Nat) : (h.only b).cell b o = h.cell b o := by
  unfold Heap.cell Heap.only
  rw [Nat.beq_refl]
def qIu (all : List Oper) (i : Nat) (o : Oper) (t : List Value) (h : Heap) : Heap := match qF1 all i o t with
  | some b => h.only b
  | none => h
theorem qVV (all : List Oper) (i : Nat) (o : Oper) (t : List Value) (h : Heap) : (qIu all i o t h).le h := by
  unfold qIu
  split
  · exact qW5 _ _
  · exact h.le_refl
theorem qSr {all : List Oper} {i : Nat} {o : Oper} {t : List Value} {h h' : Heap} (k : KeepO all i o t h h') : (qIu all i o t h).le (qIu all i o t h') := by
  unfold qIu
  unfold KeepO at k
  split
  · rename_i b e
    rw [e] at k
    intro x y hx
    unfold Heap.only at hx ⊢
    split at hx
    · rename_i hb
      have := Nat.eq_of_beq_eq_true hb
      subst this
      exact k y hx
    · cases hx
  · rename_i e
    rw [e] at k
    exact k
def qMV (P : Program) (all : List Oper) (J : List Value → Heap → Prop) : Nat → Nat → List Value → Heap → Prop
  | 0, L, t, h => (∀ i, qA4 all L i = false) ∧ J t h
  | f + 1, L, t, h => ((∀ i, qA4 all L i = false) → J t h) ∧
    ∀ i, qA4 all L i = true → StepA P all i t h fun t' h' => KeepC all i L t h h' ∧ qMV P all J f (qA5 L i) t' h'

def QOp (P : Program) (all : List Oper) (i : Nat) (t : List Value) (o : Oper) (h : Heap) (v : Value) : Prop :=
  (qD6 all t o = true ∧ ∀ w, (qIF o.op = true → Rep (qIu all i o t h) w) → (execOp (evO t) o).run P w = .ok (.value v) w) ∨ (qD6 all t o = false ∧ v = undef)
theorem QOp.step {all : List Oper} {i : Nat} {t : List Value} {o : Oper} {h : Heap} {v : Value} (hi : all[i]? = some o) (q : QOp P all i t o h v) {K : List Value → Heap → Prop} (k : K (qAZ t o.dst v) h) :
    StepA P all i t h K := by
  unfold StepA
  rw [hi]
  dsimp only
  rcases q with ⟨hw, q⟩ | ⟨hw, rfl⟩
  · exact ⟨fun _ w r => by rw [q w (fun _ => r.le (qVV _ _ _ _ _))]; exact ⟨h, k, r, Fr.refl _ _⟩, fun e => by rw [hw] at e; cases e⟩
  · exact ⟨fun e => (by rw [hw] at e; cases e), fun _ => k⟩
theorem QOp.keep {all : List Oper} {i : Nat} {t : List Value} {o y : Oper} {h h' : Heap} {v u : Value} (q : QOp P all i t o h v) (hap : qFv all o y = true) (hh : qIF o.op = true → KeepO all i o t h h') :
    QOp P all i (qAZ t y.dst u) o h' v := by
  obtain ⟨_, _, a3, a4, _, a6, _⟩ := qH8 hap
  unfold QOp at *
  rw [qMX a4, qKB a3 a6]
  rcases q with ⟨hw, q⟩ | q
  · refine .inl ⟨hw, fun w r => q w fun e => ?_⟩
    have r := r e
    have ea := qO8 (all := all) (i := i) (t := t) (v := u) a3
    unfold qIu at r
    rw [ea] at r
    exact r.le (qSr (hh e))
  · exact .inr q
theorem qUb {all : List Oper} {j : Nat} {t : List Value} {o y : Oper} {h : Heap} {v : Value} {K : List Value → Heap → Prop} (hj : all[j]? = some y) (hap : qFv all o y = true)
    (k : StepA P all j (qAZ t o.dst v) h K) : StepA P all j t h fun t' h' => (∃ u, t' = qAZ t y.dst u) ∧ K (qAZ t' o.dst v) h' := by
  obtain ⟨a1, a2, _, _, a5, _, a7⟩ := qH8 hap
  unfold StepA at *
  rw [hj] at *
  dsimp only at *
  rw [qMX a2] at k
  constructor
  · intro hw
    have k1 := k.1 hw
    unfold SOp at *
    rw [qKB a1 a7] at k1
    exact fun w r => qKw (fun u h' x => ⟨⟨u, rfl⟩, by rw [← qIR a5]; exact x⟩) (k1 w r)
  · intro hw
    exact ⟨⟨undef, rfl⟩, by rw [← qIR a5]; exact k.2 hw⟩

def qD4 (i : Nat) : List Edge → Bool
  | [] => false
  | e :: es => match Region.binds .any e, Nat.beq e.on i with
    | true, true => true
    | _, _ => qD4 i es
def qIs (all : List Oper) (L i : Nat) (o : Oper) : Nat → List Oper → Bool
  | _, [] => true
  | j, y :: ys => match Nat.beq j i, L.testBit j with
    | false, false => match qD4 i y.after.toList with
      | true => qIs all L i o (j + 1) ys
      | false => match qFv all o y with
        | true => qIs all L i o (j + 1) ys
        | false => false
    | _, _ => qIs all L i o (j + 1) ys
theorem qJg {L i : Nat} : ∀ {es : List Edge}, qD4 i es = true → L.testBit i = false → qBF L es = false
  | [], h, _ => by cases h
  | e :: es, h, hl => by
    unfold qD4 at h
    unfold qBF
    split at h
    · rename_i h1 h2
      have := Nat.eq_of_beq_eq_true h2
      rw [h1, this, hl]
    · split
      · split
        · exact qJg h hl
        · rfl
      · exact qJg h hl
theorem qNs {all : List Oper} {L i : Nat} {o : Oper} : ∀ {ys : List Oper} {k : Nat}, qIs all L i o k ys = true → ∀ j y, ys[j]? = some y → k + j ≠ i → L.testBit (k + j) = false →
    qD4 i y.after.toList = false → qFv all o y = true
  | [], _, _, _, _, h, _, _, _ => by simp at h
  | y' :: ys, k, hf, j, y, hj, hne, hl, hw => by
    unfold qIs at hf
    cases j with
    | zero =>
      simp at hj
      subst hj
      have hb : Nat.beq k i = false := by
        cases e : Nat.beq k i with
        | false => rfl
        | true => exact (hne (Nat.eq_of_beq_eq_true e)).elim
      rw [Nat.add_zero] at hl
      rw [hb, hl] at hf
      dsimp only at hf
      rw [hw] at hf
      dsimp only at hf
      split at hf
      · assumption
      · cases hf
    | succ j =>
      have key : qIs all L i o (k + 1) ys = true → qFv all o y = true := fun hf' =>
        qNs hf' j y (by simpa using hj) (by omega) (by rw [show k + 1 + j = k + (j + 1) from by omega]; exact hl) hw
      split at hf
      · split at hf
        · exact key hf
        · split at hf
          · exact key hf
          · cases hf
      · exact key hf
theorem qK3 {all : List Oper} {J : List Value → Heap → Prop} {i : Nat} {o : Oper} {v : Value} (hi : all[i]? = some o) : ∀ (f L : Nat) (t : List Value) (h : Heap), qIK all L →
    (∀ j y, all[j]? = some y → j ≠ i → L.testBit j = false → qD4 i y.after.toList = false → qFv all o y = true) →
    qA4 all L i = true → QOp P all i t o h v → qMV P all J f (qA5 L i) (qAZ t o.dst v) h → qMV P all J (f + 1) L t h
  | 0, L, t, h, _, hfree, hr, q, H => by
    refine ⟨fun hn => (by rw [hn i] at hr; cases hr), fun j hj => ?_⟩
    by_cases hji : j = i
    · subst hji; exact q.step hi ⟨KeepC.of_le h.le_refl, H⟩
    · have := qER (i := i) hj hji
      rw [H.1 j] at this; cases this
  | f + 1, L, t, h, hc, hfree, hr, q, H => by
    refine ⟨fun hn => (by rw [hn i] at hr; cases hr), fun j hj => ?_⟩
    by_cases hji : j = i
    · subst hji; exact q.step hi ⟨KeepC.of_le h.le_refl, H⟩
    · have h1 := H.2 j (qER hj hji)
      obtain ⟨y, hy⟩ : ∃ y, all[j]? = some y := by
        unfold qA4 at hj
        cases e : all[j]? with
        | none => rw [e] at hj; cases hj
        | some y => exact ⟨y, rfl⟩
      have hLi : L.testBit i = false := by
        unfold qA4 qDX at hr
        rw [hi] at hr
        dsimp only at hr
        split at hr
        · cases hr
        · rename_i e; exact e
      have hLj : L.testBit j = false ∧ qBF L y.after.toList = true := by
        have hj' := hj
        unfold qA4 qDX at hj'
        rw [hy] at hj'
        dsimp only at hj'
        split at hj'
        · cases hj'
        · rename_i e; exact ⟨e, hj'⟩
      have hnw : qD4 i y.after.toList = false := by
        cases e : qD4 i y.after.toList with
        | false => rfl
        | true => have := qJg e hLi; rw [hLj.2] at this; cases this
      have hap := hfree j y hy hji hLj.1 hnw
      have hbef : ((qDJ [] all).getD j 0).testBit i = false := by
        cases e : ((qDJ [] all).getD j 0).testBit i with
        | false => rfl
        | true =>
          rw [qQf hc hy hLj.2 i e] at hLi
          cases hLi
      refine (qUb hy hap h1).mono fun t' h' x => ?_
      obtain ⟨⟨u, rfl⟩, x1, x2⟩ := x
      rw [qJl] at x2
      have kc : KeepC all j L t h h' := fun i' o' hi' hro hne hst hbj => by
        have aft : qBF L o'.after.toList = true := by
          rcases hst with e | e
          · exact hc i' o' hi' e
          · unfold qA4 at e
            rw [hi'] at e
            dsimp only at e
            unfold qDX at e
            split at e
            · cases e
            · exact e
        have nb : ((qDJ [] all).getD i' 0).testBit i = false := by
          cases e : ((qDJ [] all).getD i' 0).testBit i with
          | false => rfl
          | true =>
            rw [qQf hc hi' aft i e] at hLi
            cases hLi
        refine (x1 i' o' hi' hro hne ?_ hbj).congr (qOC hi nb).symm
        by_cases e : i' = i
        · subst e; exact .inl (qMf L _)
        · rcases hst with e2 | e2
          · left; rw [qF5 (Ne.symm e)]; exact e2
          · exact .inr (qER e2 e)
      have ko : qIF o.op = true → KeepO all i o t h h' := fun hro => kc i o hi hro (Ne.symm hji) (.inr hr) hbef
      refine ⟨kc, qK3 hi f (qA5 L j) _ h' (qFD hc hj) (fun k z hz hki hl hw => hfree k z hz hki ?_ hw) (qER hr (Ne.symm hji)) (q.keep hap ko) x2⟩
      by_cases hjk : j = k
      · subst hjk; exact hLj.1
      · rw [qF5 hjk] at hl; exact hl
/-! ### soundness against the kit's 'whatever order' -/
def qTG (ops : Array Oper) (arr : Array Bool) (L : Nat) : Prop := arr.size = ops.size ∧ ∀ j, j < ops.size → arr[j]? = some (L.testBit j)
theorem qOS {ops : Array Oper} {arr : Array Bool} {L : Nat} (hc : qTG ops arr L) (hin : ∀ j, ops.size ≤ j → L.testBit j = false) : ∀ (es : List Edge),
    (es.all fun e => !Region.binds .any e || arr.getD e.on false) = qBF L es
  | [] => rfl
  | e :: es => by
    rw [List.all_cons, qOS hc hin es, qBF]
    have hg : arr.getD e.on false = L.testBit e.on := by
      by_cases h : e.on < ops.size
      · have := hc.2 e.on h
        rw [Array.getD_eq_getD_getElem?, this]; rfl
      · rw [hin _ (by omega), Array.getD_eq_getD_getElem?, Array.getElem?_eq_none (by rw [hc.1]; omega)]; rfl
    rw [hg]
    cases Region.binds .any e <;> cases L.testBit e.on <;> simp
theorem qMU {ops : Array Oper} {arr : Array Bool} {L : Nat} (hc : qTG ops arr L) (hin : ∀ j, ops.size ≤ j → L.testBit j = false) (i : Nat) :
    i ∈ Region.ready .any ops arr ↔ qA4 ops.toList L i = true := by
  unfold Region.ready
  rw [List.mem_filter, List.mem_range]
  unfold qA4 qDX
  have e : ops.toList[i]? = ops[i]? := by simp
  rw [e]
  by_cases h : i < ops.size
  · have hg : arr.getD i true = L.testBit i := by
      rw [Array.getD_eq_getD_getElem?, hc.2 i h]; rfl
    rw [hg, Array.getElem?_eq_getElem h]
    simp only [h, true_and, Option.map_some, Option.getD_some, Bool.and_eq_true, Bool.not_eq_true']
    have e2 : (ops[i].after.all fun e => !Region.binds .any e || arr.getD e.on false) = qBF L ops[i].after.toList := by
      rw [← qOS hc hin, Array.all_toList]
    rw [e2]
    cases L.testBit i <;> simp
  · rw [Array.getElem?_eq_none (by omega)]
    simp [h]
theorem qIx (ops : Array Oper) (J : List Value → Heap → Prop) (h0 : Heap) (w0 : World) : ∀ (f L : Nat) (arr : Array Bool) (t : List Value) (h : Heap) (w : World),
    qTG ops arr L → (∀ j, ops.size ≤ j → L.testBit j = false) → qMV P ops.toList J f L t h → Rep h w → Fr h0 w0 h w →
    wpAny P .any ops (qQz J h0 w0) f arr ⟨t.toArray, []⟩ w
  | 0, L, arr, t, h, w, hc, hin, k, r, f => by
    refine ⟨?_, rfl, t, h, rfl, k.2, r, f⟩
    refine List.eq_nil_iff_forall_not_mem.2 fun i hi => ?_
    rw [qMU hc hin, k.1 i] at hi
    cases hi
  | n + 1, L, arr, t, h, w, hc, hin, k, r, f => by
    refine ⟨fun hn => ⟨rfl, t, h, rfl, k.1 fun i => ?_, r, f⟩, fun i hi => ?_⟩
    · cases e : qA4 ops.toList L i with
      | false => rfl
      | true => rw [← qMU hc hin, hn] at e; cases e
    · have hr := (qMU hc hin i).1 hi
      have k1 := k.2 i hr
      have hlt : i < ops.size := by
        have := (List.mem_filter.1 hi).1
        simpa using this
      have hop : ops[i]? = some ops[i] := Array.getElem?_eq_getElem hlt
      have hc' : qTG ops (arr.setIfInBounds i true) (qA5 L i) := by
        refine ⟨by simpa using hc.1, fun j hj => ?_⟩
        by_cases hij : i = j
        · subst hij
          rw [qMf, Array.getElem?_setIfInBounds_self_of_lt (by rw [hc.1]; exact hj)]
        · rw [qF5 hij, Array.getElem?_setIfInBounds_ne hij]
          exact hc.2 j hj
      have hin' : ∀ j, ops.size ≤ j → (qA5 L i).testBit j = false := fun j hj => by
        rw [qF5 (by omega)]; exact hin j hj
      unfold wpOp
      rw [hop]
      dsimp only
      rw [qMj]
      unfold StepA at k1
      have e : ops.toList[i]? = some ops[i] := by simp
      rw [e] at k1
      dsimp only at k1
      cases hw : qD6 ops.toList t ops[i] with
      | true =>
        simp only [if_true]
        refine .inl ((k1.1 hw).wp r fun v h' w' q r' f' => ?_)
        exact qIx ops J h0 w0 n _ _ _ h' w' hc' hin' q.2 r' (f.trans f')
      | false =>
        simp only [Bool.false_eq_true, if_false, qKf]
        exact qIx ops J h0 w0 n _ _ _ h w hc' hin' (k1.2 hw).2 r f

/-! ### the one order that stands for all -/
def qFz : Op → Bool
  | .alloc _ | .box .. | .buildSlice .. | .makeSlice .. => true
  | _ => false
def qJ1 (P : Program) (all : List Oper) (L : Nat) : Nat → List Oper → Option (Nat × Oper)
  | _, [] => none
  | i, o :: os => match qDp P o.op, qDX L i o with
    | true, true => match qIs all L i o 0 all with
      | true => some (i, o)
      | false => qJ1 P all L (i + 1) os
    | _, _ => qJ1 P all L (i + 1) os
def qFG (L : Nat) : Nat → List Oper → List (Nat × Oper)
  | _, [] => []
  | i, o :: os => match qDX L i o with
    | true => (i, o) :: qFG L (i + 1) os
    | false => qFG L (i + 1) os
def qCg (P : Program) (t : List Value) : Op → Option (Obj × (Nat → Value))
  | .alloc e => match qBT P e with
    | some z => some (.cells z.toArray e (0, 0), fun r => .pointer (some ⟨r, 0, none⟩))
    | none => none
  | .box e x => some (.cells (qCE (evO t x)).toArray e (0, 0), fun r => .pointer (some ⟨r, 0, none⟩))
  | .buildSlice ty len ps => match P.underlying ty with
    | some (.slice e) => match P.info? e, qBT P e with
      | some i, some z => match qJv (qFQ i.size 0 len) (q4 len z) (qIh t ps.toList) with
        | some cells => some (.cells cells.toArray e (0, 0), fun r => .slice (some ⟨r, 0, none⟩) len len)
        | none => none
      | _, _ => none
    | _ => none
  | .makeSlice ty l c => match evO t l, evO t c, P.underlying ty with
    | .int _ l, .int _ c, some (.slice e) => match qBT P e with
      | some z => some (.cells (q4 c.toNat z).toArray e (0, 0), fun r => .slice (some ⟨r, 0, none⟩) l.toNat c.toNat)
      | none => none
    | _, _, _ => none
  | _ => none
def qO0 (P : Program) (t : List Value) (op : Op) (X : Prop) : Prop := match op with
  | .alloc e => match qBT P e with
    | some _ => X
    | none => False
  | .box _ _ => X
  | .buildSlice ty len ps => match P.underlying ty with
    | some (.slice e) => match P.info? e, qBT P e with
      | some i, some z => match Nat.beq z.length i.size, Nat.ble (len * i.size) 16777216 with
        | true, true => match qJv (qFQ i.size 0 len) (q4 len z) (qIh t ps.toList) with
          | some _ => X
          | none => False
        | _, _ => False
      | _, _ => False
    | _ => False
  | .makeSlice ty l c => match evO t l, evO t c, P.underlying ty with
    | .int _ l, .int _ c, some (.slice e) => match P.info? e, qBT P e with
      | some i, some z => match Nat.beq z.length i.size with
        | true => 0 ≤ l ∧ l ≤ c ∧ c ≤ 281474976710656 ∧ (i.bytes : Int) * c ≤ 281474976710656 ∧ X
        | false => False
      | _, _ => False
    | _, _, _ => False
  | _ => False
def qN0 (all : List Oper) (L : Nat) : List (Nat × Oper) → Option ((Nat × Oper) × Option (Nat × Oper))
  | [x] => some (x, none)
  | [x, y] =>
    let c := match qFz x.2.op with | true => (match qFz y.2.op with | true => (x, y) | false => (y, x)) | false => (x, y)
    match qFz c.2.2.op, c.2.2.guard, qFv all c.2.2 c.1.2, qFG (qA5 L c.2.1) 0 all with
    | true, none, true, [_] => some (c.1, some c.2)
    | _, _, _, _ => none
  | _ => none
def qFf (bs : List Nat) (h h' : Heap) : Prop := ∀ b, b ∈ bs → ∀ x, h b = some x → h' b = some x
def qLe (all : List Oper) (c L m : Nat) (t : List Value) : Nat → List Oper → Option (List Nat)
  | _, [] => some []
  | k, o :: os => match qIF o.op, Nat.beq k c, m.testBit k with
    | true, false, false => match L.testBit k, qDX L k o with
      | false, false => qLe all c L m t (k + 1) os
      | _, _ => match qF1 all k o t with
        | some b => match qLe all c L m t (k + 1) os with
          | some bs => some (b :: bs)
          | none => none
        | none => none
    | _, _, _ => qLe all c L m t (k + 1) os
def qL5 (bs : Option (List Nat)) (h h' : Heap) (X : Prop) : Prop := match bs with
  | some [] => X
  | some (b :: r) => (h.le h' ∨ qFf (b :: r) h h') ∧ X
  | none => h.le h' ∧ X
def qIv (all : List Oper) (o : Oper) (i L : Nat) (t : List Value) : Option (List Nat) := match qFz o.op with
  | true => some []
  | false => qLe all i L ((qDJ [] all).getD i 0) t 0 all
theorem qPU {all : List Oper} {c L m : Nat} {t : List Value} {h h' : Heap} : ∀ {os : List Oper} {k : Nat} {bs : List Nat}, qLe all c L m t k os = some bs → qFf bs h h' →
    ∀ i o, os[i]? = some o → qIF o.op = true → k + i ≠ c → (L.testBit (k + i) = true ∨ qDX L (k + i) o = true) → m.testBit (k + i) = false → KeepO all (k + i) o t h h'
  | [], _, _, _, _, _, _, e, _, _, _, _ => by simp at e
  | o' :: os, k, bs, e, kp, i, o, hi, hr, hne, hst, hm => by
    unfold qLe at e
    have key : ∀ bs, qLe all c L m t (k + 1) os = some bs → qFf bs h h' → ∀ j, i = j + 1 → KeepO all (k + i) o t h h' := fun bs e kp j ej => by
      subst ej
      have hs : k + (j + 1) = k + 1 + j := by omega
      rw [hs] at hne hst hm ⊢
      exact qPU e kp j o (by simpa using hi) hr hne hst hm
    cases i with
    | succ j =>
      split at e
      · split at e
        · exact key _ e kp j rfl
        · split at e
          · split at e
            · rename_i b _ bs' e2
              cases e
              exact key _ e2 (fun b hb => kp b (List.mem_cons_of_mem _ hb)) j rfl
            · cases e
          · cases e
      · exact key _ e kp j rfl
    | zero =>
      simp at hi
      subst hi
      rw [Nat.add_zero] at hne hst hm ⊢
      have hb : Nat.beq k c = false := by
        cases e : Nat.beq k c with
        | false => rfl
        | true => exact (hne (Nat.eq_of_beq_eq_true e)).elim
      rw [hr, hb, hm] at e
      dsimp only at e
      split at e
      · rename_i e1 e2
        rcases hst with e3 | e3
        · rw [e3] at e1; cases e1
        · rw [e3] at e2; cases e2
      · split at e
        · rename_i b ea
          split at e
          · cases e
            unfold KeepO
            rw [ea]
            exact kp b (List.mem_cons_self ..)
          · cases e
        · cases e
theorem qTd {all : List Oper} {o : Oper} {i L : Nat} {t : List Value} {h h' : Heap} {X : Prop} (hn : qFz o.op = false) (k : qL5 (qIv all o i L t) h h' X) : KeepC all i L t h h' ∧ X := by
  unfold qIv at k
  rw [hn] at k
  dsimp only at k
  have main : ∀ bs, qLe all i L ((qDJ [] all).getD i 0) t 0 all = some bs → qFf bs h h' → KeepC all i L t h h' := fun bs e kp j y hy hr hne hst hm => by
    have := qPU e kp j y hy hr (by omega) (by
      rw [Nat.zero_add]
      rcases hst with e2 | e2
      · exact .inl e2
      · unfold qA4 at e2
        rw [hy] at e2
        exact .inr e2) (by rw [Nat.zero_add]; exact hm)
    rw [Nat.zero_add] at this
    exact this
  unfold qL5 at k
  split at k
  · rename_i e
    exact ⟨main _ e (fun b hb => by cases hb), k⟩
  · rename_i b r e
    rcases k.1 with l | kp
    · exact ⟨KeepC.of_le l, k.2⟩
    · exact ⟨main _ e kp, k.2⟩
  · exact ⟨KeepC.of_le k.1, k.2⟩
def qEk (P : Program) (all : List Oper) (J : List Value → Heap → Prop) : Nat → Nat → List Value → Heap → Prop
  | 0, L, t, h => match qFG L 0 all with
    | [] => J t h
    | _ => False
  | f + 1, L, t, h => match qJ1 P all L 0 all with
    | some (i, o) => qF6 all o t
        (fun t => opV P t o.op h fun v _ => qEk P all J f (qA5 L i) (qAZ t o.dst v) h)
        (fun t => qEk P all J f (qA5 L i) (qAZ t o.dst undef) h)
    | none => match qFG L 0 all with
      | [] => J t h
      | l => match qN0 all L l with
        | some ((i, o), none) => qF6 all o t
            (fun t => opA P t o h fun v h' => qL5 (qIv all o i L t) h h' (qEk P all J f (qA5 L i) (qAZ t o.dst v) h'))
            (fun t => qEk P all J f (qA5 L i) (qAZ t o.dst undef) h)
        | some ((i, o), some (_, y)) => match f with
          | 0 => False
          | f + 1 => qO0 P t y.op (qF6 all o t
            (fun t => opA P t o h fun v h' => qL5 (qIv all o i L t) h h' (qEk P all J (f + 1) (qA5 L i) (qAZ t o.dst v) h'))
            (fun t => qEk P all J (f + 1) (qA5 L i) (qAZ t o.dst undef) h))
        | none => False

theorem qNV {L : Nat} : ∀ {os : List Oper} {k i : Nat} {o : Oper}, os[i]? = some o → qDX L (k + i) o = true → (k + i, o) ∈ qFG L k os
  | [], _, _, _, h, _ => by simp at h
  | o' :: os, k, 0, o, h, hr => by
    simp at h
    subst h
    unfold qFG
    rw [Nat.add_zero] at hr ⊢
    rw [hr]
    simp
  | o' :: os, k, i + 1, o, h, hr => by
    have := qNV (k := k + 1) (i := i) (os := os) (o := o) (by simpa using h) (by rw [show k + 1 + i = k + (i + 1) from by omega]; exact hr)
    rw [show k + 1 + i = k + (i + 1) from by omega] at this
    unfold qFG
    split
    · exact List.mem_cons_of_mem _ this
    · exact this
theorem qRx {L : Nat} : ∀ {os : List Oper} {k i : Nat} {o : Oper}, (i, o) ∈ qFG L k os → k ≤ i ∧ os[i - k]? = some o ∧ qDX L i o = true
  | [], _, _, _, h => by simp [qFG] at h
  | o' :: os, k, i, o, h => by
    unfold qFG at h
    have rest : (i, o) ∈ qFG L (k + 1) os → k ≤ i ∧ (o' :: os)[i - k]? = some o ∧ qDX L i o = true := fun h => by
      obtain ⟨h1, h2, h3⟩ := qRx h
      refine ⟨by omega, ?_, h3⟩
      rw [show i - k = (i - (k + 1)) + 1 from by omega]
      simpa using h2
    split at h
    · rename_i hr
      rcases List.mem_cons.1 h with e | e
      · cases e
        exact ⟨Nat.le_refl _, by simp, hr⟩
      · exact rest e
    · exact rest h
theorem qL0 {all : List Oper} {L : Nat} (h : qFG L 0 all = []) (i : Nat) : qA4 all L i = false := by
  cases e : qA4 all L i with
  | false => rfl
  | true =>
    unfold qA4 at e
    split at e
    · rename_i o ho
      have := qNV (k := 0) (i := i) ho (by rw [Nat.zero_add]; exact e)
      rw [h] at this
      cases this
    · cases e
theorem qN8 {all : List Oper} {L : Nat} : ∀ {os : List Oper} {k i : Nat} {o : Oper}, qJ1 P all L k os = some (i, o) → k ≤ i ∧ os[i - k]? = some o ∧ qDp P o.op = true ∧ qDX L i o = true ∧ qIs all L i o 0 all = true
  | [], _, _, _, h => by simp [qJ1] at h
  | o' :: os, k, i, o, h => by
    unfold qJ1 at h
    have rest : qJ1 P all L (k + 1) os = some (i, o) → k ≤ i ∧ (o' :: os)[i - k]? = some o ∧ qDp P o.op = true ∧ qDX L i o = true ∧ qIs all L i o 0 all = true := fun h => by
      obtain ⟨h1, h2, h3⟩ := qN8 h
      refine ⟨by omega, ?_, h3⟩
      rw [show i - k = (i - (k + 1)) + 1 from by omega]
      simpa using h2
    split at h
    · rename_i h1 h2
      split at h
      · rename_i h3
        cases h
        exact ⟨Nat.le_refl _, by simp, h1, h2, h3⟩
      · exact rest h
    · exact rest h
theorem qVs {t : List Value} {op : Op} {h : Heap} {J : Value → Heap → Prop} (k : opV P t op h J) (hq : qDp P op = true) (hr : qIF op = false) : opV P t op (fun _ => none) (fun v _ => J v h) := by
  unfold opV at k ⊢
  split at k <;> first
    | exact k
    | (cases hq; done)
    | (cases hr; done)
    | skip
  case _ s d x =>
    cases hu : qSo P s d with
    | true => unfold qDp at hq; dsimp only at hq; rw [hu] at hq; cases hq
    | false =>
      have hq : qTD P s d = true := by unfold qDp at hq; dsimp only at hq; rw [hu] at hq; exact hq
      rw [hu] at k
      dsimp only at k ⊢
      unfold qTH at k ⊢
      rw [hq] at k ⊢
      exact k
  case _ b args ts =>
    unfold biV at k ⊢
    split at k <;> first
      | (cases hq; done)
      | exact k
      | skip
    split at k
    · rename_i t0 _ x0 _ ht hx
      dsimp only
      unfold qUl at k ⊢
      split at k
      · exact k
      · rename_i hu
        unfold qDp at hq
        dsimp only at hq
        rw [ht] at hq
        dsimp only at hq
        rw [hu] at hq
        cases hq
      · exact k
      · exact k
      · exact k.elim
    · exact k.elim
theorem qLf (h : Heap) (b : Nat) : ∀ (ss : List Sc) (o n : Nat) (K : List Value → Prop), qI2 ss (h.only b) b o n K = qI2 ss h b o n K
  | [], _, _, _ => rfl
  | s :: ss, o, n, K => by unfold qI2; simp only [qPI, qLf h b ss]
theorem qUF {t : TypeId} {h : Heap} {b o : Nat} {K : Value → Prop} (k : qNh P t h b o K) : qNh P t (h.only b) b o K := by
  unfold qNh at *
  simp only [qLf, qPI]
  exact k
theorem qYf {all : List Oper} {i : Nat} {t : List Value} {o : Oper} {h : Heap} {J : Value → Heap → Prop} (k : opV P t o.op h J) (hq : qDp P o.op = true) (hw : qD6 all t o = true) :
    ∃ v, QOp P all i t o h v ∧ J v h := by
  cases hr : qIF o.op with
  | true =>
    cases ha : qF1 all i o t with
    | none =>
      obtain ⟨v, e, q⟩ := qLz k hq
      exact ⟨v, .inl ⟨hw, fun w r => e w (by have := r hr; unfold qIu at this; rw [ha] at this; exact this)⟩, q⟩
    | some b =>
      have k2 : opV P t o.op (h.only b) fun v _ => J v h := by
        have ha2 := ha
        unfold qF1 at ha2
        split at ha2
        · rename_i e a ho
          split at ha2
          · split at ha2
            · rename_i ad hv
              cases ha2
              rw [ho] at k ⊢
              unfold opV at k ⊢
              dsimp only at k ⊢
              rw [hv] at k ⊢
              dsimp only at k ⊢
              obtain ⟨b, o', e1, k3⟩ := qAU k
              cases e1
              exact qUF k3
            · cases ha2
          · cases ha2
        · cases ha2
      obtain ⟨v, e, q⟩ := qLz k2 hq
      exact ⟨v, .inl ⟨hw, fun w r => e w (by have := r hr; unfold qIu at this; rw [ha] at this; exact this)⟩, q⟩
  | false =>
    obtain ⟨v, e, q⟩ := qLz (qVs k hq hr) hq
    exact ⟨v, .inl ⟨hw, fun w _ => e w (fun _ _ x => by cases x)⟩, q⟩
theorem qb {h : Heap} {r : Nat} {o : Obj} (e : h r = none) : h.le (h.ins r o) := fun x y hx => by
  unfold Heap.ins
  rw [if_neg (fun e2 => by rw [e2, e] at hx; cases hx)]
  exact hx
theorem qMx {h : Heap} {cells : List Value} {T : TypeId} {J : Nat → Heap → Prop} (k : qQ h cells T J) : qQ h cells T fun r h' => h.le h' ∧ J r h' :=
  fun r hr => ⟨qb hr, k r hr⟩
theorem qWV {t : List Value} {op : Op} {h : Heap} {J : Value → Heap → Prop} (k : opV P t op h J) (hn : qFz op = true) : opV P t op h fun v h' => h.le h' ∧ J v h' := by
  cases op <;> try (cases hn; done)
  case alloc e =>
    unfold opV qKS at *
    dsimp only at *
    split at k
    · exact qMx k
    · exact k.elim
  case box e x => exact qMx k
  case buildSlice e n ps =>
    unfold opV qI6 at *
    dsimp only at *
    repeat' split at k
    all_goals first
      | exact k.elim
      | exact qMx k
  case makeSlice e l c =>
    unfold opV qM4 at *
    dsimp only at *
    repeat' split at k
    all_goals first
      | exact k.elim
      | (exact ⟨k.1, k.2.1, k.2.2.1, k.2.2.2.1, qMx k.2.2.2.2⟩)
theorem qFB {all : List Oper} {L i : Nat} {o : Oper} (ho : all[i]? = some o) (hr : qDX L i o = true) : qA4 all L i = true := by
  unfold qA4; rw [ho]; exact hr
theorem qLp {all : List Oper} {L j : Nat} (h : qA4 all L j = true) : ∃ y, all[j]? = some y ∧ qDX L j y = true ∧ (j, y) ∈ qFG L 0 all := by
  unfold qA4 at h
  split at h
  · rename_i y hy
    have := qNV (k := 0) (i := j) hy (by rw [Nat.zero_add]; exact h)
    rw [Nat.zero_add] at this
    exact ⟨y, hy, h, this⟩
  · cases h
theorem qNd {L i : Nat} {o : Oper} (h : qDX L i o = true) : L.testBit i = false := by
  unfold qDX at h
  split at h
  · cases h
  · assumption
theorem qSn {L i : Nat} {o : Oper} (h : qDX L i o = true) : qBF L o.after.toList = true := by
  unfold qDX at h
  split at h
  · cases h
  · exact h
theorem qVQ {t : List Value} {op : Op} {h : Heap} {J : Value → Heap → Prop} (k : opV P t op h J) (hn : qFz op = true) :
    ∃ obj val, qCg P t op = some (obj, val) ∧ ∀ r, h r = none → J (val r) (h.ins r obj) := by
  cases op <;> try (cases hn; done)
  case alloc e =>
    unfold opV qKS at k
    dsimp only at k
    split at k
    · rename_i z hz
      exact ⟨_, _, by simp only [qCg, hz], k⟩
    · exact k.elim
  case box e x => exact ⟨_, _, rfl, k⟩
  case buildSlice e n ps =>
    unfold opV qI6 at k
    dsimp only at k
    split at k
    · rename_i e' hu
      split at k
      · rename_i i z hi hz
        split at k
        · rename_i h1 h2
          split at k
          · rename_i cells hc
            exact ⟨_, _, by simp only [qCg, hu, hi, hz, hc], k⟩
          · exact k.elim
        · exact k.elim
      · exact k.elim
    · exact k.elim
  case makeSlice e l c =>
    unfold opV qM4 at k
    dsimp only at k
    split at k
    · rename_i _ l' _ c' e' hl hc hu
      split at k
      · rename_i i z hi hz
        split at k
        · rename_i h1
          exact ⟨_, _, by simp only [qCg, hl, hc, hu, hz], k.2.2.2.2⟩
        · exact k.elim
      · exact k.elim
    · exact k.elim
theorem qTh {t : List Value} {op : Op} {X : Prop} (k : qO0 P t op X) : X ∧ ∃ obj val, qCg P t op = some (obj, val) ∧ ∀ h, opV P t op h fun v h' => ∃ r, h r = none ∧ v = val r ∧ h' = h.ins r obj := by
  cases op <;> try (exact k.elim)
  case alloc e =>
    unfold qO0 at k
    dsimp only at k
    split at k
    · rename_i z hz
      refine ⟨k, .cells z.toArray e (0, 0), fun r => .pointer (some ⟨r, 0, none⟩), by simp only [qCg, hz], fun h => ?_⟩
      simp only [opV, qKS, hz]
      exact fun r hr => ⟨r, hr, rfl, rfl⟩
    · exact k.elim
  case box e x => exact ⟨k, _, _, rfl, fun h r hr => ⟨r, hr, rfl, rfl⟩⟩
  case buildSlice e n ps =>
    unfold qO0 at k
    dsimp only at k
    split at k
    · rename_i e' hu
      split at k
      · rename_i i z hi hz
        split at k
        · rename_i h1 h2
          split at k
          · rename_i cells hc
            refine ⟨k, .cells cells.toArray e' (0, 0), fun r => .slice (some ⟨r, 0, none⟩) n n, by simp only [qCg, hu, hi, hz, hc], fun h => ?_⟩
            simp only [opV, qI6, hu, hi, hz, h1, h2, hc]
            exact fun r hr => ⟨r, hr, rfl, rfl⟩
          · exact k.elim
        · exact k.elim
      · exact k.elim
    · exact k.elim
  case makeSlice e l c =>
    unfold qO0 at k
    dsimp only at k
    split at k
    · rename_i _ l' _ c' e' hl hc hu
      split at k
      · rename_i i z hi hz
        split at k
        · rename_i h1
          refine ⟨k.2.2.2.2, .cells (q4 c'.toNat z).toArray e' (0, 0), fun r => .slice (some ⟨r, 0, none⟩) l'.toNat c'.toNat, by simp only [qCg, hl, hc, hu, hz], fun h => ?_⟩
          simp only [opV, qM4, hl, hc, hu, hi, hz, h1]
          exact ⟨k.1, k.2.1, k.2.2.1, k.2.2.2.1, fun r hr => ⟨r, hr, rfl, rfl⟩⟩
        · exact k.elim
      · exact k.elim
    · exact k.elim
theorem qQR {t : List Value} {o y : Oper} {v : Value} (h : qDg o (qFM y) = false) : ∀ (ps : List (Nat × Operand)), (∀ x ∈ ps, x.2 ∈ y.op.operands) → qIh (qAZ t o.dst v) ps = qIh t ps
  | [], _ => rfl
  | (i, x) :: ps, hm => by
    unfold qIh
    rw [qMn h x (hm (i, x) (List.mem_cons_self ..)), qQR h ps fun z hz => hm z (List.mem_cons_of_mem _ hz)]
theorem qKJ {t : List Value} {o y : Oper} {v : Value} (h : qDg o (qFM y) = false) : qCg P (qAZ t o.dst v) y.op = qCg P t y.op := by
  have key : ∀ x, x ∈ y.op.operands → evO (qAZ t o.dst v) x = evO t x := fun x hx => qMn h x hx
  have keyP : ∀ (ps : List (Nat × Operand)), (∀ x ∈ ps, x.2 ∈ y.op.operands) → qIh (qAZ t o.dst v) ps = qIh t ps := fun ps hm => qQR h ps hm
  cases ho : y.op <;> try rfl
  case box e x => simp only [qCg, key x (by rw [ho]; simp [Op.operands])]
  case buildSlice e n ps =>
    simp only [qCg, keyP ps.toList (fun x hx => by
      rw [ho]
      simp only [Op.operands]
      simp
      exact ⟨x.1, by simpa using hx⟩)]
  case makeSlice e l c =>
    simp only [qCg, key l (by rw [ho]; simp [Op.operands]), key c (by rw [ho]; simp [Op.operands])]
theorem SOp.frame1 {ρ : Operand → Value} {o : Oper} {h : Heap} {K : Value → Heap → Prop} {r : Nat} {obj : Obj} (k : SOp P ρ o h K) (hr : h r = none) :
    SOp P ρ o (h.ins r obj) fun v h'' => ∃ h', K v h' ∧ h' r = none ∧ h'' = h'.ins r obj := by
  intro w rw'
  have r0 : Rep h w := rw'.le (qb hr)
  have hw : w.heap[r]? = some obj := rw' r obj (by unfold Heap.ins; rw [if_pos rfl])
  have hlt : r < w.heap.size := (Array.getElem?_eq_some_iff.1 hw).1
  have main : ∀ {v : Value} {h' : Heap} {w' : World}, K v h' → Rep h' w' → Fr h w h' w' → ∃ h'', (∃ h', K v h' ∧ h' r = none ∧ h'' = h'.ins r obj) ∧ Rep h'' w' ∧ Fr (h.ins r obj) w h'' w' := by
    intro v h' w' kk r' f
    have hn : h' r = none := f.dom r hlt hr
    refine ⟨h'.ins r obj, ⟨h', kk, hn, rfl⟩, ?_, ?_⟩
    · intro x y hx
      unfold Heap.ins at hx
      by_cases hxr : x = r
      · rw [if_pos hxr] at hx
        rw [hxr, f.keep r hlt hr, hw]; exact hx
      · rw [if_neg hxr] at hx; exact r' _ _ hx
    · refine ⟨f.os, f.tape, f.output, f.size, (f.more (qb hr)).keep, fun x hx hxn => ?_⟩
      unfold Heap.ins at hxn ⊢
      by_cases hxr : x = r
      · rw [if_pos hxr] at hxn; cases hxn
      · rw [if_neg hxr] at hxn ⊢
        exact f.dom x hx hxn
  have k1 := k w r0
  unfold resOK at k1 ⊢
  split at k1
  · obtain ⟨h', a, b, c⟩ := k1; exact main a b c
  · obtain ⟨h', a, b, c⟩ := k1; exact main a b c
  · refine k1.mono fun e w'' ⟨v, h', e1, a, b, c⟩ => ?_
    obtain ⟨h'', x, y, z⟩ := main a b c
    exact ⟨v, h'', e1, x, y, z⟩
  · exact k1.elim
theorem qXz {h h' : Heap} {r : Nat} {obj : Obj} (l : h.le h') : (h.ins r obj).le (h'.ins r obj) := fun x y hx => by
  unfold Heap.ins at hx ⊢
  by_cases hxr : x = r
  · rw [if_pos hxr] at hx ⊢; exact hx
  · rw [if_neg hxr] at hx ⊢; exact l _ _ hx
theorem qIr {all : List Oper} {L : Nat} {l : List (Nat × Oper)} {c : Nat × Oper} {n : Option (Nat × Oper)} (h : qN0 all L l = some (c, n)) :
    (n = none ∧ l = [c]) ∨ ∃ y, n = some y ∧ (l = [c, y] ∨ l = [y, c]) ∧ qFz y.2.op = true ∧ y.2.guard = none ∧ qFv all y.2 c.2 = true ∧ (qFG (qA5 L y.1) 0 all).length = 1 := by
  unfold qN0 at h
  split at h
  · cases h; exact .inl ⟨rfl, rfl⟩
  · rename_i x y
    dsimp only at h
    split at h
    · rename_i z h1 h2 h3 h4
      cases h
      refine .inr ⟨_, rfl, ?_, h1, h2, h3, by rw [h4]; rfl⟩
      split
      · split
        · exact .inl rfl
        · exact .inr rfl
      · exact .inl rfl
    · cases h
  · cases h
theorem qM2 {t : List Value} {o : Oper} {h : Heap} {J : Value → Heap → Prop} (hn : qFz o.op = true) : opA P t o h J = opV P t o.op h J := by
  have hcv : qKQ o.op = none := by cases ho : o.op <;> rw [ho] at hn <;> first | rfl | cases hn
  unfold opA
  rw [hcv]
theorem qQc {all : List Oper} {o : Oper} {i L : Nat} {t : List Value} {h h' : Heap} {X : Prop} (hn : qFz o.op = true) (x : qL5 (qIv all o i L t) h h' X) : X := by
  unfold qIv at x
  rw [hn] at x; exact x

theorem qF4 {all : List Oper} {J : List Value → Heap → Prop} : ∀ (f L : Nat) (t : List Value) (h : Heap), qIK all L → qEk P all J f L t h →
    qMV P all J f L t h ∧ ∀ (g i : Nat) (o : Oper) (obj : Obj) (val : Nat → Value) (r : Nat), f = g + 1 → all[i]? = some o → qFz o.op = true → o.guard = none → qDX L i o = true →
      qCg P t o.op = some (obj, val) → h r = none → qMV P all J g (qA5 L i) (qAZ t o.dst (val r)) (h.ins r obj)
  | 0, L, t, h, _, k => by
    refine ⟨?_, fun g i o obj val r e => by omega⟩
    unfold qEk at k
    split at k
    · rename_i hn; exact ⟨qL0 hn, k⟩
    · exact k.elim
  | f + 1, L, t, h, hc, k => by
    unfold qEk at k
    split at k
    · -- a quiet one
      rename_i q o hp
      obtain ⟨_, hi, hq, hr, hfree⟩ := qN8 hp
      rw [Nat.sub_zero] at hi
      have hra := qFB hi hr
      obtain ⟨v, hQ, k1⟩ : ∃ v, QOp P all q t o h v ∧ qEk P all J f (qA5 L q) (qAZ t o.dst v) h := by
        refine (qFu k).elim (fun ⟨hw, k⟩ => ?_) (fun ⟨hw, k⟩ => ⟨undef, .inr ⟨hw, rfl⟩, k⟩)
        obtain ⟨v, q, k⟩ := qYf (all := all) (i := q) k hq hw
        exact ⟨v, q, k⟩
      have ih := qF4 f _ _ h (qFD hc hra) k1
      have hfree' : ∀ j y, all[j]? = some y → j ≠ q → L.testBit j = false → qD4 q y.after.toList = false → qFv all o y = true := fun j y hj hne hl hwt =>
        qNs (k := 0) hfree j y hj (by omega) (by rw [Nat.zero_add]; exact hl) hwt
      refine ⟨qK3 hi f L t h hc hfree' hra hQ ih.1, fun g i y obj val r e hy hn hgu hry hnf hrn => ?_⟩
      have hqi : q ≠ i := by
        rintro rfl
        rw [hi] at hy
        cases hy
        cases ho : o.op <;> rw [ho] at hq hn <;> first | (cases hn; done) | (cases hq; done)
      have hLq : L.testBit q = false := qNd hr
      have hLi : L.testBit i = false := qNd hry
      have hwq : qD4 q y.after.toList = false := by
        cases e : qD4 q y.after.toList with
        | false => rfl
        | true => have := qJg e hLq; rw [qSn hry] at this; cases this
      have hap := hfree' i y hy (Ne.symm hqi) hLi hwq
      obtain ⟨a1, _, _, _, a5, _, _⟩ := qH8 hap
      cases g with
      | zero =>
        exfalso
        have : f = 0 := by omega
        subst this
        have h0 := ih.1.1 i
        rw [qER (qFB hy hry) (Ne.symm hqi)] at h0
        cases h0
      | succ g =>
        have h2 := ih.2 g i y obj val r (by omega) hy hn hgu (by
          have := qER (i := q) (qFB hy hry) (Ne.symm hqi)
          unfold qA4 at this
          rw [hy] at this
          exact this) (by rw [qKJ a1]; exact hnf) hrn
        rw [qJl, qIR a5] at h2
        refine qK3 hi g (qA5 L i) _ _ (qFD hc (qFB hy hry)) (fun j z hz hne hl hwt => hfree' j z hz hne ?_ hwt) (qER hra hqi) (hQ.keep hap fun _ => KeepO.of_le (qb hrn)) h2
        by_cases hij : i = j
        · subst hij; exact hLi
        · rw [qF5 hij] at hl; exact hl
    · split at k
      · rename_i hn
        refine ⟨⟨fun _ => k, fun i hi => ?_⟩, fun g i y obj val r e hy hn2 hgu hry => ?_⟩
        · rw [qL0 hn i] at hi; cases hi
        · have := qL0 hn i
          rw [qFB hy hry] at this
          cases this
      · rename_i hnone
        obtain ⟨c, o, n, hp, k, hlate⟩ : ∃ c o n, qN0 all L (qFG L 0 all) = some ((c, o), n) ∧ (qF6 all o t
            (fun t => opA P t o h fun v h' => qL5 (qIv all o c L t) h h' (qEk P all J f (qA5 L c) (qAZ t o.dst v) h'))
            (fun t => qEk P all J f (qA5 L c) (qAZ t o.dst undef) h)) ∧
            ∀ z, n = some z → f ≠ 0 ∧ ∃ obj val, qCg P t z.2.op = some (obj, val) ∧ ∀ h, opV P t z.2.op h fun v h' => ∃ r, h r = none ∧ v = val r ∧ h' = h.ins r obj := by
          split at k
          · rename_i c o hp
            exact ⟨c, o, none, hp, k, fun z e => by cases e⟩
          · rename_i c o z1 y hp
            split at k
            · exact k.elim
            · obtain ⟨k1, k2⟩ := qTh k
              exact ⟨c, o, _, hp, k1, fun z e => by cases e; exact ⟨by omega, k2⟩⟩
          · exact k.elim
        have hcm : (c, o) ∈ qFG L 0 all := by
          rcases qIr hp with ⟨_, e⟩ | ⟨y, _, e | e, _⟩ <;> rw [e] <;> simp
        obtain ⟨_, hi, hr⟩ := qRx hcm
        rw [Nat.sub_zero] at hi
        have hra := qFB hi hr
        -- what is done at c
        have stepC : StepA P all c t h fun t' h' => KeepC all c L t h h' ∧ qEk P all J f (qA5 L c) t' h' := by
          unfold StepA
          rw [hi]
          dsimp only
          refine (qFu k).elim (fun ⟨hw, k⟩ => ⟨fun _ => ?_, fun e => (by rw [hw] at e; cases e)⟩) (fun ⟨hw, k⟩ => ⟨fun e => (by rw [hw] at e; cases e), fun _ => ⟨KeepC.of_le h.le_refl, k⟩⟩)
          cases e : qFz o.op with
          | false => exact (qKT k).mono fun v h' x => qTd e x
          | true =>
            rw [qM2 e] at k
            have k2 := qWV k e
            rw [← qM2 e] at k2
            exact (qKT k2).mono fun v h' x => ⟨KeepC.of_le x.1, qQc e x.2⟩
        -- who else may come up
        have others : ∀ j, qA4 all L j = true → j = c ∨ ∃ y, n = some (j, y) ∧ all[j]? = some y ∧ qDX L j y = true := by
          intro j hj
          obtain ⟨y, hy, hry, hm⟩ := qLp hj
          rcases qIr hp with ⟨_, e⟩ | ⟨z, e0, e | e, _⟩
          · rw [e] at hm
            simp at hm
            exact .inl hm.1
          · rw [e] at hm
            simp at hm
            rcases hm with hm | hm
            · exact .inl hm.1
            · subst hm; exact .inr ⟨y, e0, hy, hry⟩
          · rw [e] at hm
            simp at hm
            rcases hm with hm | hm
            · subst hm; exact .inr ⟨y, e0, hy, hry⟩
            · exact .inl hm.1
        have second : ∀ (g i : Nat) (y : Oper) (obj : Obj) (val : Nat → Value) (r : Nat), f + 1 = g + 1 → all[i]? = some y → qFz y.op = true → y.guard = none → qDX L i y = true →
            qCg P t y.op = some (obj, val) → h r = none → qMV P all J g (qA5 L i) (qAZ t y.dst (val r)) (h.ins r obj) := by
          intro g i y obj val r e hy hn hgu hry hnf hrn
          have e : g = f := by omega
          subst e
          by_cases hic : i = c
          · -- its time has come
            subst hic
            rw [hi] at hy
            cases hy
            have hw : qD6 all t o = true := by unfold qD6; rw [hgu]
            rcases qFu k with ⟨_, k⟩ | ⟨hw2, _⟩
            · rw [qM2 hn] at k
              obtain ⟨obj', val', e1, e3⟩ := qVQ k hn
              rw [hnf] at e1
              cases e1
              exact (qF4 g _ _ _ (qFD hc hra) (qQc hn (e3 r hrn))).1
            · rw [hw] at hw2; cases hw2
          · obtain ⟨y', e0, hy', _⟩ := (others i (qFB hy hry)).resolve_left hic
            rw [hy] at hy'
            cases hy'
            rcases qIr hp with ⟨e1, _⟩ | ⟨z, e1, _, _, _, hap, hone⟩
            · rw [e0] at e1; cases e1
            · rw [e0] at e1
              cases e1
              dsimp only at hap hone
              obtain ⟨a1, a2, a3, a4, a5, a6, a7⟩ := qH8 hap
              have hLi := qNd hry
              have hcr : qA4 all (qA5 L i) c = true := qER hra (Ne.symm hic)
              have only : ∀ j, qA4 all (qA5 L i) j = true → j = c := by
                intro j hj
                obtain ⟨x, _, _, hm⟩ := qLp hj
                obtain ⟨x', _, _, hm'⟩ := qLp hcr
                obtain ⟨q, hq⟩ := List.length_eq_one_iff.1 hone
                rw [hq] at hm hm'
                simp at hm hm'
                rw [← hm] at hm'
                exact (congrArg Prod.fst hm').symm
              cases g with
              | zero => exact ((hlate _ e0).1 rfl).elim
              | succ g =>
                refine ⟨fun hno => (by rw [hno c] at hcr; cases hcr), fun j hj => ?_⟩
                have := only j hj
                subst this
                have st := stepC
                unfold StepA at st ⊢
                rw [hi] at st ⊢
                dsimp only at st ⊢
                have eS : ∀ (hh : Heap) (K : Value → Heap → Prop), SOp P (evO (qAZ t y.dst (val r))) o hh K ↔ SOp P (evO t) o hh K := fun hh K => by
                  unfold SOp; rw [qKB a1 a7]
                rw [qMX a2, eS]
                constructor
                · intro hw
                  refine ((st.1 hw).frame1 (obj := obj) hrn).mono fun v h'' x => ?_
                  obtain ⟨h', ⟨x1, x2⟩, x3, rfl⟩ := x
                  have kc : KeepC all j (qA5 L i) (qAZ t y.dst (val r)) (h.ins r obj) (h'.ins r obj) := fun i' o' hi' hro hne hst hbj => by
                    have hii : i ≠ i' := by
                      rintro rfl
                      rw [hy] at hi'
                      cases hi'
                      cases hop : y.op <;> rw [hop] at hn hro <;> first | (cases hn; done) | (cases hro; done)
                    have hdone : L.testBit i' = true := by
                      rcases hst with e | e
                      · rw [qF5 hii] at e; exact e
                      · exact (hne (only i' e)).elim
                    have nb : ((qDJ [] all).getD i' 0).testBit i = false := by
                      cases e : ((qDJ [] all).getD i' 0).testBit i with
                      | false => rfl
                      | true => rw [qQf hc hi' (hc i' o' hi' hdone) i e] at hLi; cases hLi
                    have ko := x1 i' o' hi' hro hne (.inl hdone) hbj
                    have ea := qOC (t := t) (v := val r) (o := o') hy nb
                    unfold KeepO at ko ⊢
                    rw [ea]
                    split
                    · rename_i b eb
                      rw [eb] at ko
                      intro z hz
                      unfold Heap.ins at hz ⊢
                      split
                      · rename_i hbr; rw [if_pos hbr] at hz; exact hz
                      · rename_i hbr; rw [if_neg hbr] at hz; exact ko z hz
                    · rename_i eb
                      rw [eb] at ko
                      exact qXz ko
                  refine ⟨kc, ?_⟩
                  have h2 := (qF4 (g + 1) _ _ _ (qFD hc hra) x2).2 g i y obj val r rfl hy hn hgu (by
                    have := qER (i := j) (qFB hy hry) hic
                    unfold qA4 at this
                    rw [hy] at this
                    exact this) (by rw [qKJ a3]; exact hnf) x3
                  rw [qJl, ← qIR a5] at h2
                  exact h2
                · intro hw
                  refine ⟨KeepC.of_le (Heap.le_refl _), ?_⟩
                  have h2 := (qF4 (g + 1) _ _ _ (qFD hc hra) (st.2 hw).2).2 g i y obj val r rfl hy hn hgu (by
                    have := qER (i := j) (qFB hy hry) hic
                    unfold qA4 at this
                    rw [hy] at this
                    exact this) (by rw [qKJ a3]; exact hnf) hrn
                  rw [qJl, ← qIR a5] at h2
                  exact h2
        refine ⟨⟨fun hno => (by rw [hno c] at hra; cases hra), fun j hj => ?_⟩, second⟩
        rcases others j hj with rfl | ⟨y, e0, hy, hry⟩
        · exact stepC.mono fun t' h' x => ⟨x.1, (qF4 f _ _ h' (qFD hc hra) x.2).1⟩
        · rcases qIr hp with ⟨e1, _⟩ | ⟨z, e1, _, hn, hgu, _, _⟩
          · rw [e0] at e1; cases e1
          · rw [e0] at e1
            cases e1
            dsimp only at hn hgu
            unfold StepA
            rw [hy]
            dsimp only
            have hw : qD6 all t y = true := by unfold qD6; rw [hgu]
            refine ⟨fun _ => ?_, fun e => by rw [hw] at e; cases e⟩
            obtain ⟨_, obj, val, hnf, hop⟩ := hlate _ e0
            have hop' := hop h
            rw [← qM2 hn] at hop'
            refine (qKT hop').mono fun v h' x => ?_
            obtain ⟨r, hrn, rfl, rfl⟩ := x
            exact ⟨KeepC.of_le (qb hrn), second f j y obj val r rfl hy hn hgu hry hnf hrn⟩
theorem qNK {all : List Oper} {J : List Value → Heap → Prop} (f L : Nat) (t : List Value) (h : Heap) (hc : qIK all L) (k : qEk P all J f L t h) : qMV P all J f L t h :=
  (qF4 f L t h hc k).1

def qG9 (P : Program) (all : List Oper) (J : List Value → Heap → Prop) : Nat → Nat → List Value → Heap → Prop
  | 0, L, t, h => match qFG L 0 all with
    | [] => J t h
    | _ => False
  | f + 1, L, t, h => match qJ1 P all L 0 all with
    | some (i, o) => fcN (qA5 L i) fun L' => qI9 all o t
        (fun t => opV P t o.op h fun v _ => fcP t o.dst v fun t' => qG9 P all J f L' t' h)
        (fun t => fcP t o.dst undef fun t' => qG9 P all J f L' t' h)
    | none => match qFG L 0 all with
      | [] => J t h
      | l => match qN0 all L l with
        | some ((i, o), none) => fcN (qA5 L i) fun L' => qI9 all o t
            (fun t => opA P t o h fun v h' => qL5 (qIv all o i L t) h h' (fcP t o.dst v fun t' => qG9 P all J f L' t' h'))
            (fun t => fcP t o.dst undef fun t' => qG9 P all J f L' t' h)
        | some ((i, o), some (_, y)) => match f with
          | 0 => False
          | f + 1 => qO0 P t y.op (fcN (qA5 L i) fun L' => qI9 all o t
            (fun t => opA P t o h fun v h' => qL5 (qIv all o i L t) h h' (fcP t o.dst v fun t' => qG9 P all J (f + 1) L' t' h'))
            (fun t => fcP t o.dst undef fun t' => qG9 P all J (f + 1) L' t' h))
        | none => False
theorem qKp (P : Program) (all : List Oper) (J : List Value → Heap → Prop) : ∀ (f L : Nat) (t : List Value) (h : Heap), qG9 P all J f L t h = qEk P all J f L t h
  | 0, _, _, _ => rfl
  | f + 1, L, t, h => by
    unfold qG9 qEk
    cases f with
    | zero => simp only [qJt, qLt, qT0, qKp P all J 0]
    | succ f => simp only [qJt, qLt, qT0, qKp P all J (f + 1)]
end Go.Sy

/- Whole functions, evaluated over partial heaps; and that it is sound. -/
namespace Go.Sy
variable {P : Program}

/-! ### what is still looked at -/
def qSl : List Nat → Nat
  | [] => 0
  | d :: ds => 2 ^ d ||| qSl ds
def unB (m : Nat) (d : Option Nat) : Nat := match d with
  | some d => m ^^^ (m &&& 2 ^ d)
  | none => m
def qRy (all : List Oper) (nx : Nat) : List Oper → Nat
  | [] => nx
  | o :: os => unB (qRy all nx os) o.dst ||| (qSl (qFM o) ||| qSl (qJQ all o))
def qUZ : Operand → Nat
  | .tmp t => 2 ^ t
  | _ => 0
def qV7 (ex : List (Nat × Nat)) (id : Nat) : Nat := match ex with
  | [] => 0
  | (i, m) :: r => match Nat.beq i id with
    | true => m
    | false => qV7 r id
def qH6 (ex : List (Nat × Nat)) (rt : Nat) : Code → Nat → Nat
  | .skip, nx => nx
  | .label _, nx => nx
  | .region _ ops _, nx => qRy ops.toList nx ops.toList
  | .seq a b, nx => qH6 ex rt a (qH6 ex rt b nx)
  | .cond c a b, nx => qUZ c ||| (qH6 ex rt a nx ||| qH6 ex rt b nx)
  | .block id b, nx => qH6 ((id, nx) :: ex) rt b nx
  | .loop b, _ => qH6 ex rt b 0
  | .exit id, _ => qV7 ex id
  | .scope b, nx => qH6 ex rt b nx
  | .ret, _ => rt
  | .rangeFunc f _ _ b, nx => qUZ f ||| (qH6 ex rt b nx ||| nx)
  | _, _ => 0
def qWK (rt : Nat) : List Item → Nat × List (Nat × Nat)
  | [] => (rt, [])
  | it :: k => match qWK rt k with
    | (m, ex) => match it with
      | .code c => (qH6 ex rt c m, ex)
      | .inBlock id => (m, (id, m) :: ex)
      | .inLoop b => (qH6 ex rt b 0, ex)
      | _ => (m, ex)
def qOb : List ResultVar → Nat
  | [] => 0
  | .tmp t :: r => 2 ^ t ||| qOb r
  | .cell t _ :: r => 2 ^ t ||| qOb r
def qES (fn : Func) (todo : List Item) : Nat := (qWK (qOb fn.results.toList) todo).1
def qIS (m i : Nat) : List Value → List Value
  | [] => []
  | v :: t => (match m.testBit i with | true => v | false => undef) :: qIS m (i + 1) t
def qJs (m : Nat) (junk : Nat → Value) (i : Nat) : List Value → List Value
  | [] => []
  | v :: t => (match m.testBit i with | true => v | false => junk i) :: qJs m junk (i + 1) t
theorem qK0 (m : Nat) (junk : Nat → Value) : ∀ (t : List Value) (i : Nat), (∀ j, junk (i + j) = qA3 t j) → qJs m junk i (qIS m i t) = t
  | [], _, _ => rfl
  | v :: t, i, h => by
    have h0 := h 0
    have hr := qK0 m junk t (i + 1) (fun j => by rw [show i + 1 + j = i + (j + 1) from by omega]; exact h (j + 1))
    simp only [qIS, qJs, hr]
    cases m.testBit i
    · simp only [Nat.add_zero] at h0; rw [h0]; rfl
    · rfl

def LoopAt (P : Program) (fn : Func) (fid : Nat) (todo : List Item) (t : List Value) (h : Heap) (K : Value → Heap → Prop) : Prop := match todo with
  | .inLoop b :: r => ∀ junk : Nat → Value, Run P fid (.code b :: .inLoop b :: r) (qJs (qES fn (.inLoop b :: r)) junk 0 t) h K
  | _ => False
theorem LoopAt.mono {fn : Func} {fid : Nat} {todo : List Item} {t : List Value} {h : Heap} {K K' : Value → Heap → Prop} (c : LoopAt P fn fid todo t h K) (m : ∀ v h', K v h' → K' v h') :
    LoopAt P fn fid todo t h K' := by
  unfold LoopAt at *
  split at c
  · exact fun j => (c j).mono m
  · exact c.elim
theorem LoopAt.drop {fn : Func} {fid : Nat} {todo : List Item} {t : List Value} {h h0 : Heap} {K : Value → Heap → Prop} (c : LoopAt P fn fid todo t h0 K) (l : h0.le h) :
    LoopAt P fn fid todo t h K := by
  unfold LoopAt at *
  split at c
  · exact fun j => (c j).drop l
  · exact c.elim

/-! ### results -/
def qOl (P : Program) (t : List Value) (h : Heap) : List ResultVar → (List Value → Prop) → Prop
  | [], K => K []
  | .tmp i :: rs, K => qOl P t h rs fun vs => K (qA3 t i :: vs)
  | .cell a ty :: rs, K => match qA3 t a with
    | .pointer ad => qA ad fun b o => qNh P ty h b o fun v => qOl P t h rs fun vs => K (v :: vs)
    | _ => False
def qS5 (vs : List Value) : Value := match vs with
  | [v] => v
  | vs => .tuple vs.toArray
def Ret (h : Heap) (K : Value → Heap → Prop) (v : Value) : Prop := ∃ h0, Heap.le h0 h ∧ K v h0
theorem Ret.mk {h : Heap} {K : Value → Heap → Prop} {v : Value} (k : K v h) : Ret h K v := ⟨h, h.le_refl, k⟩
def qLi (P : Program) (fn : Func) (t : List Value) (h : Heap) (K : Value → Heap → Prop) : Prop := qOl P t h fn.results.toList fun vs => Ret h K (qS5 vs)
def qON (tmps : Array Value) : ResultVar → Sem Value
  | .tmp t => pure (tmps.getD t undef)
  | .cell a t => do loadVar t (← asAddr (tmps.getD a undef))
theorem qKx {t : List Value} {h : Heap} : ∀ {rs : List ResultVar} {K : List Value → Prop}, qOl P t h rs K →
    ∃ vs, (∀ w, Rep h w → (rs.mapM (qON t.toArray)).run P w = .ok vs w) ∧ K vs
  | [], K, k => ⟨[], fun w _ => rfl, k⟩
  | .tmp i :: rs, K, k => by
    have k1 : qOl P t h rs (fun vs => K (qA3 t i :: vs)) := k
    obtain ⟨vs, e, q⟩ := qKx k1
    refine ⟨_, fun w r => ?_, q⟩
    rw [List.mapM_cons]
    simp only [qON, Sem.run_bind, Sem.run_pure, Result.andThen_ok, e w r, qKd]
  | .cell a ty :: rs, K, k => by
    unfold qOl at k
    split at k
    · rename_i ad hv
      obtain ⟨b, o, rfl, k1⟩ := qAU k
      obtain ⟨v, e1, _, k2⟩ := qFw _ _ _ (qOK (q := true) k1)
      obtain ⟨vs, e, q⟩ := qKx k2
      refine ⟨_, fun w r => ?_, q⟩
      rw [List.mapM_cons]
      simp only [qON, Sem.run_bind, Sem.run_pure, Result.andThen_ok, e w r, qKd, hv, asAddr, e1 w r]
    · exact k.elim
theorem qST (fn : Func) (tmps : Array Value) : results fn tmps = (do
    let vs ← fn.results.mapM (qON tmps)
    pure (if h : vs.size = 1 then vs[0] else .tuple vs)) := by
  unfold results
  rfl
theorem qVb (vs : List Value) : (if h : vs.toArray.size = 1 then vs.toArray[0] else .tuple vs.toArray) = qS5 vs := by
  match vs with
  | [] => rfl
  | [v] => rfl
  | a :: b :: r => rw [dif_neg (by simp)]; rfl
theorem qNr {fn : Func} {t : List Value} {h : Heap} {K : Value → Heap → Prop} (k : qLi P fn t h K) : ∃ v h0, (∀ w, Rep h w → (results fn t.toArray).run P w = .ok v w) ∧ h0.le h ∧ K v h0 := by
  obtain ⟨vs, e, h0, hl, q⟩ := qKx k
  refine ⟨qS5 vs, h0, fun w r => ?_, hl, q⟩
  rw [qST, Array.mapM_eq_mapM_toList, Sem.run_bind, Sem.run_map, e w r]
  simp only [Result.andThen_ok, Sem.run_pure]
  rw [qVb]

/-! ### the rest of a call, step by step -/
section
variable {fid : Nat} {t : List Value} {h : Heap} {K : Value → Heap → Prop}
theorem Run.step {todo todo' : List Item} (s : ∀ cs w, step P (lone ((qIt fid).at ⟨t.toArray, []⟩ todo) cs w) = .next (lone ((qIt fid).at ⟨t.toArray, []⟩ todo') cs w))
    (k : Run P fid todo' t h K) : Run P fid todo t h K := fun w cs r =>
  let ⟨v, h', w', fr, kk, r', f', st, x⟩ := k w cs r
  ⟨v, h', w', fr, kk, r', f', .head (s cs w) st, x⟩
theorem Run.of_ret {fn : Func} (hf : P.funcs[fid]? = some fn) (k : qLi P fn t h K) (todo : List Item) (ht : todo = [] ∨ ∃ r, todo = .code .ret :: r) : Run P fid todo t h K := by
  obtain ⟨v, h0, e, hl, q⟩ := qNr k
  intro w cs r
  refine ⟨v, h0, w, { (qIt fid).at ⟨t.toArray, []⟩ todo with mode := .returning }, q, r.le hl, (Fr.refl h w).less hl, ?_, rfl, rfl, rfl, rfl, fn, hf, e w r⟩
  rcases ht with rfl | ⟨r, rfl⟩
  · exact .one step_end
  · exact .one step_ret
theorem Run.of_wp {c : Code} {k : List Item} {J : List Value → Heap → Prop} (x : ∀ w, Rep h w → c.wp P (qQz J h w) ⟨t.toArray, []⟩ w) (kk : ∀ t' h', J t' h' → Run P fid k t' h' K) :
    Run P fid (.code c :: k) t h K := by
  intro w cs r
  obtain ⟨e, a', w', ⟨rfl, t', h', rfl, j, r', f'⟩, harr⟩ := x w r (qIt fid) k cs
  obtain ⟨v, h2, w2, fr, q, r2, f2, st, x2⟩ := kk t' h' j w' cs r'
  exact ⟨v, h2, w2, fr, q, r2, f'.trans f2, Steps.trans harr st, x2⟩
end

def CutAt (P : Program) (fn : Func) (fid : Nat) (todo : List Item) (t : List Value) (h : Heap) (K : Value → Heap → Prop) : Prop := ∀ junk : Nat → Value, Run P fid todo (qJs (qES fn todo) junk 0 t) h K
theorem CutAt.mono {fn : Func} {fid : Nat} {todo : List Item} {t : List Value} {h : Heap} {K K' : Value → Heap → Prop} (c : CutAt P fn fid todo t h K) (m : ∀ v h', K v h' → K' v h') :
    CutAt P fn fid todo t h K' := fun j => (c j).mono m
theorem CutAt.run {fn : Func} {fid : Nat} {todo : List Item} {t : List Value} {h : Heap} {K : Value → Heap → Prop} (k : CutAt P fn fid todo (qIS (qES fn todo) 0 t) h K) : Run P fid todo t h K := by
  have := k (fun i => qA3 t i)
  rw [qK0 _ _ _ _ (fun j => by rw [Nat.zero_add])] at this
  exact this
def qXm : List Nat → Nat → Bool
  | [], _ => false
  | x :: xs, n => match Nat.beq x n with
    | true => true
    | false => qXm xs n
def evK (P : Program) (fn : Func) (fid : Nat) (K : Value → Heap → Prop) (cs : List Nat) : Nat → List Item → List Value → Heap → Prop
  | 0, _, _, _ => False
  | n + 1, todo, t, h => match todo with
    | [] => qLi P fn t h K
    | it :: k => match it with
      | .code c => match c with
        | .skip => evK P fn fid K cs n k t h
        | .label _ => evK P fn fid K cs n k t h
        | .seq a b => evK P fn fid K cs n (.code a :: .code b :: k) t h
        | .cond c x y => match evO t c with
          | .bool b => Br b (evK P fn fid K cs n (.code x :: k) t h) (evK P fn fid K cs n (.code y :: k) t h)
          | _ => False
        | .block id b => evK P fn fid K cs n (.code b :: .inBlock id :: k) t h
        | .scope b => evK P fn fid K cs n (.code b :: .inScope b :: k) t h
        | .loop b => LoopAt P fn fid (.inLoop b :: k) (qIS (qES fn (.inLoop b :: k)) 0 t) h K
        | .exit id => match exitTo id k with
          | some k' => evK P fn fid K cs n k' t h
          | none => False
        | .ret => qLi P fn t h K
        | .region id ops draw => match qXm cs id with
          | true => CutAt P fn fid (.code (.region id ops draw) :: k) (qIS (qES fn (.code (.region id ops draw) :: k)) 0 t) h K
          | false => match draw with
            | false => qNl P ops.toList ops.toList t h fun t' h' => evK P fn fid K cs n k t' h'
            | true => qG9 P ops.toList (fun t' h' => evK P fn fid K cs n k t' h') ops.size 0 t h
        | _ => False
      | .inBlock _ => evK P fn fid K cs n k t h
      | .inScope _ => evK P fn fid K cs n k t h
      | .inLoop b => LoopAt P fn fid (.inLoop b :: k) (qIS (qES fn (.inLoop b :: k)) 0 t) h K
      | _ => False
theorem LoopAt.run {fn : Func} {fid : Nat} {b : Code} {r : List Item} {t : List Value} {h : Heap} {K : Value → Heap → Prop} (k : LoopAt P fn fid (.inLoop b :: r) (qIS (qES fn (.inLoop b :: r)) 0 t) h K) :
    Run P fid (.code b :: .inLoop b :: r) t h K := by
  have := k (fun i => qA3 t i)
  rw [qK0 _ _ _ _ (fun j => by rw [Nat.zero_add])] at this
  exact this
theorem qSt {fid : Nat} {K : Value → Heap → Prop} (hm : P.follows .mixedOrders = true) {id : Nat} {ops : Array Oper} {draw : Bool} {r : List Item} {t : List Value} {h : Heap} {J : List Value → Heap → Prop}
    (k : match draw with
      | false => qNl P ops.toList ops.toList t h J
      | true => qG9 P ops.toList J ops.size 0 t h) (kk : ∀ t' h', J t' h' → Run P fid r t' h' K) : Run P fid (.code (.region id ops draw) :: r) t h K := by
  split at k
  · rw [qOf] at k
    refine Run.of_wp (J := J) (fun w rw => wp_region ?_) kk
    have := qIn ops _ h w ops.toList 0 t h w (by simp) k rw (Fr.refl h w)
    rw [List.range_eq_range']
    simpa using this
  · rw [qKp] at k
    refine Run.of_wp (J := J) (fun w rw => wp_region_any hm ?_) kk
    refine qIx ops _ h w ops.size 0 _ t h { w with drawn := w.drawn + 1 } ⟨by simp, fun j hj => by simp [hj]⟩ (fun j _ => by simp) (qNK _ _ _ _ (fun k o _ hl => by simp at hl) k) rw ⟨rfl, rfl, rfl, Nat.le_refl _, fun _ _ _ => rfl, fun _ _ e => e⟩
theorem qBW {fn : Func} {fid : Nat} {K : Value → Heap → Prop} {cs : List Nat} (hf : P.funcs[fid]? = some fn) (hm : P.follows .mixedOrders = true) : ∀ (n : Nat) (todo : List Item) (t : List Value) (h : Heap),
    evK P fn fid K cs n todo t h → Run P fid todo t h K
  | 0, _, _, _, k => k.elim
  | n + 1, todo, t, h, k => by
    unfold evK at k
    split at k
    · exact Run.of_ret hf k [] (.inl rfl)
    · rename_i it r
      split at k
      · rename_i c
        split at k
        · exact Run.step (fun _ _ => step_skip) (qBW hf hm n _ _ _ k)
        · exact Run.step (fun _ _ => step_label) (qBW hf hm n _ _ _ k)
        · exact Run.step (fun _ _ => step_seq) (qBW hf hm n _ _ _ k)
        · rename_i c x y
          split at k
          · rename_i b hb
            rcases k.elim with ⟨rfl, k⟩ | ⟨rfl, k⟩
            · exact Run.step (fun _ _ => step_cond (t := true) (by rw [qQB]; exact hb)) (qBW hf hm n _ _ _ k)
            · exact Run.step (fun _ _ => step_cond (t := false) (by rw [qQB]; exact hb)) (qBW hf hm n _ _ _ k)
          · exact k.elim
        · exact Run.step (fun _ _ => step_block) (qBW hf hm n _ _ _ k)
        · refine Run.step (fun _ _ => step_lone_go ?_) (qBW hf hm n _ _ _ k)
          simp [stepG, stepG.exec, Frame.at, qIt]
        · exact Run.step (fun _ _ => step_loop) (LoopAt.run k)
        · rename_i id
          split at k
          · rename_i k' hk
            exact Run.step (fun _ _ => step_exit hk) (qBW hf hm n _ _ _ k)
          · exact k.elim
        · exact Run.of_ret hf k _ (.inr ⟨r, rfl⟩)
        · rename_i id ops draw
          split at k
          · exact CutAt.run k
          split at k
          · rw [qOf] at k
            refine Run.of_wp (J := fun t' h' => evK P fn fid K cs n r t' h') (fun w rw => wp_region ?_) (fun t' h' => qBW hf hm n r t' h')
            have := qIn ops _ h w ops.toList 0 t h w (by simp) k rw (Fr.refl h w)
            rw [List.range_eq_range']
            simpa using this
          · rw [qKp] at k
            refine Run.of_wp (J := fun t' h' => evK P fn fid K cs n r t' h') (fun w rw => wp_region_any hm ?_) (fun t' h' => qBW hf hm n r t' h')
            refine qIx ops _ h w ops.size 0 _ t h { w with drawn := w.drawn + 1 } ⟨by simp, fun j hj => by simp [hj]⟩ (fun j _ => by simp) (qNK _ _ _ _ (fun k o _ hl => by simp at hl) k) rw ⟨rfl, rfl, rfl, Nat.le_refl _, fun _ _ _ => rfl, fun _ _ e => e⟩
        · exact k.elim
      · exact Run.step (fun _ _ => step_inBlock) (qBW hf hm n _ _ _ k)
      · refine Run.step (fun _ _ => step_lone_go ?_) (qBW hf hm n _ _ _ k)
        simp [stepG, stepG.exec, Frame.at, qIt]
      · exact Run.step (fun _ _ => step_inLoop) (LoopAt.run k)
      · exact k.elim

def qIQ : Code → List Item → List (List Item)
  | .seq a b, k => qIQ a (.code b :: k) ++ qIQ b k
  | .cond _ x y, k => qIQ x k ++ qIQ y k
  | .block id b, k => qIQ b (.inBlock id :: k)
  | .scope b, k => qIQ b (.inScope b :: k)
  | .loop b, k => (.inLoop b :: k) :: qIQ b (.inLoop b :: k)
  | _, _ => []
def qU8 : List (List Item) → Nat → List Item
  | [], _ => []
  | x :: _, 0 => x
  | _ :: xs, n + 1 => qU8 xs n
def qJI (fn : Func) : Code := match fn.body with
  | some c => c
  | none => .skip
def qe (fn : Func) (n : Nat) : List Item := qU8 (qIQ (qJI fn) []) n
def qMI : Nat → List Value
  | 0 => []
  | n + 1 => undef :: qMI n
def qMJ (n : Nat) (args : List Value) : List Value := match n, args with
  | n, [] => qMI n
  | 0, l => l
  | n + 1, v :: l => v :: qMJ n l
def sp (n : Nat) : List (Nat × Value) → List Value
  | [] => qMI n
  | (i, v) :: r => setT (sp n r) i v
def evF (P : Program) (fn : Func) (fid : Nat) (args : List Value) (h : Heap) (K : Value → Heap → Prop) (cs : List Nat := []) : Prop := evK P fn fid K cs 100000 [.code (qJI fn)] (qMJ fn.ntmps args) h
def evL (P : Program) (fn : Func) (fid : Nat) (todo : List Item) (t : List Value) (junk : Nat → Value) (h : Heap) (K : Value → Heap → Prop) (cs : List Nat := []) : Prop := match todo with
  | .inLoop b :: r => evK P fn fid K cs 100000 (.code b :: .inLoop b :: r) (qJs (qES fn (.inLoop b :: r)) junk 0 t) h
  | _ => False
def evC (P : Program) (fn : Func) (fid : Nat) (todo : List Item) (t : List Value) (junk : Nat → Value) (h : Heap) (K : Value → Heap → Prop) (cs : List Nat := []) : Prop := match todo with
  | .code (.region _ ops draw) :: r => match draw with
    | false => qNl P ops.toList ops.toList (qJs (qES fn todo) junk 0 t) h fun t' h' => evK P fn fid K cs 100000 r t' h'
    | true => qG9 P ops.toList (fun t' h' => evK P fn fid K cs 100000 r t' h') ops.size 0 (qJs (qES fn todo) junk 0 t) h
  | _ => False
def qJn (n : Nat) : Code → List Item → List (List Item)
  | .seq a b, k => qJn n a (.code b :: k) ++ qJn n b k
  | .cond _ x y, k => qJn n x k ++ qJn n y k
  | .block id b, k => qJn n b (.inBlock id :: k)
  | .scope b, k => qJn n b (.inScope b :: k)
  | .loop b, k => qJn n b (.inLoop b :: k)
  | .region id ops draw, k => match Nat.beq id n with
    | true => [.code (.region id ops draw) :: k]
    | false => []
  | _, _ => []
def qVB (fn : Func) (n : Nat) : List Item := qU8 (qJn n (qJI fn) []) 0
theorem qPN : ∀ n, qMI n = List.replicate n undef
  | 0 => rfl
  | n + 1 => by rw [qMI, qPN n, List.replicate_succ]
theorem qOv : ∀ (n : Nat) (args : List Value), args.length ≤ n → qMJ n args = args ++ List.replicate (n - args.length) undef
  | n, [], _ => by unfold qMJ; simp [qPN]
  | 0, v :: l, h => by simp at h
  | n + 1, v :: l, h => by
    unfold qMJ
    rw [qOv n l (by simpa using h)]
    simp
theorem CallA.of_ev {fn : Func} {fid : Nat} {args : List Value} {h : Heap} {K : Value → Heap → Prop} {cs : List Nat} (hf : P.funcs[fid]? = some fn) (hb : fn.body.isSome = true)
    (hc : ∀ (a : Array Value) (w : World), (callFunc fid a).run P w = .ok (.enter fid a) w) (hm : P.follows .mixedOrders = true) (hl : Nat.ble args.length fn.ntmps = true)
    {T : Prop} (e : T = evF P fn fid args h K cs) (k0 : T) : CallA P fid args h K := by
  have k : evF P fn fid args h K cs := e ▸ k0
  obtain ⟨c, hb⟩ := Option.isSome_iff_exists.1 hb
  refine CallA.of_run hf hb hc (qBW (cs := cs) hf hm 100000 _ _ _ ?_)
  have k' := k
  unfold evF qJI at k'
  rw [hb, qOv _ _ (Nat.le_of_ble_eq_true hl)] at k'
  exact k'
theorem LoopAt.of_ev {fn : Func} {fid : Nat} {todo : List Item} {t : List Value} {h : Heap} {K : Value → Heap → Prop} {cs : List Nat} (hf : P.funcs[fid]? = some fn) (hm : P.follows .mixedOrders = true)
    {T : Prop} (e : ∀ junk, T = evL P fn fid todo t junk h K cs) (k0 : T) : LoopAt P fn fid todo t h K := by
  have k : ∀ junk, evL P fn fid todo t junk h K cs := fun junk => e junk ▸ k0
  unfold LoopAt
  unfold evL at k
  split at k
  · exact fun junk => qBW hf hm 100000 _ _ _ (k junk)
  · exact k (fun _ => undef)
theorem CutAt.of_ev {fn : Func} {fid : Nat} {todo : List Item} {t : List Value} {h : Heap} {K : Value → Heap → Prop} {cs : List Nat} (hf : P.funcs[fid]? = some fn) (hm : P.follows .mixedOrders = true)
    {T : Prop} (e : ∀ junk, T = evC P fn fid todo t junk h K cs) (k0 : T) : CutAt P fn fid todo t h K := by
  have k : ∀ junk, evC P fn fid todo t junk h K cs := fun junk => e junk ▸ k0
  intro junk
  have k := k junk
  unfold evC at k
  split at k
  · exact qSt hm k (fun t' h' j => qBW hf hm 100000 _ _ _ j)
  · exact k.elim
end Go.Sy

/- Small words for proofs over evaluated texts: branches, ranges, bits. -/
namespace Go.Sy
theorem qXW {A B : Prop} : Br true A B = A := rfl
theorem qXo {A B : Prop} : Br false A B = B := rfl
theorem Br.yes {b : Bool} {A B : Prop} (e : b = true) (k : A) : Br b A B := by subst e; exact k
theorem Br.no {b : Bool} {A B : Prop} (e : b = false) (k : B) : Br b A B := by subst e; exact k
theorem Br.dec {p : Prop} [Decidable p] {A B : Prop} (h1 : p → A) (h2 : ¬ p → B) : Br (decide p) A B := by
  by_cases h : p
  · rw [decide_eq_true h]; exact h1 h
  · rw [decide_eq_false h]; exact h2 h
theorem Br.and {a b : Bool} {A B : Prop} : Br (a && b) A B ↔ Br a (Br b A B) B := by cases a <;> exact Iff.rfl

def I64 (n : Int) : Prop := -9223372036854775808 ≤ n ∧ n ≤ 9223372036854775807
def U64 (n : Int) : Prop := 0 ≤ n ∧ n ≤ 18446744073709551615

theorem qC7 (n : Int) : IntKind.wrap IntKind.u64 n = n % 18446744073709551616 := rfl
theorem qD3 (n : Int) : IntKind.wrap IntKind.i64 n = (n + 9223372036854775808) % 18446744073709551616 - 9223372036854775808 := by
  show (if (true && decide (n % 18446744073709551616 ≥ 9223372036854775808)) = true then n % 18446744073709551616 - 18446744073709551616 else n % 18446744073709551616) = _
  by_cases h : n % 18446744073709551616 ≥ 9223372036854775808
  · rw [decide_eq_true h]; simp only [Bool.and_self, if_true]; omega
  · rw [decide_eq_false h]; simp only [Bool.and_false, Bool.false_eq_true, if_false]; omega
theorem qOe (n : Int) : IntKind.wrap IntKind.u8 n = n % 256 := rfl
theorem qO {n : Int} (h1 : -9223372036854775808 ≤ n) (h2 : n ≤ 9223372036854775807) : IntKind.wrap IntKind.i64 n = n := by rw [qD3]; omega
theorem qCR {n : Int} (h1 : 0 ≤ n) (h2 : n ≤ 18446744073709551615) : IntKind.wrap IntKind.u64 n = n := by rw [qC7]; omega

theorem qEF {a : Int} (h : 0 ≤ a) : (BitVec.ofInt 64 a).toNat = a.toNat % 18446744073709551616 := by
  rw [BitVec.toNat_ofInt]
  omega
theorem qKY {a : Int} (h : 0 ≤ a) : ((BitVec.ofInt 64 a &&& BitVec.ofInt 64 4294967295).toNat : Int) = a % 4294967296 := by
  rw [BitVec.toNat_and, qEF h, qEF (by omega)]
  have e : (Int.toNat 4294967295 % 18446744073709551616) = 2 ^ 32 - 1 := by decide
  rw [e, Nat.and_two_pow_sub_one_eq_mod]
  omega
theorem qWb {x y : Int} (h1 : 0 ≤ x) (h2 : x < 4294967296) (h3 : 0 ≤ y) (h4 : y < 4294967296) : ((BitVec.ofInt 64 x ||| BitVec.ofInt 64 (y * 4294967296)).toNat : Int) = y * 4294967296 + x := by
  rw [BitVec.toNat_or, qEF h1, qEF (by omega)]
  have e1 : x.toNat % 18446744073709551616 = x.toNat := by omega
  have e2 : (y * 4294967296).toNat % 18446744073709551616 = 2 ^ 32 * y.toNat := by omega
  rw [e1, e2, Nat.or_comm, ← Nat.two_pow_add_eq_or_of_lt (by omega)]
  omega
theorem qTz {x c : Int} (h1 : 0 ≤ x) (h2 : x % 2 = 0) (h3 : x < 18446744073709551616) (h4 : 0 ≤ c) (h5 : c < 2) : ((BitVec.ofInt 64 x ||| BitVec.ofInt 64 c).toNat : Int) = x + c := by
  rw [BitVec.toNat_or, qEF h1, qEF h4]
  have e1 : x.toNat % 18446744073709551616 = 2 ^ 1 * (x.toNat / 2) := by omega
  have e2 : c.toNat % 18446744073709551616 = c.toNat := by omega
  rw [e1, e2, ← Nat.two_pow_add_eq_or_of_lt (by omega)]
  omega

theorem qJT (a : Int) {b : Int} (h : 0 ≤ b) : Int.fdiv a b = a / b := Int.fdiv_eq_ediv_of_nonneg a h

/-! cells of what was just made or written -/
theorem qLT (h : Heap) (r o : Nat) (c : List Value) (T : TypeId) (f : Nat × Nat) : (h.ins r (.cells c.toArray T f)).cell r o = c[o]? := by
  unfold Heap.cell Heap.ins; simp
theorem qQA (h : Heap) (r o : Nat) (c vs : List Value) (T : TypeId) (f : Nat × Nat) : (h.ins r (.cells c.toArray T f)).setN r o vs = h.ins r (.cells (qh c o vs).toArray T f) := by
  funext x
  unfold Heap.setN Heap.ins
  cases hx : Nat.beq x r with
  | true =>
    have := Nat.eq_of_beq_eq_true hx
    subst this
    simp
  | false =>
    have : x ≠ r := fun e => by subst e; rw [Nat.beq_refl] at hx; cases hx
    simp [this]
theorem qIC (h : Heap) (r o n : Nat) (c : List Value) (T : TypeId) (e : o + n ≤ c.length) : (h.ins r (.cells c.toArray T (0, 0))).canSt r o n :=
  ⟨c.toArray, T, by unfold Heap.ins; rw [if_pos rfl], by simpa using e⟩
theorem qWY {h : Heap} {b o : Nat} {v : Value} (e : h.cell b o = some v) : ∃ x, h b = some x := by
  unfold Heap.cell at e
  cases hb : h b with
  | none => rw [hb] at e; cases e
  | some x => exact ⟨x, rfl⟩
theorem qSG {h h' : Heap} {b o : Nat} {v : Value} (l : h.le h') (e : h.cell b o = some v) : h'.cell b o = some v := by
  obtain ⟨x, hx⟩ := qWY e
  unfold Heap.cell at *
  rw [l b x hx]; rw [hx] at e; exact e

/-! lists in memory -/
theorem qAV {h h' : Heap} {a : Option Addr} {vs : List Value} (l : h.le h') (r : rdL h a vs) : rdL h' a vs := by
  rcases r with r | ⟨b, o, e, r⟩
  · exact .inl r
  · refine .inr ⟨b, o, e, fun j hj => ?_⟩
    have := r j hj
    rw [List.getElem?_eq_getElem hj] at this ⊢
    exact qSG l this
def qK (k : IntKind) : List Int → List Value
  | [] => []
  | n :: l => .int k n :: qK k l
theorem qBt (k : IntKind) : ∀ l, qK k l = l.map (Value.int k)
  | [] => rfl
  | n :: l => by rw [qK, qBt k l]; rfl
theorem qL (k : IntKind) (l : List Int) : (qK k l).length = l.length := by rw [qBt]; simp
theorem qAI (k : IntKind) (l m : List Int) : qK k (l ++ m) = qK k l ++ qK k m := by simp [qBt]
theorem qEG (k : IntKind) : ∀ l, qAG (qK k l) = true
  | [] => rfl
  | n :: l => by rw [qK, qAG]; exact qEG k l
def Ints (k : IntKind) (h : Heap) (a : Option Addr) (l : List Int) : Prop := rdL h a (qK k l)
theorem Ints.le {k : IntKind} {h h' : Heap} {a : Option Addr} {l : List Int} (i : Ints k h a l) (e : h.le h') : Ints k h' a l := qAV e i
theorem Ints.at {k : IntKind} {h : Heap} {a : Option Addr} {l : List Int} (i : Ints k h a l) {j : Nat} (hj : j < l.length) :
    ∃ b o, a = some ⟨b, o, none⟩ ∧ h.cell b (o + j) = some (.int k l[j]) := by
  rcases i with i | ⟨b, o, e, i⟩
  · have := congrArg List.length i; rw [qL] at this; simp at this; subst this; simp at hj
  · refine ⟨b, o, e, ?_⟩
    rw [i j (by rw [qL]; exact hj), qBt]
    simp [hj]
theorem qI4 (h : Heap) (r : Nat) (c : List Value) (T : TypeId) (f : Nat × Nat) : rdL (h.ins r (.cells c.toArray T f)) (some ⟨r, 0, none⟩) c := by
  refine .inr ⟨r, 0, rfl, fun j hj => ?_⟩
  rw [qLT, Nat.zero_add]
theorem qP3 {h : Heap} {a : Option Addr} {vs ws : List Value} (r : rdL h a (vs ++ ws)) : rdL h a vs := by
  rcases r with r | ⟨b, o, e, r⟩
  · exact .inl (List.append_eq_nil_iff.1 r).1
  · refine .inr ⟨b, o, e, fun j hj => ?_⟩
    rw [r j (by rw [List.length_append]; omega), List.getElem?_append_left hj]
theorem qQh : ∀ (vs c : List Value) (o i : Nat), o + vs.length ≤ c.length → (qh c o vs)[i]? = if o ≤ i ∧ i < o + vs.length then vs[i - o]? else c[i]?
  | [], c, o, i, _ => by simp [qh]; omega
  | v :: vs, c, o, i, h => by
    have hl : (setT c o v).length = c.length := by rw [qBR]; simp
    simp only [List.length_cons] at h
    rw [qh, qQh vs _ (o + 1) i (by rw [hl]; omega), qBR]
    by_cases h1 : o + 1 ≤ i ∧ i < o + 1 + vs.length
    · rw [if_pos h1, if_pos (by simp; omega), show i - o = (i - (o + 1)) + 1 from by omega]; rfl
    · rw [if_neg h1]
      by_cases h2 : i = o
      · subst h2
        rw [if_pos (by simp), List.getElem?_set_self (by omega)]
        simp
      · rw [if_neg (by simp; omega), List.getElem?_set_ne (by omega)]
theorem q3 {h : Heap} {b o r : Nat} {vs : List Value} (e : r ≠ b) : h.setN b o vs r = h r := by
  unfold Heap.setN
  split
  · rename_i hx; exact (e (Nat.eq_of_beq_eq_true hx)).elim
  · rfl
theorem qUN {h : Heap} {b o i : Nat} {vs : List Value} (c : h.canSt b o vs.length) : (h.setN b o vs).cell b i = if o ≤ i ∧ i < o + vs.length then vs[i - o]? else h.cell b i := by
  obtain ⟨c, T, hb, hl⟩ := c
  have e : h.setN b o vs b = some (.cells (qh c.toList o vs).toArray T (0, 0)) := by
    unfold Heap.setN
    rw [Nat.beq_refl, hb]
  unfold Heap.cell
  rw [e, hb]
  dsimp only
  rw [List.getElem?_toArray, qQh _ _ _ _ (by simpa using hl)]
  simp
theorem AppA.mk {z : List Value} {t : TypeId} {h : Heap} {base : Option Addr} {len cap n : Nat} {a : Option Addr} {J : Option Addr → Nat → Heap → Prop} (old vs : List Value)
    (hlen : len + n ≤ 1073741824) (hv : vs.length = n * z.length) (rv : rdL h a vs) (av : qAG vs = true) (ho : old.length = len * z.length) (ro : rdL h base old)
    (room : len + n ≤ cap → vs = [] ∨ ∃ b o, base = some ⟨b, o, none⟩ ∧ h.canSt b (o + len * z.length) vs.length)
    (k : ∀ base' cap' h', len + n ≤ cap' → rdL h' base' (old ++ vs) → (∀ r x, h r = some x → (∀ o, base ≠ some ⟨r, o, none⟩) → h' r = some x) →
      ((base' = base ∧ cap' = cap ∧ (h' = h ∨ ∃ b o, base = some ⟨b, o, none⟩ ∧ h.canSt b (o + len * z.length) vs.length ∧ h' = h.setN b (o + len * z.length) vs)) ∨
        (cap < len + n ∧ ∃ r, base' = some ⟨r, 0, none⟩ ∧ h r = none ∧ h' = h.ins r (.cells (old ++ vs ++ q4 (cap' - (len + n)) z).toArray t (0, 0)))) → J base' cap' h') : AppA z t h base len cap n a J := by
  refine ⟨hlen, vs, hv, rv, av, ?_⟩
  by_cases hc : len + n ≤ cap
  · refine .inl ⟨hc, room hc, ?_⟩
    rcases room hc with e | ⟨b, o, e, cs⟩
    · subst e
      refine k base cap h hc ?_ (fun r x hx _ => hx) (.inl ⟨rfl, rfl, .inl rfl⟩)
      rw [List.append_nil]; exact ro
    · subst e
      have main : J (some ⟨b, o, none⟩) cap (h.setN b (o + len * z.length) vs) := by
        refine k _ _ _ hc ?_ (fun r x hx hn => ?_) (.inl ⟨rfl, rfl, .inr ⟨b, o, rfl, cs, rfl⟩⟩)
        · refine .inr ⟨b, o, rfl, fun j hj => ?_⟩
          rw [qUN cs]
          rw [List.length_append] at hj
          by_cases hjo : j < old.length
          · rw [if_neg (by omega), List.getElem?_append_left hjo]
            rcases ro with ro | ⟨b', o', e, ro⟩
            · subst ro; simp at hjo
            · cases e; exact ro j hjo
          · rw [if_pos (by omega), List.getElem?_append_right (by omega)]
            congr 1
            omega
        · rw [q3 (fun e => hn o (by rw [e]))]; exact hx
      cases vs with
      | nil =>
        have : h.setN b (o + len * z.length) [] = h := qL7 h b _
        rw [this] at main
        exact main
      | cons v vs => exact main
  · refine .inr ⟨by omega, old, ho, ro, fun cap' r hcap hr => ?_⟩
    refine k _ _ _ hcap ?_ (fun r' x hx _ => qb hr _ _ hx) (.inr ⟨by omega, r, rfl, hr, rfl⟩)
    have := qI4 h r (old ++ vs ++ q4 (cap' - (len + n)) z) t (0, 0)
    exact qP3 this
def qHd (w : World) : Heap := fun r => w.heap[r]?
theorem qTB (w : World) : Rep (qHd w) w := fun _ _ e => e
theorem qXN {P : Program} {f : FuncId} {args : List Value} {w : World} {v0 : Value} (c : CallA P f args (qHd w) fun v h' => v = v0 ∧ (qHd w).le h') :
    Calls P f args.toArray w fun e w' => e = .returned v0 ∧ Go.RowKit.Below w.heap.size w w' := by
  refine (c w (qTB w)).2.mono fun e w' ⟨v, h', he, ⟨hv, hle⟩, r, f⟩ => ⟨by rw [he, hv], ⟨f.os, f.tape, f.output, f.size, fun k hk => ?_⟩⟩
  have hx : w.heap[k]? = some w.heap[k] := Array.getElem?_eq_getElem hk
  rw [hx]
  exact r k _ (hle k _ hx)

theorem I64.of_wf {n : Int} (h : (Lit.int .i64 n).wf = true) : I64 n := by
  have h1 : (decide (IntKind.i64.min ≤ n) && decide (n ≤ IntKind.i64.max)) = true := h
  rw [Bool.and_eq_true, decide_eq_true_eq, decide_eq_true_eq] at h1
  have e1 : IntKind.i64.min = -9223372036854775808 := by decide
  have e2 : IntKind.i64.max = 9223372036854775807 := by decide
  rw [e1, e2] at h1
  exact h1
end Go.Sy
