/- What each operation does, typed, over partial heaps; and that it is sound for the model's own. -/
import Derived.Test.YtghdadniddoboaaFwOps
namespace Go.Sy

def ikEq (a b : IntKind) : Bool := match a, b with
  | .i8, .i8 | .i16, .i16 | .i32, .i32 | .i64, .i64 | .u8, .u8 | .u16, .u16 | .u32, .u32 | .u64, .u64 => true
  | _, _ => false
theorem ikEq_eq {a b : IntKind} (h : ikEq a b = true) : a = b := by cases a <;> cases b <;> first | rfl | cases h

def intB (op : BinOp) (k : IntKind) (a b : Int) (J : Value → Prop) : Prop := match op with
  | .add => J (.int k (k.wrap (a + b)))
  | .sub => J (.int k (k.wrap (a - b)))
  | .mul => J (.int k (k.wrap (a * b)))
  | .quo => Br (b == 0) False (J (.int k (k.wrap (a.tdiv b))))
  | .rem => Br (b == 0) False (J (.int k (a.tmod b)))
  | .and => J (.int k (k.wrap ((BitVec.ofInt k.bits a &&& BitVec.ofInt k.bits b).toNat : Int)))
  | .or => J (.int k (k.wrap ((BitVec.ofInt k.bits a ||| BitVec.ofInt k.bits b).toNat : Int)))
  | .xor => J (.int k (k.wrap ((BitVec.ofInt k.bits a ^^^ BitVec.ofInt k.bits b).toNat : Int)))
  | .andNot => J (.int k (k.wrap ((BitVec.ofInt k.bits a &&& ~~~ BitVec.ofInt k.bits b).toNat : Int)))
  | .shl => Br (decide (0 ≤ b)) (J (.int k (k.wrap (a * 2 ^ min b.toNat k.bits)))) False
  | .shr => Br (decide (0 ≤ b)) (J (.int k (a.fdiv (2 ^ min b.toNat k.bits)))) False
  | .eql => J (.bool (a == b))
  | .neq => J (.bool (a != b))
  | .lss => J (.bool (decide (a < b)))
  | .leq => J (.bool (decide (a ≤ b)))
  | .gtr => J (.bool (decide (a > b)))
  | .geq => J (.bool (decide (a ≥ b)))
def isShift : BinOp → Bool
  | .shl | .shr => true
  | _ => false
def strB (op : BinOp) (a b : ByteArray) (J : Value → Prop) : Prop := match op with
  | .add => ((a.size + b.size : Nat) : Int) ≤ 9223372036854775807 ∧ J (.string (a ++ b))
  | .eql => J (.bool (a.toList == b.toList))
  | .neq => J (.bool (!(a.toList == b.toList)))
  | _ => False
def eqN (op : BinOp) (b : Bool) (J : Value → Prop) : Prop := match op with
  | .eql => J (.bool b)
  | .neq => J (.bool (!b))
  | _ => False
/-- Two rows of scalars, held against each other: as Go goes, the first that differs ends it. -/
def eqCells (P : Program) : List TypeId → List Value → List Value → Option Bool
  | [], [], [] => some true
  | t :: ts, .int k a :: xs, .int k' b :: ys => match P.underlying t, ikEq k k' with
    | some (.int _), true => (eqCells P ts xs ys).map fun r => (a == b) && r
    | _, _ => none
  | t :: ts, .bool a :: xs, .bool b :: ys => match P.underlying t with
    | some .bool => (eqCells P ts xs ys).map fun r => (a == b) && r
    | _ => none
  | t :: ts, .string a :: xs, .string b :: ys => match P.underlying t with
    | some .string => (eqCells P ts xs ys).map fun r => (a == b) && r
    | _ => none
  | _, _, _ => none
def binV (P : Program) (op : BinOp) (xT : TypeId) (x y : Value) (J : Value → Prop) : Prop := match x with
  | .int k a => match y with
    | .int k' b => match isShift op, ikEq k k' with
      | true, _ => intB op k a b J
      | false, true => intB op k a b J
      | false, false => False
    | _ => False
  | .bool a => match y with
    | .bool b => match P.underlying xT with
      | some .bool => eqN op (a == b) J
      | _ => False
    | _ => False
  | .string a => match y with
    | .string b => strB op a b J
    | _ => False
  | .pointer a => match y with
    | .pointer none => match P.underlying xT with
      | some (.pointer _) => eqN op a.isNone J
      | _ => False
    | _ => False
  | .slice a _ _ => match y with
    | .slice none _ _ => match P.underlying xT with
      | some (.slice _) => eqN op a.isNone J
      | _ => False
    | _ => False
  | .map a => match y with
    | .map none => match P.underlying xT with
      | some (.map _ _) => eqN op a.isNone J
      | _ => False
    | _ => False
  | _ => False

def plainV : Value → Bool
  | .agg _ | .nilIface => false
  | _ => true
theorem swp_eqGuard_plain {P : Program} {q : Bool} {op : BinOp} {t : TypeId} {ox oy : Operand} {a b : Value} {h : Heap} {Q : Unit → Heap → Prop}
    (ha : plainV a = true) (qq : Q () h) : swp P q (eqGuard op t ox oy a b) h Q := by
  have e : eqGuard op t ox oy a b = pure () := by
    unfold eqGuard
    cases op <;> simp only [Bool.not_false, Bool.not_true, if_true, Bool.false_eq_true, if_false] <;> cases a <;> first | rfl | cases ha
  rw [e]; exact qq

theorem intB_sound {P : Program} {q : Bool} {op : BinOp} {xT : TypeId} {k1 k2 : IntKind} {a b : Int} {J : Value → Prop} {h : Heap}
    (hs : isShift op = true ∨ k1 = k2) (k : intB op k1 a b J) : swp P q (binOp op xT (.int k1 a) (.int k2 b)) h (fun v h' => h' = h ∧ J v) := by
  cases op
  case shl =>
    obtain ⟨k0, kk⟩ := k.elim.resolve_right (fun x => x.2)
    have k0 : 0 ≤ b := of_decide_eq_true k0
    simp only [binOp, Op.shift, Int.not_lt.2 k0, if_false, swp_pure', true_and]; exact kk
  case shr =>
    obtain ⟨k0, kk⟩ := k.elim.resolve_right (fun x => x.2)
    have k0 : 0 ≤ b := of_decide_eq_true k0
    simp only [binOp, Op.shift, Int.not_lt.2 k0, if_false, swp_pure', true_and]; exact kk
  all_goals
    have hk : k1 = k2 := hs.resolve_left (by simp [isShift])
    cases hk
  case quo =>
    obtain ⟨k0, kk⟩ := k.elim.resolve_left (fun x => x.2)
    have k0 : ¬ b = 0 := by simpa using k0
    simp only [binOp, ne_eq, not_true_eq_false, if_false, Op.intDiv, k0, swp_pure', true_and]; exact kk
  case rem =>
    obtain ⟨k0, kk⟩ := k.elim.resolve_left (fun x => x.2)
    have k0 : ¬ b = 0 := by simpa using k0
    simp only [binOp, ne_eq, not_true_eq_false, if_false, Op.intDiv, k0, swp_pure', true_and]; exact kk
  all_goals
    simp only [binOp, ne_eq, not_true_eq_false, if_false, Op.intArith, Op.intBits, Op.intCmp, swp_pure', true_and]
    exact k

theorem eqN_sound {P : Program} {q : Bool} {op : BinOp} {xT : TypeId} {x y : Value} {c : Bool} {J : Value → Prop} {h : Heap}
    (e : ∀ Q : Bool → Heap → Prop, Q c h → swp P q (Op.equal xT x y) h Q) (k : eqN op c J)
    (hx : ∀ op, op = .eql → binOp op xT x y = (do pure (.bool (← Op.equal xT x y)))) (hy : ∀ op, op = .neq → binOp op xT x y = (do pure (.bool (!(← Op.equal xT x y))))) :
    swp P q (binOp op xT x y) h (fun v h' => h' = h ∧ J v) := by
  cases op <;> first
    | exact k.elim
    | (rw [hx _ rfl, swp_bind']; exact e _ ⟨rfl, k⟩)
    | (rw [hy _ rfl, swp_bind']; exact e _ ⟨rfl, k⟩)

theorem equal_bool {P : Program} {q : Bool} {xT : TypeId} {a b : Bool} {h : Heap} (hu : P.underlying xT = some .bool) (Q : Bool → Heap → Prop) (qq : Q (a == b) h) :
    swp P q (Op.equal xT (.bool a) (.bool b)) h Q := by
  have key : ∀ d : Nat, swp P q (Op.equalIn (d + 1) xT (.bool a) (.bool b)) h Q := fun d => by
    rw [Op.equalIn, swp_bind', swp_underlying hu]; exact qq
  exact key 9999
theorem equal_ptr {P : Program} {q : Bool} {xT e : TypeId} {a : Option Addr} {h : Heap} (hu : P.underlying xT = some (.pointer e)) (Q : Bool → Heap → Prop) (qq : Q a.isNone h) :
    swp P q (Op.equal xT (.pointer a) (.pointer none)) h Q := by
  have key : ∀ d : Nat, swp P q (Op.equalIn (d + 1) xT (.pointer a) (.pointer none)) h Q := fun d => by
    rw [Op.equalIn, swp_bind', swp_underlying hu]; cases a <;> exact qq
  exact key 9999
theorem equal_sl {P : Program} {q : Bool} {xT e : TypeId} {a : Option Addr} {n m n' m' : Nat} {h : Heap} (hu : P.underlying xT = some (.slice e)) (Q : Bool → Heap → Prop) (qq : Q a.isNone h) :
    swp P q (Op.equal xT (.slice a n m) (.slice none n' m')) h Q := by
  have key : ∀ d : Nat, swp P q (Op.equalIn (d + 1) xT (.slice a n m) (.slice none n' m')) h Q := fun d => by
    rw [Op.equalIn, swp_bind', swp_underlying hu]; cases a <;> exact qq
  exact key 9999
theorem equal_map {P : Program} {q : Bool} {xT e e' : TypeId} {a : Option Nat} {h : Heap} (hu : P.underlying xT = some (.map e e')) (Q : Bool → Heap → Prop) (qq : Q a.isNone h) :
    swp P q (Op.equal xT (.map a) (.map none)) h Q := by
  have key : ∀ d : Nat, swp P q (Op.equalIn (d + 1) xT (.map a) (.map none)) h Q := fun d => by
    rw [Op.equalIn, swp_bind', swp_underlying hu]; cases a <;> exact qq
  exact key 9999

theorem binV_sound {P : Program} {q : Bool} {op : BinOp} {xT : TypeId} {x y : Value} {J : Value → Prop} {ox oy : Operand} {h : Heap} (k : binV P op xT x y J) :
    swp P q (do eqGuard op xT ox oy x y; binOp op xT x y) h (fun v h' => h' = h ∧ J v) := by
  rw [swp_bind']
  unfold binV at k
  split at k
  · split at k
    · refine swp_eqGuard_plain rfl ?_
      split at k
      · rename_i hs
        exact intB_sound (.inl hs) k
      · rename_i hk
        exact intB_sound (.inr (ikEq_eq hk)) k
      · exact k.elim
    · exact k.elim
  · split at k
    · split at k
      · rename_i hu
        exact swp_eqGuard_plain rfl (eqN_sound (equal_bool hu) k (fun _ e => by subst e; rfl) (fun _ e => by subst e; rfl))
      · exact k.elim
    · exact k.elim
  · split at k
    · refine swp_eqGuard_plain rfl ?_
      cases op <;> first
        | exact k.elim
        | (simp only [binOp, Op.stringOp, swp_pure', true_and]; exact k)
        | (obtain ⟨k0, kk⟩ := k
           simp only [binOp, Op.stringOp]
           rw [if_neg (by simp only [IntKind.max, IntKind.signed, IntKind.bits]; simp; simp at k0; omega)]
           exact ⟨rfl, kk⟩)
    · exact k.elim
  · split at k
    · split at k
      · rename_i hu
        exact swp_eqGuard_plain rfl (eqN_sound (equal_ptr hu) k (fun _ e => by subst e; rfl) (fun _ e => by subst e; rfl))
      · exact k.elim
    · exact k.elim
  · split at k
    · split at k
      · rename_i hu
        exact swp_eqGuard_plain rfl (eqN_sound (equal_sl hu) k (fun _ e => by subst e; rfl) (fun _ e => by subst e; rfl))
      · exact k.elim
    · exact k.elim
  · split at k
    · split at k
      · rename_i hu
        exact swp_eqGuard_plain rfl (eqN_sound (equal_map hu) k (fun _ e => by subst e; rfl) (fun _ e => by subst e; rfl))
      · exact k.elim
    · exact k.elim
  · exact k.elim

end Go.Sy
