/- Places seen through unsafe pointers, texts without a copy, maps from whole numbers to whole numbers: what each does over a partial heap, and that it is sound. -/
import Derived.Test.YtghdadniddoboaaFwEvc
namespace Go.Sy
variable {P : Program} {q : Bool}

/-! ### pointers held against each other -/
def twoPtr (x : Value) (y : Operand) : Bool := match x, y with
  | .pointer _, .tmp _ => true
  | _, _ => false
def ptrV (P : Program) (op : BinOp) (xT : TypeId) (x y : Value) (J : Value → Prop) : Prop := match x, y, P.underlying xT with
  | .pointer a, .pointer b, some (.pointer e) => match P.info? e with
    | some i => match Nat.beq i.size 0 with
      | false => withAddr a fun b1 o1 => withAddr b fun b2 o2 => b1 = b2 ∧ o1 = o2 ∧ eqN op true J
      | true => False
    | none => False
  | _, _, _ => False
theorem ptrV_sound {op : BinOp} {xT : TypeId} {x y : Value} {J : Value → Prop} {ox oy : Operand} {h : Heap} (k : ptrV P op xT x y J) :
    swp P q (do eqGuard op xT ox oy x y; binOp op xT x y) h (fun v h' => h' = h ∧ J v) := by
  unfold ptrV at k
  split at k
  · rename_i a b e hu
    split at k
    · rename_i i hi
      split at k
      · rename_i hz
        obtain ⟨b1, o1, rfl, k1⟩ := withAddr_elim k
        obtain ⟨b2, o2, rfl, rfl, rfl, k2⟩ := withAddr_elim k1
        rw [swp_bind']
        refine swp_eqGuard_plain rfl ?_
        have hs : i.size ≠ 0 := fun e => by rw [e] at hz; cases hz
        refine eqN_sound (c := true) (fun Q qq => ?_) k2 (fun _ e => by subst e; rfl) (fun _ e => by subst e; rfl)
        have key : ∀ d : Nat, swp P q (Op.equalIn (d + 1) xT (.pointer (some ⟨b1, o1, none⟩)) (.pointer (some ⟨b1, o1, none⟩))) h Q := fun d => by
          rw [Op.equalIn, swp_bind', swp_underlying hu]
          simp only [swp_bind']
          rw [swp_sizeOf hi]
          rw [if_pos hs]
          unfold sameAddr
          simp only [beq_self_eq_true, if_true]
          exact qq
        exact key 9999
      · exact k.elim
    · exact k.elim
  · exact k.elim

/-! ### unsafe pointers -/
def ToU (h : Heap) (b o : Nat) : Prop := ∃ cs T fz, h b = some (.cells cs T fz) ∧ o < cs.size
def LieU (P : Program) (h : Heap) (b o : Nat) (u : TypeId) (n : Nat) : Prop := ∃ cs T fz, h b = some (.cells cs T fz) ∧ liesAt P P.depth T (cs.size / P.cellsOf T) o u n = true
theorem swp_viewAt {h : Heap} {b : Nat} {cs : Array Value} {T : TypeId} {fz : Nat × Nat} (e : h b = some (.cells cs T fz)) {Q : Option (Addr × TypeId) → Heap → Prop} (k : Q none h) :
    swp P q (viewAt b) h Q := by
  unfold viewAt
  rw [swp_bind']
  exact ⟨_, e, k⟩
theorem swp_seenAt {h : Heap} {b o : Nat} {cs : Array Value} {T : TypeId} {fz : Nat × Nat} (e : h b = some (.cells cs T fz)) {Q : Addr → Heap → Prop} (k : Q ⟨b, o, none⟩ h) :
    swp P q (Conv.seenAt ⟨b, o, none⟩) h Q := by
  unfold Conv.seenAt
  rw [swp_bind']
  exact swp_viewAt e k
theorem swp_variablesAt {h : Heap} {b o : Nat} {u : TypeId} {n : Nat} (l : LieU P h b o u n) {Q : Bool → Heap → Prop} (k : Q true h) : swp P q (variablesAt ⟨b, o, none⟩ u n) h Q := by
  obtain ⟨cs, T, fz, e, l⟩ := l
  refine (show ∃ ob, h b = some ob ∧ swp P q (match shapeOf ob with
    | some (e, cells) => pure (liesAt P P.depth e (cells / P.cellsOf e) o u n)
    | none => pure false) h Q from ⟨_, e, ?_⟩)
  simp only [shapeOf, swp_pure']
  rw [l]; exact k
def unsV (P : Program) (s d : TypeId) (x : Value) (h : Heap) (J : Value → Prop) : Prop := match P.underlying s, P.underlying d, x with
  | some (.pointer t), some .unsafePointer, .pointer a => match P.info? t with
    | some i => match Nat.beq i.size 0 with
      | false => withAddr a fun b o => ToU h b o ∧ J (.pointer (some ⟨b, o, none⟩))
      | true => False
    | none => False
  | some .unsafePointer, some (.pointer u), .pointer a => match P.info? u with
    | some _ => withAddr a fun b o => LieU P h b o u 1 ∧ J (.pointer (some ⟨b, o, none⟩))
    | none => False
  | _, _, _ => False
theorem unsV_sound {s d : TypeId} {x : Value} {h : Heap} {J : Value → Prop} (k : unsV P s d x h J) : swp P q (convert s d x) h (fun v h' => h' = h ∧ J v) := by
  unfold unsV at k
  split at k
  · rename_i t a hs hd
    split at k
    · rename_i i hi
      split at k
      · rename_i hz
        obtain ⟨b, o, rfl, ⟨cs, T, fz, e, lt⟩, k⟩ := withAddr_elim k
        have h0 : i.size ≠ 0 := fun e => by rw [e] at hz; cases hz
        unfold convert
        rw [swp_bind', swp_underlying hs, swp_bind', swp_underlying hd]
        simp only [Conv.unsafePointer]
        rw [swp_bind', swp_underlying hs, swp_bind', swp_underlying hd]
        simp only [swp_bind']
        refine swp_seenAt e ?_
        unfold cellsIn
        simp only [swp_bind']
        refine ⟨_, e, ?_⟩
        show swp P q (sizeOf t) h _
        rw [swp_sizeOf hi]
        have : ¬ (o ≥ cs.size) := by omega
        simp only [h0, this, decide_false, Bool.false_and]
        exact ⟨rfl, k⟩
      · exact k.elim
    · exact k.elim
  · rename_i u a hs hd
    split at k
    · rename_i i hi
      obtain ⟨b, o, rfl, l, k⟩ := withAddr_elim k
      have l0 := l
      obtain ⟨cs, T, fz, e, _⟩ := l0
      unfold convert
      rw [swp_bind', swp_underlying hs, swp_bind', swp_underlying hd]
      simp only [Conv.unsafePointer]
      rw [swp_bind', swp_underlying hs, swp_bind', swp_underlying hd]
      simp only [swp_bind']
      refine swp_seenAt e ?_
      rw [swp_sizeOf hi]
      refine swp_variablesAt l ?_
      rw [Bool.or_true, if_pos rfl]
      exact ⟨rfl, k⟩
    · exact k.elim
  · exact k.elim
def isUns (P : Program) (s d : TypeId) : Bool := match P.underlying s, P.underlying d with
  | some .unsafePointer, _ => true
  | _, some .unsafePointer => true
  | _, _ => false

/-! ### texts of bytes, without a copy -/
def UStrA (P : Program) (e : TypeId) (h : Heap) (a : Option Addr) (n : Int) (J : ByteArray → Heap → Prop) : Prop :=
  ∃ l : List Int, (l.length : Int) = n ∧ n ≤ 9223372036854775807 ∧ ((l = [] ∧ J (strOf l) h) ∨
    ∃ b o, a = some ⟨b, o, none⟩ ∧ LieU P h b o e l.length ∧ (∀ j, j < l.length → h.cell b (o + j) = (u8V l)[j]?) ∧ J (strOf l) (h.freezeA ⟨b, o, none⟩ l.length))
theorem swp_loadBytes : ∀ (l : List Int) (b o : Nat) (acc : ByteArray) (h : Heap) (Q : ByteArray → Heap → Prop), (∀ j, j < l.length → h.cell b (o + j) = (u8V l)[j]?) →
    Q (l.foldl (fun s n => s.push (UInt8.ofNat n.toNat)) acc) h → swp P q (loadBytes ⟨b, o, none⟩ acc l.length) h Q
  | [], b, o, acc, h, Q, _, k => k
  | n :: l, b, o, acc, h, Q, hc, k => by
    rw [List.length_cons]
    unfold loadBytes
    rw [swp_bind']
    refine ⟨.int .u8 n, ?_, ?_⟩
    · rw [cellA_none]
      have := hc 0 (by simp)
      simpa [u8V] using this
    · show swp P q (loadBytes (Addr.add ⟨b, o, none⟩ 1) _ l.length) h Q
      rw [Addr.add_none]
      refine swp_loadBytes l b (o + 1) _ h Q (fun j hj => ?_) k
      have := hc (j + 1) (by simp; omega)
      rw [show o + 1 + j = o + (j + 1) by omega, this]
      simp [u8V]
def ustrV (P : Program) (ts : List TypeId) (xs : List Value) (h : Heap) (J : Value → Heap → Prop) : Prop := match ts, xs with
  | t :: _, [.pointer a, .int _ n] => match P.underlying t with
    | some (.pointer e) => UStrA P e h a n fun s h' => J (.string s) h'
    | _ => False
  | _, _ => False
theorem ustrV_sound {ts : Array TypeId} {ty : TypeId} {xs : Array Value} {h : Heap} {J : Value → Heap → Prop} (k : ustrV P ts.toList xs.toList h J) :
    swp P false (Builtin.unsafeString_ ts ty xs) h J := by
  unfold ustrV at k
  split at k
  · rename_i t ts' a ik n ht hx
    have ht0 : ts[0]? = some t := by rw [← Array.getElem?_toList, ht]; rfl
    have hxs : xs = #[.pointer a, .int ik n] := by apply Array.toList_inj.1; rw [hx]
    split at k
    · rename_i e hu
      subst hxs
      obtain ⟨l, hl, hn, k⟩ := k
      have e0 : Builtin.unsafeString_ ts ty #[.pointer a, .int ik n] = (do
          let n ← asInt (.int ik n)
          let some pt := ts[0]? | stuck "unsafe.String: no argument types"
          if n < 0 then runtimePanic (.error "unsafe.String: len out of range")
          if n > IntKind.i64.max then unsupported (.unsafePointer "String: a length above the largest int")
          match a with
          | none =>
            if n = 0 then pure (.string .empty)
            else runtimePanic (.error "unsafe.String: ptr is nil and len is not zero")
          | some a =>
            if n = 0 then pure (.string .empty)
            else if ← variablesAt a (← elemOf pt) n.toNat then do
              let s ← loadBytes a .empty n.toNat
              freeze a n.toNat
              pure (.string s)
            else unsupported (.unsafePointer "String: not so many bytes at ptr")) := rfl
      rw [e0]
      simp only [swp_bind', asInt, asIntOf, swp_pure', ht0]
      rw [if_neg (by omega)]
      rw [if_neg (by rw [show (IntKind.i64.max : Int) = 9223372036854775807 from rfl]; omega)]
      rcases k with ⟨rfl, k⟩ | ⟨b, o, rfl, lies, hc, k⟩
      · have h0 : n = 0 := by simpa using hl.symm
        subst h0
        cases a <;> exact k
      · dsimp only
        have hn' : n.toNat = l.length := by omega
        by_cases h0 : n = 0
        · have : l = [] := List.length_eq_zero_iff.1 (by omega)
          subst this
          rw [if_pos h0]
          have e0 : h.freezeA ⟨b, o, none⟩ ([] : List Int).length = h := by unfold Heap.freezeA; exact if_pos rfl
          rw [e0] at k
          exact k
        · rw [if_neg h0]
          unfold elemOf
          simp only [swp_bind']
          rw [swp_underlying hu, hn']
          refine swp_variablesAt lies ?_
          simp only [if_true, swp_bind']
          refine swp_loadBytes l b o _ h _ hc ?_
          obtain ⟨cs, T, fz, e1, _⟩ := lies
          exact ⟨rfl, ⟨_, e1⟩, k⟩
    · exact k.elim
  · exact k.elim
def sliDV (xs : List Value) (h : Heap) (J : Value → Heap → Prop) : Prop := match xs with
  | [.slice a _ c] => (a = none ∨ c ≠ 0) ∧ J (.pointer a) h
  | _ => False
theorem sliDV_sound {ts : Array TypeId} {ty : TypeId} {xs : Array Value} {h : Heap} {J : Value → Heap → Prop} (k : sliDV xs.toList h J) :
    swp P q (Builtin.unsafeSliceData_ ts ty xs) h (fun v h' => h' = h ∧ J v h) := by
  unfold sliDV at k
  split at k
  · rename_i a n c hx
    have hxs : xs = #[.slice a n c] := by apply Array.toList_inj.1; rw [hx]
    subst hxs
    cases a with
    | none => exact ⟨rfl, k.2⟩
    | some ad =>
      have hc : c ≠ 0 := k.1.resolve_left (fun e => by cases e)
      have e0 : Builtin.unsafeSliceData_ ts ty #[.slice (some ad) n c] = (do
          if c ≠ 0 then pure (.pointer (some ad))
          else if (← viewAt ad.block).isSome then pure (.pointer (some ad))
          else pure (.pointer (some ⟨← newObj (.view ad (← elemOf ty)), 0, none⟩))) := rfl
      rw [e0]
      rw [if_pos hc]
      exact ⟨rfl, k.2⟩
  · exact k.elim

/-! ### maps from whole numbers to whole numbers -/
/-- the map at r: what it answers -/
def MapF (h : Heap) (r : Nat) (kk vk : IntKind) (f : Int → Option Int) : Prop :=
  ∃ (l : List (Int × Int)) (es : Array MapEntry) (c : Nat), h r = some (.map es c) ∧ es.toList.map (fun e => (e.key, e.val)) = l.map (fun p => (.int kk p.1, .int vk p.2)) ∧ ∀ a, l.lookup a = f a
def MNewA (h : Heap) (J : Nat → Heap → Prop) : Prop := ∀ r, h r = none → J r (h.ins r (.map #[] 0))
theorem MapF.new (h : Heap) (r : Nat) (kk vk : IntKind) : MapF (h.ins r (.map #[] 0)) r kk vk (fun _ => none) :=
  ⟨[], #[], 0, by unfold Heap.ins; rw [if_pos rfl], rfl, fun _ => rfl⟩
def MGetA (h : Heap) (m : Option Nat) (kk vk : IntKind) (a : Int) (J : Int → Bool → Prop) : Prop := ∃ r f, m = some r ∧ MapF h r kk vk f ∧ J ((f a).getD 0) (f a).isSome
def MPutA (h : Heap) (m : Option Nat) (kk vk : IntKind) (a b : Int) (J : Heap → Prop) : Prop := ∃ r f, m = some r ∧ MapF h r kk vk f ∧
  ∀ o, (∀ h' : Heap, h' r = some o → MapF h' r kk vk (fun x => if x = a then some b else f x)) → isCells o = false → J (h.ins r o)
theorem findNow_map {kk vk : IntKind} {t : TypeDesc} (ht : ∃ k, t = .int k) (a : Int) : ∀ (l : List (Int × Int)) (es : List MapEntry) (i : Nat), es.map (fun e => (e.key, e.val)) = l.map (fun p => (.int kk p.1, .int vk p.2)) →
    ∃ res, Instr.findNow t (.int kk a) es i = some res ∧ (match l.lookup a with
      | none => res = none ∧ ∀ p ∈ l, p.1 ≠ a
      | some b => ∃ j e, res = some (i + j, .int vk b) ∧ es[j]? = some e ∧ e.key = .int kk a ∧ ∃ l1 l2, l = l1 ++ (a, b) :: l2 ∧ l1.length = j ∧ ∀ p ∈ l1, p.1 ≠ a)
  | [], [], i, _ => ⟨none, rfl, rfl, fun _ x => by cases x⟩
  | [], _ :: _, _, e => by cases e
  | _ :: _, [], _, e => by cases e
  | (x, y) :: l, e :: es, i, he => by
    obtain ⟨k, rfl⟩ := ht
    simp only [List.map_cons, List.cons.injEq, Prod.mk.injEq] at he
    obtain ⟨⟨e1, e2⟩, e3⟩ := he
    obtain ⟨res, h1, h2⟩ := findNow_map ⟨k, rfl⟩ a l es (i + 1) e3
    unfold Instr.findNow
    rw [e1]
    simp only [Instr.sameNow, if_true]
    by_cases hx : a = x
    · subst hx
      refine ⟨some (i, e.val), by simp, ?_⟩
      simp only [List.lookup, beq_self_eq_true]
      exact ⟨0, e, by rw [e2]; rfl, rfl, e1, [], l, rfl, rfl, fun _ h => by cases h⟩
    · have hb : (a == x) = false := by simp [hx]
      rw [hb]
      refine ⟨res, h1, ?_⟩
      simp only [List.lookup, hb]
      split
      · rename_i hn
        rw [hn] at h2
        exact ⟨h2.1, fun p hp => by
          rcases List.mem_cons.1 hp with rfl | hp
          · exact fun e => hx e.symm
          · exact h2.2 p hp⟩
      · rename_i b hn
        rw [hn] at h2
        obtain ⟨j, e', h3, h4, h5, l1, l2, h6, h7, h8⟩ := h2
        refine ⟨j + 1, e', by rw [h3, show i + 1 + j = i + (j + 1) by omega], h4, h5, (x, y) :: l1, l2, by rw [h6]; rfl, by simp [h7], fun p hp => ?_⟩
        rcases List.mem_cons.1 hp with rfl | hp
        · exact fun e => hx e.symm
        · exact h8 p hp
theorem lookup_app (a : Int) : ∀ (l1 l2 : List (Int × Int)), (∀ p ∈ l1, p.1 ≠ a) → (l1 ++ l2).lookup a = l2.lookup a
  | [], _, _ => rfl
  | (x, y) :: l1, l2, h => by
    have : (a == x) = false := by
      have := h (x, y) (by simp)
      simp only [ne_eq] at this
      simp; exact fun e => this e.symm
    simp only [List.cons_append, List.lookup, this]
    exact lookup_app a l1 l2 (fun p hp => h p (by simp [hp]))
theorem lookup_mid (a b c : Int) : ∀ (l1 l2 : List (Int × Int)), (∀ p ∈ l1, p.1 ≠ a) → ∀ x, (l1 ++ (a, b) :: l2).lookup x = if x = a then some b else (l1 ++ (a, c) :: l2).lookup x
  | [], l2, _, x => by
    simp only [List.nil_append, List.lookup]
    by_cases hx : x = a
    · subst hx; simp
    · have : (x == a) = false := by simp [hx]
      rw [this, if_neg hx]
  | (k, v) :: l1, l2, h, x => by
    simp only [List.cons_append, List.lookup]
    by_cases hk : x = k
    · subst hk
      have : x ≠ a := h (x, v) (by simp)
      simp [this]
    · have : (x == k) = false := by simp [hk]
      rw [this]
      exact lookup_mid a b c l1 l2 (fun p hp => h p (by simp [hp])) x
theorem lookup_end (a b : Int) : ∀ (l : List (Int × Int)), (∀ p ∈ l, p.1 ≠ a) → ∀ x, (l ++ [(a, b)]).lookup x = if x = a then some b else l.lookup x
  | [], _, x => by
    simp only [List.nil_append, List.lookup]
    by_cases hx : x = a
    · subst hx; simp
    · have : (x == a) = false := by simp [hx]
      rw [this, if_neg hx]
  | (k, v) :: l1, h, x => by
    simp only [List.cons_append, List.lookup]
    by_cases hk : x = k
    · subst hk
      have : x ≠ a := h (x, v) (by simp)
      simp [this]
    · have : (x == k) = false := by simp [hk]
      rw [this]
      exact lookup_end a b l1 (fun p hp => h p (by simp [hp])) x
theorem swp_Pure {α : Type} {a : α} {h : Heap} {Q : α → Heap → Prop} : swp P q (Sem.pure a) h Q ↔ Q a h := Iff.rfl
def zeroW (P : Program) (t : TypeId) : Option Value := match P.info? t with
  | some i => i.zero
  | none => none
def mGetV (P : Program) (t : TypeId) (x i : Value) (ok : Bool) (h : Heap) (J : Value → Prop) : Prop := match P.underlying t, x, i with
  | some (.map k e), .map m, .int kk a => match P.underlying k, zeroW P e with
    | some (.int _), some (.int vk (.ofNat 0)) => match ok with
      | true => MGetA h m kk vk a fun b f => J (.tuple #[.int vk b, .bool f])
      | false => MGetA h m kk vk a fun b _ => J (.int vk b)
    | _, _ => False
  | _, _, _ => False
theorem checkKey_int {b : Bool} {n : Nat} {t : TypeId} {d : IntKind} {kk : IntKind} {a : Int} (hu : P.underlying t = some (.int d)) {h : Heap} {Q : Unit → Heap → Prop} (k : Q () h) :
    swp P q (Instr.checkKey b (n + 1) t (.int kk a)) h Q := by
  unfold Instr.checkKey
  rw [swp_bind', swp_underlying hu]
  exact k
theorem swp_zeroW {t : TypeId} {z : Value} (e : zeroW P t = some z) {h : Heap} {Q : Value → Heap → Prop} (k : Q z h) : swp P q (zeroValue t) h Q := by
  unfold zeroW at e
  split at e
  · rename_i i hi
    rw [swp_zeroValue hi e]
    exact k
  · cases e
theorem mGet_main {t : TypeId} {ok : Bool} {h : Heap} {J : Value → Prop} {kt et : TypeId} {m : Option Nat} {kk vk d1 : IntKind} {a : Int} (hu : P.underlying t = some (.map kt et)) (hk : P.underlying kt = some (.int d1))
    (hz : zeroW P et = some (.int vk 0)) (k : MGetA h m kk vk a (fun b f => J (if ok then .tuple #[.int vk b, .bool f] else .int vk b))) :
    swp P q (Instr.lookup t (.map m) (.int kk a) ok) h (fun v h' => h' = h ∧ J v) := by
  obtain ⟨r, f, rfl, ⟨l, es, c, hr, he2, hf⟩, k⟩ := k
  unfold Instr.lookup
  rw [swp_bind', swp_underlying hu]
  simp only [swp_bind']
  refine ⟨_, hr, rfl, ?_⟩
  rw [swp_Pure]
  dsimp only
  simp only [swp_bind', swp_pure']
  refine checkKey_int hk ?_
  unfold Instr.findKey
  rw [swp_bind', swp_underlying hk]
  obtain ⟨res, h1, h2⟩ := findNow_map (kk := kk) (vk := vk) ⟨d1, rfl⟩ a l es.toList 0 he2
  rw [h1]
  dsimp only
  rw [hf a] at h2
  rw [swp_pure']
  cases hfa : f a with
  | none =>
    rw [hfa] at h2 k
    obtain ⟨rfl, _⟩ := h2
    dsimp only
    rw [swp_bind']
    refine swp_zeroW hz ?_
    cases ok <;> exact ⟨rfl, k⟩
  | some b =>
    rw [hfa] at h2 k
    obtain ⟨j, e, rfl, _⟩ := h2
    cases ok <;> exact ⟨rfl, k⟩
theorem mGetV_sound {t : TypeId} {x i : Value} {ok : Bool} {h : Heap} {J : Value → Prop} (k : mGetV P t x i ok h J) : swp P q (Instr.lookup t x i ok) h (fun v h' => h' = h ∧ J v) := by
  unfold mGetV at k
  split at k
  · rename_i hu
    split at k
    · rename_i hk hz
      cases ok
      · exact mGet_main hu hk hz k
      · exact mGet_main hu hk hz k
    · exact k.elim
  · exact k.elim
def mPutV (P : Program) (t : TypeId) (x i v : Value) (h : Heap) (J : Value → Heap → Prop) : Prop := match P.underlying t, x, i with
  | some (.map k _), .map m, .int kk a => match P.underlying k, v with
    | some (.int _), .int vk b => MPutA h m kk vk a b fun h' => J undef h'
    | _, _ => False
  | _, _, _ => False
theorem mPutV_sound {t : TypeId} {x i v : Value} {h : Heap} {J : Value → Heap → Prop} (k : mPutV P t x i v h J) : swp P false (Instr.mapUpdate t x i v) h (fun _ h' => J undef h') := by
  unfold mPutV at k
  split at k
  · rename_i kt et m kk a hu
    split at k
    · rename_i d1 vk b hk
      obtain ⟨r, f, rfl, ⟨l, es, c, hr, he2, hf⟩, k⟩ := k
      unfold Instr.mapUpdate
      rw [swp_bind', swp_underlying hu]
      simp only [swp_bind']
      refine ⟨_, hr, rfl, ?_⟩
      rw [swp_Pure]
      dsimp only
      simp only [swp_bind']
      refine checkKey_int hk ?_
      unfold Instr.findKey
      rw [swp_bind', swp_underlying hk]
      obtain ⟨res, h1, h2⟩ := findNow_map (kk := kk) (vk := vk) ⟨d1, rfl⟩ a l es.toList 0 he2
      rw [h1]
      dsimp only
      rw [swp_pure']
      cases hla : l.lookup a with
      | none =>
        rw [hla] at h2
        obtain ⟨rfl, hn⟩ := h2
        dsimp only
        refine ⟨rfl, _, hr, rfl, k _ (fun h' e => ?_) rfl⟩
        refine ⟨l ++ [(a, b)], _, _, e, ?_, fun x => ?_⟩
        · simp [he2]
        · rw [lookup_end a b l hn, hf]
      | some b0 =>
        rw [hla] at h2
        obtain ⟨j, e0, rfl, hj, hkey, l1, l2, rfl, rfl, hn⟩ := h2
        have hj' : es[0 + l1.length]? = some e0 := by rw [Nat.zero_add]; simpa using hj
        dsimp only
        rw [swp_bind', hj']
        unfold Instr.keyThatStays
        simp only [Option.map_some, Option.getD_some, hkey]
        have hs : Instr.sameBits 10000 (.int kk a) (.int kk a) = true := by unfold Instr.sameBits; simp
        rw [hs, if_pos rfl]
        refine ⟨rfl, _, hr, rfl, k _ (fun h' e => ?_) rfl⟩
        refine ⟨l1 ++ (a, b) :: l2, _, _, e, ?_, fun x => ?_⟩
        · apply List.ext_getElem?
          intro i
          have hi := congrArg (fun z => z[i]?) he2
          simp only [List.getElem?_map, Array.getElem?_toList, Array.getElem?_modify, Nat.zero_add] at hi ⊢
          by_cases hil : l1.length = i
          · subst hil
            rw [if_pos rfl]
            simp only [Nat.zero_add] at hj'
            rw [hj']
            simp
          · rw [if_neg hil, hi]
            rw [List.getElem?_append, List.getElem?_append]
            split
            · rfl
            · rename_i hlt
              have : i - l1.length = (i - l1.length - 1) + 1 := by omega
              rw [this]; rfl
        · rw [lookup_mid a b b0 l1 l2 hn, hf]
    · exact k.elim
  · exact k.elim
theorem mNewV_sound {t : TypeId} {h : Heap} {J : Value → Heap → Prop} (k : MNewA h fun r h' => J (.map (some r)) h') : swp P false (Instr.makeMap t none) h J := by
  unfold Instr.makeMap
  exact ⟨rfl, fun r hr => k r hr⟩
end Go.Sy
