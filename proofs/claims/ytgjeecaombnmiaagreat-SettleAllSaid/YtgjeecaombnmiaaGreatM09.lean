import Derived.Test.YtgjeecaombnmiaaGreatM08
import Derived.Test.YtgjeecaombnmiaaGreatM06
import Derived.Test.YtgjeecaombnmiaaGreatM03
import Derived.Test.YtgjeecaombnmiaaGreatM07
/- The ledger's operations: what each answers, and what stands in memory then. -/
namespace Go.Proofs.YtgjeecaombnmiaaGreat
open Go Go.Sy Go.Value
set_option linter.unusedVariables false
set_option linter.unusedSimpArgs false
section
variable {h0 h : Heap} {K : Value → Heap → Prop} {p B C : Nat} {sp : List Value} {S : Lg}
theorem qQZ (A : LedAt h p B C sp S) {m c : Int} (k : K (.bool (qC5 S m c)) h) : CallA Tryz.prog qCG [pointer (some ⟨p, 0, none⟩), .int .i64 m, .int .i64 c] h K := by
  refine qKs _ _ _ _ _ ?_
  unfold qGz
  unfold qC5 at k
  refine Br.dec (fun h1 => qB rfl ⟨_, _, _, A.rows, Br.dec (fun h2 => Br.dec (fun h3 => qB rfl ⟨_, A.cur, Ret.mk ?_⟩) fun h3 => Ret.mk ?_) fun h2 => Ret.mk ?_⟩) fun h1 => Ret.mk ?_
  · have e : decide (0 ≤ m ∧ m < (S.M.length : Int) ∧ 0 ≤ c ∧ c < (S.cur : Int)) = decide (c < (S.cur : Int)) := decide_eq_decide.2 ⟨fun x => x.2.2.2, fun x => ⟨h1, h2, h3, x⟩⟩
    rw [e] at k; exact k
  · rw [decide_eq_false (fun x => h3 x.2.2.1)] at k; exact k
  · rw [decide_eq_false (fun x => h2 x.2.1)] at k; exact k
  · rw [decide_eq_false (fun x => h1 x.1)] at k; exact k
theorem qQY (A : LedAt h p B C sp S) {m c : Int} (k : K (.int .i64 (qEq S m c)) h) : CallA Tryz.prog qCB [pointer (some ⟨p, 0, none⟩), .int .i64 m, .int .i64 c] h K := by
  refine qK2 _ _ _ _ _ ?_
  unfold qGu
  refine qQZ A ⟨_, rfl, ?_⟩
  unfold qEq at k
  cases hb : qC5 S m c with
  | false => rw [hb, if_neg (by decide)] at k; exact Br.yes rfl (Ret.mk k)
  | true =>
    rw [hb, if_pos rfl] at k
    obtain ⟨i, j, rfl, rfl, hi, hj⟩ := qLv hb
    have := A.sz.c8
    exact Br.no rfl (A.get hi (by omega) (Ret.mk k))
theorem qO1 (A : LedAt h p B C sp S) (k : K (tuple #[.int .i64 (S.M.length : Int), .int .i64 (S.cur : Int)]) h) : CallA Tryz.prog qBw [pointer (some ⟨p, 0, none⟩)] h K := by
  refine qKc _ _ _ ?_
  unfold qGU
  exact qB rfl ⟨_, _, _, A.rows, qB rfl ⟨_, A.cur, Ret.mk k⟩⟩
theorem qRY (n : Nat) : q4 n [Value.int .i64 0, .int .i64 0, .int .i64 0, .int .i64 0, .int .i64 0, .int .i64 0, .int .i64 0, .int .i64 0] = qK .i64 (List.replicate n (List.replicate 8 (0 : Int))).flatten := by
  induction n with
  | zero => rfl
  | succ n ih => rw [List.replicate_succ, List.flatten_cons, qAI, ← ih]; rfl
theorem qUd {m c : Int} (k1 : ¬ (1 ≤ m ∧ m ≤ 16 ∧ 1 ≤ c ∧ c ≤ 8) → K (tuple #[.pointer none, .int .i64 1]) h)
    (k2 : ∀ n w : Nat, m = (n : Int) → c = (w : Int) → 1 ≤ n → n ≤ 16 → 1 ≤ w → w ≤ 8 → ∀ h' p B C sp, h.le h' → LedAt h' p B C sp (qAz n w) → h p = none → h B = none → K (tuple #[.pointer (some ⟨p, 0, none⟩), .int .i64 0]) h') :
    CallA Tryz.prog qGd [.int .i64 m, .int .i64 c] h K := by
  refine qQn _ _ _ _ ?_
  unfold qLI
  refine Br.dec (fun h1 => Ret.mk (k1 (by omega))) fun h1 => Br.dec (fun h2 => Ret.mk (k1 (by omega))) fun h2 => Br.dec (fun h3 => Ret.mk (k1 (by omega))) fun h3 => Br.dec (fun h4 => Ret.mk (k1 (by omega))) fun h4 => ?_
  obtain ⟨n, rfl⟩ : ∃ n : Nat, m = n := ⟨m.toNat, by omega⟩
  obtain ⟨w, rfl⟩ : ∃ w : Nat, c = w := ⟨c.toNat, by omega⟩
  refine ⟨by omega, by omega, by omega, by omega, fun r hr r2 hr2 => ?_⟩
  rw [Int.toNat_natCast] at hr2 ⊢
  have hne : r ≠ r2 := fun e => by rw [← e] at hr2; unfold Heap.ins at hr2; rw [if_pos rfl] at hr2; cases hr2
  refine Ret.mk (k2 n w rfl rfl (by omega) (by omega) (by omega) (by omega) _ r2 r n [] (qHw (qb hr) hr2) ⟨?_, ?_, fun e => hne e.symm, (qR2 (by omega) (by omega) (by omega) (by omega)).toSz⟩ (qJ (qb hr) hr2) hr)
  · have := At.new (h.ins r (.cells (q4 n [Value.int .i64 0, .int .i64 0, .int .i64 0, .int .i64 0, .int .i64 0, .int .i64 0, .int .i64 0, .int .i64 0]).toArray 85 (0, 0))) r2 (qIg r n (qAz n w)) 87
    unfold qIg qAz at this ⊢
    rw [List.length_replicate] at this ⊢
    exact this
  · have := (At.new h r (q4 n [Value.int .i64 0, .int .i64 0, .int .i64 0, .int .i64 0, .int .i64 0, .int .i64 0, .int .i64 0, .int .i64 0]) 85).ins (x := .cells [slice (some ⟨r, 0, none⟩) n n, .int .i64 0, .int .i64 0, .int .i64 0, .int .i64 0, .int .i64 0, .int .i64 0, .int .i64 0, .int .i64 0, .int .i64 (w : Int)].toArray 87 (0, 0)) hr2
    rw [List.append_nil, show (qAz n w).M.flatten = (List.replicate n (List.replicate 8 (0 : Int))).flatten from rfl, ← qRY]
    exact this
theorem qSP (a : Int) : I64 (fit a).1 := by
  unfold fit I64
  split
  · assumption
  · decide
theorem br8 {c : Nat} (hc : c < 8) {X : Prop} (k : X) : Br (decide (0 ≤ (c : Int))) (Br (decide ((c : Int) < 8)) X False) False := Br.yes (decide_eq_true (by omega)) (Br.yes (decide_eq_true (by omega)) k)
theorem qYk (l0 : h0.le h) (np : h0 p = none) (nB : h0 B = none) (A : LedAt h p B C sp S) {m c a : Int} (ha : I64 a)
    (k : ∀ h', h0.le h' → LedAt h' p B C sp (inG S m c a).2 → K (.int .i64 (inG S m c a).1) h') : CallA Tryz.prog qDh [pointer (some ⟨p, 0, none⟩), .int .i64 m, .int .i64 c, .int .i64 a] h K := by
  refine qLb _ _ _ _ _ _ ?_
  unfold qHS
  refine qQZ A ⟨_, rfl, ?_⟩
  unfold inG at k
  by_cases hb : qC5 S m c = false
  · rw [if_pos hb] at k
    rw [hb]
    exact Br.yes rfl (Ret.mk (k h l0 A))
  rw [if_neg hb] at k
  have hb : qC5 S m c = true := by simpa using hb
  rw [hb]
  obtain ⟨i, j, rfl, rfl, hi, hj⟩ := qLv hb
  have h8 := A.sz.c8
  have hj8 : j < 8 := by omega
  refine Br.no rfl (Br.dec (fun h2 => ?_) fun h2 => ?_)
  · rw [if_pos h2] at k
    exact Ret.mk (k h l0 A)
  rw [if_neg h2] at k
  refine A.get hi hj8 (qMw (A.sz.i64 i j) ha h _ ⟨_, _, rfl, A.getN hj8 (qMw (A.sz.n64 j) ha h _ ⟨_, _, rfl, ?_⟩)⟩)
  simp only [Int.toNat_natCast] at k ⊢
  by_cases h3 : (fit (rdM S.M i j + a)).2 ≠ 0
  · rw [if_pos h3] at k
    exact Br.yes (by simpa using h3) (Ret.mk (k h l0 A))
  rw [if_neg h3] at k
  by_cases h4 : (fit (S.N.getD j 0 + a)).2 ≠ 0
  · rw [if_pos h4] at k
    exact Br.no (by simpa using h3) (Br.yes (by simpa using h4) (Ret.mk (k h l0 A)))
  rw [if_neg h4, ← qS3 h3, ← qS3 h4] at k
  have A1 := A.wrR (v := (fit (rdM S.M i j + a)).1) hi hj8 (qSP _)
  have A2 := A1.wrN (v := (fit (S.N.getD j 0 + a)).1) hj8 (qSP _)
  exact Br.no (by simpa using h3) (Br.no (by simpa using h4) (qB rfl ⟨_, _, _, A.rows, by omega, by omega, qB rfl (Br.yes (decide_eq_true (by omega)) (Br.yes (decide_eq_true (by omega)) (qB rfl ⟨A.stR hi hj8,
    Br.yes (decide_eq_true (by omega)) (Br.yes (decide_eq_true (by omega)) ⟨A1.stN hj8, Ret.mk (k _ (qS (qS l0 nB) np) A2)⟩)⟩)))⟩))
end
end Go.Proofs.YtgjeecaombnmiaaGreat

/- A member's balances, taken anew. -/
namespace Go.Proofs.YtgjeecaombnmiaaGreat
open Go Go.Sy Go.Value
set_option linter.unusedVariables false
set_option linter.unusedSimpArgs false

def qAq (S : Lg) (m : Int) (j : Nat) : List Int := (List.range j).map fun c : Nat => qEq S m (c : Int)
theorem qH2 (S : Lg) (m : Int) (j : Nat) : (qAq S m j).length = j := by unfold qAq; rw [List.length_map, List.length_range]
theorem qUI (S : Lg) (m : Int) (j : Nat) : qAq S m (j + 1) = qAq S m j ++ [qEq S m (j : Int)] := by unfold qAq; rw [List.range_succ, List.map_append]; rfl
theorem qXR {S : Lg} (o : S.Sz) (m c : Int) : I64 (qEq S m c) := by
  unfold qEq
  split
  · exact o.i64 _ _
  · exact qGc
theorem qN1 {S : Lg} (o : S.Sz) (m : Int) (j : Nat) : ∀ x ∈ qAq S m j, I64 x := fun x hx => by
  unfold qAq at hx
  obtain ⟨c, _, rfl⟩ := List.mem_map.1 hx
  exact qXR o _ _
theorem qMz {h0 h : Heap} {z : List Value} {p : Option Addr} {c : Nat} {vs : List Value} (x : OwnL h0 h z p c vs) (hv : vs ≠ []) : ∃ r sp, p = some ⟨r, 0, none⟩ ∧ h0 r = none ∧ At h r (vs ++ sp) := by
  rcases x with ⟨e, _⟩ | ⟨r, sp, e, e0, a, _⟩
  · exact (hv e).elim
  · exact ⟨r, sp, e, e0, a⟩
section
variable {h : Heap} {K : Value → Heap → Prop} {w lp A nm cA : Nat} {T : List Cur} {a : Option Addr} {n c : Nat}
theorem qQk {nm' : Nat} {A' : Option Addr} (Aw : At h w [slice a n c, .pointer (some ⟨lp, 0, none⟩), slice A' nm' cA]) {m : Int} (k : K (.bool (decide (0 ≤ m ∧ m < (nm' : Int)))) h) : CallA Tryz.prog qDe [pointer (some ⟨w, 0, none⟩), int .i64 m] h K := by
  refine qLY _ _ _ _ ?_
  unfold qHV
  refine Br.dec (fun g => qB rfl ⟨_, _, _, Aw.cell rfl, Ret.mk ?_⟩) fun g => Ret.mk ?_
  · have : decide (0 ≤ m ∧ m < (nm' : Int)) = decide (m < (nm' : Int)) := decide_eq_decide.2 ⟨fun x => x.2, fun x => ⟨by omega, x⟩⟩
    rw [← this]; exact k
  · rw [decide_eq_false (by omega)] at k; exact k
variable {B C : Nat} {sp : List Value} {S : Lg}
theorem qQs (CT : Curs h a T) (hn : T.length = n) (n1 : 1 ≤ n) (n8 : n ≤ 8) (ok : T.all qGl = true) (Aw : At h w [slice a n c, .pointer (some ⟨lp, 0, none⟩), slice (some ⟨A, 0, none⟩) nm cA]) {xs : List Value} (AA : At h A xs) (hx : nm * 7 ≤ xs.length) (LA : LedAt h lp B C sp S) {m : Nat} {mi : Int} (hm : mi = (m : Int)) (hmn : m < nm)
    (k : ∀ h1 r0 r1 r2 c0 c1 c2 s0 s1 s2, h.le h1 → h r0 = none → h r1 = none → h r2 = none → r0 ≠ r1 → r0 ≠ r2 → r1 ≠ r2 → At h1 r0 (qK .i64 (qAq S (m : Int) n) ++ s0) → At h1 r1 ((qm (qAC T) 0 (qAq S (m : Int) n)).flatMap qBg ++ s1) → At h1 r2 ((qm (qAN T) 0 (qAq S (m : Int) n)).flatMap qBg ++ s2) →
      K (tuple #[]) (h1.setN A (m * 7) [slice (some ⟨r0, 0, none⟩) n c0, slice (some ⟨r1, 0, none⟩) n c1, slice (some ⟨r2, 0, none⟩) n c2, int .i64 (qBo T (qAq S (m : Int) n)).1, int .i64 (qBo T (qAq S (m : Int) n)).2, int .i64 (shW T (qAq S (m : Int) n)).1, int .i64 (shW T (qAq S (m : Int) n)).2])) :
    CallA Tryz.prog qAR [pointer (some ⟨w, 0, none⟩), int .i64 mi] h K := by
  subst hm
  refine qG2 _ _ _ _ ?_
  unfold qEW
  refine qQk Aw ⟨_, rfl, Br.no (by rw [decide_eq_true (by omega)]; rfl) (qB rfl ⟨_, _, _, Aw.cell rfl, ?_⟩)⟩
  have loop : ∀ (d j : Nat) (g : Heap) (q : Option Addr) (cq : Nat), d + j = n → h.le g → OwnL h g [int .i64 0] q cq (qK .i64 (qAq S (m : Int) j)) → qCz (some ⟨w, 0, none⟩) (m : Int) q j cq (n : Int) (j : Int) g K := by
    intro d
    induction d with
    | zero =>
      intro j g q cq hj lg own
      refine qFt _ _ _ _ _ _ _ _ _ ?_
      unfold qD1
      obtain rfl : j = n := by omega
      have Aw' := Aw.le lg
      have hl := qH2 S (m : Int) j
      refine Br.no (by simp) (qB rfl ⟨_, _, _, Aw'.cell rfl, qPh (CT.le lg) hn ok Aw' own.rd hl (by omega) (qN1 LA.sz _ _) fun h1 q1 q2 c1 c2 l1 o1 o2 n12 => ⟨_, _, _, _, _, _, _, _, _, _, _, _, _, rfl, .inl l1, by omega, by omega, qB rfl ?_⟩⟩)
      have AA1 := AA.le (Heap.le_trans lg l1)
      have hne : ∀ {α : Type} {x : List α}, 1 ≤ x.length → x ≠ [] := fun hx e => by rw [e] at hx; simp at hx
      obtain ⟨r0, s0, rfl, z0, A0⟩ := qMz own (hne (by rw [qL, hl]; exact n1))
      obtain ⟨r1, s1, rfl, z1, A1⟩ := qMz o1 (hne (by rw [qBh qJP, qDs, hl]; omega))
      obtain ⟨r2, s2, rfl, z2, A2⟩ := qMz o2 (hne (by rw [qBh qJP, qDs, hl]; omega))
      rw [Int.toNat_natCast, Nat.zero_add]
      exact ⟨AA1.canSt (by omega), Ret.mk (k h1 r0 r1 r2 _ _ _ s0 s1 s2 (Heap.le_trans lg l1) z0 (qJ lg z1) (qJ lg z2) (A0.ne z1) (A0.ne z2) (fun e => n12 r1 rfl (by rw [e])) (A0.le l1) A1 A2)⟩
    | succ d ih =>
      intro j g q cq hj lg own
      refine qFt _ _ _ _ _ _ _ _ _ ?_
      unfold qD1
      refine Br.yes (by simp; omega) (qB rfl ⟨_, (Aw.le lg).cell rfl, qQY (LA.le lg) ⟨_, rfl, qJw own (by decide) lg (by omega) rfl rfl (by rw [qL, qH2]; simp) fun r h1 q' cq' h2 hr l1 l2 own' _ _ => ?_⟩⟩)
      rw [w1 (by omega)]
      refine ih (j + 1) h2 q' cq' (by omega) l2 ?_
      rw [qUI, qAI]
      exact own'
  exact loop n 0 h none 0 rfl h.le_refl (OwnL.nil _ _ _)
end
end Go.Proofs.YtgjeecaombnmiaaGreat

/- Worths in memory: numbered blocks. -/
namespace Go.Proofs.YtgjeecaombnmiaaGreat
open Go Go.Sy Go.Value
set_option linter.unusedVariables false
set_option linter.unusedSimpArgs false

/-! rows of one width, one behind the other -/
theorem qJx {g : Nat → List Value} {w : Nat} (hg : ∀ i, (g i).length = w) (n : Nat) : ((List.range n).flatMap g).length = n * w := by rw [qBh hg, List.length_range]
theorem qPe : ∀ (ws xs ys : List Value) (o : Nat), qh (xs ++ ys) (xs.length + o) ws = xs ++ qh ys o ws
  | [], xs, ys, o => rfl
  | v :: ws, xs, ys, o => by
    rw [qh, qh, qBR, qBR, List.set_append_right _ _ (by omega), Nat.add_sub_cancel_left, show xs.length + o + 1 = xs.length + (o + 1) by omega, qPe ws]
theorem qPZ : ∀ (ws xs ys : List Value) (o : Nat), o + ws.length ≤ xs.length → qh (xs ++ ys) o ws = qh xs o ws ++ ys
  | [], xs, ys, o, _ => rfl
  | v :: ws, xs, ys, o, h => by
    rw [List.length_cons] at h
    rw [qh, qh, qBR, qBR, List.set_append_left _ _ (by omega), qPZ ws _ _ _ (by rw [List.length_set]; omega)]
theorem qMZ {g : Nat → List Value} {w : Nat} (hg : ∀ i, (g i).length = w) {ws : List Value} {o : Nat} (ho : o + ws.length ≤ w) : ∀ (n j : Nat) (sp : List Value), j < n → qh ((List.range n).flatMap g ++ sp) (j * w + o) ws = (List.range n).flatMap (qAh g j (qh (g j) o ws)) ++ sp
  | 0, j, sp, h => by omega
  | n + 1, j, sp, h => by
    rw [List.range_succ, List.flatMap_append, List.flatMap_append, List.append_assoc, List.append_assoc]
    by_cases e : j = n
    · subst e
      have e1 : (List.range j).flatMap (qAh g j (qh (g j) o ws)) = (List.range j).flatMap g := by
        unfold List.flatMap
        congr 1
        exact List.map_congr_left fun i hi => qN _ _ (by have := List.mem_range.1 hi; omega)
      rw [e1]
      conv => lhs; rw [← qJx hg j]
      rw [qPe]
      simp only [List.flatMap_cons, List.flatMap_nil, List.append_nil, qa]
      rw [qPZ _ _ _ _ (by rw [hg]; exact ho)]
    · rw [qMZ hg ho n j _ (by omega)]
      simp only [List.flatMap_cons, List.flatMap_nil, List.append_nil]
      rw [qN _ _ (fun e2 => e e2.symm)]
/-! accounts -/
structure Ac where
  row : List Int
  wl : List Td
  sl : List Td
  nt : Td
  sh : Td
def qDx (T : List Cur) (row : List Int) : Ac := ⟨row, qm (qAC T) 0 row, qm (qAN T) 0 row, qBo T row, shW T row⟩
structure WoF where
  b : Nat → Nat
  q : Nat → Nat
  sp : Nat → List Value
  lp : Nat
def qOE : List Value := [slice none 0 0, slice none 0 0, slice none 0 0, int .i64 0, int .i64 0, int .i64 0, int .i64 0]
def acV (f : WoF) (w : Nat) (L : Nat → Ac) (i : Nat) : List Value := [slice (some ⟨f.b (3 + 3 * i), 0, none⟩) w (f.q (3 + 3 * i)), slice (some ⟨f.b (4 + 3 * i), 0, none⟩) w (f.q (4 + 3 * i)), slice (some ⟨f.b (5 + 3 * i), 0, none⟩) w (f.q (5 + 3 * i)), int .i64 (L i).nt.1, int .i64 (L i).nt.2, int .i64 (L i).sh.1, int .i64 (L i).sh.2]
def acR (f : WoF) (w : Nat) (L : Nat → Ac) (d i : Nat) : List Value := if i < d then acV f w L i else qOE
theorem qI3 (f : WoF) (w : Nat) (L : Nat → Ac) (d i : Nat) : (acR f w L d i).length = 7 := by unfold acR; split <;> rfl
def woC (f : WoF) (T : List Cur) (n d : Nat) (L : Nat → Ac) (x : Nat) : List Value :=
  if x = 0 then [slice (some ⟨f.b 2, 0, none⟩) T.length (f.q 2), .pointer (some ⟨f.lp, 0, none⟩), slice (some ⟨f.b 1, 0, none⟩) n (f.q 1)]
  else if x = 1 then (List.range n).flatMap (acR f T.length L d) ++ f.sp 1
  else if x = 2 then qFU T ++ f.sp 2
  else if x % 3 = 0 then qK .i64 (L (x / 3 - 1)).row ++ f.sp x
  else if x % 3 = 1 then (L (x / 3 - 1)).wl.flatMap qBg ++ f.sp x else (L (x / 3 - 1)).sl.flatMap qBg ++ f.sp x
section
variable (f : WoF) (T : List Cur) (n d : Nat) (L : Nat → Ac) (i : Nat)
theorem qOH : woC f T n d L 0 = [slice (some ⟨f.b 2, 0, none⟩) T.length (f.q 2), .pointer (some ⟨f.lp, 0, none⟩), slice (some ⟨f.b 1, 0, none⟩) n (f.q 1)] := rfl
theorem qIo : woC f T n d L 1 = (List.range n).flatMap (acR f T.length L d) ++ f.sp 1 := rfl
theorem qSY : woC f T n d L 2 = qFU T ++ f.sp 2 := rfl
theorem qJy : woC f T n d L (3 + 3 * i) = qK .i64 (L i).row ++ f.sp (3 + 3 * i) := by
  unfold woC; rw [if_neg (by omega), if_neg (by omega), if_neg (by omega), if_pos (by omega), show (3 + 3 * i) / 3 - 1 = i by omega]
theorem qJz : woC f T n d L (4 + 3 * i) = (L i).wl.flatMap qBg ++ f.sp (4 + 3 * i) := by
  unfold woC; rw [if_neg (by omega), if_neg (by omega), if_neg (by omega), if_neg (by omega), if_pos (by omega), show (4 + 3 * i) / 3 - 1 = i by omega]
theorem qJq : woC f T n d L (5 + 3 * i) = (L i).sl.flatMap qBg ++ f.sp (5 + 3 * i) := by
  unfold woC; rw [if_neg (by omega), if_neg (by omega), if_neg (by omega), if_neg (by omega), if_neg (by omega), show (5 + 3 * i) / 3 - 1 = i by omega]
end
theorem kinds {x : Nat} : x = 0 ∨ x = 1 ∨ x = 2 ∨ ∃ i, x = 3 + 3 * i ∨ x = 4 + 3 * i ∨ x = 5 + 3 * i := by
  by_cases h : x < 3
  · omega
  · exact .inr (.inr (.inr ⟨x / 3 - 1, by omega⟩))
structure WoX (h : Heap) (f : WoF) (T : List Cur) (n d : Nat) (L : Nat → Ac) : Prop where
  fam : Fam h (3 + 3 * d) f.b (woC f T n d L)
  dn : d ≤ n
  ln : ∀ i, i < d → (L i).row.length = T.length ∧ (L i).wl.length = T.length ∧ (L i).sl.length = T.length
section
variable {h h' : Heap} {f : WoF} {T : List Cur} {n d : Nat} {L : Nat → Ac}
theorem WoX.le (X : WoX h f T n d L) (l : h.le h') : WoX h' f T n d L := { X with fam := X.fam.le l }
theorem WoX.w (X : WoX h f T n d L) : At h (f.b 0) [slice (some ⟨f.b 2, 0, none⟩) T.length (f.q 2), .pointer (some ⟨f.lp, 0, none⟩), slice (some ⟨f.b 1, 0, none⟩) n (f.q 1)] := X.fam.at' 0 (by omega)
theorem WoX.a (X : WoX h f T n d L) : At h (f.b 1) ((List.range n).flatMap (acR f T.length L d) ++ f.sp 1) := X.fam.at' 1 (by omega)
theorem WoX.t (X : WoX h f T n d L) : Curs h (some ⟨f.b 2, 0, none⟩) T := (X.fam.at' 2 (by omega) : At h (f.b 2) (qFU T ++ f.sp 2)).toRd
theorem WoX.row (X : WoX h f T n d L) {i : Nat} (hi : i < d) : At h (f.b (3 + 3 * i)) (qK .i64 (L i).row ++ f.sp (3 + 3 * i)) := by rw [← qJy f T n d L]; exact X.fam.at' _ (by omega)
theorem WoX.wl (X : WoX h f T n d L) {i : Nat} (hi : i < d) : At h (f.b (4 + 3 * i)) ((L i).wl.flatMap qBg ++ f.sp (4 + 3 * i)) := by rw [← qJz f T n d L]; exact X.fam.at' _ (by omega)
theorem WoX.sl (X : WoX h f T n d L) {i : Nat} (hi : i < d) : At h (f.b (5 + 3 * i)) ((L i).sl.flatMap qBg ++ f.sp (5 + 3 * i)) := by rw [← qJq f T n d L]; exact X.fam.at' _ (by omega)
theorem WoX.ac (X : WoX h f T n d L) {i o : Nat} (hi : i < d) (ho : o < 7) : h.cell (f.b 1) (i * 7 + o) = (acV f T.length L i)[o]? := by
  have hn := X.dn
  have e := qKg (enc := acR f T.length L d) (w := 7) (qI3 f T.length L d) (List.range n) i o i (List.getElem?_range (by omega)) ho
  have e2 : acR f T.length L d i = acV f T.length L i := if_pos hi
  rw [e2] at e
  have hv : o < (acV f T.length L i).length := ho
  rw [List.getElem?_eq_getElem hv] at e ⊢
  refine X.a.cell ?_
  rw [List.getElem?_append_left (by rw [qJx (qI3 f T.length L d)]; omega)]
  exact e
end
/-! three blocks anew -/
def b3 {α : Type} (f : Nat → α) (m : Nat) (x y z : α) : Nat → α := qAh (qAh (qAh f (3 + 3 * m) x) (4 + 3 * m) y) (5 + 3 * m) z
section
variable {α : Type} (f : Nat → α) (m : Nat) (x y z : α)
theorem qQt : b3 f m x y z (3 + 3 * m) = x := by unfold b3; rw [qN _ _ (by omega), qN _ _ (by omega), qa]
theorem qQ2 : b3 f m x y z (4 + 3 * m) = y := by unfold b3; rw [qN _ _ (by omega), qa]
theorem qQF : b3 f m x y z (5 + 3 * m) = z := by unfold b3; rw [qa]
theorem qCM {k : Nat} (h1 : k ≠ 3 + 3 * m) (h2 : k ≠ 4 + 3 * m) (h3 : k ≠ 5 + 3 * m) : b3 f m x y z k = f k := by unfold b3; rw [qN _ _ h3, qN _ _ h2, qN _ _ h1]
end
theorem qXO {h h1 : Heap} {N m : Nat} {b : Nat → Nat} {c : Nat → List Value} (F : Fam h N b c) {r0 r1 r2 : Nat} {x0 x1 x2 : List Value} (l : h.le h1) (z0 : h r0 = none) (z1 : h r1 = none) (z2 : h r2 = none) (n01 : r0 ≠ r1) (n02 : r0 ≠ r2) (n12 : r1 ≠ r2)
    (A0 : At h1 r0 x0) (A1 : At h1 r1 x1) (A2 : At h1 r2 x2) : Fam h1 N (b3 b m r0 r1 r2) (b3 c m x0 x1 x2) := by
  have f0 := F.fresh z0
  have f1 := F.fresh z1
  have f2 := F.fresh z2
  have g1 : qDR N (qAh b (3 + 3 * m) r0) r1 = false := by
    cases e : qDR N (qAh b (3 + 3 * m) r0) r1 with
    | false => rfl
    | true =>
      rcases qMQ e with e | e
      · exact (n01 e.symm).elim
      · rw [f1] at e; cases e
  have g2 : qDR N (qAh (qAh b (3 + 3 * m) r0) (4 + 3 * m) r1) r2 = false := by
    cases e : qDR N (qAh (qAh b (3 + 3 * m) r0) (4 + 3 * m) r1) r2 with
    | false => rfl
    | true =>
      rcases qMQ e with e | e
      · exact (n12 e.symm).elim
      · rcases qMQ e with e | e
        · exact (n02 e.symm).elim
        · rw [f2] at e; cases e
  exact (((F.le l).swap f0 A0).swap g1 A1).swap g2 A2
theorem qXg {h h1 : Heap} {m : Nat} {b : Nat → Nat} {c : Nat → List Value} (F : Fam h (3 + 3 * m) b c) {r0 r1 r2 : Nat} {x0 x1 x2 : List Value} (l : h.le h1) (z0 : h r0 = none) (z1 : h r1 = none) (z2 : h r2 = none) (n01 : r0 ≠ r1) (n02 : r0 ≠ r2) (n12 : r1 ≠ r2)
    (A0 : At h1 r0 x0) (A1 : At h1 r1 x1) (A2 : At h1 r2 x2) : Fam h1 (3 + 3 * (m + 1)) (b3 b m r0 r1 r2) (b3 c m x0 x1 x2) := by
  have f0 := F.fresh z0
  have f1 := F.fresh z1
  have f2 := F.fresh z2
  have g1 : qDR (3 + 3 * m + 1) (qAh b (3 + 3 * m) r0) r1 = false := by
    cases e : qDR (3 + 3 * m + 1) (qAh b (3 + 3 * m) r0) r1 with
    | false => rfl
    | true =>
      rcases qL1 e with e | e
      · exact (n01 e.symm).elim
      · rw [f1] at e; cases e
  have g2 : qDR (3 + 3 * m + 1 + 1) (qAh (qAh b (3 + 3 * m) r0) (3 + 3 * m + 1) r1) r2 = false := by
    cases e : qDR (3 + 3 * m + 1 + 1) (qAh (qAh b (3 + 3 * m) r0) (3 + 3 * m + 1) r1) r2 with
    | false => rfl
    | true =>
      rcases qL1 e with e | e
      · exact (n12 e.symm).elim
      · rcases qL1 e with e | e
        · exact (n02 e.symm).elim
        · rw [f2] at e; cases e
  have := (((F.le l).more f0 A0).more g1 A1).more g2 A2
  rw [show 3 + 3 * m + 1 + 1 + 1 = 3 + 3 * (m + 1) by omega, show 3 + 3 * m + 1 + 1 = 5 + 3 * m by omega, show 3 + 3 * m + 1 = 4 + 3 * m by omega] at this
  exact this
def WoF.b3 (f : WoF) (m r0 r1 r2 c0 c1 c2 : Nat) (s0 s1 s2 : List Value) : WoF := ⟨Proofs.YtgjeecaombnmiaaGreat.b3 f.b m r0 r1 r2, Proofs.YtgjeecaombnmiaaGreat.b3 f.q m c0 c1 c2, Proofs.YtgjeecaombnmiaaGreat.b3 f.sp m s0 s1 s2, f.lp⟩
theorem qXc {f : WoF} {T : List Cur} {n d d' m : Nat} {L : Nat → Ac} {a : Ac} {r0 r1 r2 c0 c1 c2 : Nat} {s0 s1 s2 : List Value} (hm : m < n) (hd : ∀ i, i < d' ↔ i = m ∨ i < d) {i : Nat} (hi : i < 3 + 3 * d') :
    qAh (b3 (woC f T n d L) m (qK .i64 a.row ++ s0) (a.wl.flatMap qBg ++ s1) (a.sl.flatMap qBg ++ s2)) 1 (qh (b3 (woC f T n d L) m (qK .i64 a.row ++ s0) (a.wl.flatMap qBg ++ s1) (a.sl.flatMap qBg ++ s2) 1) (m * 7)
      [slice (some ⟨r0, 0, none⟩) T.length c0, slice (some ⟨r1, 0, none⟩) T.length c1, slice (some ⟨r2, 0, none⟩) T.length c2, int .i64 a.nt.1, int .i64 a.nt.2, int .i64 a.sh.1, int .i64 a.sh.2]) i
    = woC (f.b3 m r0 r1 r2 c0 c1 c2 s0 s1 s2) T n d' (qAh L m a) i := by
  rw [qCM _ _ _ _ _ (k := 1) (by omega) (by omega) (by omega), qIo]
  rcases kinds (x := i) with rfl | rfl | rfl | ⟨j, hj⟩
  · rw [qN _ _ (by decide), qCM _ _ _ _ _ (by omega) (by omega) (by omega), qOH, qOH]
    unfold WoF.b3
    dsimp only
    rw [qCM _ _ _ _ _ (k := 2) (by omega) (by omega) (by omega), qCM _ _ _ _ _ (k := 2) (by omega) (by omega) (by omega), qCM _ _ _ _ _ (k := 1) (by omega) (by omega) (by omega), qCM _ _ _ _ _ (k := 1) (by omega) (by omega) (by omega)]
  · rw [qa, qIo]
    have e1 := qMZ (qI3 f T.length L d) (ws := [slice (some ⟨r0, 0, none⟩) T.length c0, slice (some ⟨r1, 0, none⟩) T.length c1, slice (some ⟨r2, 0, none⟩) T.length c2, int .i64 a.nt.1, int .i64 a.nt.2, int .i64 a.sh.1, int .i64 a.sh.2]) (o := 0) (by simp) n m (f.sp 1) hm
    rw [Nat.add_zero] at e1
    rw [e1]
    unfold WoF.b3
    dsimp only
    rw [qCM _ _ _ _ _ (k := 1) (by omega) (by omega) (by omega)]
    congr 1
    unfold List.flatMap
    congr 1
    refine List.map_congr_left fun k hk => ?_
    by_cases e : k = m
    · subst e
      rw [qa]
      unfold acR
      rw [if_pos (c := k < d') ((hd k).2 (.inl rfl))]
      have e3 : qh (if k < d then acV f T.length L k else qOE) 0 [slice (some ⟨r0, 0, none⟩) T.length c0, slice (some ⟨r1, 0, none⟩) T.length c1, slice (some ⟨r2, 0, none⟩) T.length c2, int .i64 a.nt.1, int .i64 a.nt.2, int .i64 a.sh.1, int .i64 a.sh.2] = [slice (some ⟨r0, 0, none⟩) T.length c0, slice (some ⟨r1, 0, none⟩) T.length c1, slice (some ⟨r2, 0, none⟩) T.length c2, int .i64 a.nt.1, int .i64 a.nt.2, int .i64 a.sh.1, int .i64 a.sh.2] := by split <;> rfl
      rw [e3]
      unfold acV
      dsimp only
      rw [qQt, qQt, qQ2, qQ2, qQF, qQF, qa]
    · rw [qN _ _ e]
      unfold acR
      have hdk : k < d ↔ k < d' := ⟨fun x => (hd k).2 (.inr x), fun x => ((hd k).1 x).resolve_left e⟩
      by_cases hk : k < d
      · rw [if_pos hk, if_pos (hdk.1 hk)]
        unfold acV
        dsimp only
        rw [qCM _ _ _ _ _ (by omega) (by omega) (by omega), qCM _ _ _ _ _ (by omega) (by omega) (by omega), qCM _ _ _ _ _ (by omega) (by omega) (by omega), qCM _ _ _ _ _ (by omega) (by omega) (by omega), qCM _ _ _ _ _ (by omega) (by omega) (by omega), qCM _ _ _ _ _ (by omega) (by omega) (by omega), qN _ _ e]
      · rw [if_neg hk, if_neg (fun x => hk (hdk.2 x))]
  · rw [qN _ _ (by decide), qCM _ _ _ _ _ (by omega) (by omega) (by omega), qSY, qSY]
    unfold WoF.b3
    dsimp only
    rw [qCM _ _ _ _ _ (k := 2) (by omega) (by omega) (by omega)]
  · by_cases e : j = m
    · subst e
      rcases hj with rfl | rfl | rfl
      · rw [qN _ _ (by omega), qQt, qJy, qa]
        unfold WoF.b3
        dsimp only
        rw [qQt]
      · rw [qN _ _ (by omega), qQ2, qJz, qa]
        unfold WoF.b3
        dsimp only
        rw [qQ2]
      · rw [qN _ _ (by omega), qQF, qJq, qa]
        unfold WoF.b3
        dsimp only
        rw [qQF]
    · rcases hj with rfl | rfl | rfl
      · rw [qN _ _ (by omega), qCM _ _ _ _ _ (by omega) (by omega) (by omega), qJy, qJy, qN _ _ e]
        unfold WoF.b3
        dsimp only
        rw [qCM _ _ _ _ _ (by omega) (by omega) (by omega)]
      · rw [qN _ _ (by omega), qCM _ _ _ _ _ (by omega) (by omega) (by omega), qJz, qJz, qN _ _ e]
        unfold WoF.b3
        dsimp only
        rw [qCM _ _ _ _ _ (by omega) (by omega) (by omega)]
      · rw [qN _ _ (by omega), qCM _ _ _ _ _ (by omega) (by omega) (by omega), qJq, qJq, qN _ _ e]
        unfold WoF.b3
        dsimp only
        rw [qCM _ _ _ _ _ (by omega) (by omega) (by omega)]
end Go.Proofs.YtgjeecaombnmiaaGreat

/- Worths are made; a member's balances are taken anew. -/
namespace Go.Proofs.YtgjeecaombnmiaaGreat
open Go Go.Sy Go.Value
set_option linter.unusedVariables false
set_option linter.unusedSimpArgs false

theorem qSA (T : List Cur) (S : Lg) (m : Int) : (qDx T (qAq S m T.length)).row.length = T.length ∧ (qDx T (qAq S m T.length)).wl.length = T.length ∧ (qDx T (qAq S m T.length)).sl.length = T.length := by
  unfold qDx
  dsimp only
  rw [qDs, qDs, qH2]
  exact ⟨rfl, rfl, rfl⟩
theorem WoX.step {h0 h h1 : Heap} {f : WoF} {T : List Cur} {n d d' m : Nat} {L : Nat → Ac} (X : WoX h f T n d L) (l0 : h0.le h) (fr : ∀ i, i < 3 + 3 * d → h0 (f.b i) = none) {a : Ac} (hm : m < n) (hd : (m < d ∧ d' = d) ∨ (m = d ∧ d' = d + 1)) (ha : a.row.length = T.length ∧ a.wl.length = T.length ∧ a.sl.length = T.length)
    {r0 r1 r2 : Nat} (c0 c1 c2 : Nat) {s0 s1 s2 : List Value} (l1 : h.le h1) (z0 : h r0 = none) (z1 : h r1 = none) (z2 : h r2 = none) (n01 : r0 ≠ r1) (n02 : r0 ≠ r2) (n12 : r1 ≠ r2) (A0 : At h1 r0 (qK .i64 a.row ++ s0)) (A1 : At h1 r1 (a.wl.flatMap qBg ++ s1)) (A2 : At h1 r2 (a.sl.flatMap qBg ++ s2)) :
    h0.le (h1.setN (f.b 1) (m * 7) [slice (some ⟨r0, 0, none⟩) T.length c0, slice (some ⟨r1, 0, none⟩) T.length c1, slice (some ⟨r2, 0, none⟩) T.length c2, int .i64 a.nt.1, int .i64 a.nt.2, int .i64 a.sh.1, int .i64 a.sh.2]) ∧
    WoX (h1.setN (f.b 1) (m * 7) [slice (some ⟨r0, 0, none⟩) T.length c0, slice (some ⟨r1, 0, none⟩) T.length c1, slice (some ⟨r2, 0, none⟩) T.length c2, int .i64 a.nt.1, int .i64 a.nt.2, int .i64 a.sh.1, int .i64 a.sh.2]) (f.b3 m r0 r1 r2 c0 c1 c2 s0 s1 s2) T n d' (qAh L m a) ∧
    (∀ i, i < 3 + 3 * d' → h0 ((f.b3 m r0 r1 r2 c0 c1 c2 s0 s1 s2).b i) = none) ∧ (f.b3 m r0 r1 r2 c0 c1 c2 s0 s1 s2).b 0 = f.b 0 := by
  have hdn := X.dn
  have hd' : ∀ i, i < d' ↔ i = m ∨ i < d := fun i => by omega
  have F : Fam h1 (3 + 3 * d') (Proofs.YtgjeecaombnmiaaGreat.b3 f.b m r0 r1 r2) (Proofs.YtgjeecaombnmiaaGreat.b3 (woC f T n d L) m (qK .i64 a.row ++ s0) (a.wl.flatMap qBg ++ s1) (a.sl.flatMap qBg ++ s2)) := by
    rcases hd with ⟨h1, rfl⟩ | ⟨rfl, rfl⟩
    · exact qXO X.fam l1 z0 z1 z2 n01 n02 n12 A0 A1 A2
    · exact qXg X.fam l1 z0 z1 z2 n01 n02 n12 A0 A1 A2
  have e1 : Proofs.YtgjeecaombnmiaaGreat.b3 f.b m r0 r1 r2 1 = f.b 1 := qCM _ _ _ _ _ (by omega) (by omega) (by omega)
  have F2 := F.set (i := 1) (o := m * 7) (ws := [slice (some ⟨r0, 0, none⟩) T.length c0, slice (some ⟨r1, 0, none⟩) T.length c1, slice (some ⟨r2, 0, none⟩) T.length c2, int .i64 a.nt.1, int .i64 a.nt.2, int .i64 a.sh.1, int .i64 a.sh.2]) (by omega)
  rw [e1] at F2
  refine ⟨qS (Heap.le_trans l0 l1) (fr 1 (by omega)), ⟨F2.congr fun i hi => qXc hm hd' hi, by omega, fun i hi => ?_⟩, fun i hi => ?_, qCM _ _ _ _ _ (by omega) (by omega) (by omega)⟩
  · by_cases e : i = m
    · subst e; rw [qa]; exact ha
    · rw [qN _ _ e]; exact X.ln i (by have := (hd' i).1 hi; omega)
  · show h0 (Proofs.YtgjeecaombnmiaaGreat.b3 f.b m r0 r1 r2 i) = none
    by_cases e1 : i = 3 + 3 * m
    · subst e1; rw [qQt]; exact qJ l0 z0
    by_cases e2 : i = 4 + 3 * m
    · subst e2; rw [qQ2]; exact qJ l0 z1
    by_cases e3 : i = 5 + 3 * m
    · subst e3; rw [qQF]; exact qJ l0 z2
    rw [qCM _ _ _ _ _ e1 e2 e3]
    exact fr i (by omega)
def qQj (T : List Cur) (S : Lg) (i : Nat) : Ac := qDx T (qAq S (i : Int) T.length)
theorem qVR (T : List Cur) (S : Lg) (m : Nat) : qAh (qQj T S) m (qDx T (qAq S (m : Int) T.length)) = qQj T S := by
  funext i
  by_cases e : i = m
  · subst e; rw [qa]; rfl
  · rw [qN _ _ e]
theorem qPG (f : WoF) (w : Nat) (L : Nat → Ac) : ∀ n, q4 n qOE = (List.range n).flatMap (acR f w L 0)
  | 0 => rfl
  | n + 1 => by
    rw [q4, qPG f w L n]
    have e : ∀ n, (List.range n).flatMap (acR f w L 0) = (List.replicate n qOE).flatten := fun n => by
      unfold List.flatMap
      congr 1
      refine List.ext_getElem (by simp) fun i h1 h2 => ?_
      simp [acR]
    rw [e, e]; rfl
section
variable {h : Heap} {K : Value → Heap → Prop} {T : List Cur} {tp : Option Addr} {tn tc lp B C : Nat} {sp : List Value} {S : Lg}
theorem qXk {h0 : Heap} (hT : qCV T = 0) (LA : LedAt h0 lp B C sp S) (k3 : ∀ h' f, h0.le h' → WoX h' f T S.M.length S.M.length (qQj T S) → f.lp = lp → (∀ i, i < 3 + 3 * S.M.length → h0 (f.b i) = none) → K (tuple #[.pointer (some ⟨f.b 0, 0, none⟩), .int .i64 0]) h') :
    ∀ (m j : Nat) (h : Heap) (f : WoF), m + j = S.M.length → h0.le h → WoX h f T S.M.length j (qQj T S) → f.lp = lp → (∀ i, i < 3 + 3 * j → h0 (f.b i) = none) → qGY (f.b 0) (S.M.length : Int) (j : Int) h K := by
  have n16 := LA.sz.n16
  obtain ⟨t1, t8, _⟩ := qCq hT
  intro m
  induction m with
  | zero =>
    intro j h f hj l0 X ef fr
    refine qKi _ _ _ _ _ ?_
    unfold qHo
    obtain rfl : j = S.M.length := by omega
    exact Br.no (by simp) (Ret.mk (k3 h f l0 X ef fr))
  | succ m ih =>
    intro j h f hj l0 X ef fr
    refine qKi _ _ _ _ _ ?_
    unfold qHo
    refine Br.yes (by simp; omega) (qQs X.t rfl t1 t8 (qMp hT) X.w X.a (by rw [List.length_append, qJx (qI3 _ _ _ _)]; omega) (by rw [ef]; exact LA.le l0) (m := j) rfl (by omega) fun h1 r0 r1 r2 c0 c1 c2 s0 s1 s2 l1 z0 z1 z2 n01 n02 n12 A0 A1 A2 => ⟨rfl, ?_⟩)
    rw [w1 (by omega)]
    obtain ⟨g1, g2, g3, g4⟩ := X.step (a := qDx T (qAq S (j : Int) T.length)) l0 fr (m := j) (d' := j + 1) (by omega) (.inr ⟨rfl, rfl⟩) (qSA T S j) c0 c1 c2 l1 z0 z1 z2 n01 n02 n12 A0 A1 A2
    rw [qVR] at g2
    rw [← g4]
    exact ih (j + 1) _ _ (by omega) g1 g2 ef g3
theorem qQq (CT : Curs h tp T) (hn : T.length = tn) (hs : tn ≤ 1000000) (LA : LedAt h lp B C sp S)
    (k1 : qCV T ≠ 0 → ∀ h', h.le h' → K (tuple #[.pointer none, .int .i64 (qCV T)]) h')
    (k2 : qCV T = 0 → S.cur ≠ tn → ∀ h', h.le h' → K (tuple #[.pointer none, .int .i64 1]) h')
    (k3 : qCV T = 0 → S.cur = tn → ∀ h' f, h.le h' → WoX h' f T S.M.length S.M.length (qQj T S) → f.lp = lp → (∀ i, i < 3 + 3 * S.M.length → h (f.b i) = none) → K (tuple #[.pointer (some ⟨f.b 0, 0, none⟩), .int .i64 0]) h') :
    CallA Tryz.prog qHL [slice tp tn tc, .pointer (some ⟨lp, 0, none⟩)] h K := by
  have n16 := LA.sz.n16
  have n1 := LA.sz.n1
  refine qRf _ _ _ _ _ _ ?_
  unfold qLj
  refine qWd CT hn fun h1 l1 => ⟨_, rfl, ?_⟩
  by_cases hT : qCV T ≠ 0
  · exact Br.yes (by simpa using hT) (Ret.mk (k1 hT h1 l1))
  have hT : qCV T = 0 := Classical.byContradiction hT
  rw [hT]
  refine Br.no rfl (Br.no rfl (qO1 (LA.le l1) ⟨_, _, rfl, ?_⟩))
  by_cases hc : S.cur ≠ tn
  · exact Br.yes (by simpa using fun e => hc (by omega)) (Ret.mk (k2 hT hc h1 l1))
  have hc : S.cur = tn := Classical.byContradiction hc
  refine Br.no (by rw [hc]; simp) ⟨by omega, by omega, by omega, by omega, qVh (CT.le l1) hn hs fun p' c' h2 l2 own => ⟨_, _, _, rfl, by omega, by omega, by omega, by omega, ql fun A h3 zA l3 AA => ql fun w h4 zw l4 Aw => ?_⟩⟩
  obtain ⟨t1, t8, _⟩ := qCq hT
  obtain ⟨tb, sq, rfl, zt, At'⟩ := qMz own (fun e => by have := qDn T; rw [e] at this; simp at this; omega)
  rw [Int.toNat_natCast] at AA Aw
  have l12 := Heap.le_trans l1 l2
  have l13 := Heap.le_trans l12 l3
  have l14 := Heap.le_trans l13 l4
  refine qXk hT LA (k3 hT hc) S.M.length 0 h4 ⟨fun i => if i = 0 then w else if i = 1 then A else tb, fun i => if i = 1 then S.M.length else c', fun i => if i = 1 then [] else sq, lp⟩ rfl l14 ⟨⟨fun i hi => ?_, fun i j hi hj e => ?_⟩, by omega, fun i hi => absurd hi (by omega)⟩ rfl fun i hi => ?_
  · rcases (by omega : i = 0 ∨ i = 1 ∨ i = 2) with rfl | rfl | rfl
    · rw [qOH]; subst hn; exact Aw
    · rw [qIo, ← qPG]
      show At h4 A (q4 S.M.length qOE ++ [])
      rw [List.append_nil]
      exact AA.le l4
    · exact At'.le (Heap.le_trans l3 l4)
  · have e1 : w ≠ A := fun e => AA.ne zw e.symm
    have e2 : tb ≠ w := (At'.le l3).ne zw
    have e3 : tb ≠ A := At'.ne zA
    rcases (by omega : i = 0 ∨ i = 1 ∨ i = 2) with rfl | rfl | rfl <;> rcases (by omega : j = 0 ∨ j = 1 ∨ j = 2) with rfl | rfl | rfl <;> simp at e <;> first | rfl | (exact absurd e (by first | exact e1 | exact e2 | exact e3 | exact fun x => e1 x.symm | exact fun x => e2 x.symm | exact fun x => e3 x.symm))
  · rcases (by omega : i = 0 ∨ i = 1 ∨ i = 2) with rfl | rfl | rfl
    · exact qJ l13 zw
    · exact qJ l12 zA
    · exact qJ l1 zt
theorem qUm {h0 : Heap} {f : WoF} {n : Nat} {L : Nat → Ac} (l0 : h0.le h) (fr : ∀ i, i < 3 + 3 * n → h0 (f.b i) = none) (hT : qCV T = 0) (X : WoX h f T n n L) (LA : LedAt h f.lp B C sp S) {m : Int}
    (k : ∀ h' f', h0.le h' → f'.b 0 = f.b 0 → f'.lp = f.lp → (∀ i, i < 3 + 3 * n → h0 (f'.b i) = none) → WoX h' f' T n n (if 0 ≤ m ∧ m < (n : Int) then qAh L m.toNat (qDx T (qAq S m T.length)) else L) → K (tuple #[]) h') :
    CallA Tryz.prog qAR [pointer (some ⟨f.b 0, 0, none⟩), int .i64 m] h K := by
  obtain ⟨t1, t8, _⟩ := qCq hT
  by_cases hm : 0 ≤ m ∧ m < (n : Int)
  · obtain ⟨i, rfl⟩ : ∃ i : Nat, m = i := ⟨m.toNat, by omega⟩
    rw [if_pos hm, Int.toNat_natCast] at k
    refine qQs X.t rfl t1 t8 (qMp hT) X.w X.a (by rw [List.length_append, qJx (qI3 _ _ _ _)]; omega) LA (m := i) rfl (by omega) fun h1 r0 r1 r2 c0 c1 c2 s0 s1 s2 l1 z0 z1 z2 n01 n02 n12 A0 A1 A2 => ?_
    obtain ⟨g1, g2, g3, g4⟩ := X.step (a := qDx T (qAq S (i : Int) T.length)) l0 fr (m := i) (d' := n) (by omega) (.inl ⟨by omega, rfl⟩) (qSA T S i) c0 c1 c2 l1 z0 z1 z2 n01 n02 n12 A0 A1 A2
    exact k _ _ g1 g4 rfl g3 g2
  · rw [if_neg hm] at k
    refine qG2 _ _ _ _ ?_
    unfold qEW
    exact qQk X.w ⟨_, rfl, Br.yes (by rw [decide_eq_false hm]; rfl) (Ret.mk (k h f l0 rfl rfl fr X))⟩
end
end Go.Proofs.YtgjeecaombnmiaaGreat

/- Changed tables, and where they lie. -/
namespace Go.Proofs.YtgjeecaombnmiaaGreat
open Go Go.Sy Go.Value
set_option linter.unusedVariables false
set_option linter.unusedSimpArgs false

section
variable {K : Value → Heap → Prop} {h h0 : Heap} {p : Option Addr} {l : List Cur} {n c : Nat}
end
end Go.Proofs.YtgjeecaombnmiaaGreat

/- Worths by another table. -/
namespace Go.Proofs.YtgjeecaombnmiaaGreat
open Go Go.Sy Go.Value
set_option linter.unusedVariables false
set_option linter.unusedSimpArgs false

theorem qWe {f : WoF} {w : Nat} {L : Nat → Ac} {d j : Nat} {a : Ac} (hn : (L j).nt = a.nt) (hs : (L j).sh = a.sh) (k : Nat) : acR f w (qAh L j a) d k = acR f w L d k := by
  unfold acR
  split
  · unfold acV
    by_cases e : k = j
    · subst e; rw [qa, hn, hs]
    · rw [qN _ _ e]
  · rfl
theorem qW0 {f : WoF} {T : List Cur} {n d : Nat} {L : Nat → Ac} {j i : Nat} {a : Ac} (hN : i = 1 → (L j).nt = a.nt ∧ (L j).sh = a.sh) (hB : i = 3 + 3 * j → (L j).row = a.row) (hW : i = 4 + 3 * j → (L j).wl = a.wl) (hH : i = 5 + 3 * j → (L j).sl = a.sl) :
    woC f T n d (qAh L j a) i = woC f T n d L i := by
  rcases kinds (x := i) with rfl | rfl | rfl | ⟨k, hk⟩
  · rfl
  · rw [qIo, qIo]
    congr 1
    unfold List.flatMap
    congr 1
    exact List.map_congr_left fun k _ => qWe (hN rfl).1 (hN rfl).2 k
  · rfl
  · rcases hk with rfl | rfl | rfl
    · rw [qJy, qJy]
      by_cases e : k = j
      · subst e; rw [qa, hB rfl]
      · rw [qN _ _ e]
    · rw [qJz, qJz]
      by_cases e : k = j
      · subst e; rw [qa, hW rfl]
      · rw [qN _ _ e]
    · rw [qJq, qJq]
      by_cases e : k = j
      · subst e; rw [qa, hH rfl]
      · rw [qN _ _ e]
section
variable {h h0 : Heap} {f : WoF} {T : List Cur} {n d : Nat} {L : Nat → Ac} {j : Nat}
theorem WoX.shW (X : WoX h f T n d L) (hj : j < d) (x : Td) : WoX (h.setN (f.b 1) (j * 7 + 5) [.int .i64 x.1, .int .i64 x.2]) f T n d (qAh L j ⟨(L j).row, (L j).wl, (L j).sl, (L j).nt, x⟩) := by
  have hdn := X.dn
  refine ⟨(X.fam.set (i := 1) (o := j * 7 + 5) (ws := [.int .i64 x.1, .int .i64 x.2]) (by omega)).congr fun i hi => ?_, X.dn, fun i hi => ?_⟩
  · by_cases e : i = 1
    · subst e
      rw [qa, qIo, qIo, qMZ (qI3 f T.length L d) (by simp) n j _ (by omega)]
      congr 1
      unfold List.flatMap
      congr 1
      refine List.map_congr_left fun k hk => ?_
      by_cases e : k = j
      · subst e
        rw [qa]
        unfold acR
        rw [if_pos hj, if_pos hj]
        unfold acV
        rw [qa]
        rfl
      · rw [qN _ _ e]
        unfold acR acV
        rw [qN _ _ e]
    · rw [qN _ _ e]
      symm
      exact qW0 (fun e2 => (e e2).elim) (fun _ => rfl) (fun _ => rfl) (fun _ => rfl)
  · by_cases e : i = j
    · subst e; rw [qa]; exact X.ln i hi
    · rw [qN _ _ e]; exact X.ln i hi
theorem WoX.tab (X : WoX h f T n d L) {T' : List Cur} (hT : T'.length = T.length) {tb c : Nat} {sq : List Value} (a : At h tb (qFU T' ++ sq)) (z : qDR (3 + 3 * d) f.b tb = false) :
    WoX (h.setN (f.b 0) 0 [slice (some ⟨tb, 0, none⟩) T'.length c]) ⟨qAh f.b 2 tb, qAh f.q 2 c, qAh f.sp 2 sq, f.lp⟩ T' n d L := by
  have F := (X.fam.swap (i := 2) z a).set (i := 0) (o := 0) (ws := [slice (some ⟨tb, 0, none⟩) T'.length c]) (by omega)
  rw [qN _ _ (show (0 : Nat) ≠ 2 by decide), qN _ _ (show (0 : Nat) ≠ 2 by decide)] at F
  refine ⟨F.congr fun i hi => ?_, X.dn, fun i hi => by rw [hT]; exact X.ln i hi⟩
  rcases kinds (x := i) with rfl | rfl | rfl | ⟨k, hk⟩
  · rw [qa, qOH, qOH]
    rfl
  · rw [qN _ _ (by decide), qN _ _ (by decide), qIo, qIo]
    have e : acR ⟨qAh f.b 2 tb, qAh f.q 2 c, qAh f.sp 2 sq, f.lp⟩ T'.length L d = acR f T.length L d := by
      funext k
      unfold acR acV
      dsimp only
      rw [qN _ _ (by omega), qN _ _ (by omega), qN _ _ (by omega), qN _ _ (by omega), qN _ _ (by omega), qN _ _ (by omega), hT]
    rw [e]; rfl
  · rw [qN _ _ (by decide), qa, qSY]
    rfl
  · rcases hk with rfl | rfl | rfl
    · rw [qN _ _ (by omega), qN _ _ (by omega), qJy, qJy]
      dsimp only
      rw [qN _ _ (by omega)]
    · rw [qN _ _ (by omega), qN _ _ (by omega), qJz, qJz]
      dsimp only
      rw [qN _ _ (by omega)]
    · rw [qN _ _ (by omega), qN _ _ (by omega), qJq, qJq]
      dsimp only
      rw [qN _ _ (by omega)]
end
end Go.Proofs.YtgjeecaombnmiaaGreat

/- Rates and haircuts are set. -/
namespace Go.Proofs.YtgjeecaombnmiaaGreat
open Go Go.Sy Go.Value
set_option linter.unusedVariables false
set_option linter.unusedSimpArgs false

section
variable {h0 : Heap} {K : Value → Heap → Prop} {T : List Cur} {n : Nat} {B : Nat → List Int} {c : Nat} {x : Cur}
end
section
variable {h0 h : Heap} {K : Value → Heap → Prop} {T : List Cur} {n : Nat} {B : Nat → List Int} {f : WoF}
end
end Go.Proofs.YtgjeecaombnmiaaGreat

/- What a member's net worth and shortage would be. -/
namespace Go.Proofs.YtgjeecaombnmiaaGreat
open Go Go.Sy Go.Value
set_option linter.unusedVariables false
set_option linter.unusedSimpArgs false

section
variable {h0 h : Heap} {K : Value → Heap → Prop}
theorem qQy {p : Option Addr} {l : List Int} {n c : Nat} (I : Ints .i64 h p l) (hn : l.length = n) (hs : n ≤ 1000000) (h1 : 1 ≤ n) (k : ∀ r sp c' h', h.le h' → h r = none → At h' r (qK .i64 l ++ sp) → K (slice (some ⟨r, 0, none⟩) n c') h') :
    CallA Tryz.prog qBq [slice p n c] h K := by
  refine qIa _ _ _ _ _ ?_
  unfold qEv
  cases p with
  | none =>
    have : l = [] := by
      rcases I with e | ⟨b, o, e, _⟩
      · exact List.length_eq_zero_iff.1 (by rw [← qL .i64, e]; rfl)
      · cases e
    subst this
    subst hn
    simp at h1
  | some a =>
    refine Br.no rfl ?_
    intro r hr
    refine (qSB (T := 2) (z := [int .i64 0]) hr).push (by decide) (qb hr) (by omega) (by rw [qL, hn]; simp) (I.le (qb hr)) (qEG _ _) (by simp) ?_
    intro p' c' h' l' w' _ _
    rw [Nat.zero_add]
    rw [List.nil_append] at w'
    rcases w' with ⟨e, _, _⟩ | ⟨s, sp, rfl, hs0, A, _⟩
    · have := congrArg List.length e
      rw [qL, List.length_nil] at this
      omega
    · exact Ret.mk (k s sp c' h' l' hs0 A)
theorem qVt {p q : Option Addr} {l r : List Int} {n c d : Nat} (I : Ints .i64 h p l) (J : Ints .i64 h q r) (hl : l.length = n) (hr : r.length = n) (hs : n ≤ 1000000) (k : K (.bool (decide (l = r))) h) : CallA Tryz.prog qDC [slice p n c, slice q n d] h K := by
  refine qIe _ _ _ _ _ _ _ _ ?_
  unfold qEx
  refine Br.no (by simp) ?_
  have loop : ∀ (m j : Nat), m + j = n → decide (l = r) = decide (l.drop j = r.drop j) → qBe p n c q n d (n : Int) (j : Int) h K := by
    intro m
    induction m with
    | zero =>
      intro j hj e
      refine qEe _ _ _ _ _ _ _ _ _ _ ?_
      unfold qCv
      rw [List.drop_eq_nil_of_le (by omega), List.drop_eq_nil_of_le (by omega)] at e
      rw [e] at k
      exact Br.no (by simp; omega) (Ret.mk k)
    | succ m ih =>
      intro j hj e
      refine qEe _ _ _ _ _ _ _ _ _ _ ?_
      unfold qCv
      have hx : l[j]? = some l[j] := List.getElem?_eq_getElem (by omega)
      have hy : r[j]? = some r[j] := List.getElem?_eq_getElem (by omega)
      rw [List.drop_eq_getElem_cons (by omega : j < l.length), List.drop_eq_getElem_cons (by omega : j < r.length)] at e
      generalize l[j] = x at *
      generalize r[j] = y at *
      refine Br.yes (by simp; omega) (ix I hl rfl hx (ix J hr rfl hy (Br.intro (fun g => ?_) fun g => ?_)))
      · have g : x ≠ y := by simpa using g
        have e5 : decide (x :: l.drop (j + 1) = y :: r.drop (j + 1)) = false := decide_eq_false (fun e2 => g (by injection e2))
        rw [e5] at e
        rw [e] at k
        exact Ret.mk k
      · have g : x = y := by simpa using g
        subst g
        rw [w1 (by omega)]
        refine ih (j + 1) (by omega) ?_
        rw [e]
        exact decide_eq_decide.2 ⟨fun e2 => by injection e2, fun e2 => by rw [e2]⟩
  exact loop n 0 rfl rfl
section
variable {w : Nat} {a : Option Addr} {n c : Nat} {ws : List Value} {c0 : Nat}
theorem qYm {x : Pst} (A0 : At h c0 [pointer (some ⟨w, 0, none⟩)]) (Aw : At h w (.slice a n c :: ws)) (k : ∀ h', h.le h' → K (.bool (decide (x.c < 0) || decide (x.c ≥ (n : Int)))) h') :
    CallA Tryz.prog qAD [agg #[int .i64 x.m, int .i64 x.c, int .i64 x.a], pointer (some ⟨c0, 0, none⟩)] h K := by
  refine qKq _ _ _ _ _ _ ?_
  unfold qGx
  refine ql fun r h1 hr l1 A => ⟨_, A.cell rfl, Br.intro (fun g => ?_) fun g => ⟨_, A.cell rfl, _, (A0.le l1).cell rfl, qB rfl ⟨_, _, _, (Aw.le l1).cell rfl, Ret.mk ?_⟩⟩⟩
  · rw [g, Bool.true_or] at k; exact Ret.mk (k h1 l1)
  · rw [g, Bool.false_or] at k; exact k h1 l1
variable {q : Option Addr} {b : List Pst} {bn qc : Nat}
theorem qXQ (X : Pos h0 q b) (hn : b.length = bn) (hs : bn ≤ 1000000) (A0 : At h0 c0 [pointer (some ⟨w, 0, none⟩)]) (Aw : At h0 w (.slice a n c :: ws)) (k : ∀ (i : Int) h', h0.le h' → decide (i ≥ 0) = qEa n b → K (.int .i64 i) h') :
    ∀ (m j : Nat) (h : Heap), m + j = bn → h0.le h → qEa n b = qEa n (b.drop j) → q9 q bn qc c0 (bn : Int) (j : Int) h K := by
  intro m
  induction m with
  | zero =>
    intro j h hj l0 e
    refine qBu _ _ _ _ _ _ _ _ ?_
    unfold qAi
    rw [List.drop_eq_nil_of_le (by omega)] at e
    exact Br.no (by simp; omega) (Ret.mk (k (-1) h l0 (by rw [e]; rfl)))
  | succ m ih =>
    intro j h hj l0 e
    refine qBu _ _ _ _ _ _ _ _ ?_
    unfold qAi
    have hx : b[j]? = some b[j] := List.getElem?_eq_getElem (by omega)
    rw [List.drop_eq_getElem_cons (by omega : j < b.length)] at e
    generalize b[j] = x at *
    unfold qEa at e
    rw [List.any_cons] at e
    refine Br.yes (by simp; omega) (px (qAV l0 X) hn rfl hx (qYm (A0.le l0) (Aw.le l0) fun h1 l1 => ⟨_, rfl, Br.intro (fun g => ?_) fun g => ?_⟩))
    · rw [g, Bool.true_or] at e
      exact Ret.mk (k (j : Int) h1 (Heap.le_trans l0 l1) (by unfold qEa; rw [e]; exact decide_eq_true (by omega)))
    · rw [g, Bool.false_or] at e
      rw [w1 (by omega)]
      exact ih (j + 1) h1 (by omega) (Heap.le_trans l0 l1) e
theorem qXX (X : Pos h q b) (hn : b.length = bn) (hs : bn ≤ 1000000) (A0 : At h c0 [pointer (some ⟨w, 0, none⟩)]) (Aw : At h w (.slice a n c :: ws)) (k : ∀ h', h.le h' → K (.bool (qEa n b)) h') :
    CallA Tryz.prog qAe [slice q bn qc, func (Fn.func qAD) #[] #[pointer (some ⟨c0, 0, none⟩)]] h K := by
  refine qEO _ _ _ _ _ _ ?_
  unfold qBk
  refine qEl _ _ _ _ _ _ ?_
  unfold qB6
  exact qXQ X hn hs A0 Aw (fun i h' l' e => ⟨_, rfl, by rw [e]; exact Ret.mk (k h' l')⟩) bn 0 h rfl h.le_refl rfl
end
section
variable {f : WoF} {T : List Cur} {N : Nat} {L : Nat → Ac} {q : Option Addr} {b : List Pst} {bn qc : Nat}
structure IfI (h0 h : Heap) (f : WoF) (r x mv i cm n : Nat) (sp : List Value) (nt sh : Td) (cur : List Int) : Prop where
  base : h0.le h
  zr : h0 r = none
  zx : h0 x = none
  zm : h0 mv = none
  ar : At h r [pointer (some ⟨f.b 0, 0, none⟩)]
  ax : At h x [slice (some ⟨f.b (3 + 3 * i), 0, none⟩) n (f.q (3 + 3 * i)), slice (some ⟨f.b (4 + 3 * i), 0, none⟩) n (f.q (4 + 3 * i)), slice (some ⟨f.b (5 + 3 * i), 0, none⟩) n (f.q (5 + 3 * i)), int .i64 nt.1, int .i64 nt.2, int .i64 sh.1, int .i64 sh.2, slice (some ⟨mv, 0, none⟩) n cm]
  am : At h mv (qK .i64 cur ++ sp)
  rm : r ≠ mv
  xm : x ≠ mv
theorem qWn (t1 : 1 ≤ T.length) (ok : T.all qGl = true) (t8 : T.length ≤ 8) (X : WoX h0 f T N N L) {i : Nat} (hi : i < N) {row : List Int} (hrow : row.length = T.length) (hL : L i = qDx T row) (Xb : Pos h0 q b) (hn : b.length = bn) (hs : bn ≤ 1000000) (hb : ∀ y ∈ b, I64 y.a) (hbad : ∀ y ∈ b, 0 ≤ y.c ∧ y.c < (T.length : Int)) {r x mv cm : Nat} {sp : List Value}
    (k3 : qBL (i : Int) b row = none → ∀ h', h0.le h' → K (tuple #[int .i64 0, int .i64 0, int .i64 3]) h')
    (k : ∀ c, qBL (i : Int) b row = some c → ∀ h', h0.le h' → K (if (qBo T c).2 ≠ 0 then tuple #[int .i64 0, int .i64 0, int .i64 3] else if (shW T c).2 ≠ 0 then tuple #[int .i64 0, int .i64 0, int .i64 3] else tuple #[int .i64 (qBo T c).1, int .i64 (shW T c).1, int .i64 0]) h') :
    ∀ (m j : Nat) (h : Heap) (cur : List Int), m + j = bn → IfI h0 h f r x mv i cm T.length sp (qBo T row) (shW T row) cur → cur.length = T.length → (∀ y ∈ cur, I64 y) → qBL (i : Int) (b.drop j) cur = qBL (i : Int) b row → qCX (i : Int) r x q bn qc (bn : Int) (j : Int) h K := by
  intro m
  induction m with
  | zero =>
    intro j h cur hj I hc hI e
    refine qG0 _ _ _ _ _ _ _ _ _ _ ?_
    unfold qEn
    rw [List.drop_eq_nil_of_le (by omega), qBL] at e
    have Xh := X.le I.base
    have Ir : Ints .i64 h (some ⟨f.b (3 + 3 * i), 0, none⟩) row := by
      have := Xh.row hi
      rw [hL] at this
      exact this.toRd
    refine Br.no (by simp; omega) ⟨_, _, _, I.ax.cell rfl, _, _, _, I.ax.cell rfl, qVt (l := cur) (r := row) I.am.toRd Ir hc hrow (by omega) ⟨_, rfl, ?_⟩⟩
    have kk := k cur e.symm
    by_cases ec : cur = row
    · subst ec
      rw [decide_eq_true rfl]
      refine Br.no rfl ⟨_, I.ax.cell rfl, ?_⟩
      by_cases e1 : (qBo T cur).2 ≠ 0
      · rw [if_pos e1] at kk
        exact Br.yes (by simpa using e1) (Ret.mk (kk h I.base))
      rw [if_neg e1] at kk
      refine Br.no (by simpa using e1) ⟨_, I.ax.cell rfl, ?_⟩
      by_cases e2 : (shW T cur).2 ≠ 0
      · rw [if_pos e2] at kk
        exact Br.yes (by simpa using e2) (Ret.mk (kk h I.base))
      rw [if_neg e2] at kk
      exact Br.no (by simpa using e2) ⟨_, I.ax.cell rfl, _, I.ax.cell rfl, Ret.mk (kk h I.base)⟩
    · rw [decide_eq_false ec]
      refine Br.yes rfl ⟨_, I.ar.cell rfl, _, _, _, I.ax.cell rfl, qPh Xh.t rfl ok Xh.w (row := cur) I.am.toRd hc (by omega) hI fun h1 q1 q2 c1 c2 l1 _ _ _ => ⟨_, _, _, _, _, _, _, _, _, _, _, _, _, rfl, ?_⟩⟩
      have A1 := I.ax.le l1
      have A2 : At _ x [slice (some ⟨mv, 0, none⟩) T.length cm, slice q1 T.length c1, slice q2 T.length c2, int .i64 (qBo T cur).1, int .i64 (qBo T cur).2, int .i64 (shW T cur).1, int .i64 (shW T cur).2, slice (some ⟨mv, 0, none⟩) T.length cm] := A1.set (o := 0) (ws := [slice (some ⟨mv, 0, none⟩) T.length cm, slice q1 T.length c1, slice q2 T.length c2, int .i64 (qBo T cur).1, int .i64 (qBo T cur).2, int .i64 (shW T cur).1, int .i64 (shW T cur).2])
      have l2 := qS (o := 0) (ws := [slice (some ⟨mv, 0, none⟩) T.length cm, slice q1 T.length c1, slice q2 T.length c2, int .i64 (qBo T cur).1, int .i64 (qBo T cur).2, int .i64 (shW T cur).1, int .i64 (shW T cur).2]) (Heap.le_trans I.base l1) I.zx
      refine ⟨A1.canSt (by simp), _, A2.cell rfl, ?_⟩
      by_cases e1 : (qBo T cur).2 ≠ 0
      · rw [if_pos e1] at kk
        exact Br.yes (by simpa using e1) (Ret.mk (kk _ l2))
      rw [if_neg e1] at kk
      refine Br.no (by simpa using e1) ⟨_, A2.cell rfl, ?_⟩
      by_cases e2 : (shW T cur).2 ≠ 0
      · rw [if_pos e2] at kk
        exact Br.yes (by simpa using e2) (Ret.mk (kk _ l2))
      rw [if_neg e2] at kk
      exact Br.no (by simpa using e2) ⟨_, A2.cell rfl, _, A2.cell rfl, Ret.mk (kk _ l2)⟩
  | succ m ih =>
    intro j h cur hj I hc hI e
    refine qG0 _ _ _ _ _ _ _ _ _ _ ?_
    unfold qEn
    have hx : b[j]? = some b[j] := List.getElem?_eq_getElem (by omega)
    have hm : b[j] ∈ b := List.getElem_mem _
    rw [List.drop_eq_getElem_cons (by omega : j < b.length), qBL] at e
    generalize b[j] = y at *
    have hya := hb y hm
    have hyc := hbad y hm
    refine Br.yes (by simp; omega) (px (qAV I.base Xb) hn rfl hx (qEE (vs := [int .i64 y.m, int .i64 y.c, int .i64 y.a]) rfl fun s h1 zs l1 As cs => ⟨cs, _, As.cell rfl, ?_⟩))
    generalize h1.setN s 0 [int .i64 y.m, int .i64 y.c, int .i64 y.a] = H at *
    have nms := I.am.ne zs
    have J : IfI h0 H f r x mv i cm T.length sp (qBo T row) (shW T row) cur := { I with base := Heap.le_trans I.base l1, ar := I.ar.le l1, ax := I.ax.le l1, am := I.am.le l1 }
    by_cases hmi : y.m ≠ (i : Int)
    · rw [if_pos hmi] at e
      rw [w1 (by omega)]
      exact Br.yes (by simpa using hmi) (ih (j + 1) H cur (by omega) J hc hI e)
    rw [if_neg hmi] at e
    obtain ⟨c, hcc⟩ : ∃ c : Nat, y.c = (c : Int) := ⟨y.c.toNat, by omega⟩
    have hcl : c < cur.length := by omega
    have hg : cur[c]? = some (cur.getD c 0) := by rw [List.getD_eq_getElem?_getD, List.getElem?_eq_getElem hcl]; rfl
    have hgI : I64 (cur.getD c 0) := hI _ (List.mem_of_getElem? hg)
    rw [hcc, Int.toNat_natCast] at e
    refine Br.no (by simpa using hmi) ⟨_, _, _, J.ax.cell rfl, _, As.cell rfl, by omega, by omega, qB rfl ⟨_, J.am.cell (v := int .i64 (cur.getD c 0)) (by rw [hcc, Int.toNat_natCast, Nat.zero_add, List.getElem?_append_left (by rw [qL]; exact hcl), qBt, List.getElem?_map, hg]; rfl), _, As.cell rfl, qMw hgI hya _ _ ⟨_, _, rfl, ?_⟩⟩⟩
    by_cases e1 : (fit (cur.getD c 0 + y.a)).2 ≠ 0
    · rw [if_pos e1] at e
      rw [qSh e1]
      exact Br.yes rfl (Ret.mk (k3 e.symm H J.base))
    · rw [if_neg e1] at e
      have hf := qJD e1
      rw [qDb hf]
      refine Br.no rfl ⟨_, _, _, J.ax.cell rfl, _, As.cell rfl, by omega, by omega, qB rfl ⟨J.am.canSt (by rw [List.length_append, qL]; omega), ?_⟩⟩
      rw [w1 (by omega), hcc, Int.toNat_natCast, Nat.zero_add]
      refine ih (j + 1) _ (cur.set c (cur.getD c 0 + y.a)) (by omega) { J with base := qS J.base J.zm, ar := J.ar.set_ne J.rm, ax := J.ax.set_ne J.xm, am := ?_ } (by rw [List.length_set]; exact hc) (fun v hv => ?_) e
      · have := J.am.set (o := c) (ws := [int .i64 (cur.getD c 0 + y.a)])
        rw [qHM hcl] at this
        exact this
      · rcases List.mem_or_eq_of_mem_set hv with hv | rfl
        · exact hI v hv
        · exact hf
theorem qWR {h : Heap} (hT : qCV T = 0) (X : WoX h f T N N L) {m : Int} {row : List Int} (hL : 0 ≤ m → m < (N : Int) → L m.toNat = qDx T row) (hrow : row.length = T.length) (hI : ∀ y ∈ row, I64 y) (Xb : Pos h q b) (hn : b.length = bn) (hs : bn ≤ 1000000) (hb : ∀ y ∈ b, I64 y.a)
    (k : ∀ h', h.le h' → K (if 0 ≤ m ∧ m < (N : Int) then tuple #[int .i64 (ifW T row m b).1, int .i64 (ifW T row m b).2.1, int .i64 (ifW T row m b).2.2] else tuple #[int .i64 0, int .i64 0, int .i64 1]) h') :
    CallA Tryz.prog qEA [pointer (some ⟨f.b 0, 0, none⟩), int .i64 m, slice q bn qc] h K := by
  obtain ⟨t1, t8, _⟩ := qCq hT
  refine qLg _ _ _ _ _ _ _ ?_
  unfold qHk
  refine ql fun r h1 hr l1 A1 => ⟨_, A1.cell rfl, qQk (X.le l1).w ⟨_, rfl, ?_⟩⟩
  have X1 := X.le l1
  by_cases hm : 0 ≤ m ∧ m < (N : Int)
  · rw [if_pos hm] at k
    obtain ⟨i, rfl⟩ : ∃ i : Nat, m = i := ⟨m.toNat, by omega⟩
    have hL' := hL hm.1 hm.2
    rw [Int.toNat_natCast] at hL'
    refine Br.no (by rw [decide_eq_true hm]; rfl) (qXX (qAV l1 Xb) hn hs A1 X1.w fun h2 l2 => ⟨_, rfl, ?_⟩)
    unfold ifW at k
    rw [hrow] at k
    have l12 := Heap.le_trans l1 l2
    cases hbd : qEa T.length b with
    | true =>
      rw [hbd, if_pos rfl] at k
      exact Br.yes rfl (Ret.mk (k h2 l12))
    | false =>
      rw [hbd, if_neg (by decide)] at k
      have hin : i < N := by omega
      have z : ∀ o, o < 7 → h2.cell (f.b 1) (0 + (i : Int).toNat * 7 + o) = (acV f T.length L i)[o]? := fun o ho => by rw [Int.toNat_natCast, Nat.zero_add]; exact (X.le l12).ac hin ho
      have zL : (L i).nt = qBo T row ∧ (L i).sh = shW T row := by rw [hL']; exact ⟨rfl, rfl⟩
      refine Br.no rfl ⟨_, (A1.le l2).cell rfl, qB rfl ⟨_, _, _, (X.le l12).w.cell rfl, by omega, by omega, qB rfl ⟨_, _, _, z 0 (by decide), _, _, _, z 1 (by decide), _, _, _, z 2 (by decide), _, z 3 (by decide), _, z 4 (by decide), _, z 5 (by decide), _, z 6 (by decide), qEE (vs := [slice (some ⟨f.b (3 + 3 * i), 0, none⟩) T.length (f.q (3 + 3 * i)), slice (some ⟨f.b (4 + 3 * i), 0, none⟩) T.length (f.q (4 + 3 * i)), slice (some ⟨f.b (5 + 3 * i), 0, none⟩) T.length (f.q (5 + 3 * i)), int .i64 (L i).nt.1, int .i64 (L i).nt.2, int .i64 (L i).sh.1, int .i64 (L i).sh.2, slice none 0 0]) rfl fun x h3 zx l3 Ax cs => ⟨cs, _, _, _, Ax.cell rfl, ?_⟩⟩⟩⟩
      generalize h3.setN x 0 [slice (some ⟨f.b (3 + 3 * i), 0, none⟩) T.length (f.q (3 + 3 * i)), slice (some ⟨f.b (4 + 3 * i), 0, none⟩) T.length (f.q (4 + 3 * i)), slice (some ⟨f.b (5 + 3 * i), 0, none⟩) T.length (f.q (5 + 3 * i)), int .i64 (L i).nt.1, int .i64 (L i).nt.2, int .i64 (L i).sh.1, int .i64 (L i).sh.2, slice none 0 0] = H at *
      rw [zL.1, zL.2] at Ax
      have l13 := Heap.le_trans l12 l3
      have Ir : Ints .i64 H (some ⟨f.b (3 + 3 * i), 0, none⟩) row := by
        have := (X.le l13).row hin
        rw [hL'] at this
        exact this.toRd
      refine qQy Ir hrow (by omega) t1 fun mv sp cm h4 l4 zm Am => ⟨_, _, _, rfl, (Ax.le l4).canSt (by simp), ?_⟩
      have l14 := Heap.le_trans l13 l4
      have Ax4 : At _ x [slice (some ⟨f.b (3 + 3 * i), 0, none⟩) T.length (f.q (3 + 3 * i)), slice (some ⟨f.b (4 + 3 * i), 0, none⟩) T.length (f.q (4 + 3 * i)), slice (some ⟨f.b (5 + 3 * i), 0, none⟩) T.length (f.q (5 + 3 * i)), int .i64 (qBo T row).1, int .i64 (qBo T row).2, int .i64 (shW T row).1, int .i64 (shW T row).2, slice (some ⟨mv, 0, none⟩) T.length cm] := (Ax.le l4).set (o := 7) (ws := [slice (some ⟨mv, 0, none⟩) T.length cm])
      have zxh := qJ l12 zx
      have Ar3 := (A1.le (Heap.le_trans l2 l3))
      have hrx : r ≠ x := A1.ne (qJ l2 zx)
      have bd : ∀ y ∈ b, 0 ≤ y.c ∧ y.c < (T.length : Int) := fun y hy => by
        unfold qEa at hbd
        rw [List.any_eq_false] at hbd
        have := hbd y hy
        simp at this
        omega
      refine qWn t1 (qMp hT) t8 X hin hrow hL' Xb hn hs hb bd (fun e h' l' => ?_) (fun c e h' l' => ?_) bn 0 _ row rfl { base := qS l14 zxh, zr := hr, zx := zxh, zm := qJ l13 zm, ar := (Ar3.le l4).set_ne hrx, ax := Ax4, am := Am.set_ne (fun e => Ax.ne zm e.symm), rm := Ar3.ne zm, xm := Ax.ne zm } hrow hI rfl
      · rw [e] at k
        exact k h' l'
      · rw [e] at k
        dsimp only at k
        split
        · rename_i g; rw [if_pos g] at k; exact k h' l'
        · rename_i g
          rw [if_neg g] at k
          split
          · rename_i g2; rw [if_pos g2] at k; exact k h' l'
          · rename_i g2; rw [if_neg g2] at k; exact k h' l'
  · rw [if_neg hm] at k
    exact Br.yes (by rw [decide_eq_false hm]; rfl) (Ret.mk (k h1 l1))
end
end
end Go.Proofs.YtgjeecaombnmiaaGreat
