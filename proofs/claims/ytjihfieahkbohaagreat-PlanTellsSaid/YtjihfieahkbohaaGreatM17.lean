import Derived.Test.YtjihfieahkbohaaGreatM16
import Derived.Test.YtjihfieahkbohaaGreatM10
import Derived.Test.YtjihfieahkbohaaGreatM05
import Derived.Test.YtjihfieahkbohaaGreatM11
/- The reference's shares, evenly, and rooms filled. -/
namespace Go.Proofs.YtjihfieahkbohaaGreat
open Go Go.Sy Go.Value
set_option linter.unusedVariables false
set_option linter.unusedSimpArgs false

theorem qTZ (l : List Int) (x : Int) : qGR (l ++ [x]) = (qGR l || decide (x < 0)) := by simp [qGR]
theorem qT2 (l : List Int) (x : Int) : qHR (l ++ [x]) = (qHR l || decide (x > 0)) := by simp [qHR]
theorem qUO : ∀ n : Nat, qAM n [Value.bool false] = boS (List.replicate n false)
  | 0 => rfl
  | n + 1 => by rw [List.replicate_succ]; exact congrArg (Value.bool false :: ·) (qUO n)
theorem qWG {h0 h : Heap} {z : List Value} {p : Option Addr} {c b : Nat} {vs : List Value} (x : OwnL h0 h z p c vs) (e : p ≠ some ⟨b, 0, none⟩) : ∀ o, p ≠ some ⟨b, o, none⟩ := fun o e2 => by
  rcases x with ⟨_, q, _⟩ | ⟨r, sp, q, _, _, _⟩
  · rw [q] at e2; cases e2
  · rw [q] at e2 e
    injection e2 with e3
    injection e3 with e4 e5
    exact e (by rw [e4])
section
variable {h : Heap} {K : Value → Heap → Prop}
theorem qaI {q : Option Addr} {ws : List Int} {n c : Nat} {t : Int} (I : Ints .i64 h q ws) (hn : ws.length = n) (hn2 : n ≤ 64) (hI : qAq ws) (ht : I64 t) (ht0 : 0 ≤ t) (hneg : qGR ws = false) (hpos : qHR ws = true)
    (k : ∀ p' c' h', h.le h' → Ints .i64 h' p' (qAf t ws).1 → K (tuple #[slice p' (qAf t ws).1.length c', .int .i64 (qAf t ws).2]) h') :
    CallA Tryz.prog qIY [slice q n c] h fun (v : Value) (h : Heap) => ∃ (b : Bool), ∃ (a : Option Addr), ∃ (n' : Nat), ∃ (m : Nat), v = agg #[Value.bool b, slice a n' m] ∧
      qL h [Value.bool false, slice none 0 0] 78 fun (r : Nat) (h : Heap) => h.canSt r 0 2 ∧ ∃ (b_1 : Bool), Heap.cell (h.setN r 0 [Value.bool b, slice a n' m]) r 0 = some (Value.bool b_1) ∧
        ∃ (a_1 : Option Addr), ∃ (n_1 : Nat), ∃ (m_1 : Nat), Heap.cell (h.setN r 0 [Value.bool b, slice a n' m]) r 1 = some (slice a_1 n_1 m_1) ∧
          CallA Tryz.prog qG0 [agg #[Value.bool b_1, slice a_1 n_1 m_1]] (h.setN r 0 [Value.bool b, slice a n' m]) fun (v : Value) (h : Heap) => ∃ (n_3 : Int), ∃ (n_2 : Int), v = tuple #[.int .i64 n_3, .int .i64 n_2] ∧
            Br (n_2 != 0) (Ret h K (tuple #[slice none 0 0, .int .i64 n_2]))
              (qL h [] 2 fun (r_1 : Nat) (h : Heap) => qL h [] 78 fun (r_2 : Nat) (h : Heap) => qL h [Value.bool false, slice none 0 0] 78 fun (r_3 : Nat) (h : Heap) => h.canSt r_3 0 2 ∧
                qF7 t q n c r (some { block := r_1, off := 0 }) 0 0 (some { block := r_2, off := 0 }) 0 0 r_3 0 (h.setN r_3 0 [Value.bool false, slice none 0 0]) K) := by
  have e : qAf t ws = if (fit (qM ws)).2 ≠ 0 then ([], (fit (qM ws)).2) else (qIX t ws, 0) := by
    unfold qAf
    rw [if_neg (by omega), if_neg (by omega), if_neg (by rw [hneg]; decide), if_neg (by rw [hpos]; decide)]
  have hp := qVz hneg hpos
  subst hn
  refine qXf (Bd := 100) (by omega) (by omega) hI I fun v1 h1 l1 b1 => ?_
  obtain ⟨w1, rfl⟩ := qIT b1
  refine ⟨_, _, _, _, rfl, qFm (vs := bc w1) rfl fun r2 h2 hr2 l2 A2 st2 => ⟨st2, _, A2.cell rfl, _, _, _, A2.cell rfl, ?_⟩⟩
  have l02 := Heap.le_trans l1 l2
  refine qUZ (b1.le l2) (by omega) fun h3 l3 => ⟨_, _, rfl, Br.intro (fun g => ?_) fun g => ?_⟩
  · rw [if_pos (by simpa using g)] at e
    rw [e] at k
    exact Ret.mk (k none 0 h3 (Heap.le_trans l02 l3) (.inl rfl))
  have hfit : I64 (qM ws) := Classical.byContradiction fun x => by rw [qFz x] at g; cases g
  rw [if_neg (by rw [qHQ hfit]; simp)] at e
  rw [e] at k
  dsimp only at k
  rw [qMx] at k
  have l03 := Heap.le_trans l02 l3
  intro r4 e4
  have o4 := qPS (T := 2) (z := [.int .i64 0]) e4
  have l4 := @qi h3 r4 (.cells [].toArray 2 (0, 0)) e4
  have a4 := At.new h3 r4 [] 2
  generalize h3.ins r4 _ = h4 at *
  intro r5 e5
  have hr5 : h3 r5 = none := qm l4 e5
  have o5 : OwnL h3 (h4.ins r5 (.cells [].toArray 78 (0, 0))) [.bool false, slice none 0 0] (some ⟨r5, 0, none⟩) 0 [] := .inr ⟨r5, [], rfl, hr5, At.new h4 r5 [] 78, by simp⟩
  have a5 := At.new h4 r5 [] 78
  have l5 := @qi h4 r5 (.cells [].toArray 78 (0, 0)) e5
  have n45 := a4.ne e5
  generalize h4.ins r5 _ = h5 at *
  refine qFm (vs := bc (false, none, 0, 0)) rfl fun r6 h6 hr6 l6 A6 st6 => ⟨st6, ?_⟩
  have l56 := Heap.le_trans l5 l6
  have l36 := Heap.le_trans l4 l56
  have n46 := (a4.le l5).ne hr6
  have n56 := a5.ne hr6
  have S : R1 h h3 (h6.setN r6 0 (bc (false, none, 0, 0))) r2 r6 w1 (false, none, 0, 0) (some ⟨r4, 0, none⟩) (some ⟨r5, 0, none⟩) 0 0 (qx t (qM ws) (ws.take 0)) [] := by
    have hne : ∀ {a b : Nat}, a ≠ b → (some ⟨a, 0, none⟩ : Option Addr) ≠ some ⟨b, 0, none⟩ := fun n e => n (by injection e with e; injection e)
    have A2' := A2.le l3
    refine ⟨l03, l36, A2'.le l36, A6, qm (Heap.le_trans l4 l5) hr6, ?_, ?_, fun B e1 e2 => hne n45 (e1.trans e2.symm), hne n46, hne n56, ?_, ?_, ?_⟩
    · exact o4.le l56
    · exact o5.le l6
    · exact hne (Ne.symm (A2'.ne e4))
    · exact hne (Ne.symm ((A2'.le l4).ne e5))
    · exact ((A2'.le l4).le l5).ne hr6
  have zero : BigR h3 (bv (false, none, 0, 0)) (qM (qx t (qM ws) (ws.take 0))) (1001 + 0) := ⟨false, none, 0, [], rfl, .inl rfl, (fun d hd => by cases hd), by simp [sg, dig, qM, qx], by simp, by simp⟩
  refine qVt (s := qM ws) I rfl hn2 hI ht ht0 (qQS hneg) rfl hp.1 (fun g h' gv op lp oc lc vs S' bs bg bl => ?_) ws.length 0 h3 _ (false, none, 0, 0) _ _ 0 0 [] (by omega) S ((b1.le l2).le l3) zero ⟨rfl, fun i v e => by simp at e⟩
  -- the second half
  have hm := qLO (t := t) hp.1 hp.2
  have hlen := qG6 t (qM ws) ws
  obtain ⟨ob, osp, rfl, oN, oA, hoc⟩ := qSm S'.oO (by intro e; apply hp.2; have := congrArg List.length e; rw [qG6] at this; exact List.length_eq_zero_iff.1 this)
  intro r7 e7
  have A7 := At.new h' r7 (qAM ws.length [.bool false]) 4
  have l7 := @qi h' r7 (.cells (qAM ws.length [.bool false]).toArray 4 (0, 0)) e7
  generalize h'.ins r7 _ = h7 at *
  rw [qUO] at A7
  have nob : ob ≠ r6 := fun e => S'.no (by rw [e])
  have lg2 : g.le ((h'.del r6).del ob) := qI5 (qI5 S'.l S'.gN) oN
  have lh2 : ((h'.del r6).del ob).le h' := Heap.le_trans (qJo _ _) (qJo _ _)
  have lA : Arr bc ((h'.del r6).del ob) lp vs := qO9 (qO9 S'.oL.rd (qWG S'.oL S'.nl)) (qWG S'.oL fun e => S'.d ob rfl e)
  have R : R2 h ((h'.del r6).del ob) h7 r6 ob r7 gv (qJW (qx t (qM ws) ws) ((qEC (qCp t (qM ws) ws) ws.length).take 0)) osp (List.replicate ws.length false) := by
    refine ⟨Heap.le_trans S'.l0 lg2, Heap.le_trans lh2 l7, S'.gA.le l7, ?_, oA.le l7, qMC _ _, A7, ?_, nob, ?_, ?_⟩
    · unfold Heap.del; rw [if_neg (Ne.symm nob), if_pos rfl]
    · exact qm lh2 e7
    · exact Ne.symm (S'.gA.ne e7)
    · exact Ne.symm (oA.ne e7)
  refine qaO (rs := qCp t (qM ws) ws) (bs := qx t (qM ws) ws) hn2 ht (by rw [bl.1, qIA]) hlen (qPV ht0 hp.1 (qQS hneg)) (mis := (t - qM (qx t (qM ws) ws)).toNat) (by omega) (by omega) (fun h8 l8 A8 => ?_) _ 0 _ h7 gv _ (Nat.add_zero _) R lA (bl.le lg2) ?_ ⟨by simp, fun i hi => ?_⟩
  · exact k (some ⟨ob, 0, none⟩) oc h8 l8 A8.toRd
  · have := bg.le lg2
    simpa using this
  · rw [List.getElem?_replicate, if_pos hi]; simp
theorem qaf {q : Option Addr} {ws : List Int} {n c : Nat} {t : Int} (I : Ints .i64 h q ws) (hn : ws.length = n) (hn2 : n ≤ 64) (hI : qAq ws) (ht : I64 t)
    (k : ∀ p' c' h', h.le h' → Ints .i64 h' p' (qAf t ws).1 → K (tuple #[slice p' (qAf t ws).1.length c', .int .i64 (qAf t ws).2]) h') :
    ∀ (m j : Nat), m + j = n → qGR (ws.take j) = false → qF1 t q n c (qHR (ws.take j)) (j : Int) h K := by
  intro m
  induction m with
  | zero =>
    intro j hj hneg
    refine qLi _ _ _ _ _ _ _ _ ?_
    unfold qIo
    rw [List.take_of_length_le (by omega)] at hneg ⊢
    refine Br.no (by simp; omega) (Br.dec (fun g => ?_) fun g => Br.intro (fun g2 => ?_) fun g2 => ?_)
    · have e : qAf t ws = ([], 1) := by unfold qAf; rw [if_neg (by omega), if_pos g]
      rw [e] at k; exact Ret.mk (k none 0 h h.le_refl (.inl rfl))
    · have e : qAf t ws = ([], 1) := by unfold qAf; rw [if_neg (by omega), if_neg g, if_neg (by rw [hneg]; decide), if_pos (by simpa using g2)]
      rw [e] at k; exact Ret.mk (k none 0 h h.le_refl (.inl rfl))
    · exact qaI I hn hn2 hI ht (by omega) hneg (by simpa using g2) k
  | succ m ih =>
    intro j hj hneg
    refine qLi _ _ _ _ _ _ _ _ ?_
    unfold qIo
    have hx : ws[j]? = some ws[j] := List.getElem?_eq_getElem (by omega)
    have hmem : ws[j] ∈ ws := List.getElem_mem _
    have e1 : ws.take (j + 1) = ws.take j ++ [ws[j]] := by rw [List.take_add_one, hx]; rfl
    have nx := ih (j + 1) (by omega)
    rw [e1, qTZ, qT2, hneg, Bool.false_or] at nx
    rw [wp1 (by omega)]
    generalize ws[j] = w at *
    refine Br.yes (by simp; omega) (ix I hn rfl hx (Br.dec (fun g => ?_) fun g => ?_))
    · have ha : qGR ws = true := by
        unfold qGR; rw [List.any_eq_true]; exact ⟨w, hmem, decide_eq_true g⟩
      have e : qAf t ws = ([], 1) := by
        unfold qAf
        rw [if_neg (by omega)]
        split
        · rfl
        · first | rfl | rw [if_pos ha]
      rw [e] at k; exact Ret.mk (k none 0 h h.le_refl (.inl rfl))
    · have nx := nx (decide_eq_false g)
      refine Br.intro (fun g2 => ?_) fun g2 => ix I hn rfl hx ?_
      · rw [g2, Bool.true_or] at nx; exact nx
      · rw [g2, Bool.false_or] at nx; exact nx
theorem qWb {q : Option Addr} {ws : List Int} {n c : Nat} {t : Int} (I : Ints .i64 h q ws) (hn : ws.length = n) (hI : qAq ws) (ht : I64 t)
    (k : ∀ p' c' h', h.le h' → Ints .i64 h' p' (qAf t ws).1 → K (tuple #[slice p' (qAf t ws).1.length c', .int .i64 (qAf t ws).2]) h') :
    CallA Tryz.prog qJk [.int .i64 t, slice q n c] h K := by
  refine qRC _ _ _ _ _ _ ?_
  unfold qMl
  refine Br.dec (fun g => ?_) fun g => qaf I hn (by omega) hI ht k n 0 (by omega) rfl
  have e : qAf t ws = ([], 4) := by unfold qAf; rw [if_pos (by omega)]
  rw [e] at k; exact Ret.mk (k none 0 h h.le_refl (.inl rfl))
/-! evenly -/
theorem qYr {h0 : Heap} {t : Int} {n : Nat} (hn : n ≤ 64) (ht : I64 t)
    (k : ∀ p' c' h', h0.le h' → Ints .i64 h' p' (qAf t (ones n)).1 → K (tuple #[slice p' (qAf t (ones n)).1.length c', .int .i64 (qAf t (ones n)).2]) h') :
    ∀ (m j : Nat) (h : Heap) (p : Option Addr) (c : Nat), m + j = n → h0.le h → OwnL h0 h [.int .i64 0] p c (qR .i64 (ones j)) → qIV t (n : Int) p j c (j : Int) h K := by
  intro m
  induction m with
  | zero =>
    intro j h p c hj l0 own
    refine qMZ _ _ _ _ _ _ _ _ ?_
    unfold qJn
    have hjn : j = n := by omega
    subst hjn
    refine Br.no (by simp) (qWb own.rd (by simp [ones]) (fun x hx => by rw [List.eq_of_mem_replicate hx]; unfold I64; omega) ht fun p' c' h' l' I' => ⟨_, _, _, _, rfl, Ret.mk (k p' c' h' (Heap.le_trans l0 l') I')⟩)
  | succ m ih =>
    intro j h p c hj l0 own
    refine qMZ _ _ _ _ _ _ _ _ ?_
    unfold qJn
    rw [wp1 (by omega)]
    refine Br.yes (by simp; omega) (qVL (ws := [.int .i64 1]) own (by decide) l0 (by omega) rfl rfl (by rw [qd]; simp [ones]) fun p' c' h' l' w' _ _ => ?_)
    have e : qR .i64 (ones j) ++ [Value.int .i64 1] = qR .i64 (ones (j + 1)) := by
      have : ones (j + 1) = ones j ++ [1] := by unfold ones; rw [List.replicate_succ']
      rw [this, qDB]; rfl
    rw [e] at w'
    exact ih (j + 1) h' p' c' (by omega) l' w'
theorem qYo {t p : Int} (ht : I64 t)
    (k : ∀ p' c' h', h.le h' → Ints .i64 h' p' (qHu t p).1 → K (tuple #[slice p' (qHu t p).1.length c', .int .i64 (qHu t p).2]) h') :
    CallA Tryz.prog qLQ [.int .i64 t, .int .i64 p] h K := by
  refine qSV _ _ _ _ ?_
  unfold qOA
  unfold qHu at k
  refine Br.dec (fun g1 => ?_) fun g1 => ?_
  · rw [if_pos g1] at k; exact Ret.mk (k none 0 h h.le_refl (.inl rfl))
  rw [if_neg g1] at k
  refine Br.dec (fun g2 => ?_) fun g2 => ?_
  · rw [if_pos g2] at k; exact Ret.mk (k none 0 h h.le_refl (.inl rfl))
  rw [if_neg g2] at k
  refine Br.dec (fun g3 => ?_) fun g3 => ?_
  · rw [if_pos g3] at k; exact Ret.mk (k none 0 h h.le_refl (.inl rfl))
  rw [if_neg g3] at k
  obtain ⟨m, rfl⟩ : ∃ m : Nat, p = (m : Int) := ⟨p.toNat, by omega⟩
  rw [Int.toNat_natCast] at k
  intro r hr
  exact qYr (by omega) ht k m 0 _ _ 0 (by omega) (qi hr) (qPS hr)
/-! rooms -/
end
end Go.Proofs.YtjihfieahkbohaaGreat

/- The reference's dues of nets. -/
namespace Go.Proofs.YtjihfieahkbohaaGreat
open Go Go.Sy Go.Value
set_option linter.unusedVariables false
set_option linter.unusedSimpArgs false

def qLK (ds : List Int) (M : List (List Int)) (i m : Nat) : List Du := ((List.range i).flatMap fun k => qGJ ds k M M.length) ++ qGJ ds i M m
def qHj (ds : List Int) (M : List (List Int)) (i m : Nat) (row : List Int) (c : Nat) : List Du := qLK ds M i m ++ qM7 ds i m row c
theorem qV3 (ds : List Int) (M : List (List Int)) (i m : Nat) (row : List Int) : qHj ds M i m row 0 = qLK ds M i m := List.append_nil _
theorem qZA (ds : List Int) (M : List (List Int)) (i m : Nat) (row : List Int) (c : Nat) : qHj ds M i m row (c + 1) = qHj ds M i m row c ++ qHN ds i m c (row.getD c 0) := by
  unfold qHj qM7
  rw [qIW, List.append_assoc]
theorem qY2 (ds : List Int) (M : List (List Int)) (i m : Nat) : qLK ds M i (m + 1) = qHj ds M i m (M.getD m []) (M.getD m []).length := by
  unfold qHj qLK qGJ
  rw [qIW, List.append_assoc]
theorem qXM {ds : List Int} {M : List (List Int)} {i m c : Nat} {row : List Int} (h8 : ∀ l ∈ M, l.length ≤ 8) (hM : M.length ≤ 16) (hm : m ≤ 16) (hc : c ≤ 8) (hi : i ≤ 16) : (qHj ds M i m row c).length ≤ 5000 := by
  have e1 := qJ1 (f := fun k => qGJ ds k M M.length) (w := 128) (fun k => Nat.le_trans (qMD ds k h8 M.length) (by omega)) i
  have e2 := qMD ds i h8 m
  have e3 := qP7 ds i m row c
  unfold qHj qLK
  rw [List.length_append, List.length_append]
  omega
theorem qXj {v : Int} {l : List Int} : qGK v l = false ↔ ∀ c, c < l.length → l.getD c 0 ≠ v := by
  unfold qGK
  rw [List.any_eq_false]
  constructor
  · intro h c hc e
    rw [List.getD_eq_getElem?_getD, List.getElem?_eq_getElem hc] at e
    have := h _ (List.getElem_mem hc)
    rw [Option.getD_some] at e
    rw [e] at this
    simp at this
  · intro h x hx
    obtain ⟨c, hc, rfl⟩ := List.mem_iff_getElem.1 hx
    have := h c hc
    rw [List.getD_eq_getElem?_getD, List.getElem?_eq_getElem hc, Option.getD_some] at this
    simpa using fun e : v = l[c] => this e.symm
section
variable {h0 : Heap} {K : Value → Heap → Prop} {np q : Option Addr} {L : List NRow} {ds : List Int} {lc qc : Nat}
theorem qbN {i m : Nat} {x : NRow} (hi : i < ds.length) (hx : L[m]? = some x) (h8 : ∀ x ∈ L, x.l.length ≤ 8 ∧ qAq x.l) (hd1 : 1 ≤ ds.length) (hd2 : ds.length ≤ 16) (hL : L.length ≤ 16) (N : Nets h0 np L) (X : Ints .i64 h0 q ds)
    (k3 : (mxN L).any (qGK (-9223372036854775808)) = true → ∀ h', h0.le h' → K (tuple #[slice none 0 0, .int .i64 3]) h')
    (k : qGK (-9223372036854775808) x.l = false → ∀ h' op oc, h0.le h' → OwnL h0 h' z4 op oc ((qHj ds (mxN L) i m x.l x.l.length).flatMap uV) → qEt np L.length lc q ds.length qc op (qHj ds (mxN L) i m x.l x.l.length).length oc i ((m + 1 : Nat) : Int) h' K) :
    ∀ (a j : Nat) (h : Heap) (op : Option Addr) (oc : Nat), a + j = x.l.length → (∀ c, c < j → x.l.getD c 0 ≠ -9223372036854775808) → h0.le h → OwnL h0 h z4 op oc ((qHj ds (mxN L) i m x.l j).flatMap uV) →
      qDW np L.length lc q ds.length qc op (qHj ds (mxN L) i m x.l j).length oc i m j h K := by
  have hxm := List.mem_of_getElem? hx
  have hml : m < L.length := (List.getElem?_eq_some_iff.1 hx).1
  obtain ⟨w8, wI⟩ := h8 x hxm
  have m8 : ∀ l ∈ mxN L, l.length ≤ 8 := fun l hl => by
    unfold mxN at hl
    obtain ⟨y, hy, rfl⟩ := List.mem_map.1 hl
    exact (h8 y hy).1
  have eM : (mxN L).length = L.length := by unfold mxN; rw [List.length_map]
  intro a
  induction a with
  | zero =>
    intro j h op oc hj hs l O
    refine qKJ _ _ _ _ _ _ _ _ _ _ _ _ _ _ ?_
    unfold qHi
    have hj : j = x.l.length := by omega
    subst hj
    refine nx (N.le l) rfl rfl hx (Br.no (by simp) ?_)
    rw [w1 (j := m) (by omega)]
    exact k (qXj.2 hs) h op oc l O
  | succ a ih =>
    intro j h op oc hj hs l O
    refine qKJ _ _ _ _ _ _ _ _ _ _ _ _ _ _ ?_
    unfold qHi
    have hjl : j < x.l.length := by omega
    have hv : x.l[j]? = some (x.l.getD j 0) := by rw [List.getD_eq_getElem?_getD, List.getElem?_eq_getElem hjl]; rfl
    have hI := wI _ (List.mem_of_getElem? hv)
    have XI := (N.2 x hxm).le l
    have nxt := qZA ds (mxN L) i m x.l j
    have hpl := qXM (ds := ds) (i := i) (m := m) (c := j) (row := x.l) m8 (by omega) (by omega) (by omega) (by omega)
    generalize hn : x.l.getD j 0 = n at *
    unfold I64 at hI
    have next : n ≠ -9223372036854775808 → ∀ c, c < j + 1 → x.l.getD c 0 ≠ -9223372036854775808 := fun h c hc => by
      by_cases e : c = j
      · subst e; rw [hn]; exact h
      · exact hs c (by omega)
    refine nx (N.le l) rfl rfl hx (Br.yes (by simp; omega) (nx (N.le l) rfl rfl hx (ix XI rfl rfl hv (Br.dec (fun g1 => ?_) fun g1 => nx (N.le l) rfl rfl hx (ix XI rfl rfl hv (Br.intro (fun g2 => ?_) fun g2 => ?_))))))
    · rw [w1 (j := j) (by omega)]
      have e : qHj ds (mxN L) i m x.l (j + 1) = qHj ds (mxN L) i m x.l j := by
        rw [nxt]
        unfold qHN
        rw [if_neg (by omega), List.append_nil]
      have := ih (j + 1) h op oc (by omega) (next (by omega)) l (by rw [e]; exact O)
      rw [e] at this
      exact this
    · have g2 : n = -9223372036854775808 := by simpa using g2
      refine Ret.mk (k3 ?_ h l)
      rw [List.any_eq_true]
      refine ⟨x.l, by unfold mxN; exact List.mem_map.2 ⟨x, hxm, rfl⟩, ?_⟩
      unfold qGK
      rw [List.any_eq_true]
      exact ⟨n, List.mem_of_getElem? hv, by rw [g2]; rfl⟩
    · have g2 : n ≠ -9223372036854775808 := by simpa using g2
      have hneg : IntKind.wrap .i64 (0 - n) = -n := by rw [qH (by omega) (by omega)]; omega
      refine nx (N.le l) rfl rfl hx (ix XI rfl rfl hv ?_)
      rw [hneg]
      refine qYo (t := -n) (p := (ds.length : Int)) (by unfold I64; omega) fun sp sc h' l' I => ⟨_, _, _, _, rfl, ?_⟩
      rw [qPP (by omega) hd1 (by omega)] at I ⊢
      dsimp only at I ⊢
      have l02 := Heap.le_trans l l'
      have hs2 : (shL (-n) ds.length)[i]? = some ((shL (-n) ds.length).getD i 0) := by rw [List.getD_eq_getElem?_getD, List.getElem?_eq_getElem (by rw [qNO]; exact hi)]; rfl
      have hd : ds[i]? = some (ds.getD i 0) := by rw [List.getD_eq_getElem?_getD, List.getElem?_eq_getElem hi]; rfl
      refine ix I rfl rfl hs2 (Br.dec (fun g3 => ix (X.le l02) rfl rfl hd (ix I rfl rfl hs2 ?_)) fun g3 => ?_)
      · have e : qHj ds (mxN L) i m x.l (j + 1) = qHj ds (mxN L) i m x.l j ++ [⟨m, j, ds.getD i 0, (shL (-n) ds.length).getD i 0⟩] := by
          rw [nxt]
          unfold qHN
          rw [if_pos ⟨by omega, by omega⟩]
        refine qKm (ws := uV ⟨m, j, ds.getD i 0, (shL (-n) ds.length).getD i 0⟩) (O.le l') (by decide) l02 (by omega) rfl rfl (by rw [qAO qAp]; rfl) fun r h5 p' c' h6 hr l5 l6 O' keep how => ?_
        rw [w1 (j := j) (by omega)]
        have := ih (j + 1) h6 p' c' (by omega) (next g2) l6 (by rw [e, List.flatMap_append, List.flatMap_cons, List.flatMap_nil, List.append_nil]; exact O')
        rw [e, List.length_append] at this
        exact this
      · rw [w1 (j := j) (by omega)]
        have e : qHj ds (mxN L) i m x.l (j + 1) = qHj ds (mxN L) i m x.l j := by
          rw [nxt]
          unfold qHN
          rw [if_neg (fun x => g3 x.2), List.append_nil]
        have := ih (j + 1) h' op oc (by omega) (next g2) l02 (by rw [e]; exact O.le l')
        rw [e] at this
        exact this
theorem qa3 {i : Nat} (hi : i < ds.length) (h8 : ∀ x ∈ L, x.l.length ≤ 8 ∧ qAq x.l) (hd1 : 1 ≤ ds.length) (hd2 : ds.length ≤ 16) (hL : L.length ≤ 16) (N : Nets h0 np L) (X : Ints .i64 h0 q ds)
    (k3 : (mxN L).any (qGK (-9223372036854775808)) = true → ∀ h', h0.le h' → K (tuple #[slice none 0 0, .int .i64 3]) h')
    (k : (mxN L).any (qGK (-9223372036854775808)) = false → ∀ h' op oc, h0.le h' → OwnL h0 h' z4 op oc ((qLK ds (mxN L) i L.length).flatMap uV) → qDb np L.length lc q ds.length qc op (qLK ds (mxN L) i L.length).length oc ((i + 1 : Nat) : Int) h' K) :
    ∀ (a m : Nat) (h : Heap) (op : Option Addr) (oc : Nat), a + m = L.length → (∀ x ∈ L.take m, qGK (-9223372036854775808) x.l = false) → h0.le h → OwnL h0 h z4 op oc ((qLK ds (mxN L) i m).flatMap uV) →
      qEt np L.length lc q ds.length qc op (qLK ds (mxN L) i m).length oc i m h K := by
  intro a
  induction a with
  | zero =>
    intro m h op oc hm hs l O
    refine qKD _ _ _ _ _ _ _ _ _ _ _ _ _ ?_
    unfold qHr
    have hm : m = L.length := by omega
    subst hm
    rw [w1 (j := i) (by omega)]
    refine Br.no (by simp) (k ?_ h op oc l O)
    rw [List.take_length] at hs
    rw [List.any_eq_false]
    intro r hr
    unfold mxN at hr
    obtain ⟨x, hx, rfl⟩ := List.mem_map.1 hr
    rw [hs x hx]
    decide
  | succ a ih =>
    intro m h op oc hm hs l O
    refine qKD _ _ _ _ _ _ _ _ _ _ _ _ _ ?_
    unfold qHr
    have hx : L[m]? = some L[m] := List.getElem?_eq_getElem (by omega)
    have tk : L.take (m + 1) = L.take m ++ [L[m]] := by rw [List.take_add_one, hx]; rfl
    generalize L[m] = x at *
    have hrow : (mxN L).getD m [] = x.l := by unfold mxN; rw [List.getD_eq_getElem?_getD, List.getElem?_map, hx]; rfl
    have e := qY2 ds (mxN L) i m
    rw [hrow] at e
    refine Br.yes (by simp; omega) ?_
    have := qbN (lc := lc) (qc := qc) hi hx h8 hd1 hd2 hL N X k3 (fun hn h' op' oc' l' O' => ?_) x.l.length 0 h op oc (by omega) (fun c hc => absurd hc (by omega)) l (by rw [qV3]; exact O)
    · rw [qV3] at this
      exact this
    · have := ih (m + 1) h' op' oc' (by omega) (fun y hy => by
        rw [tk] at hy
        rcases List.mem_append.1 hy with hy | hy
        · exact hs y hy
        · rw [List.mem_singleton] at hy; subst hy; exact hn) l' (by rw [e]; exact O')
      rw [e] at this
      exact this
theorem qbE (h8 : ∀ x ∈ L, x.l.length ≤ 8 ∧ qAq x.l) (hd1 : 1 ≤ ds.length) (hd2 : ds.length ≤ 16) (hL : L.length ≤ 16) (N : Nets h0 np L) (X : Ints .i64 h0 q ds)
    (k3 : (mxN L).any (qGK (-9223372036854775808)) = true → ∀ h', h0.le h' → K (tuple #[slice none 0 0, .int .i64 3]) h')
    (k : (mxN L).any (qGK (-9223372036854775808)) = false → ∀ h' op oc, h0.le h' → Arr uV h' op (qJp (mxN L) ds) → K (tuple #[slice op (qJp (mxN L) ds).length oc, .int .i64 0]) h') :
    ∀ (a i : Nat) (h : Heap) (op : Option Addr) (oc : Nat), a + i = ds.length → (i = 0 ∨ (mxN L).any (qGK (-9223372036854775808)) = false) → h0.le h → OwnL h0 h z4 op oc (((List.range i).flatMap fun k => qGJ ds k (mxN L) (mxN L).length).flatMap uV) →
      qDb np L.length lc q ds.length qc op ((List.range i).flatMap fun k => qGJ ds k (mxN L) (mxN L).length).length oc i h K := by
  have eM : (mxN L).length = L.length := by unfold mxN; rw [List.length_map]
  intro a
  induction a with
  | zero =>
    intro i h op oc hi hs l O
    refine qKF _ _ _ _ _ _ _ _ _ _ _ _ ?_
    unfold qHm
    have hi : i = ds.length := by omega
    subst hi
    exact Br.no (by simp) (Ret.mk (k (hs.resolve_left (by omega)) h op oc l O.rd))
  | succ a ih =>
    intro i h op oc hi hs l O
    refine qKF _ _ _ _ _ _ _ _ _ _ _ _ ?_
    unfold qHm
    have e0 : qLK ds (mxN L) i 0 = (List.range i).flatMap fun k => qGJ ds k (mxN L) (mxN L).length := List.append_nil _
    have e1 : qLK ds (mxN L) i L.length = (List.range (i + 1)).flatMap fun k => qGJ ds k (mxN L) (mxN L).length := by
      rw [qIW, eM]
      unfold qLK
      rw [eM]
    refine Br.yes (by simp; omega) ?_
    have := qa3 (lc := lc) (qc := qc) (i := i) (by omega) h8 hd1 hd2 hL N X k3 (fun hn h' op' oc' l' O' => ?_) L.length 0 h op oc (by omega) (fun x hx => by simp at hx) l (by rw [e0]; exact O)
    · rw [e0] at this
      exact this
    · rw [e1] at O' ⊢
      exact ih (i + 1) h' op' oc' (by omega) (.inr hn) l' O'
end
section
variable {h : Heap} {K : Value → Heap → Prop} {np q : Option Addr} {L : List NRow} {ds : List Int} {lc qc : Nat}
theorem qbF (N : Nets h np L) (hn : L.length ≤ 1000000) (kw : L.any qGq = true → K (tuple #[slice none 0 0, .int .i64 4]) h) (k : L.any qGq = false → qL h [] 61 fun r h => qDb np L.length lc q ds.length qc (some ⟨r, 0, none⟩) 0 0 0 h K) :
    ∀ (a m : Nat), a + m = L.length → (L.take m).any qGq = false → qEr np L.length lc q ds.length qc m h K := by
  intro a
  induction a with
  | zero =>
    intro m hm hs
    refine qKK _ _ _ _ _ _ _ _ _ ?_
    unfold qHo
    rw [List.take_of_length_le (by omega)] at hs
    exact Br.no (by simp; omega) (k hs)
  | succ a ih =>
    intro m hm hs
    refine qKK _ _ _ _ _ _ _ _ _ ?_
    unfold qHo
    have hx : L[m]? = some L[m] := List.getElem?_eq_getElem (by omega)
    have hxm : L[m] ∈ L := List.getElem_mem _
    have tk : L.take (m + 1) = L.take m ++ [L[m]] := by rw [List.take_add_one, hx]; rfl
    generalize L[m] = x at *
    refine Br.yes (by simp; omega) (nx N rfl rfl hx (Br.dec (fun g => Ret.mk (kw ?_)) fun g => ?_))
    · rw [List.any_eq_true]
      exact ⟨x, hxm, by unfold qGq; exact decide_eq_true g⟩
    · rw [w1 (j := m) (by omega)]
      refine ih (m + 1) (by omega) ?_
      rw [tk, List.any_append, hs]
      simp [qGq]
      omega
theorem qbR (X : Ints .i64 h q ds) (hd : ds.length ≤ 1000000) (k1 : qFU ds = false → K (tuple #[slice none 0 0, .int .i64 1]) h) (h16 : 1 ≤ ds.length ∧ ds.length ≤ 16)
    (k : qFU ds = true → Br (decide ((L.length : Int) > 16)) (Ret h K (tuple #[slice none 0 0, .int .i64 4])) (qEr np L.length lc q ds.length qc 0 h K)) :
    ∀ (a j : Nat), a + j = ds.length → 1 ≤ j → (List.range j).all (qGB ds) = true → qGT np L.length lc q ds.length qc j h K := by
  intro a
  induction a with
  | zero =>
    intro j hj h1 hs
    refine qKA _ _ _ _ _ _ _ _ _ ?_
    unfold qHq
    refine Br.no (by simp; omega) (k ?_)
    unfold qFU
    rw [show ds.length = j by omega, hs, Bool.true_and, decide_eq_true_eq]
    omega
  | succ a ih =>
    intro j hj h1 hs
    refine qKA _ _ _ _ _ _ _ _ _ ?_
    unfold qHq
    obtain ⟨u, rfl⟩ : ∃ u, j = u + 1 := ⟨j - 1, by omega⟩
    have hx : ds[u + 1]? = some (ds.getD (u + 1) 0) := by rw [List.getD_eq_getElem?_getD, List.getElem?_eq_getElem (by omega)]; rfl
    have hy : ds[u]? = some (ds.getD u 0) := by rw [List.getD_eq_getElem?_getD, List.getElem?_eq_getElem (by omega)]; rfl
    have hw : IntKind.wrap .i64 (((u + 1 : Nat) : Int) - 1) = (u : Int) := by rw [qH (by omega) (by omega)]; omega
    have hu : qGB ds u = true := by
      rw [List.all_eq_true] at hs
      exact hs u (List.mem_range.2 (by omega))
    unfold qGB at hu
    rw [decide_eq_true_eq] at hu
    have er : qGB ds (u + 1) = decide (0 ≤ ds.getD (u + 1) 0 ∧ ds.getD u 0 < ds.getD (u + 1) 0) := by
      unfold qGB
      rw [decide_eq_decide, Nat.add_sub_cancel]
      omega
    rw [hw]
    refine Br.yes (by simp; omega) (ix X rfl rfl hx (ix X rfl rfl hy (Br.dec (fun g => Ret.mk (k1 ?_)) fun g => ?_)))
    · unfold qFU
      rw [show (List.range ds.length).all (qGB ds) = false by
        rw [List.all_eq_false]
        exact ⟨u + 1, List.mem_range.2 (by omega), by rw [er, decide_eq_true_eq]; omega⟩, Bool.false_and]
    · rw [w1 (j := u + 1) (by omega)]
      refine ih (u + 1 + 1) (by omega) (by omega) ?_
      rw [List.range_succ, List.all_append, hs]
      simp only [List.all_cons, List.all_nil, Bool.and_true, Bool.true_and]
      rw [er, decide_eq_true_eq]
      omega
theorem qT1 (N : Nets h np L) (hn : L.length ≤ 1000000) (hr : ∀ x ∈ L, x.l.length ≤ 1000000 ∧ qAq x.l) (X : Ints .i64 h q ds) (hd : ds.length ≤ 1000000)
    (k : ∀ h' q' c', h.le h' → Arr uV h' q' (qGv (mxN L) ds).1 → K (tuple #[slice q' (qGv (mxN L) ds).1.length c', .int .i64 (qGv (mxN L) ds).2]) h') :
    CallA Tryz.prog qIj [slice np L.length lc, slice q ds.length qc] h K := by
  refine qP2 _ _ _ _ _ _ _ _ ?_
  unfold qLd
  have e : (mxN L).length = L.length := by unfold mxN; rw [List.length_map]
  have e1 : ((mxN L).any fun l => decide ((l.length : Int) > 8)) = L.any qGq := by unfold mxN; rw [List.any_map]; rfl
  unfold qGv at k
  rw [e, e1] at k
  have bad : qFU ds = false → K (tuple #[slice none 0 0, .int .i64 1]) h := fun hb => by
    rw [hb, if_pos rfl] at k
    exact k h none 0 h.le_refl (.inl rfl)
  have len : ¬ (1 ≤ ds.length ∧ ds.length ≤ 16) → qFU ds = false := fun hl => by
    unfold qFU
    rw [decide_eq_false hl, Bool.and_false]
  refine Br.dec (fun g => Ret.mk (bad (len (by omega)))) fun g1 => Br.dec (fun g => Ret.mk (bad (len (by omega)))) fun g2 => ?_
  obtain ⟨b, o, ea, hc⟩ := X.at (j := 0) (by omega)
  have h0 : ds[0] = ds.getD 0 0 := by rw [List.getD_eq_getElem?_getD, List.getElem?_eq_getElem (by omega)]; rfl
  rw [h0] at hc
  refine ⟨by omega, by omega, qD ea ⟨_, hc, Br.dec (fun g => Ret.mk (bad ?_)) fun g3 => ?_⟩⟩
  · unfold qFU
    rw [show (List.range ds.length).all (qGB ds) = false by
      rw [List.all_eq_false]
      exact ⟨0, List.mem_range.2 (by omega), by unfold qGB; rw [decide_eq_true_eq]; omega⟩, Bool.false_and]
  refine qbR X hd bad (by omega) (fun hb => ?_) (ds.length - 1) 1 (by omega) (by omega) ?_
  · rw [hb, if_neg (by decide)] at k
    refine Br.dec (fun g => Ret.mk ?_) fun g4 => ?_
    · rw [if_pos (by omega)] at k
      exact k h none 0 h.le_refl (.inl rfl)
    rw [if_neg (by omega)] at k
    refine qbF N hn (fun hw => ?_) (fun hw => ?_) L.length 0 (by omega) rfl
    · rw [hw, if_pos rfl] at k
      exact k h none 0 h.le_refl (.inl rfl)
    rw [hw, if_neg (by decide)] at k
    intro r hr0
    have O := qPS (T := 61) (z := z4) hr0
    have h8 : ∀ x ∈ L, x.l.length ≤ 8 ∧ qAq x.l := fun x hx => by
      rw [List.any_eq_false] at hw
      have := hw x hx
      unfold qGq at this
      rw [decide_eq_true_eq] at this
      exact ⟨by omega, (hr x hx).2⟩
    refine qbE (h0 := h) h8 (by omega) (by omega) (by omega) N X (fun hx h' l' => ?_) (fun hx h' op oc l' A => ?_) ds.length 0 _ _ _ (by omega) (.inl rfl) (qi hr0) O
    · rw [hx, if_pos rfl] at k
      exact k h' none 0 l' (.inl rfl)
    · rw [hx, if_neg (by decide)] at k
      exact k h' op oc l' A
  · rw [show List.range 1 = [0] from rfl]
    simp only [List.all_cons, List.all_nil, Bool.and_true]
    unfold qGB
    rw [decide_eq_true_eq]
    omega
end
end Go.Proofs.YtjihfieahkbohaaGreat

/- Who is behind, as the reference tells it: plainly. -/
namespace Go.Proofs.YtjihfieahkbohaaGreat
open Go Go.Sy Go.Value
set_option linter.unusedVariables false
set_option linter.unusedSimpArgs false

def qJX (P : List (List Int)) (now : Int) (F : List Du) (m c : Nat) : List Du := qEF P now ⟨m, c, 0, 0⟩ (qAR m c F)
def qJl (P : List (List Int)) (now : Int) (F : List Du) (m j : Nat) : List Du := (List.range j).flatMap fun c => qJX P now F m c
def qFX (P : List (List Int)) (now : Int) (F : List Du) (wi i : Nat) : List Du := (List.range i).flatMap fun m => qJl P now F m wi
theorem qR3 (x : Du) : ¬ qEg x x := by unfold qEg; omega
theorem qYU : ∀ {a b : List Du}, a.Pairwise qEg → b.Pairwise qEg → (∀ x, x ∈ a ↔ x ∈ b) → a = b
  | [], b, _, _, h => by
    cases b with
    | nil => rfl
    | cons y b => exact absurd ((h y).2 (List.mem_cons_self ..)) (by simp)
  | x :: a, [], _, _, h => absurd ((h x).1 (List.mem_cons_self ..)) (by simp)
  | x :: a, y :: b, ha, hb, h => by
    have ha' := List.pairwise_cons.1 ha
    have hb' := List.pairwise_cons.1 hb
    have e : x = y := Classical.byContradiction fun ne => by
      have h1 : x ∈ b := ((List.mem_cons.1 ((h x).1 (List.mem_cons_self ..))).resolve_left ne)
      have h2 : y ∈ a := ((List.mem_cons.1 ((h y).2 (List.mem_cons_self ..))).resolve_left (Ne.symm ne))
      have h3 := hb'.1 x h1
      have h4 := ha'.1 y h2
      unfold qEg at h3 h4
      omega
    subst e
    rw [qYU ha'.2 hb'.2 fun z => ⟨fun hz => ?_, fun hz => ?_⟩]
    · rcases List.mem_cons.1 ((h z).1 (List.mem_cons_of_mem _ hz)) with rfl | h1
      · exact absurd (ha'.1 z hz) (qR3 z)
      · exact h1
    · rcases List.mem_cons.1 ((h z).2 (List.mem_cons_of_mem _ hz)) with rfl | h1
      · exact absurd (hb'.1 z hz) (qR3 z)
      · exact h1
theorem qQC {P : List (List Int)} {now : Int} {F : List Du} {m c : Nat} {d : Du} : d ∈ qJX P now F m c ↔ (0 < qAR m c F - qDd P m c ∧ d = ⟨m, c, now, qAR m c F - qDd P m c⟩) := by
  unfold qJX qEF
  dsimp only
  by_cases h : qAR m c F - qDd P m c > 0
  · rw [if_pos h, List.mem_singleton]
    exact ⟨fun e => ⟨h, e⟩, fun e => e.2⟩
  · rw [if_neg h]
    exact ⟨fun e => (by cases e), fun e => absurd e.1 h⟩
theorem qXv {P : List (List Int)} {now : Int} {F : List Du} {wi i : Nat} {d : Du} : d ∈ qFX P now F wi i ↔ ∃ m c : Nat, m < i ∧ c < wi ∧ 0 < qAR m c F - qDd P m c ∧ d = ⟨m, c, now, qAR m c F - qDd P m c⟩ := by
  unfold qFX qJl
  simp only [List.mem_flatMap, List.mem_range, qQC]
  constructor
  · rintro ⟨m, hm, c, hc, h⟩
    exact ⟨m, c, hm, hc, h⟩
  · rintro ⟨m, c, hm, hc, h⟩
    exact ⟨m, hm, c, hc, h⟩
theorem qRX {α : Type} {R : α → α → Prop} {f : Nat → List α} (h1 : ∀ i, (f i).Pairwise R) (h2 : ∀ i j, i < j → ∀ x ∈ f i, ∀ y ∈ f j, R x y) : ∀ n : Nat, ((List.range n).flatMap f).Pairwise R
  | 0 => .nil
  | n + 1 => by
    rw [List.range_succ, List.flatMap_append, List.pairwise_append]
    refine ⟨qRX h1 h2 n, ?_, fun x hx y hy => ?_⟩
    · simpa using h1 n
    · obtain ⟨i, hi, hx⟩ := List.mem_flatMap.1 hx
      simp only [List.flatMap_cons, List.flatMap_nil, List.append_nil] at hy
      exact h2 i n (List.mem_range.1 hi) x hx y hy
theorem qV2 (P : List (List Int)) (now : Int) (F : List Du) (wi i : Nat) : (qFX P now F wi i).Pairwise qEg := by
  unfold qFX qJl
  refine qRX (fun m => qRX (fun c => ?_) (fun c c' hc x hx y hy => ?_) wi) (fun m m' hm x hx y hy => ?_) i
  · unfold qJX qEF
    split <;> simp
  · rw [qQC] at hx hy
    rw [hx.2, hy.2]
    unfold qEg
    dsimp only
    omega
  · obtain ⟨c, _, hx⟩ := List.mem_flatMap.1 hx
    obtain ⟨c', _, hy⟩ := List.mem_flatMap.1 hy
    rw [qQC] at hx hy
    rw [hx.2, hy.2]
    unfold qEg
    dsimp only
    omega
theorem qWR {P : List (List Int)} {now : Int} : ∀ (f : Nat) (W out : List Du), W.length ≤ f → qL3 W → (∀ y ∈ W, okU y) → (∃ y ∈ W, 9223372036854775807 < qAR y.m y.c W) → qEj P now f W out = ([], 3) := by
  intro f
  induction f with
  | zero =>
    intro W out hf _ _ ⟨y, hy, _⟩
    have : W = [] := List.length_eq_zero_iff.1 (by omega)
    subst this
    cases hy
  | succ f ih =>
    intro W out hf hs ho ⟨z, hz, hz2⟩
    cases W with
    | nil => cases hz
    | cons x R =>
    have hs' := List.pairwise_cons.1 hs
    have hxR : ∀ y ∈ R, ¬ qEg y x := fun y hy => hs'.1 y hy
    have hRo : ∀ y ∈ R, okU y := fun y hy => ho y (List.mem_cons_of_mem _ hy)
    have hxo := ho x (List.mem_cons_self ..)
    unfold okU at hxo
    obtain ⟨r0, r1⟩ := qOk (x := x) (s := x.n) (j := 1) hs'.2 hxR hRo
    cases hr : qHk x x.n 1 R with
    | none =>
      show (match qHk x x.n 1 R with | none => ([], 3) | some (s, j) => qEj P now f ((x :: R).drop j) (out ++ qEF P now x s)) = _
      rw [hr]
    | some sj =>
    obtain ⟨s, j⟩ := sj
    obtain ⟨h1, h2, h3, h4, h5⟩ := r1 s j hr
    have hle := (qRB hRo (by omega) (by omega) hr).2.1
    obtain ⟨i, rfl⟩ : ∃ i, j = i + 1 := ⟨j - 1, by omega⟩
    rw [Nat.add_sub_cancel] at h4 h5
    have e : qEj P now (f + 1) (x :: R) out = qEj P now f (R.drop i) (out ++ qEF P now x s) := by
      show (match qHk x x.n 1 R with | none => ([], 3) | some (s, j) => qEj P now f ((x :: R).drop j) (out ++ qEF P now x s)) = _
      rw [hr]; rfl
    have es : x :: R = (x :: R.take i) ++ R.drop i := by rw [List.cons_append, List.take_append_drop]
    have tot : ∀ m c, ¬ (m = x.m ∧ c = x.c) → qAR m c (R.drop i) = qAR m c (x :: R) := fun m c h => by
      have hz : qAR m c (x :: R.take i) = 0 := qKp fun y hy => by
        rcases List.mem_cons.1 hy with rfl | hy
        · exact fun e => h ⟨e.1.symm, e.2.symm⟩
        · have := h4 y hy
          exact fun e => h ⟨e.1.symm.trans this.1, e.2.symm.trans this.2⟩
      rw [es, qNd, hz]; omega
    have hx : qAR x.m x.c (x :: R) = s := by rw [qJa, if_pos ⟨rfl, rfl⟩]; omega
    have g : ¬ (z.m = x.m ∧ z.c = x.c) := fun g => by
      rw [g.1, g.2, hx] at hz2
      omega
    have hzd : z ∈ R.drop i := by
      rw [es] at hz
      rcases List.mem_append.1 hz with hz | hz
      · rcases List.mem_cons.1 hz with rfl | hz
        · exact (g ⟨rfl, rfl⟩).elim
        · exact (g (h4 z hz)).elim
      · exact hz
    rw [e]
    exact ih (R.drop i) _ (by rw [List.length_cons] at hf; rw [List.length_drop]; omega) (hs'.2.sublist (List.drop_sublist _ _)) (fun y hy => hRo y (List.mem_of_mem_drop hy)) ⟨z, hzd, by rw [tot _ _ g]; exact hz2⟩
theorem qSh {F : List Du} {m c : Int} (h : 0 < qAR m c F) : ∃ x ∈ F, x.m = m ∧ x.c = c := Classical.byContradiction fun hn => by
  rw [qKp fun x hx e => hn ⟨x, hx, e⟩] at h
  omega
theorem qYJ (P : List (List Int)) (m c : Int) : 0 ≤ qDd P m c := by unfold qDd; split <;> omega
section
variable {P : List (List Int)} {now : Int} {F W : List Du} {mo wi : Nat}
theorem qWz (hp : W.Perm F) (hs : qL3 W) (ho : ∀ y ∈ W, okU y) (hm : ∀ y ∈ F, y.m ≤ (mo : Int) ∧ y.c ≤ (wi : Int)) (hf : ∀ m c : Nat, m ≤ mo → c ≤ wi → qAR m c F ≤ 9223372036854775807) :
    qEj P now W.length W [] = (qFX P now F (wi + 1) (mo + 1), 0) := by
  have key : ∀ y ∈ W, ∃ m c : Nat, m ≤ mo ∧ c ≤ wi ∧ y.m = (m : Int) ∧ y.c = (c : Int) := fun y hy => by
    have h1 := hm y (hp.mem_iff.1 hy)
    have h2 := ho y hy
    unfold okU at h2
    exact ⟨y.m.toNat, y.c.toNat, by omega, by omega, by omega, by omega⟩
  obtain ⟨B, b1, b2, b3, b4⟩ := qVl (P := P) (now := now) W.length W [] (Nat.le_refl _) hs ho fun y hy => by
    obtain ⟨m, c, h1, h2, e1, e2⟩ := key y hy
    rw [e1, e2, qKw hp]
    exact hf m c h1 h2
  rw [b1, List.nil_append]
  refine congrArg (·, (0 : Int)) (qYU b3 (qV2 ..) fun d => ?_)
  rw [qXv]
  constructor
  · intro hd
    obtain ⟨c1, c2, c3, x, hx, c4, c5⟩ := b2 d hd
    obtain ⟨m, c, h1, h2, e1, e2⟩ := key x hx
    have em : d.m = (m : Int) := c4.symm.trans e1
    have ec : d.c = (c : Int) := c5.symm.trans e2
    rw [em, ec, qKw hp] at c2
    refine ⟨m, c, by omega, by omega, by omega, ?_⟩
    obtain ⟨dm, dc, dt, dn⟩ := d
    dsimp only at *
    rw [em, ec, c1, c2]
  · rintro ⟨m, c, hm', hc', h0, rfl⟩
    have := qYJ P m c
    obtain ⟨x, hx, e1, e2⟩ := qSh (F := F) (m := m) (c := c) (by omega)
    have hxW := hp.mem_iff.2 hx
    obtain ⟨d, hd, f1, f2⟩ := b4 x hxW (by rw [e1, e2, qKw hp]; exact h0)
    obtain ⟨c1, c2, _, _⟩ := b2 d hd
    rw [f1, f2, e1, e2, qKw hp] at c2
    have : d = ⟨m, c, now, qAR m c F - qDd P m c⟩ := by
      obtain ⟨dm, dc, dt, dn⟩ := d
      dsimp only at *
      rw [f1.trans e1, f2.trans e2, c1, c2]
    rw [← this]
    exact hd
theorem qXd (hp : W.Perm F) (hs : qL3 W) (ho : ∀ y ∈ W, okU y) {m c : Int} (h : 9223372036854775807 < qAR m c F) : qEj P now W.length W [] = ([], 3) := by
  obtain ⟨x, hx, e1, e2⟩ := qSh (F := F) (m := m) (c := c) (by omega)
  exact qWR W.length W [] (Nat.le_refl _) hs ho ⟨x, hp.mem_iff.2 hx, by rw [e1, e2, qKw hp]; exact h⟩
end
end Go.Proofs.YtjihfieahkbohaaGreat
