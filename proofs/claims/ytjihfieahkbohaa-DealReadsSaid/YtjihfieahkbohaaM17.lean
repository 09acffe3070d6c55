import Derived.Test.YtjihfieahkbohaaM13
import Derived.Test.YtjihfieahkbohaaM16
import Derived.Test.YtjihfieahkbohaaM07
/- An operation of both books: the answers are the same. -/
namespace Go.Proofs.Ytjihfieahkbohaa
open Go Go.Sy Go.Value
set_option linter.unusedVariables false
set_option linter.unusedSimpArgs false

def oA (x : Opx) : Value := agg #[.int .i64 x.k, .int .i64 x.m, .int .i64 x.id, .int .i64 x.d.id, .int .i64 x.d.a, .int .i64 x.d.b, .int .i64 x.d.sc, .int .i64 x.d.bc, .int .i64 x.d.sell, .int .i64 x.d.buy]
theorem keeps1 {H H' X : Heap} {r : Nat} {vs : List Value} (A : At X r vs) (l : X.le H) (l' : X.le H') : Keeps [r] H H' := fun x hx y hy => by
  rw [List.mem_singleton] at hx
  subst hx
  obtain ⟨T, ea⟩ := A
  have h1 := l _ _ ea
  rw [hy] at h1
  rw [h1]
  exact l' _ _ ea
theorem S_do {K : Value → Heap → Prop} {H X g1 g2 : Heap} {p q : Nat} {S : Bk} {x : Opx} (s : SepT H X g1 g2) (P : PB g1 p S) (R : RB g2 q S) (hd : I64d x.d)
    (k : ∀ H' X' g1' g2', SepT H' X' g1' g2' → X.le X' → PB g1' p (opM S x) → RB g2' q (opM S x) → K (.bool true) H') :
    CallA Try.prog fn_law11_do [pointer (some ⟨p, 0, none⟩), pointer (some ⟨q, 0, none⟩), oA x] H K := by
  refine F_law11_do _ _ _ _ _ _ _ _ _ _ _ _ _ _ ?_
  unfold F_law11_doT
  refine s.box fun r1 H X' s A _ hr lx => ?_
  have A : At X' r1 (oV x) := A
  have B := A.le s.x
  refine ⟨_, B.cell rfl, Br.intro (fun g => ?_) fun g => ?_⟩
  · have g : x.k = 0 := by simpa using g
    have eo : opM S x = (submitM S x.d).2.2 := by unfold opM; rw [if_pos g]
    rw [eo] at k
    refine ⟨_, B.cell rfl, _, B.cell rfl, _, B.cell rfl, _, B.cell rfl, _, B.cell rfl, _, B.cell rfl, _, B.cell rfl, s.call1 (S_Submit P (d := x.d) hd fun g1 P H s => ⟨_, _, rfl, ?_⟩)⟩
    have B := A.le s.x
    refine ⟨_, B.cell rfl, _, B.cell rfl, _, B.cell rfl, _, B.cell rfl, _, B.cell rfl, _, B.cell rfl, _, B.cell rfl, s.call2 (S_RSubmit R (d := x.d) hd fun g2 R H s => ⟨_, _, rfl, Br.yes (by simp) (Ret.mk ?_)⟩)⟩
    rw [beq_self_eq_true]
    exact k H X' g1 g2 s lx P R
  have n0 : x.k ≠ 0 := by simpa using g
  refine Br.intro (fun g => ?_) fun g => ?_
  · have g : x.k = 1 := by simpa using g
    have eo : opM S x = (rescindM S x.m x.id).2.2 := by unfold opM; rw [if_neg n0, if_pos g]
    rw [eo] at k
    refine ⟨_, B.cell rfl, _, B.cell rfl, s.call1 (S_Rescind P fun g1 P H s => ⟨_, _, rfl, ?_⟩)⟩
    have B := A.le s.x
    refine ⟨_, B.cell rfl, _, B.cell rfl, s.call2 (S_RRescind R fun g2 R H s => ⟨_, _, rfl, Br.yes (by simp) (Ret.mk ?_)⟩)⟩
    rw [beq_self_eq_true]
    exact k H X' g1 g2 s lx P R
  have n1 : x.k ≠ 1 := by simpa using g
  refine Br.intro (fun g => ?_) fun g => ?_
  · have g : x.k = 2 := by simpa using g
    have eo : opM S x = (settleM S x.id).2 := by unfold opM; rw [if_neg n0, if_neg n1, if_pos g]
    rw [eo] at k
    have sx := s.x
    refine ⟨_, B.cell rfl, _, B.cell rfl, s.call1 (S_Settle P fun g1 P H s => ⟨_, rfl, .inr (keeps1 A sx s.x), s.call2 (S_RSettle R fun g2 R H s => ⟨_, rfl, Ret.mk ?_⟩)⟩)⟩
    rw [beq_self_eq_true]
    exact k H X' g1 g2 s lx P R
  have n2 : x.k ≠ 2 := by simpa using g
  refine Br.intro (fun g => ?_) fun g => ?_
  · have g : x.k = 3 := by simpa using g
    have eo : opM S x = (removeM S x.m).2 := by unfold opM; rw [if_neg n0, if_neg n1, if_neg n2, if_pos g]
    rw [eo] at k
    have sx := s.x
    have hl : (remO x.m S.L).length ≤ 200 := by
      unfold remO
      rw [List.length_map]
      have := List.length_filter_le (hitE x.m) S.L
      have := P.1.n
      omega
    refine ⟨_, B.cell rfl, _, B.cell rfl, s.call1 (S_Remove P fun g1 q1 c1 P I1 H s => ⟨_, _, _, rfl, .inr (keeps1 A sx s.x), s.call2 (S_RRemove R fun g2 q2 c2 R I2 H s => ⟨_, _, _, rfl, ?_⟩)⟩)⟩
    refine S_SameI (I1.le s.a) (I2.le s.b) rfl rfl (by omega) ⟨_, rfl, Ret.mk ?_⟩
    rw [decide_eq_true rfl]
    exact k H X' g1 g2 s lx P R
  have n3 : x.k ≠ 3 := by simpa using g
  have eo : opM S x = S := by unfold opM; rw [if_neg n0, if_neg n1, if_neg n2, if_neg n3]
  rw [eo] at k
  obtain ⟨_, lp, c, mr, BP⟩ := P.le s.a
  refine ⟨_, B.cell rfl, S_Deal BP fun H1 l1 => ⟨_, _, _, _, _, _, _, _, rfl, ?_⟩⟩
  have s := s.le l1
  generalize hdm : dealM S x.id = dm at *
  refine s.cp (vs := dV dm.1) rfl fun r2 H2 X2 s A2 fr cs _ lx2 => ⟨cs, ?_⟩
  have A := fr _ _ A
  have B := A.le s.x
  have lx := Heap.le_trans lx lx2
  obtain ⟨okR, lq, cq, BR⟩ := R.le s.b
  obtain ⟨_, lp, c, mr, BP⟩ := P.le s.a
  have hn := okR.n
  refine ⟨_, B.cell rfl, S_RAt BR (by omega) ⟨_, rfl, ?_⟩⟩
  have B2 := A2.le s.x
  cases hp : posE x.id S.L with
  | none =>
    have e1 : getE S x.id = none := getE_none.2 hp
    have e2 : dealM S x.id = (dl0, false) := by unfold dealM; rw [e1]
    have e3 : stateM S x.id = 0 := by unfold stateM; rw [e1]
    rw [atI_none hp]
    obtain rfl : dm = (dl0, false) := hdm.symm.trans e2
    refine Br.yes (by decide) ⟨_, B2.cell rfl, _, B2.cell rfl, _, B2.cell rfl, _, B2.cell rfl, _, B2.cell rfl, _, B2.cell rfl, _, B2.cell rfl, Br.yes rfl (Br.yes rfl ⟨_, B.cell rfl, S_State BP ⟨_, rfl, Ret.mk ?_⟩⟩)⟩
    rw [e3]
    exact k _ X2 g1 g2 s lx P R
  | some i =>
    obtain ⟨y, hy, hid⟩ := posE_some hp
    have e1 : getE S x.id = some y := by unfold getE; rw [hp]; exact hy
    have e2 : dealM S x.id = (y.d, true) := by unfold dealM; rw [e1]
    have e3 : stateM S x.id = y.st := by unfold stateM; rw [e1]
    rw [atI_some hp]
    obtain rfl : dm = (y.d, true) := hdm.symm.trans e2
    refine Br.no (by simp) ⟨_, B2.cell rfl, _, B2.cell rfl, _, B2.cell rfl, _, B2.cell rfl, _, B2.cell rfl, _, B2.cell rfl, _, B2.cell rfl, withAddr_intro rfl ⟨_, _, _, BR.ap.cell rfl, ax rV_len BR.arr rfl rfl hy (by decide) fun b o hb hc => ?_⟩⟩
    refine ⟨_, hc 0 (by decide), _, hc 1 (by decide), _, hc 2 (by decide), _, hc 3 (by decide), _, hc 4 (by decide), _, hc 5 (by decide), _, hc 6 (by decide), Br.yes (show eqD y.d y.d = true from eqD_iff.2 rfl) (Br.yes rfl ⟨_, B.cell rfl, withAddr_intro rfl ⟨_, _, _, BR.ap.cell rfl, ax rV_len BR.arr rfl rfl hy (by decide) fun b o hb hc => ⟨_, hc 7 (by decide), S_State BP ⟨_, rfl, .inl (Heap.le_refl _), Ret.mk ?_⟩⟩⟩⟩)⟩
    rw [e3, beq_self_eq_true]
    exact k _ X2 g1 g2 s lx P R
end Go.Proofs.Ytjihfieahkbohaa

/- Operation by operation, both books are the same. -/
namespace Go.Proofs.Ytjihfieahkbohaa
open Go Go.Sy Go.Value
set_option linter.unusedVariables false
set_option linter.unusedSimpArgs false

theorem text_eq {s : ByteArray} {l : List Int} (h : bytesI s = l) : s = strOf l := by rw [← h, strOf_bytesI]
theorem does_0 {h : Heap} {p q n c : Nat} {op : Option Addr} {l : List Opx} (A : Arr oV h op l) (hn : l.length = n) (hd : ∀ x ∈ l, I64d x.d) :
    ∀ (m j : Nat) (H X g1 g2 : Heap) (S : Bk), m + j = 60 → PB g1 p S → RB g2 q S → SepT H X g1 g2 → h.le X →
      L_law11_DealDoes_0 op n c (some ⟨p, 0, none⟩) (some ⟨q, 0, none⟩) (j : Int) H fun v h' => v = .bool true ∧ h.le h' := by
  intro m
  induction m with
  | zero =>
    intro j H X g1 g2 S hj P R s hX
    refine L_law11_DealDoes_0r _ _ _ _ _ _ _ _ ?_
    unfold L_law11_DealDoes_0T
    exact Br.yes rfl (Br.intro (fun _ => Br.no (decide_eq_false (by omega)) (Ret.mk ⟨rfl, Heap.le_trans hX s.x⟩)) fun _ => Ret.mk ⟨rfl, Heap.le_trans hX s.x⟩)
  | succ m ih =>
    intro j H X g1 g2 S hj P R s hX
    refine L_law11_DealDoes_0r _ _ _ _ _ _ _ _ ?_
    unfold L_law11_DealDoes_0T
    refine Br.yes rfl (Br.dec (fun gn => Br.yes (decide_eq_true (by omega)) ?_) fun _ => Ret.mk ⟨rfl, Heap.le_trans hX s.x⟩)
    have hjl : j < l.length := by omega
    have hx : l[j]? = some l[j] := List.getElem?_eq_getElem hjl
    have hdx := hd _ (List.getElem_mem hjl)
    refine ax oV_len (A.le (Heap.le_trans hX s.x)) hn rfl hx (by decide) fun b o hb hcl => ?_
    generalize l[j] = x at *
    refine ⟨_, hcl 0 (by decide), _, hcl 1 (by decide), _, hcl 2 (by decide), _, hcl 3 (by decide), _, hcl 4 (by decide), _, hcl 5 (by decide), _, hcl 6 (by decide), _, hcl 7 (by decide), _, hcl 8 (by decide), _, hcl 9 (by decide), S_do (x := x) s P R hdx fun H X' g1 g2 s lx P R => ⟨_, rfl, Br.no rfl ?_⟩⟩
    have hX := Heap.le_trans hX lx
    refine S_Text (P.le s.a) fun H1 l1 => ⟨_, rfl, S_RText ((R.le s.b).le l1) fun H2 s2 l2 e2 => ⟨_, rfl, Br.no (by rw [text_eq e2]; simp) ?_⟩⟩
    have s := s.le (Heap.le_trans l1 l2)
    have in1 : ∀ (m : Nat) (H : Heap) (t : Int), t + (m : Int) = 6 → -1 ≤ t → SepT H X' g1 g2 → L_law11_DealDoes_1 op n c (some ⟨p, 0, none⟩) (some ⟨q, 0, none⟩) (j : Int) t H fun v h' => v = .bool true ∧ h.le h' := by
      intro m
      induction m with
      | zero =>
        intro H t ht _ s
        refine L_law11_DealDoes_1r _ _ _ _ _ _ _ _ _ ?_
        unfold L_law11_DealDoes_1T
        rw [w1d (by omega)]
        exact Br.no (decide_eq_false (by omega)) (ih (j + 1) H X' g1 g2 _ (by omega) P R s hX)
      | succ m ih1 =>
        intro H t ht h0 s
        refine L_law11_DealDoes_1r _ _ _ _ _ _ _ _ _ ?_
        unfold L_law11_DealDoes_1T
        have hlen : (allM (opM S x) t).length ≤ 200 := by
          rw [(all_perm P.1 t).length_eq, List.length_map]
          have := ofS_len t (opM S x).L
          have := P.1.n
          omega
        refine Br.yes (decide_eq_true (by omega)) (S_All (P.le s.a) fun H3 q3 c3 l3 I3 => ⟨_, _, _, rfl, S_RAll ((R.le s.b).le l3) fun H4 q4 c4 l4 I4 => ⟨_, _, _, rfl, ?_⟩⟩)
        refine S_SameI (I3.le l4) I4 rfl rfl (by omega) ⟨_, rfl, Br.no (by rw [decide_eq_true rfl]; rfl) ?_⟩
        rw [wrap_i64_id (n := t + 1) (by omega) (by omega)]
        exact ih1 H4 (t + 1) (by omega) (by omega) (s.le (Heap.le_trans l3 l4))
    exact in1 7 H2 (-1) (by decide) (by decide) s
theorem law11_DealDoes_ok {h : Heap} {mem cur : Int} (hm : I64 mem) (hc : I64 cur) {q : Option Addr} {n c : Nat} (H : (Sh.sl opSh).Has h [slice q n c]) :
    CallA Try.prog fn_law11_DealDoes [.int .i64 mem, .int .i64 cur, slice q n c] h fun v h' => v = .bool true ∧ h.le h' := by
  obtain ⟨_, _, l, hn, A, hd⟩ := arr_of (enc := oV) (P := fun x => I64d x.d) H fun vs hv => op_of hv
  refine F_law11_DealDoes _ _ _ _ _ _ _ ?_
  unfold F_law11_DealDoesT
  refine law11_awake_ok fun h1 l1 => ⟨_, rfl, Br.no rfl ?_⟩
  have s := (SepT.start h).le l1
  refine s.new1 (S_New (fun g H s => ⟨_, _, rfl, ?_⟩) fun g p g1 _ P H s => ⟨_, _, rfl, ?_⟩)
  · refine S_RNew (fun _ => ⟨_, _, rfl, Br.no rfl (Br.no rfl ?_)⟩) fun g2 => (g g2).elim
    refine L_law11_DealDoes_0r _ _ _ _ _ _ _ _ ?_
    unfold L_law11_DealDoes_0T
    exact Br.no rfl (Ret.mk ⟨rfl, s.x⟩)
  · refine s.new2 (S_RNew (fun g2 => (g2 g).elim) fun _ q2 g2 _ R H s => ⟨_, _, rfl, Br.no rfl (Br.no rfl ?_)⟩)
    exact does_0 A hn hd 60 0 H h g1 g2 _ rfl P R s h.le_refl
end Go.Proofs.Ytjihfieahkbohaa

/- The reference's book of instructions, read from bytes. -/
namespace Go.Proofs.Ytjihfieahkbohaa
open Go Go.Sy Go.Value
set_option linter.unusedVariables false
set_option linter.unusedSimpArgs false

section
variable {h : Heap} {K : Value → Heap → Prop}
theorem num_0 {s : ByteArray} {a w : Nat} {v : Int} (hw : a + w ≤ s.size) (hs : s.size ≤ 1000000000) (hv : decL 0 (((bytesI s).drop a).take w) = v) (k : K (.int .i64 v) h) :
    ∀ (m j : Nat) (n x : Int), m + j = w → (∃ t, n = x + t * 18446744073709551616) → I64 x → decL x ((((bytesI s).drop a).take w).drop j) = v → L_ref11_number_0 s (a : Int) (w : Int) n ((a + j : Nat) : Int) h K := by
  have hl := bytesI_length s
  intro m
  induction m with
  | zero =>
    intro j n x hj ⟨t, hn⟩ hx e
    refine L_ref11_number_0r _ _ _ _ _ _ _ ?_
    unfold L_ref11_number_0T
    rw [List.drop_eq_nil_of_le (by rw [List.length_take, List.length_drop]; omega)] at e
    have e : x = v := e
    subst e
    have w1 : IntKind.wrap .i64 ((a : Int) + (w : Int)) = ((a + w : Nat) : Int) := by rw [wrap_i64_id (by omega) (by omega)]; omega
    rw [w1]
    refine Br.no (by simp; omega) (Ret.mk ?_)
    have w2 : IntKind.wrap .i64 n = x := by
      obtain ⟨h1, h2⟩ := hx
      rw [hn, wrap_i64]; omega
    rw [w2]; exact k
  | succ m ih =>
    intro j n x hj ⟨t, hn⟩ hx e
    refine L_ref11_number_0r _ _ _ _ _ _ _ ?_
    unfold L_ref11_number_0T
    have w1 : IntKind.wrap .i64 ((a : Int) + (w : Int)) = ((a + w : Nat) : Int) := by rw [wrap_i64_id (by omega) (by omega)]; omega
    have w3 : IntKind.wrap .i64 (((a + j : Nat) : Int) + 1) = ((a + (j + 1) : Nat) : Int) := by rw [wrap_i64_id (by omega) (by omega)]; omega
    rw [w1, w3, Int.toNat_natCast]
    obtain ⟨ch, h1, h2⟩ := str_get s (show a + j < s.size by omega)
    have h3 : (((bytesI s).drop a).take w)[j]? = some ((ch.toNat : Int)) := by rw [List.getElem?_take_of_lt (by omega), List.getElem?_drop]; exact h2
    obtain ⟨h4, h5⟩ := List.getElem?_eq_some_iff.1 h3
    rw [List.drop_eq_getElem_cons h4, decL, h5] at e
    refine Br.yes (decide_eq_true (by omega)) ⟨by omega, ch, h1, ih (j + 1) _ (IntKind.wrap .i64 (x * 256 + (ch.toNat : Int))) (by omega) ?_ ?_ e⟩
    · have hc := ch.toNat_lt
      rw [wrap_i64, hn]
      refine ⟨((IntKind.wrap .u64 (IntKind.wrap .u64 ((x + t * 18446744073709551616) * 256) + IntKind.wrap .u64 (ch.toNat : Int))) - ((x * 256 + (ch.toNat : Int) + 9223372036854775808) % 18446744073709551616 - 9223372036854775808)) / 18446744073709551616, ?_⟩
      have u : ∀ z : Int, IntKind.wrap .u64 z = z % 18446744073709551616 := fun z => rfl
      rw [u, u, u]
      omega
    · rw [wrap_i64]; unfold I64; omega
theorem S_Rnum {s : ByteArray} {a w : Nat} (hw : a + w ≤ s.size) (hs : s.size ≤ 1000000000) (k : K (.int .i64 (decL 0 (((bytesI s).drop a).take w))) h) : CallA Try.prog fn_ref11_number [string s, .int .i64 (a : Int), .int .i64 (w : Int)] h K := by
  refine F_ref11_number _ _ _ _ _ ?_
  unfold F_ref11_numberT
  exact num_0 hw hs rfl k w 0 0 0 (by omega) ⟨0, rfl⟩ (by unfold I64; omega) (by rw [List.drop_zero])
theorem by_two {x : En} (h : 0 ≤ x.ask ∧ x.ask ≤ 3) : (byA x = true ∧ byB x = true ↔ x.ask = 3) ∧ (byA x = false ∧ byB x = false ↔ x.ask = 0) := by
  obtain ⟨d, st, ask, ord⟩ := x
  dsimp only at h
  have : ask = 0 ∨ ask = 1 ∨ ask = 2 ∨ ask = 3 := by omega
  rcases this with rfl | rfl | rfl | rfl <;> simp [byA, byB]
theorem S_Rcould {x : En} (hx : 0 ≤ x.ask ∧ x.ask ≤ 3) (ho : 0 ≤ x.ord) (k : ∀ h', h.le h' → K (.bool (decide (couldE x))) h') : CallA Try.prog fn_ref11_could [rA x] h K := by
  refine F_ref11_could _ _ _ _ _ _ _ _ _ _ _ _ _ ?_
  unfold F_ref11_couldT
  refine newB_at fun r h3 hr l1 A => ?_
  obtain ⟨b3, b0⟩ := by_two hx
  have kk : ∀ b : Bool, (b = true ↔ couldE x) → Ret h3 K (.bool b) := fun b e => by
    have := k h3 l1
    rw [show decide (couldE x) = b by cases b with
      | true => exact decide_eq_true (e.1 rfl)
      | false => exact decide_eq_false fun c => by cases e.2 c] at this
    exact Ret.mk this
  have two : x.st = 2 ∨ x.st = 3 → ∃ (b : Bool), h3.cell r 8 = some (.bool b) ∧ Br b (∃ (b : Bool), h3.cell r 9 = some (.bool b) ∧ Br (!b) (∃ (n : Int), h3.cell r 10 = some (.int .i64 n) ∧ Ret h3 K (.bool (decide (n > 0)))) (Ret h3 K (.bool false))) (∃ (n : Int), h3.cell r 10 = some (.int .i64 n) ∧ Ret h3 K (.bool (decide (n > 0)))) := fun g => by
    refine ⟨_, A.cell rfl, Br.intro (fun ga => ⟨_, A.cell rfl, Br.intro (fun gb => ⟨_, A.cell rfl, kk _ ?_⟩) fun gb => kk _ ?_⟩) fun ga => ⟨_, A.cell rfl, kk _ ?_⟩⟩
    · have n3 : x.ask ≠ 3 := fun e => by rw [(b3.2 e).2] at gb; cases gb
      rw [decide_eq_true_eq]; unfold couldE; omega
    · have n3 : x.ask = 3 := b3.1 ⟨ga, by simpa using gb⟩
      unfold couldE; simp; omega
    · have n3 : x.ask ≠ 3 := fun e => by rw [(b3.2 e).1] at ga; cases ga
      rw [decide_eq_true_eq]; unfold couldE; omega
  refine ⟨_, A.cell rfl, Br.intro (fun g => ?_) fun g1 => ⟨_, A.cell rfl, Br.intro (fun g => two (.inl (by simpa using g))) fun g2 => ⟨_, A.cell rfl, Br.intro (fun g => two (.inr (by simpa using g))) fun g3 => ⟨_, A.cell rfl, Br.intro (fun g => ?_) fun g4 => kk _ ?_⟩⟩⟩⟩
  · have g : x.st = 1 := by simpa using g
    refine ⟨_, A.cell rfl, Br.intro (fun ga => ⟨_, A.cell rfl, Br.intro (fun gb => ⟨_, A.cell rfl, kk _ ?_⟩) fun gb => kk _ ?_⟩) fun ga => kk _ ?_⟩
    · have n0 : x.ask = 0 := b0.1 ⟨by simpa using ga, by simpa using gb⟩
      rw [beq_iff_eq]; unfold couldE; omega
    · have n0 : x.ask ≠ 0 := fun e => by rw [(b0.2 e).2] at gb; cases gb
      unfold couldE; simp; omega
    · have n0 : x.ask ≠ 0 := fun e => by rw [(b0.2 e).1] at ga; cases ga
      unfold couldE; simp; omega
  · have g : x.st = 4 := by simpa using g
    refine ⟨_, A.cell rfl, Br.dec (fun go => kk _ ?_) fun go => ⟨_, A.cell rfl, Br.intro (fun ga => ⟨_, A.cell rfl, kk _ ?_⟩) fun ga => kk _ ?_⟩⟩
    · unfold couldE; simp; omega
    · have e : (!byB x) = true ↔ x.ask = 0 := by
        constructor
        · intro h; exact b0.1 ⟨by simpa using ga, by simpa using h⟩
        · intro h; rw [(b0.2 h).2]; rfl
      rw [e]; unfold couldE; omega
    · have n0 : x.ask ≠ 0 := fun e => by rw [(b0.2 e).1] at ga; cases ga
      unfold couldE; simp; omega
  · have g1 : x.st ≠ 1 := by simpa using g1
    have g2 : x.st ≠ 2 := by simpa using g2
    have g3 : x.st ≠ 3 := by simpa using g3
    have g4 : x.st ≠ 4 := by simpa using g4
    unfold couldE; simp; omega
end
def rW (x : En) : List Value := [.int .i64 0, .int .i64 0, .int .i64 0, .int .i64 0, .int .i64 0, .int .i64 0, .int .i64 0, .int .i64 x.st, .bool (byA x), .bool (byB x), .int .i64 x.ord]
/-- numbers, so many, that hold all from 1 on, are these -/
theorem perm_of_all : ∀ (n : Nat) (l : List Int), l.length = n → (∀ i, i < n → ((i : Int) + 1) ∈ l) → l.Perm (oneTo n)
  | 0, l, hl, _ => by
    have : l = [] := List.length_eq_zero_iff.1 hl
    subst this; exact .refl _
  | n + 1, l, hl, h => by
    have hm := h n (by omega)
    have hp := List.perm_cons_erase hm
    have hl2 : (l.erase ((n : Int) + 1)).length = n := by
      have := hp.length_eq
      rw [List.length_cons] at this; omega
    have ih := perm_of_all n (l.erase ((n : Int) + 1)) hl2 fun i hi => by
      rw [List.mem_erase_of_ne (by omega)]
      exact h i (by omega)
    rw [oneTo_succ]
    exact hp.trans ((ih.cons _).trans (List.perm_append_singleton _ _).symm)
section
variable {K : Value → Heap → Prop} {q : Nat} {text : ByteArray} {mem cur : Int} (kF : ¬ ReadOK mem cur (bytesI text) → ∀ h', K (tuple #[pointer none, .int .i64 2]) h')
  (kS : ReadOK mem cur (bytesI text) → ∀ h', RB h' q (readBk mem cur (bytesI text)) → K (tuple #[pointer (some ⟨q, 0, none⟩), .int .i64 0]) h')
include kF kS
theorem rrd_1 {h : Heap} {lp : Option Addr} {c : Nat} (B : RBk h q (readBk mem cur (bytesI text)) lp c) (hN : cntD (bytesI text) ≤ 200)
    (ok : (ordsL (recsD (bytesI text))).Perm (oneTo (ordsL (recsD (bytesI text))).length) → ReadOK mem cur (bytesI text)) :
    ∀ (m N : Nat), m + N = (ordsL (recsD (bytesI text))).length → (∀ i, i < N → ((i : Int) + 1) ∈ ordsL (recsD (bytesI text))) → L_ref11_Read_1 (some ⟨q, 0, none⟩) ((N : Int) + 1) h K := by
  have hl : (recsD (bytesI text)).length = cntD (bytesI text) := recs_length _ _
  have ho := ordsL_len (recsD (bytesI text))
  have in2 : ∀ (N : Nat) (m j : Nat) (b : Bool), m + j = (recsD (bytesI text)).length → (b = true ↔ ∃ x ∈ (recsD (bytesI text)).take j, x.ord = (N : Int) + 1) →
      ((∃ x ∈ recsD (bytesI text), x.ord = (N : Int) + 1) → L_ref11_Read_1 (some ⟨q, 0, none⟩) (IntKind.wrap .i64 ((N : Int) + 1 + 1)) h K) → ((¬ ∃ x ∈ recsD (bytesI text), x.ord = (N : Int) + 1) → K (tuple #[pointer none, .int .i64 2]) h) →
      L_ref11_Read_2 (some ⟨q, 0, none⟩) ((N : Int) + 1) b (j : Int) h K := by
    intro N m
    induction m with
    | zero =>
      intro j b hj hb k1 k2
      refine L_ref11_Read_2r _ _ _ _ _ _ ?_
      unfold L_ref11_Read_2T
      rw [List.take_of_length_le (by omega)] at hb
      refine withAddr_intro rfl ⟨_, _, _, B.ap.cell rfl, Br.no (by show decide ((j : Int) < ((recsD (bytesI text)).length : Int)) = false; exact decide_eq_false (by omega)) ?_⟩
      cases b with
      | true => exact Br.no rfl (k1 (hb.1 rfl))
      | false => exact Br.yes rfl (Ret.mk (k2 fun x => by cases hb.2 x))
    | succ m ih =>
      intro j b hj hb k1 k2
      refine L_ref11_Read_2r _ _ _ _ _ _ ?_
      unfold L_ref11_Read_2T
      have hjl : j < (recsD (bytesI text)).length := by omega
      have et : (recsD (bytesI text)).take (j + 1) = (recsD (bytesI text)).take j ++ [(recsD (bytesI text))[j]] := List.take_succ_eq_append_getElem hjl
      refine withAddr_intro rfl ⟨_, _, _, B.ap.cell rfl, Br.yes (by show decide ((j : Int) < ((recsD (bytesI text)).length : Int)) = true; exact decide_eq_true (by omega)) ?_⟩
      rw [w1d (by omega)]
      cases b with
      | true =>
        refine Br.yes rfl (ih (j + 1) true (by omega) ⟨fun _ => ?_, fun _ => rfl⟩ k1 k2)
        obtain ⟨x, hx, e⟩ := hb.1 rfl
        exact ⟨x, by rw [et]; exact List.mem_append_left _ hx, e⟩
      | false =>
        refine Br.no rfl (withAddr_intro rfl ⟨_, _, _, B.ap.cell rfl, ax rV_len B.arr rfl rfl (show (readBk mem cur (bytesI text)).L[j]? = some (recsD (bytesI text))[j] from List.getElem?_eq_getElem hjl) (by decide) fun b o hb' hc => ⟨_, hc 10 (by decide), ih (j + 1) _ (by omega) ?_ k1 k2⟩⟩)
        rw [et, beq_iff_eq]
        constructor
        · intro e; exact ⟨_, List.mem_append_right _ (List.mem_singleton_self _), e⟩
        · rintro ⟨x, hx, e⟩
          rcases List.mem_append.1 hx with hx | hx
          · exact absurd (hb.2 ⟨x, hx, e⟩) (by decide)
          · rw [List.mem_singleton] at hx; rw [← hx]; exact e
  intro m
  induction m with
  | zero =>
    intro N hN2 e
    refine L_ref11_Read_1r _ _ _ _ ?_
    unfold L_ref11_Read_1T
    have hr := ok (by rw [← hN2, Nat.zero_add]; exact perm_of_all N _ (by omega) e)
    refine withAddr_intro rfl ⟨_, B.ap.cell rfl, Br.no (by show decide ((N : Int) + 1 ≤ ((ordsL (recsD (bytesI text))).length : Int)) = false; exact decide_eq_false (by omega)) (Ret.mk (kS hr h ⟨(read_ok (bytesI_r text) hr).1, lp, c, B⟩))⟩
  | succ m ih =>
    intro N hN2 e
    refine L_ref11_Read_1r _ _ _ _ ?_
    unfold L_ref11_Read_1T
    refine withAddr_intro rfl ⟨_, B.ap.cell rfl, Br.yes (by show decide ((N : Int) + 1 ≤ ((ordsL (recsD (bytesI text))).length : Int)) = true; exact decide_eq_true (by omega)) ?_⟩
    refine in2 N (recsD (bytesI text)).length 0 false rfl ⟨fun x => by (cases x), fun ⟨x, hx, _⟩ => by (rw [List.take_zero] at hx; cases hx)⟩ (fun ⟨x, hx, ex⟩ => ?_) fun no => kF (fun hr => no ?_) h
    · rw [show IntKind.wrap .i64 ((N : Int) + 1 + 1) = ((N + 1 : Nat) : Int) + 1 by rw [wrap_i64_id (by omega) (by omega)]; omega]
      refine ih (N + 1) (by omega) fun i hi => ?_
      by_cases g : i < N
      · exact e i g
      · have : i = N := by omega
        subst this
        exact mem_ordsL.2 ⟨x, hx, ex, by omega⟩
    · have := hr.ords.mem_iff.2 (mem_oneTo.2 ⟨(by omega : (1 : Int) ≤ (N : Int) + 1), by omega⟩)
      obtain ⟨x, hx, ex, _⟩ := mem_ordsL.1 this
      exact ⟨x, hx, ex⟩
theorem rrd_0 {N : Nat} (hm : 1 ≤ mem ∧ mem ≤ 16) (hc1 : 1 ≤ cur ∧ cur ≤ 8) (hN : cntD (bytesI text) = N) (hN2 : N ≤ 200) (hs : text.size = 2 + 28 * N) :
    ∀ (m j : Nat) (h : Heap) (lp : Option Addr) (c : Nat), m + j = N → RBk h q ⟨mem, cur, recs j ((bytesI text).drop 2), (ordsL (recs j ((bytesI text).drop 2))).length⟩ lp c →
      (∀ x ∈ recs j ((bytesI text).drop 2), mayD mem cur x.d ∧ couldE x) → ndL (recs j ((bytesI text).drop 2)) →
    L_ref11_Read_0 text (some ⟨q, 0, none⟩) ((2 + 28 * j : Nat) : Int) h K := by
  have hlb : (bytesI text).length = 2 + 28 * N := by rw [bytesI_length, hs]
  intro m
  induction m with
  | zero =>
    intro j h lp c hj B hmay hnd
    refine L_ref11_Read_0r _ _ _ _ _ ?_
    unfold L_ref11_Read_0T
    have hj : j = N := by omega
    subst hj
    have hrd : recs j ((bytesI text).drop 2) = recsD (bytesI text) := by unfold recsD; rw [hN]
    rw [hrd] at B hmay hnd
    exact Br.no (by rw [hs]; simp) (rrd_1 kF kS B (by omega) (fun hp => { m1 := hm, c1 := hc1, l2 := by omega, n := by omega, len := by rw [hN, hlb], may := hmay, nd := hnd, ords := hp }) _ 0 rfl (fun i hi => by omega))
  | succ m ih =>
    intro j h lp c hj B hmay hnd
    refine L_ref11_Read_0r _ _ _ _ _ ?_
    unfold L_ref11_Read_0T
    have hjN : j < N := by omega
    have ex : recE (((bytesI text).drop (2 + 28 * j)).take 28) = recE ((((bytesI text).drop 2).drop (28 * j)).take 28) := by rw [List.drop_drop]
    have sn := recs_snoc j ((bytesI text).drop 2)
    rw [← ex] at sn
    have hget : (recsD (bytesI text))[j]? = some (recE (((bytesI text).drop (2 + 28 * j)).take 28)) := by
      unfold recsD
      rw [hN, recs_get _ _ _ hjN, ← ex]
    have hmem := List.mem_of_getElem? hget
    -- the numbers, as they are read
    have num : ∀ o w : Nat, o + w ≤ 28 → decL 0 (((bytesI text).drop (2 + 28 * j + o)).take w) = decL 0 (((((bytesI text).drop (2 + 28 * j)).take 28).drop o).take w) := fun o w how => by
      rw [List.drop_take, List.drop_drop, List.take_take]
      congr 2; omega
    have chr : ∀ o : Nat, o < 28 → ∃ ch : UInt8, text[2 + 28 * j + o]? = some ch ∧ (ch.toNat : Int) = decL 0 (((((bytesI text).drop (2 + 28 * j)).take 28).drop o).take 1) := fun o ho => by
      obtain ⟨ch, h1, h2⟩ := str_get text (show 2 + 28 * j + o < text.size by omega)
      refine ⟨ch, h1, ?_⟩
      rw [← num o 1 (by omega)]
      obtain ⟨h4, h5⟩ := List.getElem?_eq_some_iff.1 h2
      rw [List.drop_eq_getElem_cons h4, h5]
      have hc := ch.toNat_lt
      show (ch.toNat : Int) = IntKind.wrap .i64 (0 * 256 + (ch.toNat : Int))
      rw [wrap_i64_id (by omega) (by omega)]; omega
    have hlen : (((bytesI text).drop (2 + 28 * j)).take 28).length = 28 := by rw [List.length_take, List.length_drop]; omega
    have hbt := bytes_take (bytes_drop (bytesI_r text) (2 + 28 * j)) 28
    have hask := (dec1 (l := ((((bytesI text).drop (2 + 28 * j)).take 28).drop 25).take 1) (tdl (by omega)) (bytes_take (bytes_drop hbt _) _)).2
    have hord := (dec2 (l := ((((bytesI text).drop (2 + 28 * j)).take 28).drop 26).take 2) (tdl (by omega)) (bytes_take (bytes_drop hbt _) _)).2
    have wa : ∀ o : Nat, o ≤ 28 → IntKind.wrap .i64 (((2 + 28 * j : Nat) : Int) + (o : Int)) = ((2 + 28 * j + o : Nat) : Int) := fun o ho => by rw [wrap_i64_id (by omega) (by omega)]; omega
    have wa25 := wa 25 (by omega)
    have wa24 := wa 24 (by omega)
    have wa26 := wa 26 (by omega)
    have wa4 := wa 4 (by omega)
    have wa5 := wa 5 (by omega)
    have wa6 := wa 6 (by omega)
    have wa7 := wa 7 (by omega)
    have wa8 := wa 8 (by omega)
    have wa16 := wa 16 (by omega)
    have wa28 := wa 28 (by omega)
    have cast : ∀ o : Nat, ((o : Nat) : Int) = (OfNat.ofNat o : Int) := fun o => rfl
    refine Br.yes (by rw [hs]; exact decide_eq_true (by omega)) ?_
    rw [show IntKind.wrap .i64 (((2 + 28 * j : Nat) : Int) + 25) = ((2 + 28 * j + 25 : Nat) : Int) from wa25, show IntKind.wrap .i64 (((2 + 28 * j : Nat) : Int) + 24) = ((2 + 28 * j + 24 : Nat) : Int) from wa24, show IntKind.wrap .i64 (((2 + 28 * j : Nat) : Int) + 26) = ((2 + 28 * j + 26 : Nat) : Int) from wa26, show IntKind.wrap .i64 (((2 + 28 * j : Nat) : Int) + 4) = ((2 + 28 * j + 4 : Nat) : Int) from wa4, show IntKind.wrap .i64 (((2 + 28 * j : Nat) : Int) + 5) = ((2 + 28 * j + 5 : Nat) : Int) from wa5, show IntKind.wrap .i64 (((2 + 28 * j : Nat) : Int) + 6) = ((2 + 28 * j + 6 : Nat) : Int) from wa6, show IntKind.wrap .i64 (((2 + 28 * j : Nat) : Int) + 7) = ((2 + 28 * j + 7 : Nat) : Int) from wa7, show IntKind.wrap .i64 (((2 + 28 * j : Nat) : Int) + 8) = ((2 + 28 * j + 8 : Nat) : Int) from wa8, show IntKind.wrap .i64 (((2 + 28 * j : Nat) : Int) + 16) = ((2 + 28 * j + 16 : Nat) : Int) from wa16, show IntKind.wrap .i64 (((2 + 28 * j : Nat) : Int) + 28) = ((2 + 28 * (j + 1) : Nat) : Int) from by rw [wrap_i64_id (by omega) (by omega)]; omega]
    refine S_Rnum (w := 1) (by omega) (by omega) ⟨_, rfl, S_Rnum (w := 1) (by omega) (by omega) ⟨_, rfl, S_Rnum (w := 2) (by omega) (by omega) ⟨_, rfl, ?_⟩⟩⟩
    rw [num 25 1 (by omega), num 24 1 (by omega), num 26 2 (by omega)]
    obtain ⟨c4, t4, e4⟩ := chr 4 (by omega)
    obtain ⟨c5, t5, e5⟩ := chr 5 (by omega)
    obtain ⟨c6, t6, e6⟩ := chr 6 (by omega)
    obtain ⟨c7, t7, e7⟩ := chr 7 (by omega)
    intro r hr
    have A0 := At.new h r [.int .i64 0, .int .i64 0, .int .i64 0, .int .i64 0, .int .i64 0, .int .i64 0, .int .i64 0, .int .i64 0, .bool false, .bool false, .int .i64 0] 73
    have l1 := le_ins hr (o := .cells [Value.int .i64 0, .int .i64 0, .int .i64 0, .int .i64 0, .int .i64 0, .int .i64 0, .int .i64 0, .int .i64 0, .bool false, .bool false, .int .i64 0].toArray 73 (0, 0))
    have B1 := B.le l1
    have nr : q ≠ r := B.ap.ne hr
    have mr : lp ≠ some ⟨r, 0, none⟩ := B.ol.fresh hr
    generalize h.ins r (.cells [Value.int .i64 0, .int .i64 0, .int .i64 0, .int .i64 0, .int .i64 0, .int .i64 0, .int .i64 0, .int .i64 0, .bool false, .bool false, .int .i64 0].toArray 73 (0, 0)) = h1 at *
    refine ⟨A0.canSt (Nat.le_refl _), by omega, c4, by rw [Int.toNat_natCast]; exact t4, by omega, c5, by rw [Int.toNat_natCast]; exact t5, by omega, c6, by rw [Int.toNat_natCast]; exact t6, by omega, c7, by rw [Int.toNat_natCast]; exact t7, ?_⟩
    refine S_Rnum (w := 4) (by omega) (by omega) ⟨_, rfl, S_Rnum (w := 8) (by omega) (by omega) ⟨_, rfl, S_Rnum (w := 8) (by omega) (by omega) ⟨_, rfl, ?_⟩⟩⟩
    have n0 := num 0 4 (by omega)
    rw [Nat.add_zero, List.drop_zero] at n0
    rw [n0, num 8 8 (by omega), num 16 8 (by omega)]
    have cc : ∀ c : UInt8, IntKind.wrap .i64 (c.toNat : Int) = (c.toNat : Int) := fun c => by
      have := c.toNat_lt
      rw [wrap_i64_id (by omega) (by omega)]
    rw [cc c4, cc c5, cc c6, cc c7, e4, e5, e6, e7]
    have tm : Int.tmod (decL 0 (((((bytesI text).drop (2 + 28 * j)).take 28).drop 25).take 1)) 2 = (recE (((bytesI text).drop (2 + 28 * j)).take 28)).ask % 2 := Int.tmod_eq_emod_of_nonneg hask.1
    have td' : IntKind.wrap .i64 (Int.tdiv (decL 0 (((((bytesI text).drop (2 + 28 * j)).take 28).drop 25).take 1)) 2) = (recE (((bytesI text).drop (2 + 28 * j)).take 28)).ask / 2 := by
      rw [Int.tdiv_eq_ediv_of_nonneg hask.1, wrap_i64_id (by omega) (by omega)]; rfl
    rw [tm, td']
    have A2 : At (h1.setN r 0 (rW (recE (((bytesI text).drop (2 + 28 * j)).take 28)))) r (rW (recE (((bytesI text).drop (2 + 28 * j)).take 28))) := A0.set (o := 0) (ws := rW (recE (((bytesI text).drop (2 + 28 * j)).take 28)))
    have B2 := B1.oth (o := 0) (ws := rW (recE (((bytesI text).drop (2 + 28 * j)).take 28))) nr mr
    have A3 : At ((h1.setN r 0 (rW (recE (((bytesI text).drop (2 + 28 * j)).take 28)))).setN r 0 (dV (recE (((bytesI text).drop (2 + 28 * j)).take 28)).d)) r (rV (recE (((bytesI text).drop (2 + 28 * j)).take 28))) := A2.set (o := 0) (ws := dV (recE (((bytesI text).drop (2 + 28 * j)).take 28)).d)
    have B3 := B2.oth (o := 0) (ws := dV (recE (((bytesI text).drop (2 + 28 * j)).take 28)).d) nr mr
    have ask0 : 0 ≤ (recE (((bytesI text).drop (2 + 28 * j)).take 28)).ask := hask.1
    have ord0 : 0 ≤ (recE (((bytesI text).drop (2 + 28 * j)).take 28)).ord := hord.1
    refine ⟨A2.canSt (show 0 + 7 ≤ 11 by decide), Br.dec (fun g => Ret.mk (kF (fun hr => ?_) _)) fun g3 => ?_⟩
    · have g : (recE (((bytesI text).drop (2 + 28 * j)).take 28)).ask > 3 := g
      have := ((hr.may _ hmem).2).ask
      omega
    have g3 : ¬ (recE (((bytesI text).drop (2 + 28 * j)).take 28)).ask > 3 := g3
    refine ⟨_, A3.cell rfl, _, A3.cell rfl, _, A3.cell rfl, _, A3.cell rfl, _, A3.cell rfl, _, A3.cell rfl, _, A3.cell rfl, S_RMay (d := (recE (((bytesI text).drop (2 + 28 * j)).take 28)).d) B3 fun h5 l5 => ⟨_, rfl, ?_⟩⟩
    have A5 := A3.le l5
    have B5 := B3.le l5
    generalize recE (((bytesI text).drop (2 + 28 * j)).take 28) = x at *
    clear A0 A2 A3 B1 B2 B3 num chr wa tm td' n0
    by_cases gm : mayD mem cur x.d
    rotate_left
    · rw [decide_eq_false gm]
      exact Br.yes rfl (Ret.mk (kF (fun hr => gm (hr.may x hmem).1) _))
    rw [decide_eq_true gm]
    have hl3 : (recs j ((bytesI text).drop 2)).length ≤ 1000 := by rw [recs_length]; omega
    refine Br.no rfl ⟨_, A5.cell rfl, S_RAt B5 hl3 ⟨_, rfl, ?_⟩⟩
    cases hp : posE x.d.id (recs j ((bytesI text).drop 2)) with
    | some i =>
      obtain ⟨y, hy, _⟩ := posE_some hp
      rw [show atI x.d.id (recs j ((bytesI text).drop 2)) = (i : Int) from atI_some hp]
      refine Br.yes (decide_eq_true (by omega)) (Ret.mk (kF (fun hro => ?_) _))
      have h1 := hro.nd j x hget
      have h2 : recsD (bytesI text) = recs j ((bytesI text).drop 2) ++ (recsD (bytesI text)).drop j := by
        unfold recsD
        rw [hN]; exact recs_pre (by omega)
      rw [h2, posE_app, hp] at h1
      have h3 := (List.getElem?_eq_some_iff.1 hy).1
      rw [recs_length] at h3
      have h1 : i = j := by simpa using h1
      omega
    | none =>
      rw [show atI x.d.id (recs j ((bytesI text).drop 2)) = -1 from atI_none hp]
      refine Br.no (by decide) ⟨_, A5.cell rfl, _, A5.cell rfl, _, A5.cell rfl, _, A5.cell rfl, _, A5.cell rfl, _, A5.cell rfl, _, A5.cell rfl, _, A5.cell rfl, _, A5.cell rfl, _, A5.cell rfl, _, A5.cell rfl, S_Rcould (x := x) ⟨ask0, by omega⟩ ord0 fun h6 l6 => ⟨_, rfl, ?_⟩⟩
      have A6 := A5.le l6
      have B6 := B5.le l6
      by_cases gc : couldE x
      rotate_left
      · rw [decide_eq_false gc]
        exact Br.yes rfl (Ret.mk (kF (fun hr => gc (hr.may x hmem).2) _))
      rw [decide_eq_true gc]
      have hmay' : ∀ y ∈ recs (j + 1) ((bytesI text).drop 2), mayD mem cur y.d ∧ couldE y := fun y hy => by
        rw [sn] at hy
        rcases List.mem_append.1 hy with hy | hy
        · exact hmay y hy
        · rw [List.mem_singleton] at hy; subst hy; exact ⟨gm, gc⟩
      have hnd' : ndL (recs (j + 1) ((bytesI text).drop 2)) := fun i y hy => by
        rw [sn] at hy ⊢
        rw [posE_snoc _ x hp]
        by_cases g : i < (recs j ((bytesI text).drop 2)).length
        · rw [List.getElem?_append_left g] at hy
          have hm := List.mem_of_getElem? hy
          rw [if_neg (fun e => posE_none hp y hm e), hnd i y hy]
        · have hl := (List.getElem?_eq_some_iff.1 hy).1
          rw [List.length_append, List.length_singleton] at hl
          have : i = (recs j ((bytesI text).drop 2)).length := by omega
          subst this
          rw [List.getElem?_append_right (Nat.le_refl _), Nat.sub_self] at hy
          have hy : x = y := by simpa using hy
          subst hy
          rw [if_pos rfl]
      refine Br.no rfl (withAddr_intro rfl ⟨_, _, _, B6.ap.cell rfl, _, A6.cell rfl, _, A6.cell rfl, _, A6.cell rfl, _, A6.cell rfl, _, A6.cell rfl, _, A6.cell rfl, _, A6.cell rfl, _, A6.cell rfl, _, A6.cell rfl, _, A6.cell rfl, _, A6.cell rfl, ?_⟩)
      have ho := ordsL_len (recs j ((bytesI text).drop 2))
      refine push1 B6.ol (by decide) (nulH_le _) (by dsimp only; omega) rfl rfl (by rw [arr_len rV_len]; rfl) fun r7 h7 p' c' h8 hr7 l7 _ ow8 keep how => ?_
      have ap8 := keepAt keep (B6.ap.le l7) B6.np
      have np8 := push_ne how (B6.ap.le l7) B6.np
      have A8 := keepAt keep (A6.le l7) mr
      have A9 := A8.set_ne (o := 2) (ws := [.slice p' ((recs j ((bytesI text).drop 2)).length + 1) c']) (Ne.symm nr)
      have B9 : RBk (h8.setN q 2 [.slice p' ((recs j ((bytesI text).drop 2)).length + 1) c']) q ⟨mem, cur, recs (j + 1) ((bytesI text).drop 2), (ordsL (recs j ((bytesI text).drop 2))).length⟩ p' c' := by
        refine ⟨?_, ?_, np8⟩
        · have := ap8.set (o := 2) (ws := [.slice p' ((recs j ((bytesI text).drop 2)).length + 1) c'])
          have e : (recs (j + 1) ((bytesI text).drop 2)).length = (recs j ((bytesI text).drop 2)).length + 1 := by rw [recs_length, recs_length]
          dsimp only
          rw [e]
          exact this
        · dsimp only
          rw [sn, List.flatMap_append, List.flatMap_cons, List.flatMap_nil, List.append_nil]
          exact ow8.set_ne np8
      refine withAddr_intro rfl ⟨ap8.canSt (by simp), _, A9.cell rfl, Br.dec (fun g => ?_) fun g => ?_⟩
      · have eo : ordsL (recs (j + 1) ((bytesI text).drop 2)) = ordsL (recs j ((bytesI text).drop 2)) ++ [x.ord] := by
          rw [sn, ordsL_app]
          congr 1
          unfold ordsL
          rw [List.map_cons]
          exact List.filter_cons_of_pos (decide_eq_true (show (0 : Int) < x.ord from g))
        refine withAddr_intro rfl ⟨_, B9.ap.cell rfl, withAddr_intro rfl ⟨B9.ap.canSt (by simp), ?_⟩⟩
        have B10 := B9.wrM ((ordsL (recs (j + 1) ((bytesI text).drop 2))).length)
        have w : IntKind.wrap .i64 (((ordsL (recs j ((bytesI text).drop 2))).length : Int) + 1) = (((ordsL (recs (j + 1) ((bytesI text).drop 2))).length : Nat) : Int) := by
          rw [eo, List.length_append, List.length_singleton]
          exact w1d (by omega)
        rw [w]
        exact ih (j + 1) _ p' c' (by omega) B10 hmay' hnd'
      · have eo : ordsL (recs (j + 1) ((bytesI text).drop 2)) = ordsL (recs j ((bytesI text).drop 2)) := by
          rw [sn, ordsL_app]
          have : ordsL [x] = [] := by
            unfold ordsL
            rw [List.map_cons]
            exact List.filter_cons_of_neg (by simp; omega)
          rw [this, List.append_nil]
        rw [← eo] at B9
        exact ih (j + 1) _ p' c' (by omega) B9 hmay' hnd'
end
theorem S_RRead {h : Heap} {K : Value → Heap → Prop} {text : ByteArray} {mem cur : Int} (hz : text.size ≤ 1000000000) (kF : ¬ ReadOK mem cur (bytesI text) → ∀ h', K (tuple #[pointer none, .int .i64 2]) h')
    (kS : ReadOK mem cur (bytesI text) → ∀ q h', RB h' q (readBk mem cur (bytesI text)) → K (tuple #[pointer (some ⟨q, 0, none⟩), .int .i64 0]) h') :
    CallA Try.prog fn_ref11_Read [string text, .int .i64 mem, .int .i64 cur] h K := by
  refine F_ref11_Read _ _ _ _ _ ?_
  unfold F_ref11_ReadT
  have hlb := bytesI_length text
  refine S_RNew (fun g => ⟨_, _, rfl, Br.yes rfl (Ret.mk (kF (fun r => g ⟨r.m1, r.c1⟩) _))⟩) fun g p h1 l1 P1 => ⟨_, _, rfl, Br.no rfl (Br.dec (fun g2 => Ret.mk (kF (fun r => by have := r.l2; omega) _)) fun g2 => ?_)⟩
  have d2 := (dec2 (l := (bytesI text).take 2) (by rw [List.length_take]; omega) (bytes_take (bytesI_r text) _)).2
  have ec : ((cntD (bytesI text) : Nat) : Int) = decL 0 ((bytesI text).take 2) := by unfold cntD; omega
  refine S_Rnum (a := 0) (w := 2) (by omega) (by omega) ⟨_, rfl, ?_⟩
  rw [List.drop_zero, ← ec]
  refine Br.dec (fun g3 => Ret.mk (kF (fun r => by have := r.n; omega) _)) fun g3 => ?_
  refine S_Rnum (a := 0) (w := 2) (by omega) (by omega) ⟨_, rfl, ?_⟩
  rw [List.drop_zero, ← ec]
  have w : IntKind.wrap .i64 (2 + IntKind.wrap .i64 (28 * ((cntD (bytesI text) : Nat) : Int))) = ((2 + 28 * cntD (bytesI text) : Nat) : Int) := by
    rw [wrap_i64_id (n := 28 * ((cntD (bytesI text) : Nat) : Int)) (by omega) (by omega), wrap_i64_id (by omega) (by omega)]; omega
  rw [w]
  refine Br.intro (fun g4 => Ret.mk (kF (fun r => ?_) _)) fun g4 => ?_
  · have := r.len
    rw [hlb] at this
    rw [this] at g4
    simp at g4
  have g4 : text.size = 2 + 28 * cntD (bytesI text) := by
    have : ((text.size : Nat) : Int) = ((2 + 28 * cntD (bytesI text) : Nat) : Int) := by simpa using g4
    omega
  obtain ⟨_, lp, c, B⟩ := P1
  exact rrd_0 (q := p) kF (fun r h' P => kS r p h' P) g.1 g.2 rfl (by omega) g4 (cntD (bytesI text)) 0 h1 lp c (by omega) B (fun _ x => by cases x) (fun i x e => by cases e)
end Go.Proofs.Ytjihfieahkbohaa
