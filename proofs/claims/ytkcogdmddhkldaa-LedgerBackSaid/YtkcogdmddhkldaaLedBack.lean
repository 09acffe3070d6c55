/- The law LedgerBack. -/
import Derived.Test.YtkcogdmddhkldaaLedLaw
namespace Go.Proofs.Ytkcogdmddhkldaa
open Go Go.Sy Go.Value
set_option linter.unusedVariables false
set_option linter.unusedSimpArgs false

def sameText (l : Option Addr) (was : ByteArray) (h : Heap) (K : Value → Heap → Prop) : Prop :=
  CallA Try.prog fn_pledger_Ledger_Text [pointer l] h fun (v : Value) (h : Heap) => ∃ (s_1 : ByteArray), v = string s_1 ∧ Ret h K (Value.bool (ByteArray.toList s_1 == ByteArray.toList was))
/-- a pay-in, and a pay-out of as much -/
def backTail (x : Nat) (l : Option Addr) (was : ByteArray) (h : Heap) (K : Value → Heap → Prop) : Prop :=
  ∃ (n : Int), Heap.cell h x 1 = some (int IntKind.i64 n) ∧ ∃ (n_1 : Int), Heap.cell h x 2 = some (int IntKind.i64 n_1) ∧
    CallA Try.prog fn_pledger_Ledger_Get [pointer l, int IntKind.i64 n, int IntKind.i64 n_1] h fun (v : Value) (h : Heap) => ∃ (n : Int), v = int IntKind.i64 n ∧
      Br (decide (n < 0)) (sameText l was h K)
        (∃ (n : Int), Heap.cell h x 1 = some (int IntKind.i64 n) ∧ ∃ (n_2 : Int), Heap.cell h x 2 = some (int IntKind.i64 n_2) ∧ ∃ (n_3 : Int), Heap.cell h x 4 = some (int IntKind.i64 n_3) ∧
          CallA Try.prog fn_pledger_Ledger_In [pointer l, int IntKind.i64 n, int IntKind.i64 n_2, int IntKind.i64 n_3] h fun (v : Value) (h : Heap) => ∃ (n : Int), v = int IntKind.i64 n ∧
            Br (n != 0) (sameText l was h K)
              (∃ (n : Int), Heap.cell h x 1 = some (int IntKind.i64 n) ∧ ∃ (n_4 : Int), Heap.cell h x 2 = some (int IntKind.i64 n_4) ∧ ∃ (n_5 : Int), Heap.cell h x 4 = some (int IntKind.i64 n_5) ∧
                CallA Try.prog fn_pledger_Ledger_Out [pointer l, int IntKind.i64 n, int IntKind.i64 n_4, int IntKind.i64 n_5] h fun (v : Value) (h : Heap) => ∃ (n : Int), v = int IntKind.i64 n ∧
                  Br (n == 0) (sameText l was h K) (Ret h K (Value.bool false))))
theorem poV_at {h : Heap} {p : Option Addr} {l : List Pst} {N : Nat} (C : Pos h p l) (hn : l.length = N) {j : Nat} {i : Int} (hi : i = (j : Int)) {x : Pst} (hx : l[j]? = some x) : 0 ≤ i ∧ i < (N : Int) ∧
    ∃ b o, p = some ⟨b, o, none⟩ ∧ h.cell b (o + i.toNat * 3) = some (.int .i64 x.m) ∧ h.cell b (o + i.toNat * 3 + 1) = some (.int .i64 x.c) ∧ h.cell b (o + i.toNat * 3 + 2) = some (.int .i64 x.a) := by
  obtain ⟨h1, h2, h3⟩ := px C hn hi hx (Q := fun a b c => a = x.m ∧ b = x.c ∧ c = x.a) ⟨rfl, rfl, rfl⟩
  obtain ⟨b, o, e, _, g0, _, g1, _, g2, rfl, rfl, rfl⟩ := withAddr_elim h3
  exact ⟨h1, h2, b, o, e, g0, g1, g2⟩
section
variable {h0 : Heap} {K : Value → Heap → Prop} (kg : ∀ h', h0.le h' → Ret h' K (.bool true)) {p r : Nat} {x : OpR} (np : h0 p = none) (Ax : At h0 r [.int .i64 x.d, .int .i64 x.m, .int .i64 x.c, .int .i64 x.g, .int .i64 x.a, .int .i64 x.gv, slice x.p x.b.length x.cp]) (hI : OpI x)
include kg
theorem same_text {B C : Nat} {sp : List Value} {S : Lg} {h : Heap} (l0 : h0.le h) (A : LedAt h p B C sp S) : sameText (some ⟨p, 0, none⟩) (strOf (textG S)) h K := by
  refine S_lText A fun h' l' => ⟨_, rfl, ?_⟩
  rw [beq_refl_bytes]
  exact kg h' (Heap.le_trans l0 l')
include np Ax hI
theorem back_tail {B C : Nat} {sp : List Value} {S : Lg} {h : Heap} (l0 : h0.le h) (nB : h0 B = none) (A : LedAt h p B C sp S) (o : S.Ok) : backTail r (some ⟨p, 0, none⟩) (strOf (textG S)) h K := by
  have Ax0 := Ax.le l0
  refine ⟨_, Ax0.cell rfl, _, Ax0.cell rfl, S_lGet A ⟨_, rfl, Br.dec (fun _ => same_text kg l0 A) fun hg => ⟨_, Ax0.cell rfl, _, Ax0.cell rfl, _, Ax0.cell rfl, ?_⟩⟩⟩
  refine S_lIn l0 np nB A hI.a fun h1 l1 A1 => ⟨_, rfl, Br.intro (fun e => ?_) (fun e => ?_)⟩
  · have e : (inG S x.m x.c x.a).1 ≠ 0 := by simpa using e
    rw [inG_err e] at A1
    exact same_text kg l1 A1
  · have e : (inG S x.m x.c x.a).1 = 0 := by simpa using e
    have back := in_out o e (by omega)
    have Ax1 := Ax.le l1
    refine ⟨_, Ax1.cell rfl, _, Ax1.cell rfl, _, Ax1.cell rfl, S_lOut l1 np nB A1 hI.a fun h2 l2 A2 => ⟨_, rfl, ?_⟩⟩
    rw [back] at A2 ⊢
    exact Br.yes rfl (same_text kg l2 A2)
theorem back_1 {B C : Nat} {sp : List Value} {S : Lg} {q : Option Addr} {more : List Pst} {n qc : Nat} {gb : Heap} (l0 : h0.le gb) (nB : h0 B = none) (o : S.Ok) (X : Pos h0 q more) (hn : more.length = n) (hs : n ≤ 30) (hM : ∀ y ∈ more, I64 y.m ∧ I64 y.c ∧ I64 y.a) (e0 : (postG S more).1 = 0) (A : LedAt gb p B C sp (postG S more).2) :
    ∀ (j : Nat) (h : Heap) (off : Option Addr) (oc : Nat) (ws : List Pst), j ≤ n → gb.le h → OwnL gb h [.int .i64 0, .int .i64 0, .int .i64 0] off oc (poV ws) → ws = (more.drop j).reverse.map negP → (∀ y ∈ more.drop j, y.a ≠ -9223372036854775808) →
    L_law08_LedgerBack_1 q n qc r (some ⟨p, 0, none⟩) (strOf (textG S)) off ws.length oc ((j : Int) - 1) h K := by
  intro j
  induction j with
  | zero =>
    intro h off oc ws hj l own e hne
    refine L_law08_LedgerBack_1r _ _ _ _ _ _ _ _ _ _ _ _ ?_
    unfold L_law08_LedgerBack_1T
    rw [List.drop_zero] at e hne
    have A1 := A.le l
    have l0h := Heap.le_trans l0 l
    have hg : h0.le ((h.del p).del B) := le_del (le_del l0h np) nB
    have hgh : ((h.del p).del B).le h := Heap.le_trans (del_le _ _) (del_le _ _)
    have Xo : Pos ((h.del p).del B) off ws := by
      rcases own with ⟨e1, e2, e3⟩ | ⟨t, sp', rfl, et, AT, _⟩
      · exact .inl e1
      · have ht1 : t ≠ p := fun e => A.ap.ne et e.symm
        have ht2 : t ≠ B := fun e => A.ab.ne et e.symm
        exact ((AT.del ht1).del ht2).toRd
    have hwl : ws.length = n := by rw [e]; simp [hn]
    refine Br.no (by simp) (S_lPost hgh (by unfold Heap.del; split <;> first | rfl | (rw [if_pos rfl])) (del_same _ _) A1 Xo rfl (by omega) (fun y hy => ?_) fun h2 B2 C2 sp2 l2 A2 n2 => ⟨_, rfl, ?_⟩)
    · rw [e] at hy
      obtain ⟨z, hz, rfl⟩ := List.mem_map.1 hy
      have hz := List.mem_reverse.1 hz
      obtain ⟨i1, i2, i3⟩ := hM z hz
      have := hne z hz
      refine ⟨i1, i2, ?_⟩
      unfold I64 at i3 ⊢
      show -9223372036854775808 ≤ -z.a ∧ -z.a ≤ 9223372036854775807
      omega
    · have back := post_back o e0
      rw [← e] at back
      rw [back] at A2 ⊢
      have l02 := Heap.le_trans hg l2
      refine Br.no rfl (S_lText A2 fun h3 l3 => ⟨_, rfl, Br.no (by rw [beq_refl_bytes]; rfl) ?_⟩)
      exact back_tail kg np Ax hI (Heap.le_trans l02 l3) (none_of_le hg n2) (A2.le l3) o
  | succ j ih =>
    intro h off oc ws hj l own e hne
    refine L_law08_LedgerBack_1r _ _ _ _ _ _ _ _ _ _ _ _ ?_
    unfold L_law08_LedgerBack_1T
    rw [show ((j + 1 : Nat) : Int) - 1 = (j : Int) by omega]
    have hx : more[j]? = some more[j] := List.getElem?_eq_getElem (by omega)
    have hmem : more[j] ∈ more := List.getElem_mem _
    have hd : more.drop j = more[j] :: more.drop (j + 1) := List.drop_eq_getElem_cons (by omega)
    generalize more[j] = y at *
    obtain ⟨g1, g2, b, o', eb, c0, c1, c2⟩ := poV_at (rdL_le (Heap.le_trans l0 l) X) hn (i := (j : Int)) rfl hx
    have i3 := (hM y hmem).2.2
    refine Br.yes (decide_eq_true (by omega)) ⟨g1, g2, withAddr_intro eb ⟨_, c2, Br.intro (fun _ => kg h (Heap.le_trans l0 l)) fun e4 => ⟨g1, g2, withAddr_intro eb ⟨_, c0, g1, g2, withAddr_intro eb ⟨_, c1, g1, g2, withAddr_intro eb ⟨_, c2, fun s hs => ?_⟩⟩⟩⟩⟩⟩
    have e4 : y.a ≠ -9223372036854775808 := by simpa using e4
    unfold I64 at i3
    rw [wrap_i64_id (n := 0 - y.a) (by omega) (by omega), show 0 - y.a = -y.a by omega, wrap_i64_id (n := (j : Int) - 1) (by omega) (by omega)]
    have hwl : ws.length ≤ 30 := by rw [e]; simp; omega
    refine (own.le (le_ins hs)).push (by decide) (le_ins2 l hs) (by omega) (n := 1) (ws := poV [negP y]) rfl (rdL_new _ _ _ _ _) (allCells_po _) (by rw [poV_length]; rfl) ?_
    intro p' c' h' l' w' _ _
    rw [← poV_append] at w'
    have := ih h' p' c' (ws ++ [negP y]) (by omega) l' w' (by rw [hd, List.reverse_cons, List.map_append, ← e]; rfl) (fun z hz => by
      rw [hd] at hz
      rcases List.mem_cons.1 hz with rfl | hz
      · exact e4
      · exact hne z hz)
    rw [List.length_append] at this
    exact this
theorem back_0 {q : Option Addr} {more : List Pst} {mn mc : Nat} (X : Pos h0 q more) (hmn : more.length = mn) (hms : mn ≤ 30) (hM : ∀ y ∈ more, I64 y.m ∧ I64 y.c ∧ I64 y.a) {oq : Option Addr} {l : List OpR} {n oc : Nat} (XO : Ops h0 oq l) (hn : l.length = n) (hs : n ≤ 40) (hOI : ∀ x ∈ l, OpI x) (hb : ∀ x ∈ l, x.b.length ≤ 30) :
    ∀ (m j : Nat) (h : Heap) (B C : Nat) (sp : List Value) (S : Lg), m + j = n → h0.le h → h0 B = none → LedAt h p B C sp S → S.Ok →
    L_law08_LedgerBack_0 q mn mc r (some ⟨p, 0, none⟩) oq n oc (n : Int) (j : Int) h K := by
  intro m
  induction m with
  | zero =>
    intro j h B C sp S hj l0 nB A o
    refine L_law08_LedgerBack_0r _ _ _ _ _ _ _ _ _ _ _ _ ?_
    unfold L_law08_LedgerBack_0T
    refine Br.no (by simp; omega) (S_lText A fun h1 l1 => ⟨_, rfl, ?_⟩)
    have l01 := Heap.le_trans l0 l1
    refine S_lPost l01 np nB (A.le l1) X hmn (by omega) hM fun h2 B2 C2 sp2 l2 A2 n2 => ⟨_, rfl, Br.intro (fun e => ?_) (fun e => ?_)⟩
    · have e : (postG S more).1 = 0 := by simpa using e
      rw [wrap_i64_id (by omega) (by omega)]
      exact back_1 kg np Ax hI l2 n2 o X hmn hms hM e A2 mn h2 none 0 [] (Nat.le_refl _) h2.le_refl (OwnL.nil _ _ _) (by rw [List.drop_eq_nil_of_le (by omega)]; rfl) (fun y hy => by rw [List.drop_eq_nil_of_le (by omega)] at hy; cases hy)
    · have e : (postG S more).1 ≠ 0 := by simpa using e
      rw [postG_err e] at A2
      exact back_tail kg np Ax hI l2 n2 A2 o
  | succ m ih =>
    intro j h B C sp S hj l0 nB A o
    refine L_law08_LedgerBack_0r _ _ _ _ _ _ _ _ _ _ _ _ ?_
    unfold L_law08_LedgerBack_0T
    have hx : l[j]? = some l[j] := List.getElem?_eq_getElem (by omega)
    have hmem : l[j] ∈ l := List.getElem_mem _
    generalize l[j] = x2 at *
    have w1 : IntKind.wrap .i64 ((j : Int) + 1) = ((j + 1 : Nat) : Int) := by rw [wrap_i64_id (by omega) (by omega)]; omega
    refine Br.yes (by simp; omega) (ox (XO.le l0) hn rfl hx fun s hs => ?_)
    obtain ⟨A2, lx, st⟩ := op_copy hs x2 (T := 90)
    refine ⟨st, ?_⟩
    generalize (h.ins s (.cells [.int .i64 0, .int .i64 0, .int .i64 0, .int .i64 0, .int .i64 0, .int .i64 0, slice none 0 0].toArray 90 (0, 0))).setN s 0 [.int .i64 x2.d, .int .i64 x2.m, .int .i64 x2.c, .int .i64 x2.g, .int .i64 x2.a, .int .i64 x2.gv, slice x2.p x2.b.length x2.cp] = h1 at *
    refine ⟨_, A2.cell rfl, _, A2.cell rfl, _, A2.cell rfl, _, A2.cell rfl, _, A2.cell rfl, _, A2.cell rfl, _, _, _, A2.cell rfl, ?_⟩
    refine S_do (Heap.le_trans l0 lx) np nB (A.le lx) (XO.2 x2 hmem) (hOI x2 hmem) (by have := hb x2 hmem; omega) fun h3 B3 C3 sp3 l3 A3 n3 => ⟨_, rfl, ?_⟩
    rw [w1]
    exact ih (j + 1) h3 B3 C3 sp3 _ (by omega) l3 n3 A3 (doG_ok o x2)
end
def posSh : Sh := .sl poSh
theorem law08_LedgerBack_ok {h : Heap} {m c : Int} (hm : I64 m) (hc : I64 c) {q : Option Addr} {n qc : Nat} (HO : opsSh.Has h [.slice q n qc]) {mq : Option Addr} {mn mc : Nat} (HM : posSh.Has h [.slice mq mn mc]) {cs : List Value} (HX : opSt.Has h cs) :
    CallA Try.prog fn_law08_LedgerBack [.int .i64 m, .int .i64 c, slice q n qc, slice mq mn mc, .agg cs.toArray] h fun v h' => v = .bool true ∧ h.le h' := by
  obtain ⟨hmax, l, hl, X, hI, _⟩ := ops_of HO
  obtain ⟨_, _, more, hmn, XM, hMI⟩ := pos_of HM
  obtain ⟨x, rfl, hxp, hxI, _⟩ := op_of HX
  refine F_law08_LedgerBack _ _ _ _ _ _ _ _ _ _ _ _ _ _ _ _ _ _ _ ?_
  unfold F_law08_LedgerBackT
  intro r hr
  have Ax := At.new h r [.int .i64 x.d, .int .i64 x.m, .int .i64 x.c, .int .i64 x.g, .int .i64 x.a, .int .i64 x.gv, slice x.p x.b.length x.cp] 90
  have l0 : h.le (h.ins r (.cells [.int .i64 x.d, .int .i64 x.m, .int .i64 x.c, .int .i64 x.g, .int .i64 x.a, .int .i64 x.gv, slice x.p x.b.length x.cp].toArray 90 (0, 0))) := le_ins hr
  generalize h.ins r (.cells [.int .i64 x.d, .int .i64 x.m, .int .i64 x.c, .int .i64 x.g, .int .i64 x.a, .int .i64 x.gv, slice x.p x.b.length x.cp].toArray 90 (0, 0)) = g at *
  have kg : ∀ h', g.le h' → Ret h' (fun v h' => v = .bool true ∧ h.le h') (.bool true) := fun h' l' => Ret.mk ⟨rfl, Heap.le_trans l0 l'⟩
  refine S_law08_awake fun h1 l1 => ⟨_, rfl, Br.no rfl (S_large08 (X.le (Heap.le_trans l0 l1)) hl hmax fun b hb => ⟨_, rfl, ?_⟩)⟩
  cases b with
  | true => exact Br.yes rfl (kg h1 l1)
  | false =>
    obtain ⟨h40, h30⟩ := hb rfl
    refine Br.no rfl (Br.dec (fun _ => kg h1 l1) fun hms => ?_)
    refine S_lNew (fun _ => ⟨_, _, rfl, Br.yes rfl (kg h1 l1)⟩) fun a w ea ew _ _ _ _ h2 p B C sp l2 A np nB => ⟨_, _, rfl, Br.no rfl ?_⟩
    have o := newG_ok (n := a) (c := w) (by omega) (by omega) (by omega) (by omega)
    exact back_0 kg (none_of_le l1 np) Ax hxI (rdL_le l0 XM) hmn (by omega) hMI (X.le l0) hl h40 hI h30 n 0 h2 B C sp (newG a w) (by omega) (Heap.le_trans l1 l2) (none_of_le l1 nB) A o
end Go.Proofs.Ytkcogdmddhkldaa
