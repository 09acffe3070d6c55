/- The reference's ledger as bytes; and batches. -/
import Derived.Test.YtkcogdmddhkldaaXLedB
import Derived.Test.YtkcogdmddhkldaaLedText
import Derived.Test.YtkcogdmddhkldaaLedPost
namespace Go.Proofs.Ytkcogdmddhkldaa
open Go Go.Sy Go.Value
set_option linter.unusedVariables false
set_option linter.unusedSimpArgs false

theorem S_xeight {h : Heap} {K : Value → Heap → Prop} {n : Int} (k : ∀ h' s, h.le h' → bytesI s = be8 n → K (string s) h') : CallA Try.prog fn_ref08_eight [.int .i64 n] h K := by
  refine F_ref08_eight _ _ _ ?_
  unfold F_ref08_eightT
  generalize hu : IntKind.wrap .u64 n = u0
  have hu : u0 = n % 18446744073709551616 := by rw [← hu]; rfl
  have main : ∀ (m i : Nat) (h1 : Heap) (e : ByteArray), m + i = 8 → h.le h1 → bytesI e = beF n i → L_ref08_eight_0 (u0 / 2 ^ (8 * i)) e (i : Int) h1 K := by
    intro m
    induction m with
    | zero =>
      intro i h1 e hi l0 he
      refine L_ref08_eight_0r _ _ _ _ _ ?_
      unfold L_ref08_eight_0T
      have hi8 : i = 8 := by omega
      subst hi8
      exact Br.no rfl (Ret.mk (k h1 e l0 he))
    | succ m ih =>
      intro i h1 e hi l0 he
      refine L_ref08_eight_0r _ _ _ _ _ ?_
      unfold L_ref08_eight_0T
      have hes : e.size = i := by rw [← bytesI_length, he, beF_length]
      have hp : (0 : Int) < 2 ^ (8 * i) := Int.pow_pos (by decide)
      have hu0 : 0 ≤ u0 / 2 ^ (8 * i) := Int.ediv_nonneg (by omega) (Int.le_of_lt hp)
      have hu1 : u0 / 2 ^ (8 * i) ≤ u0 := Int.ediv_le_self _ (by omega)
      have e1 : IntKind.wrap .u8 ((u0 / 2 ^ (8 * i)).tmod 256) = byteAt n i := by
        rw [← byte_mod n i (by omega), ← hu, wrap_u8, Int.tmod_eq_emod_of_nonneg hu0]
        unfold byteAt
        omega
      have e2 : IntKind.wrap .u64 ((u0 / 2 ^ (8 * i)).tdiv 256) = u0 / 2 ^ (8 * (i + 1)) := by
        rw [Int.tdiv_eq_ediv_of_nonneg hu0, div_next]
        have h3 : u0 / 2 ^ (8 * (i + 1)) ≤ u0 := Int.ediv_le_self _ (by omega)
        have h4 : 0 ≤ u0 / 2 ^ (8 * (i + 1)) := Int.ediv_nonneg (by omega) (Int.le_of_lt (Int.pow_pos (by decide)))
        exact wrap_u64_id h4 (by omega)
      refine Br.yes (by simp; omega) (newB_at fun r h2 hr l1 Ar => ?_)
      rw [e1] at Ar
      rw [e2, w1 (by omega)]
      have hb := byteAt_r n i
      have hby : bytes [byteAt n i] := fun b hb2 => by rw [List.mem_singleton] at hb2; rw [hb2]; exact hb
      have hsz : (strOf [byteAt n i]).size = 1 := strOf_size hby
      exact ⟨[byteAt n i], rfl, At.toRd (ws := []) Ar, by omega, ih (i + 1) h2 _ (by omega) (Heap.le_trans l0 l1) (by rw [bytesI_append, bytesI_strOf hby, he]; rfl)⟩
  have := main 8 0 h ⟨#[]⟩ rfl h.le_refl rfl
  rw [Nat.mul_zero, Int.pow_zero, Int.ediv_one] at this
  exact this
section
variable {h0 h : Heap} {K : Value → Heap → Prop} {g : XFr} {S : Lg}
theorem rowT_snoc {w c : Nat} {row : List Int} (hc : c < w) (hr : c < row.length) : (row.take (c + 1)).flatMap be8 = (row.take c).flatMap be8 ++ be8 (row.getD c 0) := by
  rw [List.take_add_one, List.getElem?_eq_getElem hr, List.flatMap_append, List.getD_eq_getElem?_getD, List.getElem?_eq_getElem hr]
  simp
theorem rowsT_drop {w j : Nat} {M : Mx} (hj : j < M.length) : rowsT w (M.drop j) = rowT w (M.getD j []) ++ rowsT w (M.drop (j + 1)) := by
  rw [List.drop_eq_getElem_cons hj, rowsT, List.getD_eq_getElem?_getD, List.getElem?_eq_getElem hj]; rfl
theorem S_xText (A : XAt h g S) (k : ∀ h', h.le h' → K (string (strOf (textG S))) h') : CallA Try.prog fn_pref08_Ledger_Text [pointer (some ⟨g.p, 0, none⟩)] h K := by
  refine F_pref08_Ledger_Text _ _ _ ?_
  unfold F_pref08_Ledger_TextT
  have n16 := A.sz.n16
  have c8 := A.sz.c8
  have N8 := A.sz.N8
  have hsm := textG_small A.sz
  have szle : ∀ {s : ByteArray} {t : List Int}, bytesI s ++ t = textG S → s.size ≤ 2000 := fun {s t} e => by
    have := congrArg List.length e
    rw [List.length_append, bytesI_length] at this; omega
  have m1 : ∀ (m j : Nat) (h1 : Heap) (s : ByteArray), m + j = S.M.length → h.le h1 → bytesI s ++ rowsT S.cur (S.M.drop j) = textG S → L_pref08_Ledger_Text_1 (some ⟨g.p, 0, none⟩) s (j : Int) h1 K := by
    intro m
    induction m with
    | zero =>
      intro j h1 s hj l1 e
      refine L_pref08_Ledger_Text_1r _ _ _ _ _ ?_
      unfold L_pref08_Ledger_Text_1T
      rw [List.drop_eq_nil_of_le (by omega), rowsT, List.append_nil] at e
      refine withAddr_intro rfl ⟨_, _, _, (A.le l1).rows, Br.no (by simp; omega) (Ret.mk ?_)⟩
      have := k h1 l1
      rw [← e, strOf_bytesI] at this
      exact this
    | succ m ih =>
      intro j h1 s hj l1 e
      refine L_pref08_Ledger_Text_1r _ _ _ _ _ ?_
      unfold L_pref08_Ledger_Text_1T
      have hjl : j < S.M.length := by omega
      have hrow := A.sz.sh.row hjl
      rw [rowsT_drop hjl] at e
      have ssz := szle e
      have m2 : ∀ (m c : Nat) (h2 : Heap) (s2 : ByteArray), m + c = S.cur → h.le h2 → bytesI s2 = bytesI s ++ ((S.M.getD j []).take c).flatMap be8 → L_pref08_Ledger_Text_2 (some ⟨g.p, 0, none⟩) s2 (j : Int) (c : Int) h2 K := by
        intro m
        induction m with
        | zero =>
          intro c h2 s2 hc l2 e2
          refine L_pref08_Ledger_Text_2r _ _ _ _ _ _ ?_
          unfold L_pref08_Ledger_Text_2T
          refine withAddr_intro rfl ⟨_, _, _, (A.le l2).nos, Br.no (by simp; omega) ?_⟩
          rw [w1 (by omega)]
          refine ih (j + 1) h2 s2 (by omega) l2 ?_
          have hcw : c = S.cur := by omega
          rw [e2, hcw, ← e, List.append_assoc]; rfl
        | succ m ih2 =>
          intro c h2 s2 hc l2 e2
          refine L_pref08_Ledger_Text_2r _ _ _ _ _ _ ?_
          unfold L_pref08_Ledger_Text_2T
          have A2 := A.le l2
          have hcc : c < S.cur := by omega
          have hs2 : s2.size ≤ 3000 := by
            rw [← bytesI_length, e2, List.length_append, be8_flat, bytesI_length]
            have : ((S.M.getD j []).take c).length ≤ 8 := by rw [List.length_take]; omega
            omega
          refine withAddr_intro rfl ⟨_, _, _, A2.nos, Br.yes (by simp; omega) (A2.getM hjl hcc (S_xeight fun h3 s3 l3 e3 => ⟨_, rfl, ?_, ?_⟩))⟩
          · have : s3.size = 8 := by rw [← bytesI_length, e3, be8_length]
            omega
          · rw [w1 (by omega)]
            refine ih2 (c + 1) h3 _ (by omega) (Heap.le_trans l2 l3) ?_
            rw [bytesI_append, e2, e3, rowT_snoc hcc (by omega), List.append_assoc]; rfl
      exact withAddr_intro rfl ⟨_, _, _, (A.le l1).rows, Br.yes (by simp; omega) (m2 S.cur 0 h1 s (by omega) l1 (by rw [List.take_zero]; simp))⟩
  have m0 : ∀ (m c : Nat) (h1 : Heap) (s : ByteArray), m + c = S.cur → h.le h1 → bytesI s = (S.M.length : Int) :: (S.cur : Int) :: (S.N.take c).flatMap be8 → L_pref08_Ledger_Text_0 (some ⟨g.p, 0, none⟩) s (c : Int) h1 K := by
    intro m
    induction m with
    | zero =>
      intro c h1 s hc l1 e
      refine L_pref08_Ledger_Text_0r _ _ _ _ _ ?_
      unfold L_pref08_Ledger_Text_0T
      have hcw : c = S.cur := by omega
      exact withAddr_intro rfl ⟨_, _, _, (A.le l1).nos, Br.no (by simp; omega) (m1 S.M.length 0 h1 s (by omega) l1 (by rw [e, hcw, List.drop_zero]; rfl))⟩
    | succ m ih =>
      intro c h1 s hc l1 e
      refine L_pref08_Ledger_Text_0r _ _ _ _ _ ?_
      unfold L_pref08_Ledger_Text_0T
      have A1 := A.le l1
      have hcc : c < S.cur := by omega
      have hs2 : s.size ≤ 3000 := by
        rw [← bytesI_length, e, List.length_cons, List.length_cons, be8_flat]
        have : (S.N.take c).length ≤ 8 := by rw [List.length_take]; omega
        omega
      refine withAddr_intro rfl ⟨_, _, _, A1.nos, Br.yes (by simp; omega) (A1.getN hcc (S_xeight fun h3 s3 l3 e3 => ⟨_, rfl, ?_, ?_⟩))⟩
      · have : s3.size = 8 := by rw [← bytesI_length, e3, be8_length]
        omega
      · rw [w1 (by omega)]
        refine ih (c + 1) h3 _ (by omega) (Heap.le_trans l1 l3) ?_
        rw [bytesI_append, e, e3, rowT_snoc hcc (by omega)]; rfl
  refine withAddr_intro rfl ⟨_, _, _, A.rows, withAddr_intro rfl ⟨_, _, _, A.nos, newB_at fun r h1 hr l1 Ar => ⟨[(S.M.length : Int), (S.cur : Int)], rfl, ?_, ?_⟩⟩⟩
  · rw [wrap_u8, wrap_u8, show (S.M.length : Int) % 256 = S.M.length by omega, show (S.cur : Int) % 256 = S.cur by omega] at Ar
    exact At.toRd (ws := []) Ar
  · refine m0 S.cur 0 h1 _ (by omega) l1 ?_
    rw [bytesI_strOf fun b hb => ?_]
    · rw [List.take_zero]; rfl
    · simp only [List.mem_cons, List.not_mem_nil, or_false] at hb
      rcases hb with rfl | rfl <;> omega
end
/-! a batch -/
structure BgR where
  b : Bool
  p : Option Addr
  n : Nat
  c : Nat
def bgV (x : BgR) : List Value := [.bool x.b, .slice x.p x.n x.c]
theorem bgV_len (x : BgR) : (bgV x).length = 2 := rfl
theorem bg_set (y : BgR) : ∀ (l : List BgR) (c : Nat), c < l.length → setL (l.flatMap bgV) (c * 2) (bgV y) = (l.set c y).flatMap bgV
  | [], c, h => by simp at h
  | x :: l, 0, h => rfl
  | x :: l, c + 1, h => by
    have := bg_set y l c (by simpa using h)
    rw [show (c + 1) * 2 = c * 2 + 1 + 1 by omega, List.set_cons_succ, List.flatMap_cons, List.flatMap_cons, ← this]
    rfl
theorem px1 {h : Heap} {p : Option Addr} {l : List Pst} {N : Nat} (C : Pos h p l) (hn : l.length = N) {j : Nat} {i : Int} (hi : i = (j : Int)) {x : Pst} (hx : l[j]? = some x) :
    (∀ {Q : Int → Prop}, Q x.m → 0 ≤ i ∧ i < (N : Int) ∧ withAddr p fun b o => ∃ n, h.cell b (o + i.toNat * 3) = some (.int .i64 n) ∧ Q n) ∧
    (∀ {Q : Int → Nat → Prop}, (∀ b o, p = some ⟨b, o, none⟩ → Q x.c b) → 0 ≤ i ∧ i < (N : Int) ∧ withAddr p fun b o => ∃ n, h.cell b (o + i.toNat * 3 + 1) = some (.int .i64 n) ∧ Q n b) ∧
    (∀ {Q : Int → Prop}, Q x.a → 0 ≤ i ∧ i < (N : Int) ∧ withAddr p fun b o => ∃ n, h.cell b (o + i.toNat * 3 + 2) = some (.int .i64 n) ∧ Q n) := by
  obtain ⟨h1, h2, h3⟩ := px C hn hi hx (Q := fun a b c => a = x.m ∧ b = x.c ∧ c = x.a) ⟨rfl, rfl, rfl⟩
  obtain ⟨b, o, e, n, g0, n1, g1, n2, g2, rfl, rfl, rfl⟩ := withAddr_elim h3
  exact ⟨fun k => ⟨h1, h2, withAddr_intro e ⟨_, g0, k⟩⟩, fun k => ⟨h1, h2, withAddr_intro e ⟨_, g1, k b o e⟩⟩, fun k => ⟨h1, h2, withAddr_intro e ⟨_, g2, k⟩⟩⟩
section
variable {h0 : Heap} {K : Value → Heap → Prop} {g : XFr} {S : Lg} {q : Option Addr} {b : List Pst} {n qc : Nat}
/-- the sums, currency by currency: none is there yet, or so much -/
structure Sums (h1 h : Heap) (r w : Nat) (x : Nat → Int) (B : Nat) (bl : List BgR) : Prop where
  len : bl.length = w
  at' : At h r (bl.flatMap bgV)
  big : ∀ c y, bl[c]? = some y → BigN (h.del r) (agg #[.bool y.b, slice y.p y.n y.c]) (x c) B
theorem post_x1 {h1 : Heap} {r w : Nat} (X : Pos h1 q b) (hn : b.length = n) (hs : n ≤ 1000) (hI : ∀ x ∈ b, I64 x.a) (hc : ∀ x ∈ b, 0 ≤ x.c ∧ x.c < (w : Int)) (nr : h1 r = none)
    (k : ∀ h' bl, h1.le h' → Sums h1 h' r w (fun c => sumL (ofCur b (c : Int))) (n + 10) bl → L_pref08_Ledger_Post_2 (some ⟨g.p, 0, none⟩) q n qc (some ⟨r, 0, none⟩) w w 0 h' K) :
    ∀ (m j : Nat) (h : Heap) (bl : List BgR), m + j = n → h1.le h → Sums h1 h r w (fun c => sumL (ofCur (b.take j) (c : Int))) (j + 10) bl → L_pref08_Ledger_Post_1 (some ⟨g.p, 0, none⟩) q n qc (some ⟨r, 0, none⟩) w w (j : Int) h K
  | 0, j, h, bl, hj, l1, s => by
    refine L_pref08_Ledger_Post_1r _ _ _ _ _ _ _ _ _ _ ?_
    unfold L_pref08_Ledger_Post_1T
    have hjn : j = n := by omega
    subst hjn
    rw [show b.take j = b from List.take_of_length_le (by omega)] at s
    exact Br.no (by simp) (k h bl l1 s)
  | m + 1, j, h, bl, hj, l1, s => by
    refine L_pref08_Ledger_Post_1r _ _ _ _ _ _ _ _ _ _ ?_
    unfold L_pref08_Ledger_Post_1T
    have hx : b[j]? = some b[j] := List.getElem?_eq_getElem (by omega)
    have htk : b.take (j + 1) = b.take j ++ [b[j]] := by rw [List.take_add_one, hx]; rfl
    have hmem : b[j] ∈ b := List.getElem_mem _
    generalize b[j] = y at *
    obtain ⟨y1, y2⟩ := hc y hmem
    have hIy := hI y hmem
    obtain ⟨_, P2, P3⟩ := px1 (rdL_le l1 X) hn (rfl : (j : Int) = (j : Int)) hx
    obtain ⟨ym, yc, ya⟩ := y
    dsimp only at y1 y2 hIy P2 P3
    obtain ⟨c, rfl⟩ : ∃ c : Nat, yc = c := ⟨yc.toNat, by omega⟩
    have hcl : c < bl.length := by rw [s.len]; omega
    have hz : bl[c]? = some bl[c] := List.getElem?_eq_getElem hcl
    have big := s.big c _ hz
    generalize hzz : bl[c] = z at *
    have cellz : ∀ (i : Nat) (v : Value), (bgV z)[i]? = some v → i < 2 → h.cell r (0 + (c : Int).toNat * 2 + i) = some v := fun i v hv hi => s.at'.cell (by rw [Nat.zero_add, Int.toNat_natCast, arr_get bgV_len bl c i z hz hi]; exact hv)
    have hcw : (c : Int) < (w : Int) := by omega
    refine Br.yes (by simp; omega) (P2 fun bb oo eb => P2 fun b2 o2 eb2 => ⟨by omega, hcw, withAddr_intro rfl ⟨z.b, cellz 0 _ rfl (by omega), z.p, z.n, z.c, cellz 1 _ rfl (by omega), P3 (CallA.off s.at' (S_Of hIy fun v2 h2' l2 bn2 h2 q1 q2 q3 => ?_))⟩⟩)
    have br2 := bn2.raw
    obtain ⟨n2, p2, c2, d2, rfl, _⟩ := bn2
    have lh2 := le_of_del (Heap.le_trans l2 q1) q3
    have As2 := s.at'.le lh2
    have B2 := big.raw.le (del_mono lh2)
    refine ⟨_, _, _, _, rfl, .inl lh2, CallA.off As2 (S_Add_Big B2 (br2.le (le_del q1 q2)) (Nat.le_refl _) (by omega) (by omega) fun v3 h3' l3 bn3 h3 q4 q5 q6 => ?_)⟩
    have lh3 := le_of_del (Heap.le_trans l3 q4) q6
    have As3 := As2.le lh3
    have bn3' := bn3
    obtain ⟨n3, p3, c3, d3, rfl, _⟩ := bn3
    refine ⟨_, _, _, _, rfl, .inl lh3, by omega, hcw, withAddr_intro rfl ⟨As3.canSt (by rw [arr_len bgV_len, Int.toNat_natCast]; omega), ?_⟩⟩
    rw [w1 (by omega), Nat.zero_add, Int.toNat_natCast]
    have A4 := As3.set (o := c * 2) (ws := bgV ⟨n3, p3, d3.length, c3⟩)
    rw [bg_set _ _ _ hcl] at A4
    refine post_x1 X hn hs hI hc nr k m (j + 1) _ (bl.set c ⟨n3, p3, d3.length, c3⟩) (by omega) (le_setN (Heap.le_trans l1 (Heap.le_trans lh2 lh3)) nr) ⟨by rw [List.length_set]; exact s.len, A4, fun c' y' hy' => ?_⟩
    have moreN : ∀ {h : Heap} {v : Value} {x : Int} {b b' : Nat}, BigN h v x b → b ≤ b' → BigN h v x b' := fun {h v x b b'} ⟨neg, p, c, ds, a1, a2, a3, a4, a5, a6, a7⟩ l => ⟨neg, p, c, ds, a1, a2, a3, a4, a5, by omega, a7⟩
    have lw : (h.del r).le ((h3.setN r (c * 2) (bgV ⟨n3, p3, d3.length, c3⟩)).del r) := by rw [del_set]; exact del_mono (Heap.le_trans lh2 lh3)
    show BigN ((h3.setN r (c * 2) (bgV ⟨n3, p3, d3.length, c3⟩)).del r) _ (sumL (ofCur (b.take (j + 1)) (c' : Int))) _
    rw [htk, ofCur_snoc]
    rw [List.getElem?_set] at hy'
    by_cases e : c = c'
    · subst e
      rw [if_pos rfl, if_pos hcl] at hy'
      cases hy'
      rw [if_pos rfl]
      have hsn : ∀ (l : List Int) (v : Int), sumL (l ++ [v]) = sumL l + v := fun l v => by
        induction l with
        | nil => simp [sumL]
        | cons a l ih => rw [List.cons_append, sumL, sumL, ih]; omega
      rw [hsn]
      refine moreN (bn3'.le ?_) (by omega)
      rw [del_set]; exact le_del q4 q5
    · rw [if_neg e] at hy'
      rw [if_neg (fun x => e (by have x : (c : Int) = (c' : Int) := x; omega))]
      exact moreN ((s.big c' y' hy').le lw) (by omega)
theorem addsM_3' : ∀ (l : List Pst) (M : Mx), (addsM l M).1 ≠ 0 → (addsM l M).1 = 3
  | [], M, h => (h rfl).elim
  | a :: l, M, h => by
    rw [addsM] at h ⊢
    split
    · rfl
    · rename_i g; rw [if_neg g] at h; exact addsM_3' l _ h
/-- postings, one by one, on a copy -/
theorem post_x3 {h1 : Heap} {gm : XFr} (X : Pos h1 q b) (hn : b.length = n) (hs : n ≤ 1000) (hI : ∀ x ∈ b, I64 x.a) (hh : ∀ x ∈ b, 0 ≤ x.m ∧ x.m < (S.M.length : Int) ∧ 0 ≤ x.c ∧ x.c < (S.cur : Int)) (fm : ∀ y, gm.D S.M.length y = true → h1 y = none) {res : Int × Mx}
    (A : XAt h1 g S) (k0 : ∀ h', h1.le h' → res.1 ≠ 0 → K (.int .i64 3) h') (k1 : ∀ h', h1.le h' → res.1 = 0 → XAt h' gm ⟨res.2, S.N, S.cur⟩ → Ret (h'.setN g.p 0 [.slice gm.f.a S.M.length gm.f.C]) K (.int .i64 0)) :
    ∀ (m j : Nat) (h : Heap) (M : Mx), m + j = n → h1.le h → shM M S.M.length 8 → XAt h gm ⟨M, S.N, S.cur⟩ → addsM (b.drop j) M = res → L_pref08_Ledger_Post_3 (some ⟨g.p, 0, none⟩) q n qc (some ⟨gm.p, 0, none⟩) (j : Int) h K
  | 0, j, h, M, hj, l1, sM, Am, e => by
    refine L_pref08_Ledger_Post_3r _ _ _ _ _ _ _ _ ?_
    unfold L_pref08_Ledger_Post_3T
    rw [List.drop_eq_nil_of_le (by omega)] at e
    have e : ((0 : Int), M) = res := e
    subst e
    have := k1 h l1 rfl Am
    refine Br.no (by simp; omega) (withAddr_intro rfl ⟨_, _, _, Am.rows, withAddr_intro rfl ⟨(A.le l1).ap.canSt (by simp), ?_⟩⟩)
    rw [show (⟨M, S.N, S.cur⟩ : Lg).M.length = S.M.length from sM.1]
    exact this
  | m + 1, j, h, M, hj, l1, sM, Am, e => by
    refine L_pref08_Ledger_Post_3r _ _ _ _ _ _ _ _ ?_
    unfold L_pref08_Ledger_Post_3T
    have hx : b[j]? = some b[j] := List.getElem?_eq_getElem (by omega)
    have hmem : b[j] ∈ b := List.getElem_mem _
    rw [List.drop_eq_getElem_cons (by omega : j < b.length)] at e
    generalize b[j] = y at *
    obtain ⟨y1, y2, y3, y4⟩ := hh y hmem
    have hIy := hI y hmem
    obtain ⟨ym, yc, ya⟩ := y
    dsimp only at y1 y2 y3 y4 hIy
    obtain ⟨i, rfl⟩ : ∃ i : Nat, ym = i := ⟨ym.toNat, by omega⟩
    obtain ⟨c, rfl⟩ : ∃ c : Nat, yc = c := ⟨yc.toNat, by omega⟩
    rw [addsM] at e
    simp only [Int.toNat_natCast] at e
    have hi : i < M.length := by rw [sM.1]; omega
    have hc : c < S.cur := by omega
    have hIM := Am.sz.i64 i c
    have hIM : I64 (rdM M i c) := hIM
    refine Br.yes (by simp; omega) (px (rdL_le l1 X) hn rfl hx (newB_cp (vs := [.int .i64 (i : Int), .int .i64 (c : Int), .int .i64 ya]) rfl fun r h2 hr l2 Ar st => ⟨st, ?_⟩))
    generalize h2.setN r 0 _ = h3 at *
    have A3 := Am.le l2
    obtain ⟨B, eB, hcl⟩ := A3.rw.cl (i := i) (by rw [cutM_len]; exact hi)
    have hil : (i : Int) < (M.length : Int) := by omega
    have hcc : (c : Int) < (S.cur : Int) := by omega
    have hamt := A3.rw.amt (i := i) (c := c) (by rw [cutM_len]; exact hi) hc
    rw [cutM_rd (S := ⟨M, S.N, S.cur⟩) hc] at hamt
    refine withAddr_intro rfl ⟨_, _, _, A3.rows, _, Ar.cell rfl, by omega, hil, withAddr_intro eB ⟨_, _, _, hcl, _, Ar.cell rfl, by omega, hcc, withAddr_intro rfl ⟨_, hamt, _, Ar.cell rfl, S_Of hIM fun v1 h4 l4 bn1 => ?_⟩⟩⟩
    have br1 := bn1.raw
    obtain ⟨n1, p1, c1, d1, rfl, _⟩ := bn1
    refine ⟨_, _, _, _, rfl, .inl l4, S_Of hIy fun v2 h5 l5 bn2 => ?_⟩
    have br2 := bn2.raw
    obtain ⟨n2, p2, c2, d2, rfl, _⟩ := bn2
    refine ⟨_, _, _, _, rfl, S_Add_Big (br1.le l5) br2 (Nat.le_refl _) (Nat.le_refl _) (by omega) fun v3 h6 l6 bn3 => ?_⟩
    have br3 := bn3.raw
    obtain ⟨n3, p3, c3, d3, rfl, _⟩ := bn3
    refine ⟨_, _, _, _, rfl, S_Fit br3 (by omega) fun h7 l7 => ⟨_, _, rfl, ?_⟩⟩
    have l37 := Heap.le_trans l4 (Heap.le_trans l5 (Heap.le_trans l6 l7))
    have l17 := Heap.le_trans l1 (Heap.le_trans l2 l37)
    by_cases g1 : (fit (rdM M i c + ya)).2 ≠ 0
    · rw [if_pos g1] at e
      subst e
      refine Br.yes (by simpa using g1) (Ret.mk ?_)
      rw [fit_3 g1]
      exact k0 h7 l17 (show (3 : Int) ≠ 0 by decide)
    · rw [if_neg g1] at e
      have A7 := A3.le l37
      have Ar7 := Ar.le l37
      obtain ⟨B', eB', hcl7⟩ := A7.rw.cl (i := i) (by rw [cutM_len]; exact hi)
      rw [fit_e g1]
      refine Br.no (by simpa using g1) (withAddr_intro rfl ⟨_, _, _, A7.rows, _, Ar7.cell rfl, by omega, hil, withAddr_intro eB' ⟨_, _, _, hcl7, _, Ar7.cell rfl, by omega, hcc, withAddr_intro rfl ⟨A7.stR (i := i) hi hc, ?_⟩⟩⟩)
      try dsimp only
      simp only [Int.toNat_natCast]
      rw [w1 (by omega)]
      have hD : gm.D S.M.length (gm.f.R i) = true := XFr.D_f (by rw [← sM.1]; exact gm.f.D_row hi)
      exact post_x3 X hn hs hI hh fm A k0 k1 m (j + 1) _ (wrM M i c (rdM M i c + ya)) (by omega) (le_setN l17 (fm _ hD)) (sM.wr (by rw [← sM.1]; exact hi)) (A7.wrR (S := ⟨M, S.N, S.cur⟩) hi hc (fit_in g1)) e
theorem S_xPost {h : Heap} (l0 : h0.le h) (fr : ∀ x, g.D S.M.length x = true → h0 x = none) (A : XAt h g S) (X : Pos h q b) (hn : b.length = n) (hs : n ≤ 1000) (hI : ∀ x ∈ b, I64 x.m ∧ I64 x.c ∧ I64 x.a)
    (k : ∀ h' g', h0.le h' → XAt h' g' (postG S b).2 → g'.p = g.p → (∀ x, g'.D S.M.length x = true → g.D S.M.length x = true ∨ h x = none) → K (.int .i64 (postG S b).1) h') : CallA Try.prog fn_pref08_Ledger_Post [pointer (some ⟨g.p, 0, none⟩), slice q n qc] h K := by
  refine F_pref08_Ledger_Post _ _ _ _ _ _ ?_
  unfold F_pref08_Ledger_PostT
  unfold postG at k
  have c8 := A.sz.c8
  refine withAddr_intro rfl ⟨_, _, _, A.nos, by omega, by omega, by omega, by omega, newB_at fun r h1 hr l1 Ar => ?_⟩
  rw [Int.toNat_natCast] at Ar ⊢
  have e0 : repL S.cur [Value.bool false, slice none 0 0] = (List.replicate S.cur (⟨false, none, 0, 0⟩ : BgR)).flatMap bgV := by
    generalize S.cur = w
    induction w with
    | zero => rfl
    | succ w ih => rw [List.replicate_succ, List.flatMap_cons, ← ih]; rfl
  rw [e0] at Ar
  have A1 := A.le l1
  have l01 := Heap.le_trans l0 l1
  have keepg : ∀ h', h0.le h' → XAt h' g S → True → ∀ {v : Value}, (∀ h' g', h0.le h' → XAt h' g' S → g'.p = g.p → (∀ x, g'.D S.M.length x = true → g.D S.M.length x = true ∨ h x = none) → K v h') → K v h' := fun h' l' A' _ {v} kk => kk h' g l' A' rfl fun x hx => .inl hx
  have m0 : ∀ (m j : Nat), m + j = n → (∀ x ∈ b.take j, hasB S x.m x.c = true) → L_pref08_Ledger_Post_0 (some ⟨g.p, 0, none⟩) q n qc (some ⟨r, 0, none⟩) S.cur S.cur (j : Int) h1 K := by
    intro m
    induction m with
    | zero =>
      intro j hj hh
      refine L_pref08_Ledger_Post_0r _ _ _ _ _ _ _ _ _ _ ?_
      unfold L_pref08_Ledger_Post_0T
      rw [show b.take j = b from List.take_of_length_le (by omega)] at hh
      have any0 : ¬ b.any (fun p => !hasB S p.m p.c) = true := by
        simp only [Bool.not_eq_true, List.any_eq_false]
        intro x hx
        rw [hh x hx]; decide
      rw [if_neg any0] at k
      have hh2 : ∀ x ∈ b, 0 ≤ x.m ∧ x.m < (S.M.length : Int) ∧ 0 ≤ x.c ∧ x.c < (S.cur : Int) := fun x hx => of_decide_eq_true (hh x hx)
      refine Br.no (by simp; omega) (post_x1 (h1 := h) X hn hs (fun x hx => (hI x hx).2.2) (fun x hx => by have := hh2 x hx; omega) hr (fun h2 bl l2 s => ?_) n 0 h1 _ (by omega) l1 ⟨List.length_replicate, Ar, fun c y hy => ?_⟩)
      · have A2 := A.le l2
        have l02 := Heap.le_trans l0 l2
        have len0 : ∀ (c : Nat) (y : BgR), bl[c]? = some y → (0 < y.n ↔ sumL (ofCur b (c : Int)) ≠ 0) := fun c y hy => by
          obtain ⟨neg, p, cc, ds, e1, _, ok, e2, _, _, e3⟩ := s.big c y hy
          simp only [agg.injEq, Array.mk.injEq, List.cons.injEq, Value.bool.injEq, slice.injEq, and_true] at e1
          obtain ⟨q1, q2, q3, q4⟩ := e1
          rw [q3]
          have e2 : sumL (ofCur b (c : Int)) = sg neg ds := e2
          rw [e2]
          constructor
          · intro hp hz
            have : dig ds = 0 := by
              unfold sg at hz
              split at hz <;> omega
            rw [(e3 this).1] at hp
            exact absurd hp (by simp)
          · intro hz
            refine Nat.pos_of_ne_zero fun h0 => hz ?_
            have : ds = [] := List.length_eq_zero_iff.1 h0
            rw [this]; unfold sg; split <;> rfl
        have m2 : ∀ (m c : Nat), m + c = S.cur → (∀ d : Nat, d < c → sumL (ofCur b (d : Int)) = 0) → L_pref08_Ledger_Post_2 (some ⟨g.p, 0, none⟩) q n qc (some ⟨r, 0, none⟩) S.cur S.cur (c : Int) h2 K := by
          intro m
          induction m with
          | zero =>
            intro c hc hz
            refine L_pref08_Ledger_Post_2r _ _ _ _ _ _ _ _ _ _ ?_
            unfold L_pref08_Ledger_Post_2T
            have he : evenB S b = true := by
              unfold evenB
              rw [List.all_eq_true]
              exact fun d hd => decide_eq_true (hz d (by have := List.mem_range.1 hd; omega))
            rw [if_neg (by rw [he]; decide)] at k
            refine Br.no (by simp; omega) (S_xCopy A2 fun h3 gm l3 Am fm => ⟨_, rfl, ?_⟩)
            refine post_x3 (h1 := h2) (rdL_le l2 X) hn hs (fun x hx => (hI x hx).2.2) hh2 fm (res := addsM b S.M) A2 (fun h4 l4 hne => ?_) (fun h4 l4 hz A4 => ?_) n 0 h3 S.M (by omega) l3 A.sz.sh Am rfl
            · rw [if_pos hne, addsM_3' _ _ hne] at k
              exact k h4 g (Heap.le_trans l02 l4) (A2.le l4) rfl fun x hx => .inl hx
            · rw [if_neg (by simpa using hz)] at k
              have hlM : (addsM b S.M).2.length = S.M.length := (addsM_ok b A.sz.sh A.sz.i64 (fun p hp => by have := hh2 p hp; omega) hz).1.1
              have npm : ∀ x, gm.D S.M.length x = true → x ≠ g.p ∧ x ≠ g.q := fun x hx => ⟨fun e => by
                have := fm x hx
                rw [e] at this
                exact A2.ap.ne this rfl, fun e => by
                have := fm x hx
                rw [e] at this
                exact A2.nd.ne this rfl⟩
              have nD : ∀ x, (x = g.p ∨ x = g.q) → gm.f.D S.M.length x = false := fun x hx => by
                cases hd : gm.f.D S.M.length x with
                | false => rfl
                | true =>
                  have := npm x (XFr.D_f hd)
                  rcases hx with e | e
                  · exact (this.1 e).elim
                  · exact (this.2 e).elim
              refine Ret.mk (k _ ⟨g.p, gm.f, g.q, g.qc, g.qs⟩ (le_setN (Heap.le_trans l02 l4) (fr _ (g.D_p _))) ⟨?_, A4.rw.mv fun x xs d a => a.set_ne ?_, (A2.nd.le l4).set_ne A.qp, by rw [hlM]; exact nD _ (.inl rfl), A.qp, by rw [hlM]; exact nD _ (.inr rfl), A4.sz⟩ rfl fun x hx => ?_)
              · have := (A2.ap.le l4).set (o := 0) (ws := [.slice gm.f.a S.M.length gm.f.C])
                rw [hlM]
                exact this
              · rw [cutM_len] at d
                have d : gm.f.D (addsM b S.M).2.length x = true := d
                rw [hlM] at d
                exact (npm x (XFr.D_f d)).1
              · rcases XFr.D_t hx with rfl | rfl | e
                · exact .inl (g.D_p _)
                · exact .inl (g.D_q _)
                · exact .inr (none_of_le l2 (fm x (XFr.D_f e)))
          | succ m ih =>
            intro c hc hz
            refine L_pref08_Ledger_Post_2r _ _ _ _ _ _ _ _ _ _ ?_
            unfold L_pref08_Ledger_Post_2T
            have hcl : c < bl.length := by rw [s.len]; omega
            have hy : bl[c]? = some bl[c] := List.getElem?_eq_getElem hcl
            have h0c := len0 c _ hy
            generalize bl[c] = y at *
            have cell1 : h2.cell r (0 + (c : Int).toNat * 2 + 1) = some (.slice y.p y.n y.c) := s.at'.cell (by rw [Nat.zero_add, Int.toNat_natCast, arr_get bgV_len bl c 1 y hy (by omega)]; rfl)
            refine Br.yes (by simp; omega) ⟨by omega, by omega, withAddr_intro rfl ⟨_, _, _, cell1, Br.dec (fun g1 => ?_) fun g1 => ?_⟩⟩
            · have he : evenB S b = false := by
                unfold evenB
                rw [List.all_eq_false]
                exact ⟨c, List.mem_range.2 (by omega), by simpa using h0c.1 (by omega)⟩
              rw [if_pos he] at k
              exact Ret.mk (k h2 g l02 A2 rfl fun x hx => .inl hx)
            · rw [w1 (by omega)]
              refine ih (c + 1) (by omega) fun d hd => ?_
              by_cases e : d = c
              · rw [e]
                exact Classical.byContradiction fun hne => g1 (by have := h0c.2 hne; omega)
              · exact hz d (by omega)
        exact m2 S.cur 0 (by omega) fun d hd => by omega
      · rw [List.getElem?_replicate] at hy
        split at hy
        · cases hy
          exact ⟨false, none, 0, [], rfl, .inl rfl, fun _ h => (by cases h), rfl, Nat.le_refl _, by simp, fun _ => ⟨rfl, rfl⟩⟩
        · cases hy
    | succ m ih =>
      intro j hj hh
      refine L_pref08_Ledger_Post_0r _ _ _ _ _ _ _ _ _ _ ?_
      unfold L_pref08_Ledger_Post_0T
      have hx : b[j]? = some b[j] := List.getElem?_eq_getElem (by omega)
      have htk : b.take (j + 1) = b.take j ++ [b[j]] := by rw [List.take_add_one, hx]; rfl
      have hmem : b[j] ∈ b := List.getElem_mem _
      generalize b[j] = y at *
      obtain ⟨P1, P2, _⟩ := px1 (rdL_le l1 X) hn (rfl : (j : Int) = (j : Int)) hx
      refine Br.yes (by simp; omega) (P1 (P2 fun _ _ _ => S_xHas A1 ⟨_, rfl, ?_⟩))
      cases hb : hasB S y.m y.c with
      | false =>
        have any1 : b.any (fun p => !hasB S p.m p.c) = true := List.any_eq_true.2 ⟨y, hmem, by rw [hb]; rfl⟩
        rw [if_pos any1] at k
        exact Br.yes rfl (Ret.mk (k h1 g l01 A1 rfl fun x hx => .inl hx))
      | true =>
        rw [w1 (by omega)]
        refine Br.no rfl (ih (j + 1) (by omega) fun x hx2 => ?_)
        rw [htk] at hx2
        rcases List.mem_append.1 hx2 with hx2 | hx2
        · exact hh x hx2
        · rw [List.mem_singleton.1 hx2]; exact hb
  exact m0 n 0 (by omega) fun x hx => by simp at hx
end
end Go.Proofs.Ytkcogdmddhkldaa
