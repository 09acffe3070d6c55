/- A ledger as bytes. -/
import Derived.Test.YtkcogdmddhkldaaLedSpec
import Derived.Test.YtkcogdmddhkldaaBld
namespace Go.Proofs.Ytkcogdmddhkldaa
open Go Go.Sy Go.Value
set_option linter.unusedVariables false
set_option linter.unusedSimpArgs false

theorem Bu.more {h0 h : Heap} {p r : Nat} {bs : List Int} {x : Obj} (b : Bu h0 h p bs) (hr : h r = none) : Bu (h0.ins r x) (h.ins r x) p bs := by
  obtain ⟨a, q, c, h1, h2, h3, h4⟩ := b.ex
  have hp : p ≠ r := fun e => by rw [← e, h1] at hr; cases hr
  refine ⟨?_, a, q, c, le_ins hr _ _ h1, h2, ?_, h4⟩
  · unfold Heap.ins; rw [if_neg hp]; exact b.new
  · rcases h3 with h3 | ⟨s, sp, e1, e2, e3, e4⟩
    · exact .inl h3
    · refine .inr ⟨s, sp, e1, ?_, le_ins hr _ _ e3, e4⟩
      unfold Heap.ins
      rw [if_neg (fun e => by rw [e, hr] at e3; cases e3)]; exact e2
theorem ins_le_ins {h0 h : Heap} {r : Nat} {x : Obj} (l : h0.le h) : (h0.ins r x).le (h.ins r x) := fun y o e => by
  unfold Heap.ins at e ⊢
  split
  · rename_i g; rw [if_pos g] at e; exact e
  · rename_i g; rw [if_neg g] at e; exact l y o e
/-- one row, and all -/
def rowT (w : Nat) (row : List Int) : List Int := (row.take w).flatMap be8
def rowsT (w : Nat) : Mx → List Int
  | [] => []
  | r :: M => rowT w r ++ rowsT w M
def textG (S : Lg) : List Int := (S.M.length : Int) :: (S.cur : Int) :: rowsT S.cur (S.N :: S.M)
theorem be8_flat (l : List Int) : (l.flatMap be8).length = l.length * 8 := by
  induction l with
  | nil => rfl
  | cons a l ih => rw [List.flatMap_cons, List.length_append, be8_length, ih, List.length_cons]; omega
theorem rowT_length {w : Nat} {row : List Int} (h : w ≤ row.length) : (rowT w row).length = w * 8 := by
  unfold rowT; rw [be8_flat, List.length_take]; congr 1; omega
theorem rowsT_length {w : Nat} : ∀ {M : Mx}, (∀ r ∈ M, r.length = 8) → w ≤ 8 → (rowsT w M).length = M.length * (w * 8)
  | [], _, _ => by simp [rowsT]
  | r :: M, h, hw => by
    rw [rowsT, List.length_append, rowT_length (by rw [h r (List.mem_cons_self ..)]; exact hw), rowsT_length (fun x hx => h x (List.mem_cons_of_mem _ hx)) hw, List.length_cons, Nat.succ_mul]; omega
theorem rowT_r (w : Nat) (row : List Int) : bytes (rowT w row) := fun b hb => by
  unfold rowT at hb
  obtain ⟨n, _, h⟩ := List.mem_flatMap.1 hb
  exact be8_r n b h
theorem rowsT_r (w : Nat) : ∀ M : Mx, bytes (rowsT w M)
  | [] => bytes_nil
  | r :: M => bytes_app (rowT_r w r) (rowsT_r w M)
theorem all8 {S : Lg} (o : S.Sz) : ∀ r ∈ S.N :: S.M, r.length = 8 := fun r hr => by
  rcases List.mem_cons.1 hr with rfl | hr
  · exact o.N8
  · exact o.sh.2 r hr
theorem textG_length {S : Lg} (o : S.Sz) : (textG S).length = 2 + (S.M.length + 1) * (S.cur * 8) := by
  unfold textG
  rw [List.length_cons, List.length_cons, rowsT_length (all8 o) o.c8, List.length_cons]; omega
theorem textG_r {S : Lg} (o : S.Sz) : bytes (textG S) := fun b hb => by
  unfold textG at hb
  have := o.n16
  have := o.c8
  rcases List.mem_cons.1 hb with rfl | hb
  · omega
  · rcases List.mem_cons.1 hb with rfl | hb
    · omega
    · exact rowsT_r _ _ b hb
theorem textG_small {S : Lg} (o : S.Sz) : (textG S).length ≤ 2000 := by
  rw [textG_length o]
  have := o.n16
  have := o.c8
  have : (S.M.length + 1) * (S.cur * 8) ≤ 17 * 64 := Nat.mul_le_mul (by omega) (by omega)
  omega
section
variable {h0 h : Heap} {K : Value → Heap → Prop} {p : Nat} {bs : List Int}
theorem lay_loop {n : Int} : ∀ (j : Nat) (h : Heap) (bs : List Int), j ≤ 8 → bs.length + j < 100000000 → h0.le h → Bu h0 h p bs → (∀ h', h0.le h' → Bu h0 h' p (bs ++ beF n j) → K (tuple #[]) h') →
    L_ledger_lay_0 (some ⟨p, 0, none⟩) n ((j : Int) - 1) h K := by
  intro j
  induction j with
  | zero =>
    intro h bs hj hl l B k
    refine L_ledger_lay_0r _ _ _ _ _ ?_
    unfold L_ledger_lay_0T
    exact Br.no (by simp) (Ret.mk (k h l (by rw [beF, List.append_nil]; exact B)))
  | succ j ih =>
    intro h bs hj hl l B k
    refine L_ledger_lay_0r _ _ _ _ _ ?_
    unfold L_ledger_lay_0T
    rw [show ((j + 1 : Nat) : Int) - 1 = (j : Int) by omega]
    have w1 : IntKind.wrap .i64 ((j : Int) - 1) = (j : Int) - 1 := wrap_i64_id (by omega) (by omega)
    rw [shift_byte n j (by omega), w1]
    refine Br.yes (decide_eq_true (by omega)) (Br.yes (decide_eq_true (by rw [wrap_i64_id (by omega) (by omega)]; omega)) (S_WriteByte B l (by omega) fun h' l' B' => ⟨rfl, ?_⟩))
    have : bs ++ beF n (j + 1) = (bs ++ [byteAt n j]) ++ beF n j := by rw [beF, List.append_assoc]; rfl
    rw [this] at k
    exact ih h' (bs ++ [byteAt n j]) (by omega) (by rw [List.length_append]; simp; omega) l' B' k
theorem S_lay {n : Int} (B : Bu h0 h p bs) (l : h0.le h) (hl : bs.length + 8 < 100000000) (k : ∀ h', h0.le h' → Bu h0 h' p (bs ++ be8 n) → K (tuple #[]) h') : CallA Try.prog fn_ledger_lay [pointer (some ⟨p, 0, none⟩), .int .i64 n] h K := by
  refine F_ledger_lay _ _ _ _ ?_
  unfold F_ledger_layT
  exact lay_loop 8 h bs (Nat.le_refl 8) hl l B k
end
theorem eight {l : List Int} (h : l.length = 8) : l = [l.getD 0 0, l.getD 1 0, l.getD 2 0, l.getD 3 0, l.getD 4 0, l.getD 5 0, l.getD 6 0, l.getD 7 0] := by
  match l, h with
  | [a, b, c, d, e, f, g, i], _ => rfl
theorem take_snoc {l : List Int} {j : Nat} (h : j < l.length) : l.take (j + 1) = l.take j ++ [l.getD j 0] := by
  rw [List.take_add_one, List.getD_eq_getElem?_getD, List.getElem?_eq_getElem h]; rfl
section
variable {h0 : Heap} {K : Value → Heap → Prop} {p B C s rc : Nat} {sp : List Value} {S : Lg} {ap : Option Addr} {R : Mx}
/-- one row's amounts -/
theorem text_1 {tk : List Int} {q : Option Addr} {i n qc w : Nat} {t30 : Option Addr} {g : Heap} {l : Option Addr} {bs : List Int} (hw : tk.length = w) (h8 : w ≤ 8) (hbs : bs.length ≤ 10000) (I : Ints .i64 g q tk)
    (k : ∀ h', g.le h' → Bu g h' s (bs ++ tk.flatMap be8) → L_pledger_Ledger_Text_0 l s t30 n rc (n : Int) (IntKind.wrap .i64 ((i : Int) + 1)) h' K) :
    ∀ (m j : Nat) (h : Heap), m + j = w → g.le h → Bu g h s (bs ++ (tk.take j).flatMap be8) → L_pledger_Ledger_Text_1 l s t30 n rc (n : Int) (i : Int) q w qc (w : Int) (j : Int) h K := by
  intro m
  induction m with
  | zero =>
    intro j h hj lg B
    refine L_pledger_Ledger_Text_1r _ _ _ _ _ _ _ _ _ _ _ _ _ _ ?_
    unfold L_pledger_Ledger_Text_1T
    rw [List.take_of_length_le (by omega)] at B
    exact Br.no (by simp; omega) (k h lg B)
  | succ m ih =>
    intro j h hj lg B
    refine L_pledger_Ledger_Text_1r _ _ _ _ _ _ _ _ _ _ _ _ _ _ ?_
    unfold L_pledger_Ledger_Text_1T
    have hx : tk[j]? = some (tk.getD j 0) := by rw [List.getD_eq_getElem?_getD, List.getElem?_eq_getElem (by omega)]; rfl
    have I' : Ints .i64 h q tk := I.le lg
    have fm : ((tk.take j).flatMap be8).length ≤ 64 := by rw [be8_flat, List.length_take]; omega
    have w1 : IntKind.wrap .i64 ((j : Int) + 1) = ((j + 1 : Nat) : Int) := by rw [wrap_i64_id (by omega) (by omega)]; omega
    rw [w1]
    refine Br.yes (by simp; omega) (ix I' hw rfl hx (S_lay B lg (by rw [List.length_append]; omega) fun h' l' B' => ⟨rfl, ih (j + 1) h' (by omega) l' ?_⟩))
    rw [take_snoc (by omega), List.flatMap_append, List.flatMap_singleton, ← List.append_assoc]
    exact B'
theorem text_0 (A : LedAt h0 p B C sp S) {R : Mx} (h8 : ∀ r ∈ R, r.length = 8) (hR : R.length ≤ 17) {q : Option Addr} (k : ∀ h', h0.le h' → K (string (strOf (textG S))) h') (hS : textG S = (S.M.length : Int) :: (S.cur : Int) :: rowsT S.cur R) :
    ∀ (m i : Nat) (h g : Heap), m + i = R.length → h0.le g → g.le h → rdL g q (intsV .i64 R.flatten) → Bu g h s ((S.M.length : Int) :: (S.cur : Int) :: rowsT S.cur (R.take i)) → L_pledger_Ledger_Text_0 (some ⟨p, 0, none⟩) s q R.length rc (R.length : Int) (i : Int) h K := by
  have hw8 := A.sz.c8
  intro m
  induction m with
  | zero =>
    intro i h g hi l0 lg I Bx
    refine L_pledger_Ledger_Text_0r _ _ _ _ _ _ _ _ _ ?_
    unfold L_pledger_Ledger_Text_0T
    rw [List.take_of_length_le (by omega), ← hS] at Bx
    have := textG_small A.sz
    refine Br.no (by simp; omega) (S_BString Bx lg (by omega) (by unfold textG; simp) fun h' l' => ⟨_, rfl, Ret.mk (k h' (Heap.le_trans l0 l'))⟩)
  | succ m ih =>
    intro i h g hi l0 lg I Bx
    refine L_pledger_Ledger_Text_0r _ _ _ _ _ _ _ _ _ ?_
    unfold L_pledger_Ledger_Text_0T
    have hiR : i < R.length := by omega
    have hfl := flat_len h8
    have cl : ∀ c, c < 8 → ∀ b o, q = some ⟨b, o, none⟩ → h.cell b (o + i * 8 + c) = some (.int .i64 (rdM R i c)) := fun c hc b o e => by
      rcases rdL_le lg I with e2 | ⟨b', o', e2, r⟩
      · have := congrArg List.length e2
        rw [intsV_length, hfl] at this
        simp at this; omega
      · rw [e] at e2
        cases e2
        rw [Nat.add_assoc, r _ (by rw [intsV_length, hfl]; omega), intsV_map, List.getElem?_map, flat_get h8 hiR hc]; rfl
    obtain ⟨b, o, hq⟩ : ∃ b o, q = some ⟨b, o, none⟩ := by
      rcases I with e2 | ⟨b', o', e2, r⟩
      · have := congrArg List.length e2
        rw [intsV_length, hfl] at this
        simp at this; omega
      · exact ⟨b', o', e2⟩
    have hrow : (R.getD i []).length = 8 := by
      rw [List.getD_eq_getElem?_getD, List.getElem?_eq_getElem hiR]
      exact h8 _ (List.getElem_mem _)
    refine Br.yes (by simp; omega) ⟨by omega, by omega, withAddr_intro hq ?_⟩
    rw [Int.toNat_natCast]
    refine ⟨_, cl 0 (by omega) b o hq, _, cl 1 (by omega) b o hq, _, cl 2 (by omega) b o hq, _, cl 3 (by omega) b o hq, _, cl 4 (by omega) b o hq, _, cl 5 (by omega) b o hq, _, cl 6 (by omega) b o hq, _, cl 7 (by omega) b o hq, fun r hr => ?_⟩
    refine ⟨canSt_ins _ _ _ _ _ _ (by simp), ?_⟩
    rw [setN_ins]
    have ev : setL [Value.int .i64 0, .int .i64 0, .int .i64 0, .int .i64 0, .int .i64 0, .int .i64 0, .int .i64 0, .int .i64 0] 0 [Value.int .i64 (rdM R i 0), .int .i64 (rdM R i 1), .int .i64 (rdM R i 2), .int .i64 (rdM R i 3), .int .i64 (rdM R i 4), .int .i64 (rdM R i 5), .int .i64 (rdM R i 6), .int .i64 (rdM R i 7)] = intsV .i64 (R.getD i []) := by
      rw [eight hrow]; rfl
    rw [ev]
    have Bx2 := Bx.more (x := .cells (intsV .i64 (R.getD i [])).toArray 149 (0, 0)) hr
    have hgr := none_of_le lg hr
    have lg2 := ins_le_ins (r := r) (x := .cells (intsV .i64 (R.getD i [])).toArray 149 (0, 0)) lg
    have l0g : g.le (g.ins r (.cells (intsV .i64 (R.getD i [])).toArray 149 (0, 0))) := le_ins hgr
    have AR : At (g.ins r (.cells (intsV .i64 (R.getD i [])).toArray 149 (0, 0))) r (intsV .i64 (R.getD i [])) := At.new _ _ _ _
    have l02 := Heap.le_trans l0 l0g
    generalize h.ins r (.cells (intsV .i64 (R.getD i [])).toArray 149 (0, 0)) = h2 at *
    generalize g.ins r (.cells (intsV .i64 (R.getD i [])).toArray 149 (0, 0)) = g2 at *
    have A2 : LedAt h2 p B C sp S := A.le (Heap.le_trans l02 lg2)
    have sa : slAddr (some ⟨r, 0, none⟩) 0 8 1 = some ⟨r, 0, none⟩ := slAddr_zero _ _ _
    rw [sa]
    refine withAddr_intro rfl ⟨_, A2.cur, by omega, by omega, ?_⟩
    rw [Int.toNat_natCast, Nat.sub_zero]
    have htk : ((R.getD i []).take S.cur).length = S.cur := by rw [List.length_take, hrow]; omega
    have I2 : Ints .i64 g2 (some ⟨r, 0, none⟩) ((R.getD i []).take S.cur) := by
      have e3 : intsV .i64 (R.getD i []) = intsV .i64 ((R.getD i []).take S.cur) ++ intsV .i64 ((R.getD i []).drop S.cur) := by rw [← intsV_append, List.take_append_drop]
      rw [e3] at AR
      exact AR.toRd
    have hbl : (rowsT S.cur (R.take i)).length ≤ 17 * 64 := by
      rw [rowsT_length (fun x hx => h8 x (List.mem_of_mem_take hx)) hw8, List.length_take]
      exact Nat.mul_le_mul (by omega) (by omega)
    have w1 : IntKind.wrap .i64 ((i : Int) + 1) = ((i + 1 : Nat) : Int) := by rw [wrap_i64_id (by omega) (by omega)]; omega
    refine text_1 (bs := (S.M.length : Int) :: (S.cur : Int) :: rowsT S.cur (R.take i)) htk hw8 (by rw [List.length_cons, List.length_cons]; omega) I2 (fun h' l' B' => ?_) S.cur 0 h2 (by omega) lg2 (by simpa using Bx2)
    rw [w1]
    refine ih (i + 1) h' g2 (by omega) l02 l' (rdL_le l0g I) ?_
    have e4 : R.take (i + 1) = R.take i ++ [R.getD i []] := by rw [List.take_add_one, List.getD_eq_getElem?_getD, List.getElem?_eq_getElem hiR]; rfl
    have e5 : ∀ (X Y : Mx), rowsT S.cur (X ++ Y) = rowsT S.cur X ++ rowsT S.cur Y := fun X Y => by
      induction X with
      | nil => rfl
      | cons a X ih => rw [List.cons_append, rowsT, rowsT, ih, List.append_assoc]
    rw [e4, e5]
    have e6 : rowsT S.cur [R.getD i []] = ((R.getD i []).take S.cur).flatMap be8 := by rw [rowsT, rowsT, List.append_nil]; rfl
    rw [e6]
    exact B'
end
theorem wrap_u8_id {n : Nat} (h : n < 256) : IntKind.wrap IntKind.u8 (n : Int) = (n : Int) := by rw [wrap_u8]; omega
theorem S_lText {h : Heap} {K : Value → Heap → Prop} {p B C : Nat} {sp : List Value} {S : Lg} (A : LedAt h p B C sp S) (k : ∀ h', h.le h' → K (string (strOf (textG S))) h') : CallA Try.prog fn_pledger_Ledger_Text [pointer (some ⟨p, 0, none⟩)] h K := by
  refine F_pledger_Ledger_Text _ _ _ ?_
  unfold F_pledger_Ledger_TextT
  intro r hr
  have Bx := Bu.start hr
  have l1 : h.le (h.ins r (.cells [.pointer none, .slice none 0 0].toArray 157 (0, 0))) := le_ins hr
  generalize h.ins r (.cells [.pointer none, .slice none 0 0].toArray 157 (0, 0)) = h1 at *
  have n16 := A.sz.n16
  have c8 := A.sz.c8
  refine withAddr_intro rfl ⟨_, _, _, (A.le l1).rows, S_WriteByte Bx l1 (by simp) fun h2 l2 B2 => ⟨rfl, withAddr_intro rfl ⟨_, (A.le l2).cur, S_WriteByte B2 l2 (by simp) fun h3 l3 B3 => ⟨rfl, withAddr_intro rfl ?_⟩⟩⟩⟩
  rw [wrap_u8_id (by omega), wrap_u8_id (by omega)] at B3
  have A3 := A.le l3
  refine ⟨_, A3.nos (c := 0) (by omega), _, A3.nos (c := 1) (by omega), _, A3.nos (c := 2) (by omega), _, A3.nos (c := 3) (by omega), _, A3.nos (c := 4) (by omega), _, A3.nos (c := 5) (by omega), _, A3.nos (c := 6) (by omega), _, A3.nos (c := 7) (by omega), withAddr_intro rfl ⟨_, _, _, A3.rows, fun s hs => ?_⟩⟩
  have eN : [Value.int .i64 (S.N.getD 0 0), .int .i64 (S.N.getD 1 0), .int .i64 (S.N.getD 2 0), .int .i64 (S.N.getD 3 0), .int .i64 (S.N.getD 4 0), .int .i64 (S.N.getD 5 0), .int .i64 (S.N.getD 6 0), .int .i64 (S.N.getD 7 0)] = intsV .i64 S.N := by
    rw [eight A.sz.N8]; rfl
  rw [eN]
  have l4 : h3.le (h3.ins s (.cells (intsV .i64 S.N).toArray 149 (0, 0))) := le_ins hs
  have AN : At (h3.ins s (.cells (intsV .i64 S.N).toArray 149 (0, 0))) s (intsV .i64 S.N ++ []) := by rw [List.append_nil]; exact At.new _ _ _ _
  generalize h3.ins s (.cells (intsV .i64 S.N).toArray 149 (0, 0)) = h4 at *
  have A4 := A3.le l4
  have B4 := B3.le l4
  have l04 := Heap.le_trans l3 l4
  have hfl := flat_len A.sz.sh.2
  have n1 := A.sz.n1
  refine ⟨by omega, intsV .i64 S.M.flatten, by rw [intsV_length, hfl]; rfl, A4.ab.toRd, allCells_ints _ _, .inr ⟨by omega, intsV .i64 S.N, by rw [intsV_length, A.sz.N8]; rfl, AN.toRd, fun cap t hc ht => ?_⟩⟩
  have eR : intsV .i64 S.N ++ intsV .i64 S.M.flatten = intsV .i64 (S.N :: S.M).flatten := by rw [List.flatten_cons, intsV_append]
  rw [eR]
  have B5 := B4.more (x := .cells (intsV .i64 (S.N :: S.M).flatten ++ repL (cap - (1 + S.M.length)) [Value.int .i64 0, .int .i64 0, .int .i64 0, .int .i64 0, .int .i64 0, .int .i64 0, .int .i64 0, .int .i64 0]).toArray 149 (0, 0)) ht
  have lg := ins_le_ins (r := t) (x := .cells (intsV .i64 (S.N :: S.M).flatten ++ repL (cap - (1 + S.M.length)) [Value.int .i64 0, .int .i64 0, .int .i64 0, .int .i64 0, .int .i64 0, .int .i64 0, .int .i64 0, .int .i64 0]).toArray 149 (0, 0)) l04
  have I5 : rdL (h.ins t (.cells (intsV .i64 (S.N :: S.M).flatten ++ repL (cap - (1 + S.M.length)) [Value.int .i64 0, .int .i64 0, .int .i64 0, .int .i64 0, .int .i64 0, .int .i64 0, .int .i64 0, .int .i64 0]).toArray 149 (0, 0))) (some ⟨t, 0, none⟩) (intsV .i64 (S.N :: S.M).flatten) := (At.new _ _ _ _).toRd
  have e9 : 1 + S.M.length = (S.N :: S.M).length := by rw [List.length_cons]; omega
  rw [e9]
  rw [e9] at B5 lg I5
  exact text_0 A (all8 A.sz) (by rw [List.length_cons]; omega) k rfl (S.N :: S.M).length 0 _ _ (by omega) (le_ins (none_of_le l04 ht)) lg I5 B5
end Go.Proofs.Ytkcogdmddhkldaa
