import Derived.Test.YtghdadniddoboaaM12
import Derived.Test.YtghdadniddoboaaM14
/- A ledger as bytes. -/
namespace Go.Proofs.Ytghdadniddoboaa
open Go Go.Sy Go.Value
set_option linter.unusedVariables false
set_option linter.unusedSimpArgs false

theorem Bu.more {h0 h : Heap} {p r : Nat} {bs : List Int} {x : Obj} (b : Bu h0 h p bs) (hr : h r = none) : Bu (h0.ins r x) (h.ins r x) p bs := by
  obtain ⟨a, q, c, h1, h2, h3, h4⟩ := b.ex
  have hp : p ≠ r := fun e => by rw [← e, h1] at hr; cases hr
  refine ⟨?_, a, q, c, le_ins hr _ _ h1, h2, ?_, h4⟩
  · unfold Heap.ins; rw [if_neg hp]; exact b.new
  · rcases h3 with h3 | ⟨s, sp, e1, e2, e3, e4⟩
    · exact .inl h3
    · refine .inr ⟨s, sp, e1, ?_, le_ins hr _ _ e3, e4⟩
      unfold Heap.ins
      rw [if_neg (fun e => by rw [e, hr] at e3; cases e3)]; exact e2
theorem ins_le_ins {h0 h : Heap} {r : Nat} {x : Obj} (l : h0.le h) : (h0.ins r x).le (h.ins r x) := fun y o e => by
  unfold Heap.ins at e ⊢
  split
  · rename_i g; rw [if_pos g] at e; exact e
  · rename_i g; rw [if_neg g] at e; exact l y o e
/-- one row, and all -/
def rowT (w : Nat) (row : List Int) : List Int := (row.take w).flatMap be8
def rowsT (w : Nat) : Mx → List Int
  | [] => []
  | r :: M => rowT w r ++ rowsT w M
def textG (S : Lg) : List Int := (S.M.length : Int) :: (S.cur : Int) :: rowsT S.cur (S.N :: S.M)
theorem be8_flat (l : List Int) : (l.flatMap be8).length = l.length * 8 := by
  induction l with
  | nil => rfl
  | cons a l ih => rw [List.flatMap_cons, List.length_append, be8_length, ih, List.length_cons]; omega
theorem rowT_length {w : Nat} {row : List Int} (h : w ≤ row.length) : (rowT w row).length = w * 8 := by
  unfold rowT; rw [be8_flat, List.length_take]; congr 1; omega
theorem rowsT_length {w : Nat} : ∀ {M : Mx}, (∀ r ∈ M, r.length = 8) → w ≤ 8 → (rowsT w M).length = M.length * (w * 8)
  | [], _, _ => by simp [rowsT]
  | r :: M, h, hw => by
    rw [rowsT, List.length_append, rowT_length (by rw [h r (List.mem_cons_self ..)]; exact hw), rowsT_length (fun x hx => h x (List.mem_cons_of_mem _ hx)) hw, List.length_cons, Nat.succ_mul]; omega
theorem rowT_r (w : Nat) (row : List Int) : bytes (rowT w row) := fun b hb => by
  unfold rowT at hb
  obtain ⟨n, _, h⟩ := List.mem_flatMap.1 hb
  exact be8_r n b h
theorem rowsT_r (w : Nat) : ∀ M : Mx, bytes (rowsT w M)
  | [] => bytes_nil
  | r :: M => bytes_app (rowT_r w r) (rowsT_r w M)
theorem all8 {S : Lg} (o : S.Sz) : ∀ r ∈ S.N :: S.M, r.length = 8 := fun r hr => by
  rcases List.mem_cons.1 hr with rfl | hr
  · exact o.N8
  · exact o.sh.2 r hr
theorem textG_length {S : Lg} (o : S.Sz) : (textG S).length = 2 + (S.M.length + 1) * (S.cur * 8) := by
  unfold textG
  rw [List.length_cons, List.length_cons, rowsT_length (all8 o) o.c8, List.length_cons]; omega
theorem textG_r {S : Lg} (o : S.Sz) : bytes (textG S) := fun b hb => by
  unfold textG at hb
  have := o.n16
  have := o.c8
  rcases List.mem_cons.1 hb with rfl | hb
  · omega
  · rcases List.mem_cons.1 hb with rfl | hb
    · omega
    · exact rowsT_r _ _ b hb
theorem textG_small {S : Lg} (o : S.Sz) : (textG S).length ≤ 2000 := by
  rw [textG_length o]
  have := o.n16
  have := o.c8
  have : (S.M.length + 1) * (S.cur * 8) ≤ 17 * 64 := Nat.mul_le_mul (by omega) (by omega)
  omega
section
variable {h0 h : Heap} {K : Value → Heap → Prop} {p : Nat} {bs : List Int}
theorem lay_loop {n : Int} : ∀ (j : Nat) (h : Heap) (bs : List Int), j ≤ 8 → bs.length + j < 100000000 → h0.le h → Bu h0 h p bs → (∀ h', h0.le h' → Bu h0 h' p (bs ++ beF n j) → K (tuple #[]) h') →
    L_ledger_lay_0 (some ⟨p, 0, none⟩) n ((j : Int) - 1) h K := by
  intro j
  induction j with
  | zero =>
    intro h bs hj hl l B k
    refine L_ledger_lay_0r _ _ _ _ _ ?_
    unfold L_ledger_lay_0T
    exact Br.no (by simp) (Ret.mk (k h l (by rw [beF, List.append_nil]; exact B)))
  | succ j ih =>
    intro h bs hj hl l B k
    refine L_ledger_lay_0r _ _ _ _ _ ?_
    unfold L_ledger_lay_0T
    rw [show ((j + 1 : Nat) : Int) - 1 = (j : Int) by omega]
    have w1 : IntKind.wrap .i64 ((j : Int) - 1) = (j : Int) - 1 := wrap_i64_id (by omega) (by omega)
    rw [shift_byte n j (by omega), w1]
    refine Br.yes (decide_eq_true (by omega)) (Br.yes (decide_eq_true (by rw [wrap_i64_id (by omega) (by omega)]; omega)) (S_WriteByte B l (by omega) fun h' l' B' => ⟨rfl, ?_⟩))
    have : bs ++ beF n (j + 1) = (bs ++ [byteAt n j]) ++ beF n j := by rw [beF, List.append_assoc]; rfl
    rw [this] at k
    exact ih h' (bs ++ [byteAt n j]) (by omega) (by rw [List.length_append]; simp; omega) l' B' k
theorem S_lay {n : Int} (B : Bu h0 h p bs) (l : h0.le h) (hl : bs.length + 8 < 100000000) (k : ∀ h', h0.le h' → Bu h0 h' p (bs ++ be8 n) → K (tuple #[]) h') : CallA Try.prog fn_ledger_lay [pointer (some ⟨p, 0, none⟩), .int .i64 n] h K := by
  refine F_ledger_lay _ _ _ _ ?_
  unfold F_ledger_layT
  exact lay_loop 8 h bs (Nat.le_refl 8) hl l B k
end
theorem eight {l : List Int} (h : l.length = 8) : l = [l.getD 0 0, l.getD 1 0, l.getD 2 0, l.getD 3 0, l.getD 4 0, l.getD 5 0, l.getD 6 0, l.getD 7 0] := by
  match l, h with
  | [a, b, c, d, e, f, g, i], _ => rfl
theorem take_snoc {l : List Int} {j : Nat} (h : j < l.length) : l.take (j + 1) = l.take j ++ [l.getD j 0] := by
  rw [List.take_add_one, List.getD_eq_getElem?_getD, List.getElem?_eq_getElem h]; rfl
section
variable {h0 : Heap} {K : Value → Heap → Prop} {p B C s rc : Nat} {sp : List Value} {S : Lg} {ap : Option Addr} {R : Mx}
/-- one row's amounts -/
theorem text_1 {tk : List Int} {q : Option Addr} {i n qc w : Nat} {t30 : Option Addr} {g : Heap} {l : Option Addr} {bs : List Int} (hw : tk.length = w) (h8 : w ≤ 8) (hbs : bs.length ≤ 10000) (I : Ints .i64 g q tk)
    (k : ∀ h', g.le h' → Bu g h' s (bs ++ tk.flatMap be8) → L_pledger_Ledger_Text_0 l s t30 n rc (n : Int) (IntKind.wrap .i64 ((i : Int) + 1)) h' K) :
    ∀ (m j : Nat) (h : Heap), m + j = w → g.le h → Bu g h s (bs ++ (tk.take j).flatMap be8) → L_pledger_Ledger_Text_1 l s t30 n rc (n : Int) (i : Int) q w qc (w : Int) (j : Int) h K := by
  intro m
  induction m with
  | zero =>
    intro j h hj lg B
    refine L_pledger_Ledger_Text_1r _ _ _ _ _ _ _ _ _ _ _ _ _ _ ?_
    unfold L_pledger_Ledger_Text_1T
    rw [List.take_of_length_le (by omega)] at B
    exact Br.no (by simp; omega) (k h lg B)
  | succ m ih =>
    intro j h hj lg B
    refine L_pledger_Ledger_Text_1r _ _ _ _ _ _ _ _ _ _ _ _ _ _ ?_
    unfold L_pledger_Ledger_Text_1T
    have hx : tk[j]? = some (tk.getD j 0) := by rw [List.getD_eq_getElem?_getD, List.getElem?_eq_getElem (by omega)]; rfl
    have I' : Ints .i64 h q tk := I.le lg
    have fm : ((tk.take j).flatMap be8).length ≤ 64 := by rw [be8_flat, List.length_take]; omega
    have w1 : IntKind.wrap .i64 ((j : Int) + 1) = ((j + 1 : Nat) : Int) := by rw [wrap_i64_id (by omega) (by omega)]; omega
    rw [w1]
    refine Br.yes (by simp; omega) (ix I' hw rfl hx (S_lay B lg (by rw [List.length_append]; omega) fun h' l' B' => ⟨rfl, ih (j + 1) h' (by omega) l' ?_⟩))
    rw [take_snoc (by omega), List.flatMap_append, List.flatMap_singleton, ← List.append_assoc]
    exact B'
theorem text_0 (A : LedAt h0 p B C sp S) {R : Mx} (h8 : ∀ r ∈ R, r.length = 8) (hR : R.length ≤ 17) {q : Option Addr} (k : ∀ h', h0.le h' → K (string (strOf (textG S))) h') (hS : textG S = (S.M.length : Int) :: (S.cur : Int) :: rowsT S.cur R) :
    ∀ (m i : Nat) (h g : Heap), m + i = R.length → h0.le g → g.le h → rdL g q (intsV .i64 R.flatten) → Bu g h s ((S.M.length : Int) :: (S.cur : Int) :: rowsT S.cur (R.take i)) → L_pledger_Ledger_Text_0 (some ⟨p, 0, none⟩) s q R.length rc (R.length : Int) (i : Int) h K := by
  have hw8 := A.sz.c8
  intro m
  induction m with
  | zero =>
    intro i h g hi l0 lg I Bx
    refine L_pledger_Ledger_Text_0r _ _ _ _ _ _ _ _ _ ?_
    unfold L_pledger_Ledger_Text_0T
    rw [List.take_of_length_le (by omega), ← hS] at Bx
    have := textG_small A.sz
    refine Br.no (by simp; omega) (S_BString Bx lg (by omega) (by unfold textG; simp) fun h' l' => ⟨_, rfl, Ret.mk (k h' (Heap.le_trans l0 l'))⟩)
  | succ m ih =>
    intro i h g hi l0 lg I Bx
    refine L_pledger_Ledger_Text_0r _ _ _ _ _ _ _ _ _ ?_
    unfold L_pledger_Ledger_Text_0T
    have hiR : i < R.length := by omega
    have hfl := flat_len h8
    have cl : ∀ c, c < 8 → ∀ b o, q = some ⟨b, o, none⟩ → h.cell b (o + i * 8 + c) = some (.int .i64 (rdM R i c)) := fun c hc b o e => by
      rcases rdL_le lg I with e2 | ⟨b', o', e2, r⟩
      · have := congrArg List.length e2
        rw [intsV_length, hfl] at this
        simp at this; omega
      · rw [e] at e2
        cases e2
        rw [Nat.add_assoc, r _ (by rw [intsV_length, hfl]; omega), intsV_map, List.getElem?_map, flat_get h8 hiR hc]; rfl
    obtain ⟨b, o, hq⟩ : ∃ b o, q = some ⟨b, o, none⟩ := by
      rcases I with e2 | ⟨b', o', e2, r⟩
      · have := congrArg List.length e2
        rw [intsV_length, hfl] at this
        simp at this; omega
      · exact ⟨b', o', e2⟩
    have hrow : (R.getD i []).length = 8 := by
      rw [List.getD_eq_getElem?_getD, List.getElem?_eq_getElem hiR]
      exact h8 _ (List.getElem_mem _)
    refine Br.yes (by simp; omega) ⟨by omega, by omega, withAddr_intro hq ?_⟩
    rw [Int.toNat_natCast]
    refine ⟨_, cl 0 (by omega) b o hq, _, cl 1 (by omega) b o hq, _, cl 2 (by omega) b o hq, _, cl 3 (by omega) b o hq, _, cl 4 (by omega) b o hq, _, cl 5 (by omega) b o hq, _, cl 6 (by omega) b o hq, _, cl 7 (by omega) b o hq, fun r hr => ?_⟩
    refine ⟨canSt_ins _ _ _ _ _ _ (by simp), ?_⟩
    rw [setN_ins]
    have ev : setL [Value.int .i64 0, .int .i64 0, .int .i64 0, .int .i64 0, .int .i64 0, .int .i64 0, .int .i64 0, .int .i64 0] 0 [Value.int .i64 (rdM R i 0), .int .i64 (rdM R i 1), .int .i64 (rdM R i 2), .int .i64 (rdM R i 3), .int .i64 (rdM R i 4), .int .i64 (rdM R i 5), .int .i64 (rdM R i 6), .int .i64 (rdM R i 7)] = intsV .i64 (R.getD i []) := by
      rw [eight hrow]; rfl
    rw [ev]
    have Bx2 := Bx.more (x := .cells (intsV .i64 (R.getD i [])).toArray 123 (0, 0)) hr
    have hgr := none_of_le lg hr
    have lg2 := ins_le_ins (r := r) (x := .cells (intsV .i64 (R.getD i [])).toArray 123 (0, 0)) lg
    have l0g : g.le (g.ins r (.cells (intsV .i64 (R.getD i [])).toArray 123 (0, 0))) := le_ins hgr
    have AR : At (g.ins r (.cells (intsV .i64 (R.getD i [])).toArray 123 (0, 0))) r (intsV .i64 (R.getD i [])) := At.new _ _ _ _
    have l02 := Heap.le_trans l0 l0g
    generalize h.ins r (.cells (intsV .i64 (R.getD i [])).toArray 123 (0, 0)) = h2 at *
    generalize g.ins r (.cells (intsV .i64 (R.getD i [])).toArray 123 (0, 0)) = g2 at *
    have A2 : LedAt h2 p B C sp S := A.le (Heap.le_trans l02 lg2)
    have sa : slAddr (some ⟨r, 0, none⟩) 0 8 1 = some ⟨r, 0, none⟩ := slAddr_zero _ _ _
    rw [sa]
    refine withAddr_intro rfl ⟨_, A2.cur, by omega, by omega, ?_⟩
    rw [Int.toNat_natCast, Nat.sub_zero]
    have htk : ((R.getD i []).take S.cur).length = S.cur := by rw [List.length_take, hrow]; omega
    have I2 : Ints .i64 g2 (some ⟨r, 0, none⟩) ((R.getD i []).take S.cur) := by
      have e3 : intsV .i64 (R.getD i []) = intsV .i64 ((R.getD i []).take S.cur) ++ intsV .i64 ((R.getD i []).drop S.cur) := by rw [← intsV_append, List.take_append_drop]
      rw [e3] at AR
      exact AR.toRd
    have hbl : (rowsT S.cur (R.take i)).length ≤ 17 * 64 := by
      rw [rowsT_length (fun x hx => h8 x (List.mem_of_mem_take hx)) hw8, List.length_take]
      exact Nat.mul_le_mul (by omega) (by omega)
    have w1 : IntKind.wrap .i64 ((i : Int) + 1) = ((i + 1 : Nat) : Int) := by rw [wrap_i64_id (by omega) (by omega)]; omega
    refine text_1 (bs := (S.M.length : Int) :: (S.cur : Int) :: rowsT S.cur (R.take i)) htk hw8 (by rw [List.length_cons, List.length_cons]; omega) I2 (fun h' l' B' => ?_) S.cur 0 h2 (by omega) lg2 (by simpa using Bx2)
    rw [w1]
    refine ih (i + 1) h' g2 (by omega) l02 l' (rdL_le l0g I) ?_
    have e4 : R.take (i + 1) = R.take i ++ [R.getD i []] := by rw [List.take_add_one, List.getD_eq_getElem?_getD, List.getElem?_eq_getElem hiR]; rfl
    have e5 : ∀ (X Y : Mx), rowsT S.cur (X ++ Y) = rowsT S.cur X ++ rowsT S.cur Y := fun X Y => by
      induction X with
      | nil => rfl
      | cons a X ih => rw [List.cons_append, rowsT, rowsT, ih, List.append_assoc]
    rw [e4, e5]
    have e6 : rowsT S.cur [R.getD i []] = ((R.getD i []).take S.cur).flatMap be8 := by rw [rowsT, rowsT, List.append_nil]; rfl
    rw [e6]
    exact B'
end
theorem wrap_u8_id {n : Nat} (h : n < 256) : IntKind.wrap IntKind.u8 (n : Int) = (n : Int) := by rw [wrap_u8]; omega
theorem S_lText {h : Heap} {K : Value → Heap → Prop} {p B C : Nat} {sp : List Value} {S : Lg} (A : LedAt h p B C sp S) (k : ∀ h', h.le h' → K (string (strOf (textG S))) h') : CallA Try.prog fn_pledger_Ledger_Text [pointer (some ⟨p, 0, none⟩)] h K := by
  refine F_pledger_Ledger_Text _ _ _ ?_
  unfold F_pledger_Ledger_TextT
  intro r hr
  have Bx := Bu.start hr
  have l1 : h.le (h.ins r (.cells [.pointer none, .slice none 0 0].toArray 205 (0, 0))) := le_ins hr
  generalize h.ins r (.cells [.pointer none, .slice none 0 0].toArray 205 (0, 0)) = h1 at *
  have n16 := A.sz.n16
  have c8 := A.sz.c8
  refine withAddr_intro rfl ⟨_, _, _, (A.le l1).rows, S_WriteByte Bx l1 (by simp) fun h2 l2 B2 => ⟨rfl, withAddr_intro rfl ⟨_, (A.le l2).cur, S_WriteByte B2 l2 (by simp) fun h3 l3 B3 => ⟨rfl, withAddr_intro rfl ?_⟩⟩⟩⟩
  rw [wrap_u8_id (by omega), wrap_u8_id (by omega)] at B3
  have A3 := A.le l3
  refine ⟨_, A3.nos (c := 0) (by omega), _, A3.nos (c := 1) (by omega), _, A3.nos (c := 2) (by omega), _, A3.nos (c := 3) (by omega), _, A3.nos (c := 4) (by omega), _, A3.nos (c := 5) (by omega), _, A3.nos (c := 6) (by omega), _, A3.nos (c := 7) (by omega), withAddr_intro rfl ⟨_, _, _, A3.rows, fun s hs => ?_⟩⟩
  have eN : [Value.int .i64 (S.N.getD 0 0), .int .i64 (S.N.getD 1 0), .int .i64 (S.N.getD 2 0), .int .i64 (S.N.getD 3 0), .int .i64 (S.N.getD 4 0), .int .i64 (S.N.getD 5 0), .int .i64 (S.N.getD 6 0), .int .i64 (S.N.getD 7 0)] = intsV .i64 S.N := by
    rw [eight A.sz.N8]; rfl
  rw [eN]
  have l4 : h3.le (h3.ins s (.cells (intsV .i64 S.N).toArray 123 (0, 0))) := le_ins hs
  have AN : At (h3.ins s (.cells (intsV .i64 S.N).toArray 123 (0, 0))) s (intsV .i64 S.N ++ []) := by rw [List.append_nil]; exact At.new _ _ _ _
  generalize h3.ins s (.cells (intsV .i64 S.N).toArray 123 (0, 0)) = h4 at *
  have A4 := A3.le l4
  have B4 := B3.le l4
  have l04 := Heap.le_trans l3 l4
  have hfl := flat_len A.sz.sh.2
  have n1 := A.sz.n1
  refine ⟨by omega, intsV .i64 S.M.flatten, by rw [intsV_length, hfl]; rfl, A4.ab.toRd, allCells_ints _ _, .inr ⟨by omega, intsV .i64 S.N, by rw [intsV_length, A.sz.N8]; rfl, AN.toRd, fun cap t hc ht => ?_⟩⟩
  have eR : intsV .i64 S.N ++ intsV .i64 S.M.flatten = intsV .i64 (S.N :: S.M).flatten := by rw [List.flatten_cons, intsV_append]
  rw [eR]
  have B5 := B4.more (x := .cells (intsV .i64 (S.N :: S.M).flatten ++ repL (cap - (1 + S.M.length)) [Value.int .i64 0, .int .i64 0, .int .i64 0, .int .i64 0, .int .i64 0, .int .i64 0, .int .i64 0, .int .i64 0]).toArray 123 (0, 0)) ht
  have lg := ins_le_ins (r := t) (x := .cells (intsV .i64 (S.N :: S.M).flatten ++ repL (cap - (1 + S.M.length)) [Value.int .i64 0, .int .i64 0, .int .i64 0, .int .i64 0, .int .i64 0, .int .i64 0, .int .i64 0, .int .i64 0]).toArray 123 (0, 0)) l04
  have I5 : rdL (h.ins t (.cells (intsV .i64 (S.N :: S.M).flatten ++ repL (cap - (1 + S.M.length)) [Value.int .i64 0, .int .i64 0, .int .i64 0, .int .i64 0, .int .i64 0, .int .i64 0, .int .i64 0, .int .i64 0]).toArray 123 (0, 0))) (some ⟨t, 0, none⟩) (intsV .i64 (S.N :: S.M).flatten) := (At.new _ _ _ _).toRd
  have e9 : 1 + S.M.length = (S.N :: S.M).length := by rw [List.length_cons]; omega
  rw [e9]
  rw [e9] at B5 lg I5
  exact text_0 A (all8 A.sz) (by rw [List.length_cons]; omega) k rfl (S.N :: S.M).length 0 _ _ (by omega) (le_ins (none_of_le l04 ht)) lg I5 B5
end Go.Proofs.Ytghdadniddoboaa

/- A ledger, read from its bytes. -/
namespace Go.Proofs.Ytghdadniddoboaa
open Go Go.Sy Go.Value
set_option linter.unusedVariables false
set_option linter.unusedSimpArgs false

theorem setL_snoc : ∀ (ws : List Value) (c : List Value) (o : Nat) (w : Value), setL c o (ws ++ [w]) = setL (setL c o ws) (o + ws.length) [w]
  | [], c, o, w => by simp [setL]
  | a :: ws, c, o, w => by
    show setL (setT c o a) (o + 1) (ws ++ [w]) = setL (setL (setT c o a) (o + 1) ws) (o + (ws.length + 1)) [w]
    rw [setL_snoc ws, show o + 1 + ws.length = o + (ws.length + 1) by omega]
theorem setL_len : ∀ (ws : List Value) (c : List Value) (o : Nat), (setL c o ws).length = c.length
  | [], c, o => rfl
  | a :: ws, c, o => by rw [setL, setL_len ws, setT_eq, List.length_set]
theorem row_zero {row : List Int} {w : Nat} (h8 : row.length = 8) (hw : w ≤ 8) (z : ∀ c, w ≤ c → row.getD c 0 = 0) : row = row.take w ++ List.replicate (8 - w) 0 := by
  refine List.ext_getElem (by rw [List.length_append, List.length_take, List.length_replicate]; omega) fun i h1 h2 => ?_
  by_cases hi : i < w
  · rw [List.getElem_append_left (by rw [List.length_take]; omega), List.getElem_take]
  · rw [List.getElem_append_right (by rw [List.length_take]; omega), List.getElem_replicate]
    have := z i (by omega)
    rw [List.getD_eq_getElem?_getD, List.getElem?_eq_getElem h1] at this
    exact this
theorem fill_row {row : List Int} {w : Nat} {pre post : List Value} (h8 : row.length = 8) (hw : w ≤ 8) (z : ∀ c, w ≤ c → row.getD c 0 = 0) :
    setL (pre ++ (intsV .i64 (List.replicate 8 0) ++ post)) pre.length (intsV .i64 (row.take w)) = pre ++ (intsV .i64 row ++ post) := by
  have hl : (intsV .i64 (row.take w)).length = w := by rw [intsV_length, List.length_take]; omega
  rw [setL_end _ _ _ (by rw [hl, List.length_append, intsV_length, List.length_replicate]; omega), hl, List.append_assoc]
  congr 1
  have e : intsV .i64 row = intsV .i64 (row.take w) ++ intsV .i64 (List.replicate (8 - w) 0) := by rw [← intsV_append, ← row_zero h8 hw z]
  rw [e, List.append_assoc]
  congr 1
  rw [List.drop_append_of_le_length (by rw [intsV_length, List.length_replicate]; omega)]
  congr 1
  have e2 : List.replicate 8 (0 : Int) = List.replicate w 0 ++ List.replicate (8 - w) 0 := by rw [List.replicate_append_replicate]; congr 1; omega
  rw [e2, intsV_append, List.drop_left' (by rw [intsV_length, List.length_replicate])]
section
variable {h0 : Heap} {K : Value → Heap → Prop}
/-- eight bytes, added up -/
theorem dec_loop {r : Option Addr} {t2 : Nat} {cur w v : Int} {bs : List Int} {q : Option Addr} {qc : Nat} {h : Heap} {N : Nat} (hN : bs.length = N) (hq : N ≤ 8) (hb : bytes bs) (I : rdL h q (u8V bs))
    (k : L_ledger_Read_1_1 r t2 cur v w cur q N qc (N : Int) (N : Int) h K) : ∀ (m j : Nat) (n : Int), m + j = N → decL n (bs.drop j) = v → L_ledger_Read_1_1 r t2 cur n w cur q N qc (N : Int) (j : Int) h K := by
  intro m
  induction m with
  | zero =>
    intro j n hj e
    rw [List.drop_eq_nil_of_le (by omega)] at e
    have e : n = v := e
    have ej : j = N := by omega
    subst e ej
    exact k
  | succ m ih =>
    intro j n hj e
    refine L_ledger_Read_1_1r _ _ _ _ _ _ _ _ _ _ _ _ _ ?_
    unfold L_ledger_Read_1_1T
    have hx : bs[j]? = some bs[j] := List.getElem?_eq_getElem (by omega)
    rw [List.drop_eq_getElem_cons (by omega : j < bs.length), decL] at e
    have hr := hb bs[j] (List.getElem_mem _)
    have I' : Ints .u8 h q bs := by
      unfold Ints
      rw [intsV_map, ← u8V_map]; exact I
    refine Br.yes (by simp; omega) (ix I' hN rfl hx ?_)
    rw [dec_step hr, wrap_i64_id (n := (j : Int) + 1) (by omega) (by omega)]
    exact ih (j + 1) _ (by omega) e
/-- one row -/
theorem take_0 {b o t2 w : Nat} {tk : List Int} {vs : List Value} {tail : List Int} (nb : h0 b = none) (n2 : h0 t2 = none) (hne : b ≠ t2) (hw : tk.length = w) (h8 : w ≤ 8) (hI : ∀ v ∈ tk, I64 v) (ho : o + 8 ≤ vs.length) {X : Heap → Prop}
    (kX : ∀ h h' : Heap, h.le h' → X h → X h') (kb : ∀ h i ws, X h → X (h.setN b i ws)) (k2 : ∀ h i ws, X h → X (h.setN t2 i ws))
    (k : ∀ h' s', h0.le h' → At h' b (setL vs o (intsV .i64 tk)) → At h' t2 [.string s'] → bytesI s' = tail → X h' → K (tuple #[]) h') :
    ∀ (m j : Nat) (h : Heap) (s : ByteArray), m + j = w → h0.le h → At h b (setL vs o (intsV .i64 (tk.take j))) → At h t2 [.string s] → bytesI s = (tk.drop j).flatMap be8 ++ tail → X h →
    L_ledger_Read_1_0 (some ⟨b, o, none⟩) t2 (w : Int) (j : Int) h K := by
  intro m
  induction m with
  | zero =>
    intro j h s hj l0 Ab A2 e x
    refine L_ledger_Read_1_0r _ _ _ _ _ _ ?_
    unfold L_ledger_Read_1_0T
    rw [List.drop_eq_nil_of_le (by omega)] at e
    rw [List.take_of_length_le (by omega)] at Ab
    exact Br.no (by simp; omega) (Ret.mk (k h s l0 Ab A2 e x))
  | succ m ih =>
    intro j h s hj l0 Ab A2 e x
    refine L_ledger_Read_1_0r _ _ _ _ _ _ ?_
    unfold L_ledger_Read_1_0T
    have hjl : j < tk.length := by omega
    have hv := hI tk[j] (List.getElem_mem _)
    have htake := take_snoc hjl
    rw [List.getD_eq_getElem?_getD, List.getElem?_eq_getElem hjl] at htake
    dsimp only [Option.getD_some] at htake
    rw [List.drop_eq_getElem_cons hjl, List.flatMap_cons, List.append_assoc] at e
    generalize tk[j] = v at *
    have hsz : 8 ≤ s.size := by rw [← bytesI_length, e, List.length_append, be8_length]; omega
    have e8 : bytesI (s.extract 0 8) = be8 v := by
      rw [bytesI_extract, e, List.drop_zero, List.take_left' (be8_length v)]
    have e9 : bytesI (s.extract 8 s.size) = (tk.drop (j + 1)).flatMap be8 ++ tail := by
      rw [bytesI_extract, List.take_of_length_le (by rw [bytesI_length]; exact Nat.le_refl _), e, List.drop_left' (be8_length v)]
    have hs8 : (s.extract 0 8).size = 8 := by rw [← bytesI_length, e8, be8_length]
    have w1 : IntKind.wrap .i64 ((j : Int) + 1) = ((j + 1 : Nat) : Int) := by rw [wrap_i64_id (by omega) (by omega)]; omega
    refine Br.yes (by simp; omega) ⟨s, A2.cell rfl, by omega, by omega, fun cap r hc hr => ?_⟩
    rw [hs8, e8]
    have lr : h.le (h.ins r (.cells (u8V (be8 v) ++ List.replicate (cap - 8) (Value.int IntKind.u8 0)).toArray 5 (cap, cap + 1))) := le_ins hr
    have rd : rdL (h.ins r (.cells (u8V (be8 v) ++ List.replicate (cap - 8) (Value.int IntKind.u8 0)).toArray 5 (cap, cap + 1))) (some ⟨r, 0, none⟩) (u8V (be8 v)) := rdL_take (rdL_new _ _ _ _ _)
    generalize h.ins r (.cells (u8V (be8 v) ++ List.replicate (cap - 8) (Value.int IntKind.u8 0)).toArray 5 (cap, cap + 1)) = h1 at *
    refine dec_loop (N := 8) (be8_length v) (Nat.le_refl _) (be8_r v) rd ?_ 8 0 0 (by omega) (dec_be8 hv)
    refine L_ledger_Read_1_1r _ _ _ _ _ _ _ _ _ _ _ _ _ ?_
    unfold L_ledger_Read_1_1T
    have Ab1 := Ab.le lr
    have A21 := A2.le lr
    have hj8 : j < 8 := by omega
    have Ab2 := Ab1.set (o := o + j) (ws := [.int .i64 v])
    have hl : (intsV .i64 (tk.take j)).length = j := by rw [intsV_length, List.length_take]; omega
    have es : setL (setL vs o (intsV .i64 (tk.take j))) (o + j) [.int .i64 v] = setL vs o (intsV .i64 (tk.take (j + 1))) := by
      rw [htake, intsV_append]
      show _ = setL vs o (intsV .i64 (tk.take j) ++ [.int .i64 v])
      rw [setL_snoc, hl]
    rw [es] at Ab2
    have A22 := A21.set_ne (o := o + j) (ws := [.int .i64 v]) (fun e => hne e.symm)
    refine Br.no (by simp) (withAddr_intro rfl (br8 hj8 ⟨Ab1.canSt (by rw [setL_len]; simp; omega), s, A22.cell rfl, by omega, by omega, A22.canSt (by simp), ?_⟩))
    rw [w1]
    refine ih (j + 1) _ (s.extract 8 s.size) (by omega) (le_setN (le_setN (Heap.le_trans l0 lr) nb) n2) (Ab2.set_ne hne) A22.set e9 (k2 _ _ _ (kb _ _ _ (kX _ _ lr x)))
theorem S_take {p b o c0 t2 w : Nat} {tk : List Int} {vs : List Value} {tail : List Int} {h : Heap} {s : ByteArray} (nb : h0 b = none) (n2 : h0 t2 = none) (hne : b ≠ t2) (hw : tk.length = w) (h8 : w ≤ 8) (hI : ∀ v ∈ tk, I64 v) (ho : o + 8 ≤ vs.length) {X : Heap → Prop}
    (kX : ∀ h h' : Heap, h.le h' → X h → X h') (kb : ∀ h i ws, X h → X (h.setN b i ws)) (k2 : ∀ h i ws, X h → X (h.setN t2 i ws)) (l0 : h0.le h) (Ab : At h b vs) (A2 : At h t2 [.string s]) (e : bytesI s = tk.flatMap be8 ++ tail) (x : X h)
    (hc : h.cell c0 0 = some (.pointer (some ⟨p, 0, none⟩))) (hp : h.cell p 9 = some (.int .i64 (w : Int)))
    (k : ∀ h' s', h0.le h' → At h' b (setL vs o (intsV .i64 tk)) → At h' t2 [.string s'] → bytesI s' = tail → X h' → K (tuple #[]) h') :
    CallA Try.prog fn_ledger_Read_1 [pointer (some ⟨b, o, none⟩), pointer (some ⟨c0, 0, none⟩), pointer (some ⟨t2, 0, none⟩)] h K := by
  refine F_ledger_Read_1 _ _ _ _ _ ?_
  unfold F_ledger_Read_1T
  exact ⟨_, hc, withAddr_intro rfl ⟨_, by rw [Nat.zero_add]; exact hp, take_0 nb n2 hne hw h8 hI ho kX kb k2 k w 0 h s (by omega) l0 Ab A2 e x⟩⟩
/-- the rows, one by one -/
theorem read_0 {p B C r t2 : Nat} {sp : List Value} {S : Lg} (o : S.Ok) (np : h0 p = none) (nB : h0 B = none) (nr : h0 r = none) (n2 : h0 t2 = none) (hpB : p ≠ B) (hp2 : p ≠ t2) (hB2 : B ≠ t2) (hrB : r ≠ B) (hr2 : r ≠ t2)
    (k : ∀ h', h0.le h' → LedAt h' p B C sp S → At h' r [.pointer (some ⟨p, 0, none⟩)] → L_ledger_Read_0 r r t2 (S.M.length : Int) (S.M.length : Int) h' K) :
    ∀ (m i : Nat) (h : Heap) (s : ByteArray), m + i = S.M.length → h0.le h → At h p (ledV B C S) → At h B (intsV .i64 (S.M.take i ++ List.replicate (S.M.length - i) (List.replicate 8 0)).flatten ++ sp) → At h r [.pointer (some ⟨p, 0, none⟩)] → At h t2 [.string s] → bytesI s = rowsT S.cur (S.M.drop i) →
    L_ledger_Read_0 r r t2 (S.M.length : Int) (i : Int) h K := by
  intro m
  induction m with
  | zero =>
    intro i h s hi l0 Ap AB Ar A2 e
    have : i = S.M.length := by omega
    subst this
    rw [List.take_of_length_le (Nat.le_refl _), Nat.sub_self, List.replicate_zero, List.append_nil] at AB
    exact k h l0 ⟨Ap, AB, hpB, o.toSz⟩ Ar
  | succ m ih =>
    intro i h s hi l0 Ap AB Ar A2 e
    refine L_ledger_Read_0r _ _ _ _ _ _ _ ?_
    unfold L_ledger_Read_0T
    have hil : i < S.M.length := by omega
    have hrow := o.sh.2 S.M[i] (List.getElem_mem _)
    have hget : S.M.getD i [] = S.M[i] := by rw [List.getD_eq_getElem?_getD, List.getElem?_eq_getElem hil]; rfl
    rw [List.drop_eq_getElem_cons hil, rowsT] at e
    have hz : ∀ c, S.cur ≤ c → S.M[i].getD c 0 = 0 := fun c hc => by
      have := o.z i c hc
      unfold rdM at this
      rw [hget] at this; exact this
    have hI : ∀ v ∈ S.M[i].take S.cur, I64 v := fun v hv => by
      obtain ⟨c, hc⟩ := List.getElem?_of_mem (List.mem_of_mem_take hv)
      have := o.i64 i c
      unfold rdM at this
      rw [hget, List.getD_eq_getElem?_getD, hc] at this; exact this
    have htk : S.M.take (i + 1) = S.M.take i ++ [S.M[i]] := by rw [List.take_add_one, List.getElem?_eq_getElem hil]; rfl
    have hpl : (S.M.take i).flatten.length = i * 8 := by
      rw [flat_len (fun x hx => o.sh.2 x (List.mem_of_mem_take hx)), List.length_take]
      congr 1; omega
    generalize S.M[i] = row at *
    have w1 : IntKind.wrap .i64 ((i : Int) + 1) = ((i + 1 : Nat) : Int) := by
      have := o.n16
      rw [wrap_i64_id (by omega) (by omega)]; omega
    have eb : intsV .i64 (S.M.take i ++ List.replicate (S.M.length - i) (List.replicate 8 0)).flatten ++ sp = intsV .i64 (S.M.take i).flatten ++ (intsV .i64 (List.replicate 8 0) ++ (intsV .i64 (List.replicate (S.M.length - (i + 1)) (List.replicate 8 (0 : Int))).flatten ++ sp)) := by
      rw [show S.M.length - i = (S.M.length - (i + 1)) + 1 by omega, List.replicate_succ, List.flatten_append, List.flatten_cons, intsV_append, intsV_append]
      simp only [List.append_assoc]
    rw [eb] at AB
    have c9 : ∀ h, At h p (ledV B C S) → h.cell p 9 = some (.int .i64 (S.cur : Int)) := fun h A => A.cell (by
      show (intsV .i64 S.N ++ [.int .i64 (S.cur : Int)])[8]? = _
      rw [List.getElem?_append_right (by rw [intsV_length, o.N8]; omega), intsV_length, o.N8]; rfl)
    refine Br.yes (by simp; omega) ⟨_, Ar.cell rfl, withAddr_intro rfl ⟨_, _, _, Ap.cell rfl, by omega, by omega, withAddr_intro rfl ?_⟩⟩
    rw [Int.toNat_natCast, Nat.zero_add]
    refine S_take (vs := intsV .i64 (S.M.take i).flatten ++ (intsV .i64 (List.replicate 8 0) ++ (intsV .i64 (List.replicate (S.M.length - (i + 1)) (List.replicate 8 (0 : Int))).flatten ++ sp))) (X := fun h => At h p (ledV B C S) ∧ At h r [.pointer (some ⟨p, 0, none⟩)]) nB n2 hB2 (w := S.cur) (tk := row.take S.cur) (by rw [List.length_take]; have := o.c8; omega) o.c8 hI (by simp only [List.length_append, intsV_length, hpl, List.length_replicate]; omega)
      (fun h h' l x => ⟨x.1.le l, x.2.le l⟩) (fun h i ws x => ⟨x.1.set_ne hpB, x.2.set_ne hrB⟩) (fun h i ws x => ⟨x.1.set_ne hp2, x.2.set_ne hr2⟩) l0 AB A2 e ⟨Ap, Ar⟩ (Ar.cell rfl) (c9 h Ap) ?_
    intro h' s' l' AB' A2' e' x'
    refine ⟨rfl, ?_⟩
    rw [w1]
    have hpl2 : i * 8 = (intsV .i64 (S.M.take i).flatten).length := by rw [intsV_length, hpl]
    rw [hpl2, fill_row hrow o.c8 hz] at AB'
    refine ih (i + 1) h' s' (by omega) l' x'.1 ?_ x'.2 A2' e'
    have : intsV .i64 (S.M.take (i + 1) ++ List.replicate (S.M.length - (i + 1)) (List.replicate 8 0)).flatten ++ sp = intsV .i64 (S.M.take i).flatten ++ (intsV .i64 row ++ (intsV .i64 (List.replicate (S.M.length - (i + 1)) (List.replicate 8 (0 : Int))).flatten ++ sp)) := by
      rw [htk]
      simp only [List.flatten_append, intsV_append, List.append_assoc, List.flatten_cons, List.flatten_nil, List.append_nil]
    rw [this]; exact AB'
end
section
variable {K : Value → Heap → Prop} {p B C : Nat} {sp : List Value} {S : Lg}
/-- one column's sum -/
theorem read_2 {l s : Nat} (o : S.Ok) {h0 : Heap} (A : LedAt h0 p B C sp S) (Al : At h0 l [.pointer (some ⟨p, 0, none⟩)]) {c : Nat} (hc : c < S.cur) {vs : List Value} (As : At h0 s vs) (hs : vs.length = 8)
    (k : ∀ h', h0.le h' → L_ledger_Read_1 l s (S.cur : Int) (IntKind.wrap .i64 ((c : Int) + 1)) (h'.setN s (0 + c) [.int .i64 (S.N.getD c 0)]) K) :
    ∀ (m j : Nat) (h : Heap) (of : Option Addr) (oc : Nat) (ws : List Int), m + j = S.M.length → h0.le h → OwnL h0 h [.int .i64 0] of oc (intsV .i64 ws) → ws = (colM S.M c).take j →
    L_ledger_Read_2 l s (c : Int) of ws.length oc (S.cur : Int) (c : Int) (S.M.length : Int) (j : Int) h K := by
  have n16 := o.n16
  have c8 := o.c8
  have hlc : (colM S.M c).length = S.M.length := by unfold colM; rw [List.length_map]
  intro m
  induction m with
  | zero =>
    intro j h of oc ws hj l0 own e
    refine L_ledger_Read_2r _ _ _ _ _ _ _ _ _ _ _ _ ?_
    unfold L_ledger_Read_2T
    rw [List.take_of_length_le (by omega)] at e
    subst e
    have hI : allI64 (colM S.M c) := fun v hv => by
      obtain ⟨i, hi⟩ := List.getElem?_of_mem hv
      have hil : i < S.M.length := by rw [← hlc]; exact (List.getElem?_eq_some_iff.1 hi).1
      rw [colM_get _ _ _ hil] at hi
      rw [← Option.some.inj hi]
      exact o.i64 i c
    refine Br.no (by simp; omega) (S_Sum (by omega) hI h own.rd _ ⟨_, _, rfl, ?_⟩)
    rw [o.sum c, fit_ok (o.n64 c)]
    exact Br.no rfl (br8 (by omega) ⟨(As.le l0).canSt (by rw [hs, Int.toNat_natCast]; omega), k h l0⟩)
  | succ m ih =>
    intro j h of oc ws hj l0 own e
    refine L_ledger_Read_2r _ _ _ _ _ _ _ _ _ _ _ _ ?_
    unfold L_ledger_Read_2T
    have hwl : ws.length ≤ j := by rw [e, List.length_take]; omega
    have w1 : IntKind.wrap .i64 ((j : Int) + 1) = ((j + 1 : Nat) : Int) := by rw [wrap_i64_id (by omega) (by omega)]; omega
    refine Br.yes (by simp; omega) ⟨_, (Al.le l0).cell rfl, (A.le l0).get (by omega) (by omega) fun r hr => ?_⟩
    refine (own.le (le_ins hr)).push (by decide) (le_ins2 l0 hr) (by omega) (n := 1) (ws := intsV .i64 [rdM S.M j c]) rfl (rdL_new _ _ _ _ _) (allCells_ints _ _) (by rw [intsV_length]; simp) ?_
    intro p' c' h' l' w' _ _
    rw [w1]
    rw [← intsV_append] at w'
    have := ih (j + 1) h' p' c' (ws ++ [rdM S.M j c]) (by omega) l' w' (by rw [e, List.take_add_one, colM_get _ _ _ (by omega)]; rfl)
    rw [List.length_append] at this
    exact this
theorem read_1 {l s : Nat} (o : S.Ok) {g : Heap} (ng : g s = none) (hsp : s ≠ p) (hsB : s ≠ B) (hsl : s ≠ l)
    (k : ∀ h', g.le h' → LedAt h' p B C sp S → K (tuple #[.pointer (some ⟨p, 0, none⟩), .int .i64 0]) h') :
    ∀ (m c : Nat) (h : Heap), m + c = S.cur → g.le h → LedAt h p B C sp S → At h l [.pointer (some ⟨p, 0, none⟩)] → At h s (setL (intsV .i64 (List.replicate 8 0)) 0 (intsV .i64 (S.N.take c))) → L_ledger_Read_1 l s (S.cur : Int) (c : Int) h K := by
  have c8 := o.c8
  have hN8 := o.N8
  intro m
  induction m with
  | zero =>
    intro c h hc lg A Al As
    refine L_ledger_Read_1r _ _ _ _ _ _ ?_
    unfold L_ledger_Read_1T
    have : c = S.cur := by omega
    subst this
    have ef := fill_row (pre := []) (post := []) (row := S.N) o.N8 o.c8 o.zN
    simp only [List.nil_append, List.append_nil, List.length_nil] at ef
    rw [ef] at As
    have cN : ∀ i, i < 8 → h.cell s i = some (.int .i64 (S.N.getD i 0)) := fun i hi => As.cell (by
      rw [intsV_map, List.getElem?_map, List.getElem?_eq_getElem (by omega), List.getD_eq_getElem?_getD, List.getElem?_eq_getElem (by omega)]; rfl)
    refine Br.no (by simp) ⟨_, cN 0 (by omega), _, cN 1 (by omega), _, cN 2 (by omega), _, cN 3 (by omega), _, cN 4 (by omega), _, cN 5 (by omega), _, cN 6 (by omega), _, cN 7 (by omega), _, Al.cell rfl, withAddr_intro rfl
      ⟨_, A.nos (c := 0) (by omega), _, A.nos (c := 1) (by omega), _, A.nos (c := 2) (by omega), _, A.nos (c := 3) (by omega), _, A.nos (c := 4) (by omega), _, A.nos (c := 5) (by omega), _, A.nos (c := 6) (by omega), _, A.nos (c := 7) (by omega), Br.no (by simp) ⟨_, Al.cell rfl, Ret.mk (k h lg A)⟩⟩⟩
  | succ m ih =>
    intro c h hc lg A Al As
    refine L_ledger_Read_1r _ _ _ _ _ _ ?_
    unfold L_ledger_Read_1T
    have w1 : IntKind.wrap .i64 ((c : Int) + 1) = ((c + 1 : Nat) : Int) := by rw [wrap_i64_id (by omega) (by omega)]; omega
    refine Br.yes (by simp; omega) ⟨_, Al.cell rfl, withAddr_intro rfl ⟨_, _, _, A.rows, ?_⟩⟩
    refine read_2 o A Al (by omega) As (by rw [setL_len, intsV_length, List.length_replicate]) (fun h' l' => ?_) S.M.length 0 h none 0 [] (by omega) h.le_refl (OwnL.nil _ _ _) rfl
    rw [w1]
    have lg' := Heap.le_trans lg l'
    have A' := A.le l'
    refine ih (c + 1) _ (by omega) (le_setN lg' ng) ⟨A'.ap.set_ne (fun e => hsp e.symm), A'.ab.set_ne (fun e => hsB e.symm), A'.ne, A'.sz⟩ ((Al.le l').set_ne (fun e => hsl e.symm)) ?_
    have := (As.le l').set (o := 0 + c) (ws := [.int .i64 (S.N.getD c 0)])
    have hl : (intsV .i64 (S.N.take c)).length = c := by rw [intsV_length, List.length_take]; omega
    have es := setL_snoc (intsV .i64 (S.N.take c)) (intsV .i64 (List.replicate 8 0)) 0 (.int .i64 (S.N.getD c 0))
    rw [hl] at es
    rw [← es] at this
    rw [take_snoc (by omega), intsV_append]
    exact this
end
theorem S_lRead {S : Lg} (o : S.Ok) {h : Heap} {K : Value → Heap → Prop} (k : ∀ h' p B C sp, h.le h' → LedAt h' p B C sp S → h p = none → h B = none → K (tuple #[.pointer (some ⟨p, 0, none⟩), .int .i64 0]) h') :
    CallA Try.prog fn_ledger_Read [.string (strOf (textG S))] h K := by
  refine F_ledger_Read _ _ _ ?_
  unfold F_ledger_ReadT
  have ht := bytesI_strOf (textG_r o.toSz)
  have hlen := textG_length o.toSz
  have n16 := o.n16
  have n1 := o.n1
  have c8 := o.c8
  have c1 := o.c1
  generalize strOf (textG S) = text at *
  have hsz : text.size = 2 + (S.M.length + 1) * (S.cur * 8) := by rw [← bytesI_length, ht, hlen]
  obtain ⟨b0, g0, e0⟩ := str_get text (i := 0) (by omega)
  obtain ⟨b1, g1, e1⟩ := str_get text (i := 1) (by omega)
  rw [ht] at e0 e1
  have e0 : (S.M.length : Int) = (b0.toNat : Int) := Option.some.inj e0
  have e1 : (S.cur : Int) = (b1.toNat : Int) := Option.some.inj e1
  refine Br.no (by simp; omega) ⟨by omega, b0, g0, by omega, b1, g1, ?_⟩
  rw [← e0, ← e1, wrap_i64_id (by omega) (by omega), wrap_i64_id (by omega) (by omega)]
  refine S_lNew (fun h => absurd h (by omega)) fun n w en ew _ _ _ _ h1 p B C sp l1 A1 np nB => ⟨_, _, rfl, fun r hr => ?_⟩
  have en : n = S.M.length := by omega
  have ew : w = S.cur := by omega
  subst en ew
  have lr : h1.le (h1.ins r (.cells [Value.pointer none].toArray 41 (0, 0))) := le_ins hr
  have Ar0 := At.new h1 r [Value.pointer none] 41
  have hrp : r ≠ p := fun e => A1.ap.ne hr e.symm
  have hrB : r ≠ B := fun e => A1.ab.ne hr e.symm
  have nr := none_of_le l1 hr
  refine ⟨Ar0.canSt (by simp), Br.no (by simp) ?_⟩
  have Ar : At ((h1.ins r (.cells [Value.pointer none].toArray 41 (0, 0))).setN r 0 [.pointer (some ⟨p, 0, none⟩)]) r [.pointer (some ⟨p, 0, none⟩)] := Ar0.set
  have A2 := A1.le (le_setN lr hr (o := 0) (ws := [.pointer (some ⟨p, 0, none⟩)]))
  have l2 : h.le ((h1.ins r (.cells [Value.pointer none].toArray 41 (0, 0))).setN r 0 [.pointer (some ⟨p, 0, none⟩)]) := le_setN (Heap.le_trans l1 lr) nr
  generalize (h1.ins r (.cells [Value.pointer none].toArray 41 (0, 0))).setN r 0 [.pointer (some ⟨p, 0, none⟩)] = h2 at *
  have hML : (newG S.M.length S.cur).M.length = S.M.length := by unfold newG; rw [List.length_replicate]
  refine ⟨_, Ar.cell rfl, withAddr_intro rfl ⟨_, A2.cur, _, Ar.cell rfl, withAddr_intro rfl ⟨_, _, _, A2.rows, ?_⟩⟩⟩
  rw [hML]
  have hprod : (S.M.length + 1) * (S.cur * 8) ≤ 17 * 64 := Nat.mul_le_mul (by omega) (by omega)
  have e3 : IntKind.wrap IntKind.i64 (2 + IntKind.wrap IntKind.i64 (IntKind.wrap IntKind.i64 (8 * ((newG S.M.length S.cur).cur : Int)) * IntKind.wrap IntKind.i64 ((S.M.length : Int) + 1))) = ((2 + (S.M.length + 1) * (S.cur * 8) : Nat) : Int) := by
    show IntKind.wrap IntKind.i64 (2 + IntKind.wrap IntKind.i64 (IntKind.wrap IntKind.i64 (8 * (S.cur : Int)) * IntKind.wrap IntKind.i64 ((S.M.length : Int) + 1))) = _
    rw [wrap_i64_id (n := 8 * (S.cur : Int)) (by omega) (by omega), wrap_i64_id (n := (S.M.length : Int) + 1) (by omega) (by omega)]
    have e4 : 8 * (S.cur : Int) * ((S.M.length : Int) + 1) = (((S.M.length + 1) * (S.cur * 8) : Nat) : Int) := by
      rw [Int.natCast_mul, Int.natCast_mul, Int.natCast_add]
      simp only [Int.natCast_one]
      rw [Int.mul_comm, Int.mul_comm 8]; rfl
    rw [e4, wrap_i64_id (n := (((S.M.length + 1) * (S.cur * 8) : Nat) : Int)) (by omega) (by omega), wrap_i64_id (by omega) (by omega)]; omega
  rw [e3, hsz]
  refine Br.no (by simp) ⟨by omega, by omega, fun t ht2 => ?_⟩
  have lt : h2.le (h2.ins t (.cells [Value.string { data := #[] }].toArray 9 (0, 0))) := le_ins ht2
  have At0 := At.new h2 t [Value.string { data := #[] }] 9
  have htp : p ≠ t := A2.ap.ne ht2
  have htB : B ≠ t := A2.ab.ne ht2
  have htr : r ≠ t := Ar.ne ht2
  have nt := none_of_le l2 ht2
  refine ⟨At0.canSt (by simp), ?_⟩
  have lt2 : h2.le ((h2.ins t (.cells [Value.string { data := #[] }].toArray 9 (0, 0))).setN t 0 [.string (text.extract 2 (2 + (S.M.length + 1) * (S.cur * 8)))]) := le_setN lt ht2
  have At1 : At ((h2.ins t (.cells [Value.string { data := #[] }].toArray 9 (0, 0))).setN t 0 [.string (text.extract 2 (2 + (S.M.length + 1) * (S.cur * 8)))]) t [.string (text.extract 2 (2 + (S.M.length + 1) * (S.cur * 8)))] := At0.set
  generalize (h2.ins t (.cells [Value.string { data := #[] }].toArray 9 (0, 0))).setN t 0 [.string (text.extract 2 (2 + (S.M.length + 1) * (S.cur * 8)))] = h3 at *
  have A3 := A2.le lt2
  have Ar3 := Ar.le lt2
  have l3 := Heap.le_trans l2 lt2
  have eb : bytesI (text.extract 2 (2 + (S.M.length + 1) * (S.cur * 8))) = (S.N.take S.cur).flatMap be8 ++ rowsT S.cur S.M := by
    rw [bytesI_extract, ht, List.take_of_length_le (by rw [hlen]; exact Nat.le_refl _)]; rfl
  have apN : At h3 p ([Value.slice (some ⟨B, 0, none⟩) S.M.length C] ++ (intsV .i64 (List.replicate 8 0) ++ [.int .i64 (S.cur : Int)])) := by
    have := A3.ap
    unfold ledV at this
    rw [hML] at this
    exact this
  have hI : ∀ v ∈ S.N.take S.cur, I64 v := fun v hv => by
    obtain ⟨c, hc⟩ := List.getElem?_of_mem (List.mem_of_mem_take hv)
    have := o.n64 c
    rw [List.getD_eq_getElem?_getD, hc] at this; exact this
  refine ⟨_, Ar3.cell rfl, withAddr_intro rfl ?_⟩
  refine S_take (h0 := h) (X := fun h => At h B (intsV .i64 (newG S.M.length S.cur).M.flatten ++ sp) ∧ At h r [.pointer (some ⟨p, 0, none⟩)]) np nt htp (w := S.cur) (tk := S.N.take S.cur) (by rw [List.length_take, o.N8]; omega) c8 hI (by simp [intsV_length])
    (fun h h' l x => ⟨x.1.le l, x.2.le l⟩) (fun h i ws x => ⟨x.1.set_ne (fun e => A3.ne e.symm), x.2.set_ne hrp⟩) (fun h i ws x => ⟨x.1.set_ne htB, x.2.set_ne htr⟩) l3 apN At1 eb ⟨A3.ab, Ar3⟩ (Ar3.cell rfl) A3.cur ?_
  intro h4 s4 l4 ap4 At4 eb4 x4
  rw [show (0 + 1 : Nat) = [Value.slice (some ⟨B, 0, none⟩) S.M.length C].length from rfl, fill_row o.N8 c8 o.zN] at ap4
  refine ⟨rfl, _, x4.2.cell rfl, withAddr_intro rfl ⟨_, _, _, ap4.cell rfl, ?_⟩⟩
  refine read_0 (h0 := h) o np nB nr nt A3.ne htp htB hrB htr (fun h5 l5 A5 Ar5 => ?_) S.M.length 0 h4 s4 (by omega) l4 ap4 (by rw [List.take_zero, List.nil_append, Nat.sub_zero]; exact x4.1) x4.2 At4 (by rw [List.drop_zero]; exact eb4)
  refine L_ledger_Read_0r _ _ _ _ _ _ _ ?_
  unfold L_ledger_Read_0T
  refine Br.no (by simp) fun s hs => ?_
  have ls : h5.le (h5.ins s (.cells [Value.int .i64 0, .int .i64 0, .int .i64 0, .int .i64 0, .int .i64 0, .int .i64 0, .int .i64 0, .int .i64 0].toArray 123 (0, 0))) := le_ins hs
  have As : At (h5.ins s (.cells [Value.int .i64 0, .int .i64 0, .int .i64 0, .int .i64 0, .int .i64 0, .int .i64 0, .int .i64 0, .int .i64 0].toArray 123 (0, 0))) s (intsV .i64 (List.replicate 8 0)) := At.new _ _ _ _
  have hsp : s ≠ p := fun e => A5.ap.ne hs e.symm
  have hsB : s ≠ B := fun e => A5.ab.ne hs e.symm
  have hsr : s ≠ r := fun e => Ar5.ne hs e.symm
  generalize h5.ins s (.cells [Value.int .i64 0, .int .i64 0, .int .i64 0, .int .i64 0, .int .i64 0, .int .i64 0, .int .i64 0, .int .i64 0].toArray 123 (0, 0)) = h6 at *
  refine ⟨_, (Ar5.le ls).cell rfl, withAddr_intro rfl ⟨_, (A5.le ls).cur, ?_⟩⟩
  exact read_1 (g := h) o (none_of_le l5 hs) hsp hsB hsr (fun h7 l7 A7 => k h7 p B C sp l7 A7 np nB) S.cur 0 h6 (by omega) (Heap.le_trans l5 ls) (A5.le ls) (Ar5.le ls) As
end Go.Proofs.Ytghdadniddoboaa

/- Operations on a ledger, as they are handed over, and done. -/

namespace Go.Proofs.Ytghdadniddoboaa
open Go Go.Sy Go.Value
set_option linter.unusedVariables false
set_option linter.unusedSimpArgs false

structure OpR where
  d : Int
  m : Int
  c : Int
  g : Int
  a : Int
  gv : Int
  p : Option Addr
  cp : Nat
  b : List Pst
def opV1 (x : OpR) : List Value := [.int .i64 x.d, .int .i64 x.m, .int .i64 x.c, .int .i64 x.g, .int .i64 x.a, .int .i64 x.gv, .slice x.p x.b.length x.cp]
def opsV : List OpR → List Value
  | [] => []
  | x :: r => .int .i64 x.d :: .int .i64 x.m :: .int .i64 x.c :: .int .i64 x.g :: .int .i64 x.a :: .int .i64 x.gv :: .slice x.p x.b.length x.cp :: opsV r
theorem opsV_length : ∀ l, (opsV l).length = l.length * 7
  | [] => rfl
  | x :: l => by simp only [opsV, List.length_cons, opsV_length l]; omega
theorem opsV_get : ∀ (l : List OpR) (j : Nat) (x : OpR), l[j]? = some x → ∀ i, i < 7 → (opsV l)[j * 7 + i]? = (opV1 x)[i]?
  | [], j, x, h, _, _ => by simp at h
  | y :: l, 0, x, h, i, hi => by
    simp at h
    subst h
    rw [Nat.zero_mul, Nat.zero_add]
    match i, hi with
    | 0, _ => rfl
    | 1, _ => rfl
    | 2, _ => rfl
    | 3, _ => rfl
    | 4, _ => rfl
    | 5, _ => rfl
    | 6, _ => rfl
  | y :: l, j + 1, x, h, i, hi => by
    have := opsV_get l j x (by simpa using h) i hi
    rw [show (j + 1) * 7 + i = j * 7 + i + 1 + 1 + 1 + 1 + 1 + 1 + 1 from by omega]
    simp only [opsV, List.getElem?_cons_succ]
    exact this
structure OpI (x : OpR) : Prop where
  d : I64 x.d
  m : I64 x.m
  c : I64 x.c
  g : I64 x.g
  a : I64 x.a
  gv : I64 x.gv
  b : ∀ y ∈ x.b, I64 y.m ∧ I64 y.c ∧ I64 y.a
def Ops (h : Heap) (p : Option Addr) (l : List OpR) : Prop := rdL h p (opsV l) ∧ ∀ x ∈ l, Pos h x.p x.b
theorem Ops.le {h h' : Heap} {p : Option Addr} {l : List OpR} (x : Ops h p l) (e : h.le h') : Ops h' p l := ⟨rdL_le e x.1, fun y hy => rdL_le e (x.2 y hy)⟩
theorem ox {h : Heap} {p : Option Addr} {l : List OpR} {N : Nat} (C : Ops h p l) (hn : l.length = N) {j : Nat} {i : Int} (hi : i = (j : Int)) {x : OpR} (hx : l[j]? = some x) {Q : Int → Int → Int → Int → Int → Int → Option Addr → Nat → Nat → Prop} (kk : Q x.d x.m x.c x.g x.a x.gv x.p x.b.length x.cp) :
    0 ≤ i ∧ i < (N : Int) ∧ withAddr p fun b o => ∃ n, h.cell b (o + i.toNat * 7) = some (.int .i64 n) ∧ ∃ n1, h.cell b (o + i.toNat * 7 + 1) = some (.int .i64 n1) ∧ ∃ n2, h.cell b (o + i.toNat * 7 + 2) = some (.int .i64 n2) ∧
      ∃ n3, h.cell b (o + i.toNat * 7 + 3) = some (.int .i64 n3) ∧ ∃ n4, h.cell b (o + i.toNat * 7 + 4) = some (.int .i64 n4) ∧ ∃ n5, h.cell b (o + i.toNat * 7 + 5) = some (.int .i64 n5) ∧ ∃ a n6 m, h.cell b (o + i.toNat * 7 + 6) = some (.slice a n6 m) ∧ Q n n1 n2 n3 n4 n5 a n6 m := by
  subst hi hn
  have hj : j < l.length := (List.getElem?_eq_some_iff.1 hx).1
  have g := opsV_get l j x hx
  rcases C.1 with e | ⟨b, o, e, r⟩
  · have := congrArg List.length e
    rw [opsV_length, List.length_nil] at this
    omega
  · rw [Int.toNat_natCast]
    have r7 : ∀ i, i < 7 → h.cell b (o + j * 7 + i) = (opV1 x)[i]? := fun i hi => by rw [Nat.add_assoc, r _ (by rw [opsV_length]; omega), g i hi]
    exact ⟨by omega, by omega, withAddr_intro e ⟨_, r7 0 (by omega), _, r7 1 (by omega), _, r7 2 (by omega), _, r7 3 (by omega), _, r7 4 (by omega), _, r7 5 (by omega), _, _, _, r7 6 (by omega), kk⟩⟩
theorem ox6 {h : Heap} {p : Option Addr} {l : List OpR} {N : Nat} (C : Ops h p l) (hn : l.length = N) {j : Nat} {i : Int} (hi : i = (j : Int)) {x : OpR} (hx : l[j]? = some x) {Q : Option Addr → Nat → Nat → Prop} (kk : Q x.p x.b.length x.cp) :
    0 ≤ i ∧ i < (N : Int) ∧ withAddr p fun b o => ∃ a n6 m, h.cell b (o + i.toNat * 7 + 6) = some (.slice a n6 m) ∧ Q a n6 m := by
  have := ox C hn hi hx (Q := fun _ _ _ _ _ _ a n m => Q a n m) kk
  obtain ⟨h1, h2, h3⟩ := this
  refine ⟨h1, h2, ?_⟩
  obtain ⟨b, o, e, _, _, _, _, _, _, _, _, _, _, _, _, r⟩ := withAddr_elim h3
  exact withAddr_intro e r
def opSt : Sh := .two (.int .i64) (.two (.int .i64) (.two (.int .i64) (.two (.int .i64) (.two (.int .i64) (.two (.int .i64) (.two (.sl poSh) .nil))))))
theorem op_of {h : Heap} {vs : List Value} (H : opSt.Has h vs) : ∃ x : OpR, vs = opV1 x ∧ Pos h x.p x.b ∧ OpI x ∧ x.b.length ≤ 9223372036854775807 := by
  obtain ⟨_, _, rfl, _, ⟨n1, rfl, w1⟩, _, _, rfl, _, ⟨n2, rfl, w2⟩, _, _, rfl, _, ⟨n3, rfl, w3⟩, _, _, rfl, _, ⟨n4, rfl, w4⟩, _, _, rfl, _, ⟨n5, rfl, w5⟩, _, _, rfl, _, ⟨n6, rfl, w6⟩, _, _, rfl, _, hsl, hnil⟩ := H
  cases hnil
  have hsl2 := hsl
  obtain ⟨q, n, c, rfl, _⟩ := hsl2
  obtain ⟨h1, h2, L, hL, hP, hI⟩ := pos_of hsl
  subst hL
  exact ⟨⟨n1, n2, n3, n4, n5, n6, q, c, L⟩, rfl, hP, ⟨I64.of_wf w1, I64.of_wf w2, I64.of_wf w3, I64.of_wf w4, I64.of_wf w5, I64.of_wf w6, hI⟩, by dsimp only; omega⟩
def opsSh : Sh := .sl opSt
theorem ops_of {h : Heap} {p : Option Addr} {n c : Nat} (H : opsSh.Has h [.slice p n c]) : n ≤ 9223372036854775807 ∧ ∃ L : List OpR, L.length = n ∧ Ops h p L ∧ (∀ x ∈ L, OpI x) ∧ ∀ x ∈ L, x.b.length ≤ 9223372036854775807 := by
  obtain ⟨h1, h2, L, hL, hA, hR⟩ := Sh.Has.list H
  refine ⟨by omega, ?_⟩
  have : ∀ L : List (List Value), (∀ vs ∈ L, vs.length = opSt.n ∧ opSt.Has h vs) → ∃ l : List OpR, l.length = L.length ∧ L.flatten = opsV l ∧ (∀ x ∈ l, Pos h x.p x.b) ∧ (∀ x ∈ l, OpI x) ∧ ∀ x ∈ l, x.b.length ≤ 9223372036854775807 := by
    intro L
    induction L with
    | nil => exact fun _ => ⟨[], rfl, rfl, fun _ hn => (by cases hn), fun _ hn => (by cases hn), fun _ hn => (by cases hn)⟩
    | cons a L ih =>
      intro hA
      obtain ⟨l, e1, e2, e3, e4, e5⟩ := ih (fun vs hv => hA vs (List.mem_cons_of_mem _ hv))
      obtain ⟨x, rfl, hP, hI, hb⟩ := op_of (hA a (List.mem_cons_self ..)).2
      refine ⟨x :: l, by simp [e1], ?_, fun y hy => ?_, fun y hy => ?_, fun y hy => ?_⟩
      · rw [List.flatten_cons, e2]; rfl
      · rcases List.mem_cons.1 hy with rfl | hy
        · exact hP
        · exact e3 y hy
      · rcases List.mem_cons.1 hy with rfl | hy
        · exact hI
        · exact e4 y hy
      · rcases List.mem_cons.1 hy with rfl | hy
        · exact hb
        · exact e5 y hy
  obtain ⟨l, e1, e2, e3, e4, e5⟩ := this L hA
  exact ⟨l, by rw [e1, hL], ⟨by rw [← e2]; exact hR, e3⟩, e4, e5⟩
def doG (S : Lg) (x : OpR) : Int × Lg := if x.d = 0 then inG S x.m x.c x.a else if x.d = 1 then outG S x.m x.c x.a else if x.d = 3 then swapG S x.m x.c x.g x.a x.gv else postG S x.b
theorem doG_ok {S : Lg} (o : S.Ok) (x : OpR) : (doG S x).2.Ok := by
  unfold doG
  split
  · exact inG_ok o _ _ _
  split
  · exact outG_ok o _ _ _
  split
  · exact swapG_ok o _ _ _ _ _
  · exact postG_ok o _
theorem doG_err {S : Lg} {x : OpR} : (doG S x).1 ≠ 0 → (doG S x).2 = S := by
  unfold doG
  split
  · exact inG_err
  split
  · exact outG_err
  split
  · exact swapG_err
  · exact postG_err
theorem wrM_len (M : Mx) (i c : Nat) (v : Int) : (wrM M i c v).length = M.length := by unfold wrM; rw [List.length_set]
theorem addsM_len : ∀ (b : List Pst) (M : Mx), (addsM b M).2.length = M.length
  | [], M => rfl
  | p :: r, M => by
    rw [addsM]
    split
    · rfl
    · rw [addsM_len r, wrM_len]
def szB (S T : Lg) : Prop := T.M.length = S.M.length ∧ T.cur = S.cur
theorem inG_sz (S : Lg) (m c a : Int) : szB S (inG S m c a).2 := by
  unfold inG
  repeat' split
  all_goals first
    | exact ⟨rfl, rfl⟩
    | (exact ⟨by simp only [wnG, wrG, wrM_len], rfl⟩)
theorem outG_sz (S : Lg) (m c a : Int) : szB S (outG S m c a).2 := by
  unfold outG
  repeat' split
  all_goals first
    | exact ⟨rfl, rfl⟩
    | (exact ⟨by simp only [wnG, wrG, wrM_len], rfl⟩)
theorem swapG_sz (S : Lg) (m g v x y : Int) : szB S (swapG S m g v x y).2 := by
  unfold swapG
  repeat' split
  all_goals first
    | exact ⟨rfl, rfl⟩
    | (exact ⟨by simp only [wnG, wrG, wrM_len], rfl⟩)
theorem postG_sz (S : Lg) (b : List Pst) : szB S (postG S b).2 := by
  unfold postG
  repeat' split
  all_goals first
    | exact ⟨rfl, rfl⟩
    | (exact ⟨by simp only [addsM_len], rfl⟩)
theorem doG_sz (S : Lg) (x : OpR) : szB S (doG S x).2 := by
  unfold doG
  split
  · exact inG_sz S _ _ _
  split
  · exact outG_sz S _ _ _
  split
  · exact swapG_sz S _ _ _ _ _
  · exact postG_sz S _
section
variable {h0 h : Heap} {K : Value → Heap → Prop} {p B C : Nat} {sp : List Value} {S : Lg}
end
theorem S_lReadX {h : Heap} {K : Value → Heap → Prop} (k : K (tuple #[.pointer none, .int .i64 2]) h) : CallA Try.prog fn_ledger_Read [.string { data := #[120] }] h K := by
  refine F_ledger_Read _ _ _ ?_
  unfold F_ledger_ReadT
  exact Br.yes (by decide) (Ret.mk k)
end Go.Proofs.Ytghdadniddoboaa
