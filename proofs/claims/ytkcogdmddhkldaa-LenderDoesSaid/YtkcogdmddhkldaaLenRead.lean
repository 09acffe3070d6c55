/- Providers, read from their bytes. -/
import Derived.Test.YtkcogdmddhkldaaLenText
namespace Go.Proofs.Ytkcogdmddhkldaa
open Go Go.Sy Go.Value
set_option linter.unusedVariables false
set_option linter.unusedSimpArgs false

def pRow : Nat → List Int → List Int
  | 0, _ => []
  | w + 1, l => decL 0 (l.take 8) :: pRow w (l.drop 8)
def pAll (w : Nat) : Nat → List Int → Option (List Bool × Mx)
  | 0, _ => some ([], [])
  | n + 1, l => if 1 < l.getD 0 0 then none else (pAll w n (l.drop (1 + 8 * w))).map fun p => ((l.getD 0 0 == 1) :: p.1, pRow w (l.drop 1) :: p.2)
def readN (l : List Int) : Option Ln :=
  if l.length < 2 then none else if l.length ≠ 2 + (l.getD 0 0).toNat * (1 + 8 * (l.getD 1 0).toNat) then none
  else match pAll (l.getD 1 0).toNat (l.getD 0 0).toNat (l.drop 2) with
    | none => none
    | some p => if newE p.2 (l.getD 1 0) ≠ 0 then none else some ⟨p.2, p.1, (l.getD 1 0).toNat⟩
/-! a number and its bytes -/
def rawL : Int → List Int → Int
  | a, [] => a
  | a, b :: l => rawL (a * 256 + b) l
theorem decL_raw : ∀ (l : List Int) (a : Int), ∃ k, decL a l = rawL a l + k * 18446744073709551616
  | [], a => ⟨0, by rw [decL, rawL]; omega⟩
  | b :: l, a => by
    rw [decL, rawL]
    obtain ⟨k, hk⟩ := wrap_u64c (a * 256 + b)
    have : ∀ (l : List Int) (x y k : Int), x = y + k * 18446744073709551616 → ∃ k', rawL x l = rawL y l + k' * 18446744073709551616 := by
      intro l
      induction l with
      | nil => exact fun x y k h => ⟨k, h⟩
      | cons b l ih => exact fun x y k h => ih (x * 256 + b) (y * 256 + b) (k * 256) (by rw [h]; omega)
    obtain ⟨k1, h1⟩ := decL_raw l (IntKind.wrap .i64 (a * 256 + b))
    obtain ⟨k2, h2⟩ := this l _ _ k hk
    exact ⟨k1 + k2, by rw [h1, h2]; omega⟩
theorem be8_dec {l : List Int} (h : l.length = 8) (hb : bytes l) : be8 (decL 0 l) = l := by
  match l, h with
  | [a, b, c, d, e, f, g, i], _ =>
    obtain ⟨k, hk⟩ := decL_raw [a, b, c, d, e, f, g, i] 0
    rw [hk]
    have h0 := hb a (by simp)
    have h1 := hb b (by simp)
    have h2 := hb c (by simp)
    have h3 := hb d (by simp)
    have h4 := hb e (by simp)
    have h5 := hb f (by simp)
    have h6 := hb g (by simp)
    have h7 := hb i (by simp)
    have er : rawL 0 [a, b, c, d, e, f, g, i] = a * 72057594037927936 + b * 281474976710656 + c * 1099511627776 + d * 4294967296 + e * 16777216 + f * 65536 + g * 256 + i := by
      simp only [rawL]; omega
    rw [er]
    unfold be8
    simp only [beF, byteAt]
    clear hb hk er
    refine List.cons_eq_cons.2 ⟨?_, List.cons_eq_cons.2 ⟨?_, List.cons_eq_cons.2 ⟨?_, List.cons_eq_cons.2 ⟨?_, List.cons_eq_cons.2 ⟨?_, List.cons_eq_cons.2 ⟨?_, List.cons_eq_cons.2 ⟨?_, List.cons_eq_cons.2 ⟨?_, rfl⟩⟩⟩⟩⟩⟩⟩⟩
    · rw [show (2 : Int) ^ (8 * 7) = 72057594037927936 from rfl]; omega
    · rw [show (2 : Int) ^ (8 * 6) = 281474976710656 from rfl]; omega
    · rw [show (2 : Int) ^ (8 * 5) = 1099511627776 from rfl]; omega
    · rw [show (2 : Int) ^ (8 * 4) = 4294967296 from rfl]; omega
    · rw [show (2 : Int) ^ (8 * 3) = 16777216 from rfl]; omega
    · rw [show (2 : Int) ^ (8 * 2) = 65536 from rfl]; omega
    · rw [show (2 : Int) ^ (8 * 1) = 256 from rfl]; omega
    · rw [show (2 : Int) ^ (8 * 0) = 1 from rfl]; omega
theorem wrap_I64 (x : Int) : I64 (IntKind.wrap .i64 x) := by rw [wrap_i64]; unfold I64; omega
theorem decL_I64 : ∀ (l : List Int) (a : Int), I64 a → I64 (decL a l)
  | [], a, h => h
  | b :: l, a, h => by rw [decL]; exact decL_I64 l _ (wrap_I64 _)
theorem pRow_len : ∀ (w : Nat) (l : List Int), (pRow w l).length = w
  | 0, _ => rfl
  | w + 1, l => by rw [pRow, List.length_cons, pRow_len w]
theorem pRow_I64 : ∀ (w : Nat) (l : List Int), ∀ v ∈ pRow w l, I64 v
  | 0, _, v, h => by cases h
  | w + 1, l, v, h => by
    rw [pRow] at h
    rcases List.mem_cons.1 h with rfl | h
    · exact decL_I64 _ _ I64_0
    · exact pRow_I64 w _ v h
theorem pRow_text : ∀ (w : Nat) (l : List Int), bytes l → 8 * w ≤ l.length → (pRow w l).flatMap be8 = l.take (8 * w)
  | 0, l, _, _ => by rw [pRow, List.flatMap_nil, Nat.mul_zero, List.take_zero]
  | w + 1, l, hb, hl => by
    rw [pRow, List.flatMap_cons, be8_dec (by rw [List.length_take]; omega) (fun b h => hb b (List.mem_of_mem_take h)), pRow_text w _ (fun b h => hb b (List.mem_of_mem_drop h)) (by rw [List.length_drop]; omega),
      show 8 * (w + 1) = 8 + 8 * w by omega, List.take_add]
theorem pAll_text (w : Nat) : ∀ (n : Nat) (l : List Int) (p : List Bool × Mx), bytes l → l.length = n * (1 + 8 * w) → pAll w n l = some p → linT p.1 p.2 = l ∧ p.1.length = n ∧ p.2.length = n
  | 0, l, p, _, hl, e => by
    cases e
    have : l = [] := List.length_eq_zero_iff.1 (by omega)
    subst this
    exact ⟨rfl, rfl, rfl⟩
  | n + 1, l, p, hb, hl, e => by
    rw [pAll] at e
    split at e
    · cases e
    · rename_i g
      cases hp : pAll w n (l.drop (1 + 8 * w)) with
      | none => rw [hp] at e; cases e
      | some q =>
        rw [hp] at e
        cases e
        rw [Nat.succ_mul] at hl
        obtain ⟨h1, h2, h3⟩ := pAll_text w n _ q (fun b h => hb b (List.mem_of_mem_drop h)) (by rw [List.length_drop]; omega) hp
        refine ⟨?_, by simp [h2], by simp [h3]⟩
        show flagI (l.getD 0 0 == 1) :: ((pRow w (l.drop 1)).flatMap be8 ++ linT q.1 q.2) = l
        rw [h1, pRow_text w _ (fun b h => hb b (List.mem_of_mem_drop h)) (by rw [List.length_drop]; omega)]
        cases l with
        | nil => rw [List.length_nil] at hl; omega
        | cons a l =>
          have ha := hb a (List.mem_cons_self ..)
          have e1 : flagI ((a :: l).getD 0 0 == 1) = a := by
            rw [List.getD_cons_zero] at g ⊢
            unfold flagI
            split
            · rename_i g2; have := of_decide_eq_true (show decide (a = 1) = true from g2); omega
            · rename_i g2; have : a ≠ 1 := fun x => g2 (by rw [x]; rfl)
              omega
          rw [e1, List.drop_one, List.tail_cons, show 1 + 8 * w = 8 * w + 1 by omega, List.drop_succ_cons, List.take_append_drop]
theorem read_text {l : List Int} {S : Ln} (hb : bytes l) (h : readN l = some S) : textN S = l := by
  unfold readN at h
  split at h
  · cases h
  split at h
  · cases h
  rename_i g1 g2
  split at h
  · cases h
  rename_i p hp
  split at h
  · cases h
  cases h
  match l, g1 with
  | [], g => exact absurd (by simp) g
  | [_], g => exact absurd (by simp) g
  | a :: b :: l, _ =>
    simp only [List.getD_cons_zero, List.getD_cons_succ, List.drop_succ_cons, List.drop_zero] at *
    have ha := hb a (by simp)
    have hb' := hb b (by simp)
    obtain ⟨e1, e2, e3⟩ := pAll_text _ _ l p (fun x h => hb x (by simp [h])) (by simp only [List.length_cons] at g2; omega) hp
    unfold textN
    show (p.2.length : Int) :: ((b.toNat : Nat) : Int) :: linT p.1 p.2 = _
    rw [e1, e3]
    congr 1
    · omega
    · congr 1; omega
theorem row_read : ∀ (r : List Int) (t : List Int), (∀ v ∈ r, I64 v) → pRow r.length (r.flatMap be8 ++ t) = r
  | [], _, _ => rfl
  | v :: r, t, h => by
    rw [List.length_cons, pRow, List.flatMap_cons, List.append_assoc, List.take_left' (be8_length v), List.drop_left' (be8_length v), dec_be8 (h v (List.mem_cons_self ..)), row_read r t fun x hx => h x (List.mem_cons_of_mem _ hx)]
theorem lin_read {w : Nat} : ∀ (F : List Bool) (M : Mx), F.length = M.length → (∀ r ∈ M, r.length = w ∧ ∀ v ∈ r, I64 v) → pAll w M.length (linT F M) = some (F, M)
  | [], [], _, _ => rfl
  | f :: F, [], hl, _ => by simp at hl
  | [], r :: M, hl, _ => by simp at hl
  | f :: F, r :: M, hl, hr => by
    obtain ⟨h1, h2⟩ := hr r (List.mem_cons_self ..)
    have e0 : (linT (f :: F) (r :: M)).getD 0 0 = flagI f := rfl
    rw [List.length_cons, pAll, e0, if_neg (by unfold flagI; split <;> omega)]
    have e1 : (linT (f :: F) (r :: M)).drop 1 = r.flatMap be8 ++ linT F M := rfl
    have e2 : (linT (f :: F) (r :: M)).drop (1 + 8 * w) = linT F M := by
      rw [← List.drop_drop, e1, List.drop_left' (by rw [be8_flat', h1]; omega)]
    rw [e1, e2, lin_read F M (by simpa using hl) fun x hx => hr x (List.mem_cons_of_mem _ hx), Option.map_some]
    have e3 := row_read r (linT F M) h2
    rw [h1] at e3
    rw [e3]
    have e4 : (flagI f == 1) = f := by cases f <;> rfl
    rw [e4]
theorem Ln.Ok.mem {S : Ln} (o : S.Ok) : ∀ r ∈ S.L, r.length = S.cur ∧ ∀ v ∈ r, I64 v ∧ 0 ≤ v := fun r hr => by
  refine ⟨o.sh.2 r hr, fun v hv => ?_⟩
  obtain ⟨i, hi⟩ := List.getElem?_of_mem hr
  obtain ⟨c, hc⟩ := List.getElem?_of_mem hv
  have e : rdM S.L i c = v := by
    unfold rdM
    rw [List.getD_eq_getElem?_getD (l := S.L), hi, Option.getD_some, List.getD_eq_getElem?_getD, hc]; rfl
  rw [← e]
  exact ⟨o.i64 i c, o.pos i c⟩
theorem Ln.Ok.newE {S : Ln} (o : S.Ok) : newE S.L (S.cur : Int) = 0 := by
  have := o.n8
  have := o.c1
  have := o.c8
  unfold Go.Proofs.Ytkcogdmddhkldaa.newE
  rw [if_neg (by omega), if_neg (by omega), if_neg (by omega), if_neg]
  rw [Bool.not_eq_true, List.any_eq_false]
  intro r hr
  obtain ⟨h1, h2⟩ := o.mem r hr
  unfold badRow
  rw [Bool.not_eq_true, Bool.or_eq_false_iff]
  refine ⟨by simp; omega, ?_⟩
  rw [List.any_eq_false]
  intro v hv
  have := (h2 v hv).2
  simp; omega
theorem text_read {S : Ln} (o : S.Ok) : readN (textN S) = some S := by
  have n8 := o.n8
  have c8 := o.c8
  have hl := linT_len (F := S.F) o.fl o.sh.2
  unfold readN textN
  simp only [List.getD_cons_zero, List.getD_cons_succ, List.drop_succ_cons, List.drop_zero, List.length_cons, Int.toNat_natCast]
  rw [if_neg (by omega), if_neg (by rw [hl, Nat.mul_comm S.cur 8]; omega), lin_read S.F S.L o.fl fun r hr => ⟨(o.mem r hr).1, fun v hv => ((o.mem r hr).2 v hv).1⟩]
  dsimp only
  rw [if_neg (by rw [o.newE]; simp)]
/-! in memory -/
theorem S_take {g h : Heap} {K : Value → Heap → Prop} {rest : Nat} {s : ByteArray} (l0 : g.le h) (ng : g rest = none) (A : At h rest [.string s]) (hs : 8 ≤ s.size)
    (k : ∀ h' s', g.le h' → At h' rest [.string s'] → bytesI s' = (bytesI s).drop 8 → K (.int .i64 (decL 0 ((bytesI s).take 8))) h') : CallA Try.prog fn_lender_Read_1 [pointer (some ⟨rest, 0, none⟩)] h K := by
  refine F_lender_Read_1 _ _ _ ?_
  unfold F_lender_Read_1T
  have e8 : bytesI (s.extract 0 8) = (bytesI s).take 8 := by rw [bytesI_extract, List.drop_zero]
  have hs8 : (s.extract 0 8).size = 8 := by rw [← bytesI_length, e8, List.length_take, bytesI_length]; omega
  refine ⟨s, A.cell rfl, by omega, by omega, fun cap r hc hr => ?_⟩
  rw [hs8, e8] at *
  have lr : h.le (h.ins r (.cells (u8V ((bytesI s).take 8) ++ List.replicate (cap - 8) (Value.int IntKind.u8 0)).toArray 5 (cap, cap + 1))) := le_ins hr
  have rd : rdL (h.ins r (.cells (u8V ((bytesI s).take 8) ++ List.replicate (cap - 8) (Value.int IntKind.u8 0)).toArray 5 (cap, cap + 1))) (some ⟨r, 0, none⟩) (u8V ((bytesI s).take 8)) := rdL_take (rdL_new _ _ _ _ _)
  generalize h.ins r (.cells (u8V ((bytesI s).take 8) ++ List.replicate (cap - 8) (Value.int IntKind.u8 0)).toArray 5 (cap, cap + 1)) = h1 at *
  have hlen : ((bytesI s).take 8).length = 8 := by rw [List.length_take, bytesI_length]; omega
  have hby : bytes ((bytesI s).take 8) := fun b hb => bytesI_r s b (List.mem_of_mem_take hb)
  have I : Ints .u8 h1 (some ⟨r, 0, none⟩) ((bytesI s).take 8) := by unfold Ints; rw [← u8V_ints]; exact rd
  generalize hbs : (bytesI s).take 8 = bs at *
  have main : ∀ (m j : Nat) (n : Int), m + j = 8 → decL n (bs.drop j) = decL 0 bs → L_lender_Read_1_0 rest n (some ⟨r, 0, none⟩) 8 cap (8 : Int) (j : Int) h1 K := by
    intro m
    induction m with
    | zero =>
      intro j n hj e
      refine L_lender_Read_1_0r _ _ _ _ _ _ _ _ _ ?_
      unfold L_lender_Read_1_0T
      rw [List.drop_eq_nil_of_le (by omega)] at e
      have e : n = decL 0 bs := e
      rw [e]
      refine Br.no (by simp; omega) ⟨s, (A.le lr).cell rfl, by omega, by omega, (A.le lr).canSt (by simp), Ret.mk (k _ (s.extract 8 s.size) (le_setN (Heap.le_trans l0 lr) ng) (A.le lr).set ?_)⟩
      rw [bytesI_extract, List.take_of_length_le (by rw [bytesI_length]; exact Nat.le_refl _)]
    | succ m ih =>
      intro j n hj e
      refine L_lender_Read_1_0r _ _ _ _ _ _ _ _ _ ?_
      unfold L_lender_Read_1_0T
      have hx : bs[j]? = some bs[j] := List.getElem?_eq_getElem (by omega)
      rw [List.drop_eq_getElem_cons (by omega : j < bs.length), decL] at e
      have hr := hby bs[j] (List.getElem_mem _)
      refine Br.yes (by simp; omega) (ix I hlen rfl hx ?_)
      rw [dec_step hr, w1 (by omega)]
      exact ih (j + 1) _ (by omega) e
  exact main 8 0 0 rfl rfl
def boolV (l : List Bool) : List Value := l.map .bool
theorem boolV_len (l : List Bool) : (boolV l).length = l.length := by unfold boolV; rw [List.length_map]
theorem allCells_bool : ∀ l, allCells (boolV l) = true
  | [] => rfl
  | b :: l => allCells_bool l
structure RdI (h0 h : Heap) (rest : Nat) (lp : Option Addr) (lc : Nat) (fp : Option Addr) (fc : Nat) (NL : List NRow) (FB : List Bool) (s : ByteArray) : Prop where
  base : h0.le h
  ar : At h rest [.string s]
  nr : h0 rest = none
  ol : OwnL h0 h zSl lp lc (netV NL)
  fl : OwnL h0 h [.bool false] fp fc (boolV FB)
  rows : ∀ x ∈ NL, ∃ r, x.p = some ⟨r, 0, none⟩ ∧ At h r (intsV .i64 x.l) ∧ lp ≠ some ⟨r, 0, none⟩ ∧ fp ≠ some ⟨r, 0, none⟩ ∧ r ≠ rest
  d1 : lp ≠ some ⟨rest, 0, none⟩
  d2 : fp ≠ some ⟨rest, 0, none⟩
  d3 : ∀ r, lp = some ⟨r, 0, none⟩ → fp ≠ some ⟨r, 0, none⟩
section
variable {h0 h h' : Heap} {K : Value → Heap → Prop} {rest : Nat} {lp fp : Option Addr} {lc fc : Nat} {NL : List NRow} {FB : List Bool} {s : ByteArray}
theorem RdI.mv {s' : ByteArray} (I : RdI h0 h rest lp lc fp fc NL FB s) (l : h0.le h') (a : At h' rest [.string s']) (k : ∀ b xs, b ≠ rest → At h b xs → At h' b xs) : RdI h0 h' rest lp lc fp fc NL FB s' :=
  ⟨l, a, I.nr, I.ol.mv fun b xs e a => k b xs (fun e2 => I.d1 (by rw [e, e2])) a, I.fl.mv fun b xs e a => k b xs (fun e2 => I.d2 (by rw [e, e2])) a,
    fun x hx => let ⟨r, e1, e2, e3, e4, e5⟩ := I.rows x hx; ⟨r, e1, k r _ e5 e2, e3, e4, e5⟩, I.d1, I.d2, I.d3⟩
theorem RdI.le (I : RdI h0 h rest lp lc fp fc NL FB s) (l : h.le h') : RdI h0 h' rest lp lc fp fc NL FB s := I.mv (Heap.le_trans I.base l) (I.ar.le l) fun b xs _ a => a.le l
theorem RdI.pushF (I : RdI h0 h rest lp lc fp fc NL FB s) {fp' : Option Addr} {fc' : Nat} {b : Bool} (l : h0.le h') (w : OwnL h0 h' [.bool false] fp' fc' (boolV FB ++ [.bool b]))
    (keep : ∀ b y, h b = some y → fp ≠ some ⟨b, 0, none⟩ → h' b = some y) (how : fp' = fp ∨ ∃ s, fp' = some ⟨s, 0, none⟩ ∧ h s = none) : RdI h0 h' rest lp lc fp' fc' NL (FB ++ [b]) s := by
  refine ⟨l, keepAt keep I.ar I.d2, I.nr, I.ol.mv fun b xs e a => keepAt keep a (I.d3 b e), by unfold boolV; rw [List.map_append]; exact w, fun x hx => ?_, I.d1, push_ne how I.ar I.d2, fun r e => ?_⟩
  · obtain ⟨r, e1, e2, e3, e4, e5⟩ := I.rows x hx
    exact ⟨r, e1, keepAt keep e2 e4, e3, push_ne how e2 e4, e5⟩
  · rcases I.ol with ⟨_, q, _⟩ | ⟨r', sp, q, _, a, _⟩
    · rw [q] at e; cases e
    · rw [q] at e; cases e
      exact push_ne how a (I.d3 r q)
theorem RdI.pushL (I : RdI h0 h rest lp lc fp fc NL FB s) {lp' : Option Addr} {lc' R : Nat} {x : NRow} (ex : x.p = some ⟨R, 0, none⟩) (ar : At h R (intsV .i64 x.l)) (n1 : lp ≠ some ⟨R, 0, none⟩) (n2 : fp ≠ some ⟨R, 0, none⟩) (n3 : R ≠ rest)
    (l : h0.le h') (w : OwnL h0 h' zSl lp' lc' (netV NL ++ netV [x]))
    (keep : ∀ b y, h b = some y → lp ≠ some ⟨b, 0, none⟩ → h' b = some y) (how : lp' = lp ∨ ∃ s, lp' = some ⟨s, 0, none⟩ ∧ h s = none) : RdI h0 h' rest lp' lc' fp fc (NL ++ [x]) FB s := by
  have d3' : ∀ r, fp = some ⟨r, 0, none⟩ → lp ≠ some ⟨r, 0, none⟩ := fun r e e2 => I.d3 r e2 e
  refine ⟨l, keepAt keep I.ar I.d1, I.nr, ?_, I.fl.mv fun b xs e a => keepAt keep a (d3' b e), fun y hy => ?_, push_ne how I.ar I.d1, I.d2, fun r e e2 => ?_⟩
  · have : netV (NL ++ [x]) = netV NL ++ netV [x] := by rw [netV_map, netV_map, netV_map, List.map_append]
    rw [this]; exact w
  · rcases List.mem_append.1 hy with hy | hy
    · obtain ⟨r, e1, e2, e3, e4, e5⟩ := I.rows y hy
      exact ⟨r, e1, keepAt keep e2 e3, push_ne how e2 e3, e4, e5⟩
    · rw [List.mem_singleton] at hy
      subst hy
      exact ⟨R, ex, keepAt keep ar n1, push_ne how ar n1, n2, n3⟩
  · rcases I.fl with ⟨_, q, _⟩ | ⟨r', sp, q, _, a, _⟩
    · rw [q] at e2; cases e2
    · rw [q] at e2; cases e2
      exact push_ne how a (d3' r q) e
theorem RdI.nets (I : RdI h0 h rest lp lc fp fc NL FB s) : Nets h lp NL := ⟨I.ol.rd, fun x hx => by
  obtain ⟨r, e1, e2, _⟩ := I.rows x hx
  rw [e1]
  have := At.toRd (ws := []) (by rw [List.append_nil]; exact e2)
  exact this⟩
end
end Go.Proofs.Ytkcogdmddhkldaa
