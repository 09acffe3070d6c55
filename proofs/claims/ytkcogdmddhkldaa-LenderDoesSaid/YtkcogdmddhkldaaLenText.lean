/- Providers as bytes. -/
import Derived.Test.YtkcogdmddhkldaaLenDraw
import Derived.Test.YtkcogdmddhkldaaByt
import Derived.Test.YtkcogdmddhkldaaEqLenB
namespace Go.Proofs.Ytkcogdmddhkldaa
open Go Go.Sy Go.Value
set_option linter.unusedVariables false
set_option linter.unusedSimpArgs false

def flagI (b : Bool) : Int := if b = true then 1 else 0
def linT : List Bool → Mx → List Int
  | f :: F, r :: M => flagI f :: (r.flatMap be8 ++ linT F M)
  | _, _ => []
def textN (S : Ln) : List Int := (S.L.length : Int) :: (S.cur : Int) :: linT S.F S.L
theorem be8_flat' (l : List Int) : (l.flatMap be8).length = l.length * 8 := by
  induction l with
  | nil => rfl
  | cons a l ih => rw [List.flatMap_cons, List.length_append, be8_length, ih, List.length_cons]; omega
theorem flat8_r (l : List Int) : bytes (l.flatMap be8) := fun b hb => by
  obtain ⟨n, _, h⟩ := List.mem_flatMap.1 hb
  exact be8_r n b h
theorem linT_len {w : Nat} : ∀ {F : List Bool} {M : Mx}, F.length = M.length → (∀ r ∈ M, r.length = w) → (linT F M).length = M.length * (1 + w * 8)
  | [], [], _, _ => by simp [linT]
  | f :: F, r :: M, h, hr => by
    rw [linT, List.length_cons, List.length_append, be8_flat', hr r (List.mem_cons_self ..), linT_len (by simpa using h) (fun x hx => hr x (List.mem_cons_of_mem _ hx)), List.length_cons, Nat.succ_mul]
    omega
theorem flagI_r (f : Bool) : 0 ≤ flagI f ∧ flagI f < 256 := by unfold flagI; split <;> omega
theorem linT_r : ∀ (F : List Bool) (M : Mx), bytes (linT F M)
  | [], _ => by intro b h; cases h
  | f :: F, [] => by intro b h; cases h
  | f :: F, r :: M => by
    intro b hb
    rw [linT] at hb
    rcases List.mem_cons.1 hb with rfl | hb
    · exact flagI_r f
    · exact bytes_app (flat8_r r) (linT_r F M) b hb
theorem textN_r {S : Ln} (o : S.Ok) : bytes (textN S) := fun b hb => by
  have := o.n8
  have := o.c8
  rcases List.mem_cons.1 hb with rfl | hb
  · omega
  · rcases List.mem_cons.1 hb with rfl | hb
    · omega
    · exact linT_r _ _ b hb
theorem u8V_ints (l : List Int) : u8V l = intsV .u8 l := by rw [u8V_map, intsV_map]
section
variable {h0 : Heap} {K : Value → Heap → Prop} {q : Option Addr} {row : List Int} {n qc : Nat} (I : Ints .i64 h0 q row) (hn : row.length = n) (hs : n ≤ 1000)
theorem laid_1 {x t10 : Int} : ∀ (j : Nat) (h : Heap) (b : Option Addr) (bc : Nat) (bs : List Int), j ≤ 8 → bs.length + j < 1000000 → h0.le h → OwnL h0 h [.int .u8 0] b bc (intsV .u8 bs) →
    (∀ b' bc' h', h0.le h' → OwnL h0 h' [.int .u8 0] b' bc' (intsV .u8 (bs ++ beF x j)) → L_lender_laid_0 b' (bs.length + j) bc' q n qc (n : Int) (IntKind.wrap .i64 (t10 + 1)) h' K) →
    L_lender_laid_1 b bs.length bc x ((j : Int) - 1) q n qc (n : Int) t10 h K
  | 0, h, b, bc, bs, _, _, l0, own, k => by
    refine L_lender_laid_1r _ _ _ _ _ _ _ _ _ _ _ _ ?_
    unfold L_lender_laid_1T
    refine Br.no (by simp) ?_
    have := k b bc h l0 (by rw [show beF x 0 = [] from rfl, List.append_nil]; exact own)
    exact this
  | j + 1, h, b, bc, bs, hj, hb, l0, own, k => by
    refine L_lender_laid_1r _ _ _ _ _ _ _ _ _ _ _ _ ?_
    unfold L_lender_laid_1T
    rw [show ((j + 1 : Nat) : Int) - 1 = (j : Int) by omega]
    refine Br.yes (by simp) (Br.yes (by rw [wrap_i64_id (by omega) (by omega)]; simp; omega) ?_)
    rw [shift_byte x j (by omega)]
    refine push1 own (by decide) l0 (by omega) rfl rfl (by rw [intsV_length]; simp) fun r h1 p' c' h' hr l1 l' w' keep how => ?_
    rw [show [Value.int .u8 (byteAt x j)] = intsV .u8 [byteAt x j] from rfl, ← intsV_append] at w'
    rw [wrap_i64_id (n := (j : Int) - 1) (by omega) (by omega)]
    have := laid_1 (x := x) (t10 := t10) j h' p' c' (bs ++ [byteAt x j]) (by omega) (by rw [List.length_append]; simp; omega) l' w' fun b' bc' h2 l2 w2 => by
      have kk := k b' bc' h2 l2 (by rw [List.append_assoc] at w2; exact w2)
      rw [List.length_append, show bs.length + [byteAt x j].length + j = bs.length + (j + 1) by simp; omega]
      exact kk
    rw [List.length_append] at this
    exact this
include I hn hs
theorem laid_0 : ∀ (m j : Nat) (h : Heap) (b : Option Addr) (bc : Nat) (bs : List Int), m + j = n → bs.length + m * 8 < 1000000 → h0.le h → OwnL h0 h [.int .u8 0] b bc (intsV .u8 bs) →
    (∀ b' bc' h', h0.le h' → OwnL h0 h' [.int .u8 0] b' bc' (intsV .u8 (bs ++ (row.drop j).flatMap be8)) → K (slice b' (bs.length + m * 8) bc') h') →
    L_lender_laid_0 b bs.length bc q n qc (n : Int) (j : Int) h K
  | 0, j, h, b, bc, bs, hj, hb, l0, own, k => by
    refine L_lender_laid_0r _ _ _ _ _ _ _ _ _ _ ?_
    unfold L_lender_laid_0T
    refine Br.no (by simp; omega) (Ret.mk ?_)
    have := k b bc h l0 (by rw [List.drop_eq_nil_of_le (by omega), List.flatMap_nil, List.append_nil]; exact own)
    rw [Nat.zero_mul, Nat.add_zero] at this
    exact this
  | m + 1, j, h, b, bc, bs, hj, hb, l0, own, k => by
    refine L_lender_laid_0r _ _ _ _ _ _ _ _ _ _ ?_
    unfold L_lender_laid_0T
    have hx : row[j]? = some row[j] := List.getElem?_eq_getElem (by omega)
    rw [List.drop_eq_getElem_cons (by omega : j < row.length), List.flatMap_cons] at k
    refine Br.yes (by simp; omega) (ix (I.le l0) hn rfl hx ?_)
    refine laid_1 (x := row[j]) (t10 := (j : Int)) 8 h b bc bs (by omega) (by omega) l0 own fun b' bc' h' l' w' => ?_
    rw [w1 (by omega)]
    have := laid_0 m (j + 1) h' b' bc' (bs ++ beF row[j] 8) (by omega) (by rw [List.length_append, beF_length]; omega) l' w' fun b2 c2 h2 l2 w2 => by
      have kk := k b2 c2 h2 l2 (by rw [List.append_assoc] at w2; exact w2)
      rw [List.length_append, beF_length, show bs.length + 8 + m * 8 = bs.length + (m + 1) * 8 by omega]
      exact kk
    rw [List.length_append, beF_length] at this
    exact this
theorem S_laid {h : Heap} {b : Option Addr} {bn bc : Nat} {bs : List Int} (hb : bs.length = bn) (hb2 : bn + n * 8 < 1000000) (l0 : h0.le h) (own : OwnL h0 h [.int .u8 0] b bc (intsV .u8 bs))
    (k : ∀ b' bc' h', h0.le h' → OwnL h0 h' [.int .u8 0] b' bc' (intsV .u8 (bs ++ row.flatMap be8)) → K (slice b' (bs ++ row.flatMap be8).length bc') h') :
    CallA Try.prog fn_lender_laid [slice b bn bc, slice q n qc] h K := by
  subst hb
  refine F_lender_laid _ _ _ _ _ _ _ _ ?_
  unfold F_lender_laidT
  refine laid_0 I hn hs n 0 h b bc bs (by omega) hb2 l0 own fun b' bc' h' l' w' => ?_
  rw [List.drop_zero] at w'
  have := k b' bc' h' l' w'
  rw [List.length_append, be8_flat', hn] at this
  exact this
end
section
variable {h0 h : Heap} {K : Value → Heap → Prop} {f : Frm} {S : Ln}
theorem linT_drop {F : List Bool} {M : Mx} {j : Nat} (h1 : j < F.length) (h2 : j < M.length) : linT (F.drop j) (M.drop j) = flagI (F.getD j false) :: ((M.getD j []).flatMap be8 ++ linT (F.drop (j + 1)) (M.drop (j + 1))) := by
  rw [List.drop_eq_getElem_cons h1, List.drop_eq_getElem_cons h2, linT, List.getD_eq_getElem?_getD, List.getD_eq_getElem?_getD, List.getElem?_eq_getElem h1, List.getElem?_eq_getElem h2]; rfl
theorem LenAt.rowI (A : LenAt h f S) {i : Nat} (hi : i < S.L.length) : Ints .i64 h (some ⟨f.R i, 0, none⟩) (S.L.getD i []) := (A.row i hi).toRd
theorem text_loop (A : LenAt h0 f S) {n : Nat} (hn : S.L.length = n)
    (k : ∀ h', h0.le h' → K (string (strOf (textN S))) h') :
    ∀ (m j : Nat) (h : Heap) (b : Option Addr) (bc : Nat) (bs : List Int), m + j = n → bs.length ≤ 2 + j * 100 → h0.le h → OwnL h0 h [.int .u8 0] b bc (intsV .u8 bs) → bs ++ linT (S.F.drop j) (S.L.drop j) = textN S →
    L_plender_Lenders_Text_0 b bs.length bc f.a n f.C (n : Int) (j : Int) h K
  | 0, j, h, b, bc, bs, hj, hb, l0, own, e => by
    refine L_plender_Lenders_Text_0r _ _ _ _ _ _ _ _ _ _ ?_
    unfold L_plender_Lenders_Text_0T
    have hf := A.ok.fl
    rw [List.drop_eq_nil_of_le (by omega), linT, List.append_nil] at e
    · subst e
      refine Br.no (by simp; omega) ⟨textN S, rfl, by rw [u8V_ints]; exact own.rd, Ret.mk (k h l0)⟩
    · intro _ _ _ _ h1; cases h1
  | m + 1, j, h, b, bc, bs, hj, hb, l0, own, e => by
    refine L_plender_Lenders_Text_0r _ _ _ _ _ _ _ _ _ _ ?_
    unfold L_plender_Lenders_Text_0T
    have hf := A.ok.fl
    have n8 := A.ok.n8
    have c8 := A.ok.c8
    have hjl : j < S.L.length := by omega
    rw [linT_drop (by omega) hjl] at e
    have A1 := A.le l0
    obtain ⟨B, eB, _⟩ := A1.prov hjl
    have hrow := A.ok.sh.row hjl
    refine Br.yes (by simp; omega) ⟨by omega, by omega, withAddr_intro eB ⟨_, _, _, A1.line hjl eB, _, A1.flag hjl eB, newB_cp (vs := [slice (some ⟨f.R j, 0, none⟩) S.cur (f.CC j), .bool (S.F.getD j false)]) rfl fun r h1 hr l1 Ar st => ⟨st, _, Ar.cell rfl, ?_⟩⟩⟩
    try dsimp only
    simp only [Int.toNat_natCast]
    generalize h1.setN r 0 _ = h2 at *
    have go : ∀ v : Int, v = flagI (S.F.getD j false) → newB h2 [.int .u8 v] 5 fun (r_1 : Nat) (h : Heap) => AppA [int IntKind.u8 0] 5 h b bs.length bc 1 (some { block := r_1, off := 0 }) fun (ap : Option Addr) (cp : Nat) (h_1 : Heap) =>
        (Heap.le h h_1 ∨ Keeps [r] h h_1) ∧ CallA Try.prog fn_lender_laid [slice ap (bs.length + 1) cp, slice (some ⟨f.R j, 0, none⟩) S.cur (f.CC j)] h_1 fun (v : Value) (h : Heap) =>
        ∃ (a : Option Addr), ∃ (n_1 : Nat), ∃ (m : Nat), v = slice a n_1 m ∧ L_plender_Lenders_Text_0 a n_1 m f.a n f.C (n : Int) (IntKind.wrap IntKind.i64 ((j : Int) + 1)) h K := fun v hv => by
      refine push1 (own.le l1) (by decide) (Heap.le_trans l0 l1) (by omega) rfl rfl (by rw [intsV_length]; simp) fun r2 h3 p' c' h4 hr2 l3 l4 w4 keep how => ⟨.inr fun x hx y hy => ?_, ?_⟩
      · rw [List.mem_singleton] at hx
        subst hx
        refine keep x y hy fun e2 => ?_
        rcases own with ⟨_, e3, _⟩ | ⟨s, sp, e3, _, As, _⟩
        · rw [e3] at e2; cases e2
        · rw [e3] at e2; cases e2; exact As.ne hr rfl
      · rw [show [Value.int .u8 v] = intsV .u8 [v] from rfl, ← intsV_append] at w4
        refine S_laid (A.rowI hjl) hrow (by omega) (bs := bs ++ [v]) (by rw [List.length_append]; rfl) (by omega) l4 w4 fun b5 c5 h5 l5 w5 => ⟨_, _, _, rfl, ?_⟩
        rw [w1 (by omega)]
        refine text_loop A hn k m (j + 1) h5 b5 c5 _ (by omega) ?_ l5 w5 ?_
        · rw [List.length_append, be8_flat', hrow, List.length_append]; simp; omega
        · rw [← e, hv]; simp
    cases hfl : S.F.getD j false with
    | true => exact Br.yes rfl ⟨_, _, _, by have := Ar.cell (o := 0) rfl; exact this, go 1 (by rw [hfl]; rfl)⟩
    | false => exact Br.no rfl ⟨_, _, _, by have := Ar.cell (o := 0) rfl; exact this, go 0 (by rw [hfl]; rfl)⟩
theorem S_nText (A : LenAt h f S) (k : ∀ h', h.le h' → K (string (strOf (textN S))) h') : CallA Try.prog fn_plender_Lenders_Text [pointer (some ⟨f.p, 0, none⟩)] h K := by
  refine F_plender_Lenders_Text _ _ _ ?_
  unfold F_plender_Lenders_TextT
  have n8 := A.ok.n8
  have c8 := A.ok.c8
  refine withAddr_intro rfl ⟨_, _, _, A.provs, withAddr_intro rfl ⟨_, A.cur, fun r hr => withAddr_intro rfl ⟨_, _, _, (A.le (le_ins hr)).provs, ?_⟩⟩⟩
  rw [wrap_u8, wrap_u8, show (S.L.length : Int) % 256 = S.L.length by omega, show (S.cur : Int) % 256 = S.cur by omega]
  refine text_loop A rfl k S.L.length 0 _ _ 2 [(S.L.length : Int), (S.cur : Int)] (by omega) (by simp) (le_ins hr) ?_ rfl
  exact .inr ⟨r, [], rfl, hr, At.new h r _ _, by simp [intsV]⟩
end
end Go.Proofs.Ytkcogdmddhkldaa
