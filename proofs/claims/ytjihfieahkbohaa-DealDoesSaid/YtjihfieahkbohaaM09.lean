import Derived.Test.YtjihfieahkbohaaM08
import Derived.Test.YtjihfieahkbohaaM02
import Derived.Test.YtjihfieahkbohaaM03
/- Instructions: as bytes, and read from them; and those of a state in order. -/
namespace Go.Proofs.Ytjihfieahkbohaa
open Go Go.Sy Go.Value
set_option linter.unusedVariables false
set_option linter.unusedSimpArgs false

/-! a number by so many bytes -/
theorem dec1 {l : List Int} (h : l.length = 1) (hb : bytes l) : beF (decL 0 l) 1 = l ∧ 0 ≤ decL 0 l ∧ decL 0 l < 256 := by
  match l, h with
  | [a], _ =>
    have h0 := hb a (by simp)
    have e : decL 0 [a] = a := by simp only [decL]; rw [wrap_i64_id (by omega) (by omega)]; omega
    rw [e]
    refine ⟨?_, h0⟩
    simp only [beF, byteAt]
    rw [show (2 : Int) ^ (8 * 0) = 1 from rfl, show a / 1 % 256 = a by omega]
theorem dec2 {l : List Int} (h : l.length = 2) (hb : bytes l) : beF (decL 0 l) 2 = l ∧ 0 ≤ decL 0 l ∧ decL 0 l < 65536 := by
  match l, h with
  | [a, b], _ =>
    have h0 := hb a (by simp)
    have h1 := hb b (by simp)
    have e : decL 0 [a, b] = a * 256 + b := by
      simp only [decL]
      rw [wrap_i64_id (n := 0 * 256 + a) (by omega) (by omega), wrap_i64_id (by omega) (by omega)]; omega
    rw [e]
    refine ⟨?_, by omega, by omega⟩
    simp only [beF, byteAt]
    rw [show (2 : Int) ^ (8 * 0) = 1 from rfl, show (2 : Int) ^ (8 * 1) = 256 from rfl, show (a * 256 + b) / 256 % 256 = a by omega, show (a * 256 + b) / 1 % 256 = b by omega]
theorem dec4 {l : List Int} (h : l.length = 4) (hb : bytes l) : beF (decL 0 l) 4 = l ∧ 0 ≤ decL 0 l ∧ decL 0 l < 4294967296 := by
  match l, h with
  | [a, b, c, d], _ =>
    have h0 := hb a (by simp)
    have h1 := hb b (by simp)
    have h2 := hb c (by simp)
    have h3 := hb d (by simp)
    have e : decL 0 [a, b, c, d] = a * 16777216 + b * 65536 + c * 256 + d := by
      simp only [decL]
      rw [wrap_i64_id (n := 0 * 256 + a) (by omega) (by omega), wrap_i64_id (n := (0 * 256 + a) * 256 + b) (by omega) (by omega), wrap_i64_id (n := ((0 * 256 + a) * 256 + b) * 256 + c) (by omega) (by omega), wrap_i64_id (by omega) (by omega)]; omega
    rw [e]
    refine ⟨?_, by omega, by omega⟩
    simp only [beF, byteAt]
    rw [show (2 : Int) ^ (8 * 0) = 1 from rfl, show (2 : Int) ^ (8 * 1) = 256 from rfl, show (2 : Int) ^ (8 * 2) = 65536 from rfl, show (2 : Int) ^ (8 * 3) = 16777216 from rfl,
      show (a * 16777216 + b * 65536 + c * 256 + d) / 16777216 % 256 = a by omega, show (a * 16777216 + b * 65536 + c * 256 + d) / 65536 % 256 = b by omega,
      show (a * 16777216 + b * 65536 + c * 256 + d) / 256 % 256 = c by omega, show (a * 16777216 + b * 65536 + c * 256 + d) / 1 % 256 = d by omega]
def rawI : Int → List Int → Int
  | a, [] => a
  | a, b :: l => rawI (a * 256 + b) l
theorem decL_rawI : ∀ (l : List Int) (a : Int), ∃ k, decL a l = rawI a l + k * 18446744073709551616
  | [], a => ⟨0, by rw [decL, rawI]; omega⟩
  | b :: l, a => by
    rw [decL, rawI]
    obtain ⟨k, hk⟩ := wrap_u64c (a * 256 + b)
    have : ∀ (l : List Int) (x y k : Int), x = y + k * 18446744073709551616 → ∃ k', rawI x l = rawI y l + k' * 18446744073709551616 := by
      intro l
      induction l with
      | nil => exact fun x y k h => ⟨k, h⟩
      | cons b l ih => exact fun x y k h => ih (x * 256 + b) (y * 256 + b) (k * 256) (by rw [h]; omega)
    obtain ⟨k1, h1⟩ := decL_rawI l (IntKind.wrap .i64 (a * 256 + b))
    obtain ⟨k2, h2⟩ := this l _ _ k hk
    exact ⟨k1 + k2, by rw [h1, h2]; omega⟩
theorem dec8 {l : List Int} (h : l.length = 8) (hb : bytes l) : beF (decL 0 l) 8 = l := by
  match l, h with
  | [a, b, c, d, e, f, g, i], _ =>
    obtain ⟨k, hk⟩ := decL_rawI [a, b, c, d, e, f, g, i] 0
    rw [hk]
    have h0 := hb a (by simp)
    have h1 := hb b (by simp)
    have h2 := hb c (by simp)
    have h3 := hb d (by simp)
    have h4 := hb e (by simp)
    have h5 := hb f (by simp)
    have h6 := hb g (by simp)
    have h7 := hb i (by simp)
    have er : rawI 0 [a, b, c, d, e, f, g, i] = a * 72057594037927936 + b * 281474976710656 + c * 1099511627776 + d * 4294967296 + e * 16777216 + f * 65536 + g * 256 + i := by
      simp only [rawI]; omega
    rw [er]
    simp only [beF, byteAt]
    clear hb hk er
    refine List.cons_eq_cons.2 ⟨?_, List.cons_eq_cons.2 ⟨?_, List.cons_eq_cons.2 ⟨?_, List.cons_eq_cons.2 ⟨?_, List.cons_eq_cons.2 ⟨?_, List.cons_eq_cons.2 ⟨?_, List.cons_eq_cons.2 ⟨?_, List.cons_eq_cons.2 ⟨?_, rfl⟩⟩⟩⟩⟩⟩⟩⟩
    · rw [show (2 : Int) ^ (8 * 7) = 72057594037927936 from rfl]; omega
    · rw [show (2 : Int) ^ (8 * 6) = 281474976710656 from rfl]; omega
    · rw [show (2 : Int) ^ (8 * 5) = 1099511627776 from rfl]; omega
    · rw [show (2 : Int) ^ (8 * 4) = 4294967296 from rfl]; omega
    · rw [show (2 : Int) ^ (8 * 3) = 16777216 from rfl]; omega
    · rw [show (2 : Int) ^ (8 * 2) = 65536 from rfl]; omega
    · rw [show (2 : Int) ^ (8 * 1) = 256 from rfl]; omega
    · rw [show (2 : Int) ^ (8 * 0) = 1 from rfl]; omega
theorem decI64 : ∀ (l : List Int) (a : Int), I64 a → I64 (decL a l)
  | [], a, h => h
  | b :: l, a, h => by
    rw [decL]
    refine decI64 l _ ?_
    rw [wrap_i64]; unfold I64; omega
theorem dec_be {n : Int} {w : Nat} (h0 : 0 ≤ n) (h1 : n < 256 ^ w) (h2 : n ≤ 9223372036854775807) : decL 0 (beF n w) = n := by
  have := dec_beF n w 0
  rw [show IntKind.wrap IntKind.i64 0 = 0 from rfl] at this
  rw [this, Int.zero_mul, Int.zero_add, Int.emod_eq_of_lt h0 h1, wrap_i64_id (by omega) (by omega)]

/-! an instruction's -/
def entB (x : En) : List Int := beF x.d.id 4 ++ (beF x.d.a 1 ++ (beF x.d.b 1 ++ (beF x.d.sc 1 ++ (beF x.d.bc 1 ++ (beF x.d.sell 8 ++ (beF x.d.buy 8 ++ (beF x.st 1 ++ (beF x.ask 1 ++ beF x.ord 2))))))))
def recE (l : List Int) : En := ⟨⟨decL 0 (l.take 4), decL 0 ((l.drop 4).take 1), decL 0 ((l.drop 5).take 1), decL 0 ((l.drop 6).take 1), decL 0 ((l.drop 7).take 1), decL 0 ((l.drop 8).take 8), decL 0 ((l.drop 16).take 8)⟩, decL 0 ((l.drop 24).take 1), decL 0 ((l.drop 25).take 1), decL 0 ((l.drop 26).take 2)⟩
theorem entB_length (x : En) : (entB x).length = 28 := by unfold entB; simp only [List.length_append, beF_length]
theorem entB_r (x : En) : bytes (entB x) := by
  unfold entB
  exact bytes_app (beF_r _ _) (bytes_app (beF_r _ _) (bytes_app (beF_r _ _) (bytes_app (beF_r _ _) (bytes_app (beF_r _ _) (bytes_app (beF_r _ _) (bytes_app (beF_r _ _) (bytes_app (beF_r _ _) (bytes_app (beF_r _ _) (beF_r _ _)))))))))
theorem bytes_take {l : List Int} (h : bytes l) (n : Nat) : bytes (l.take n) := fun b hb => h b (List.mem_of_mem_take hb)
theorem bytes_drop {l : List Int} (h : bytes l) (n : Nat) : bytes (l.drop n) := fun b hb => h b (List.mem_of_mem_drop hb)
theorem td {l : List Int} (a w : Nat) {r : List Int} (hr : r = l.drop (a + w)) : (l.drop a).take w ++ r = l.drop a := by
  subst hr
  rw [← List.drop_drop, List.take_append_drop]
theorem tdl {l : List Int} {a w : Nat} (h : a + w ≤ l.length) : ((l.drop a).take w).length = w := by rw [List.length_take, List.length_drop]; omega
theorem rec_ent {l : List Int} (h : l.length = 28) (hb : bytes l) : entB (recE l) = l := by
  unfold entB recE
  dsimp only
  have b : ∀ a w, bytes ((l.drop a).take w) := fun a w => bytes_take (bytes_drop hb a) w
  rw [show l.take 4 = (l.drop 0).take 4 by rw [List.drop_zero]]
  rw [(dec4 (tdl (by omega)) (b 0 4)).1, (dec1 (tdl (by omega)) (b 4 1)).1, (dec1 (tdl (by omega)) (b 5 1)).1, (dec1 (tdl (by omega)) (b 6 1)).1, (dec1 (tdl (by omega)) (b 7 1)).1, dec8 (tdl (by omega)) (b 8 8), dec8 (tdl (by omega)) (b 16 8), (dec1 (tdl (by omega)) (b 24 1)).1, (dec1 (tdl (by omega)) (b 25 1)).1, (dec2 (tdl (by omega)) (b 26 2)).1]
  have e : (l.drop 26).take 2 = l.drop 26 := List.take_of_length_le (by rw [List.length_drop]; omega)
  rw [e, td 25 1 rfl, td 24 1 rfl, td 16 8 rfl, td 8 8 rfl, td 7 1 rfl, td 6 1 rfl, td 5 1 rfl, td 4 1 rfl, td 0 4 rfl, List.drop_zero]
/-- an entry that fits its bytes -/
structure FitE (x : En) : Prop where
  id : 0 ≤ x.d.id ∧ x.d.id < 4294967296
  a : 0 ≤ x.d.a ∧ x.d.a < 256
  b : 0 ≤ x.d.b ∧ x.d.b < 256
  sc : 0 ≤ x.d.sc ∧ x.d.sc < 256
  bc : 0 ≤ x.d.bc ∧ x.d.bc < 256
  sell : 0 ≤ x.d.sell ∧ x.d.sell ≤ 9223372036854775807
  buy : 0 ≤ x.d.buy ∧ x.d.buy ≤ 9223372036854775807
  st : 0 ≤ x.st ∧ x.st < 256
  ask : 0 ≤ x.ask ∧ x.ask < 256
  ord : 0 ≤ x.ord ∧ x.ord < 65536
theorem ent_rec {x : En} (f : FitE x) : recE (entB x) = x := by
  obtain ⟨⟨id, a, b, sc, bc, sell, buy⟩, st, ask, ord⟩ := x
  obtain ⟨h1, h2, h3, h4, h5, h6, h7, h8, h9, h10⟩ := f
  dsimp only at h1 h2 h3 h4 h5 h6 h7 h8 h9 h10
  have p : ∀ (x : List Int) (n m : Nat) (r : List Int), x.length = n → (x ++ r).drop (n + m) = r.drop m := fun x n m r hx => by rw [← hx, List.drop_append, List.drop_eq_nil_of_le (by omega), Nat.add_sub_cancel_left, List.nil_append]
  have q : ∀ (x : List Int) (n : Nat) (r : List Int), x.length = n → (x ++ r).take n = x := fun x n r hx => by rw [← hx, List.take_left]
  unfold recE entB
  dsimp only
  rw [q _ 4 _ (beF_length _ _)]
  rw [p _ 4 0 _ (beF_length _ _), p _ 4 1 _ (beF_length _ _), p _ 4 2 _ (beF_length _ _), p _ 4 3 _ (beF_length _ _), p _ 4 4 _ (beF_length _ _), p _ 4 12 _ (beF_length _ _), p _ 4 20 _ (beF_length _ _), p _ 4 21 _ (beF_length _ _), p _ 4 22 _ (beF_length _ _), List.drop_zero, q _ 1 _ (beF_length _ _)]
  rw [p _ 1 0 _ (beF_length _ _), p _ 1 1 _ (beF_length _ _), p _ 1 2 _ (beF_length _ _), p _ 1 3 _ (beF_length _ _), p _ 1 11 _ (beF_length _ _), p _ 1 19 _ (beF_length _ _), p _ 1 20 _ (beF_length _ _), p _ 1 21 _ (beF_length _ _), List.drop_zero, q _ 1 _ (beF_length _ _)]
  rw [p _ 1 0 _ (beF_length _ _), p _ 1 1 _ (beF_length _ _), p _ 1 2 _ (beF_length _ _), p _ 1 10 _ (beF_length _ _), p _ 1 18 _ (beF_length _ _), p _ 1 19 _ (beF_length _ _), p _ 1 20 _ (beF_length _ _), List.drop_zero, q _ 1 _ (beF_length _ _)]
  rw [p _ 1 0 _ (beF_length _ _), p _ 1 1 _ (beF_length _ _), p _ 1 9 _ (beF_length _ _), p _ 1 17 _ (beF_length _ _), p _ 1 18 _ (beF_length _ _), p _ 1 19 _ (beF_length _ _), List.drop_zero, q _ 1 _ (beF_length _ _)]
  rw [p _ 1 0 _ (beF_length _ _), p _ 1 8 _ (beF_length _ _), p _ 1 16 _ (beF_length _ _), p _ 1 17 _ (beF_length _ _), p _ 1 18 _ (beF_length _ _), List.drop_zero, q _ 8 _ (beF_length _ _)]
  rw [p _ 8 0 _ (beF_length _ _), p _ 8 8 _ (beF_length _ _), p _ 8 9 _ (beF_length _ _), p _ 8 10 _ (beF_length _ _), List.drop_zero, q _ 8 _ (beF_length _ _)]
  rw [p _ 8 0 _ (beF_length _ _), p _ 8 1 _ (beF_length _ _), p _ 8 2 _ (beF_length _ _), List.drop_zero, q _ 1 _ (beF_length _ _)]
  rw [p _ 1 0 _ (beF_length _ _), p _ 1 1 _ (beF_length _ _), List.drop_zero, q _ 1 _ (beF_length _ _)]
  rw [p _ 1 0 _ (beF_length _ _), List.drop_zero, List.take_of_length_le (Nat.le_of_eq (beF_length _ _))]
  rw [dec_be h1.1 (by omega) (by omega), dec_be h2.1 (by omega) (by omega), dec_be h3.1 (by omega) (by omega), dec_be h4.1 (by omega) (by omega), dec_be h5.1 (by omega) (by omega), dec_be h6.1 (by omega) (by omega), dec_be h7.1 (by omega) (by omega), dec_be h8.1 (by omega) (by omega), dec_be h9.1 (by omega) (by omega), dec_be h10.1 (by omega) (by omega)]
/-! a book's -/
def textD (S : Bk) : List Int := beF (S.L.length : Int) 2 ++ S.L.flatMap entB
theorem flat28 (L : List En) : (L.flatMap entB).length = L.length * 28 := by
  induction L with
  | nil => rfl
  | cons x L ih => rw [List.flatMap_cons, List.length_append, entB_length, ih, List.length_cons]; omega
theorem textD_length (S : Bk) : (textD S).length = 2 + S.L.length * 28 := by unfold textD; rw [List.length_append, beF_length, flat28]
theorem flat28_r (L : List En) : bytes (L.flatMap entB) := fun b hb => by
  obtain ⟨x, _, h⟩ := List.mem_flatMap.1 hb
  exact entB_r x b h
theorem textD_r (S : Bk) : bytes (textD S) := bytes_app (beF_r _ _) (flat28_r _)
def recs : Nat → List Int → List En
  | 0, _ => []
  | n + 1, l => recE (l.take 28) :: recs n (l.drop 28)
theorem recs_length : ∀ (n : Nat) (l : List Int), (recs n l).length = n
  | 0, _ => rfl
  | n + 1, l => by rw [recs, List.length_cons, recs_length n]
theorem recs_get : ∀ (n : Nat) (l : List Int) (j : Nat), j < n → (recs n l)[j]? = some (recE ((l.drop (28 * j)).take 28))
  | 0, _, _, h => by omega
  | n + 1, l, 0, _ => rfl
  | n + 1, l, j + 1, h => by
    rw [recs, List.getElem?_cons_succ, recs_get n _ j (by omega), List.drop_drop, show 28 + 28 * j = 28 * (j + 1) by omega]
theorem recs_text : ∀ (n : Nat) (l : List Int), l.length = n * 28 → bytes l → (recs n l).flatMap entB = l
  | 0, l, h, _ => by
    have : l = [] := List.length_eq_zero_iff.1 (by omega)
    subst this; rfl
  | n + 1, l, h, hb => by
    rw [recs, List.flatMap_cons, rec_ent (by rw [List.length_take]; omega) (bytes_take hb _), recs_text n _ (by rw [List.length_drop]; omega) (bytes_drop hb _), List.take_append_drop]
theorem text_recs : ∀ (L : List En), (∀ x ∈ L, FitE x) → recs L.length (L.flatMap entB) = L
  | [], _ => rfl
  | x :: L, h => by
    rw [List.length_cons, List.flatMap_cons, recs, List.take_left' (entB_length x), List.drop_left' (entB_length x), ent_rec (h x (List.mem_cons_self ..)), text_recs L fun y hy => h y (List.mem_cons_of_mem _ hy)]
def cntD (l : List Int) : Nat := (decL 0 (l.take 2)).toNat
def recsD (l : List Int) : List En := recs (cntD l) (l.drop 2)
def ndL (L : List En) : Prop := ∀ i x, L[i]? = some x → posE x.d.id L = some i
structure ReadOK (mem cur : Int) (l : List Int) : Prop where
  m1 : 1 ≤ mem ∧ mem ≤ 16
  c1 : 1 ≤ cur ∧ cur ≤ 8
  l2 : 2 ≤ l.length
  n : cntD l ≤ 200
  len : l.length = 2 + 28 * cntD l
  may : ∀ x ∈ recsD l, mayD mem cur x.d ∧ couldE x
  nd : ndL (recsD l)
  ords : (ordsL (recsD l)).Perm (oneTo (ordsL (recsD l)).length)
def readBk (mem cur : Int) (l : List Int) : Bk := ⟨mem, cur, recsD l, (ordsL (recsD l)).length⟩
theorem read_ok {mem cur : Int} {l : List Int} (hb : bytes l) (o : ReadOK mem cur l) : (readBk mem cur l).Ok ∧ textD (readBk mem cur l) = l := by
  refine ⟨{ m1 := o.m1, c1 := o.c1, n := by show (recs _ _).length ≤ 200; rw [recs_length]; exact o.n, may := fun x hx => (o.may x hx).1, i64 := fun x hx => ?_, nd := o.nd, could := fun x hx => (o.may x hx).2, ords := o.ords }, ?_⟩
  · obtain ⟨j, hj⟩ := List.mem_iff_getElem?.1 hx
    have hlt := (List.getElem?_eq_some_iff.1 hj).1
    have : (readBk mem cur l).L = recs (cntD l) (l.drop 2) := rfl
    rw [this] at hj hlt
    rw [recs_length] at hlt
    rw [recs_get _ _ _ hlt] at hj
    cases hj
    exact ⟨(decI64 _ _ (by unfold I64; omega)).2, (decI64 _ _ (by unfold I64; omega)).2⟩
  · unfold textD readBk recsD
    dsimp only
    have h2 := dec2 (l := l.take 2) (by rw [List.length_take]; have := o.l2; omega) (bytes_take hb _)
    rw [recs_length, recs_text _ _ (by rw [List.length_drop, o.len]; omega) (bytes_drop hb _)]
    have e : ((cntD l : Nat) : Int) = decL 0 (l.take 2) := by unfold cntD; omega
    rw [e, h2.1, List.take_append_drop]
theorem Bk.Ok.fit {S : Bk} (o : S.Ok) {x : En} (hx : x ∈ S.L) : FitE x := by
  obtain ⟨h1, h2, h3, h4, h5, h6⟩ := o.may x hx
  have h7 := o.i64 x hx
  have h8 := (o.could x hx).st
  have h9 := (o.could x hx).ask
  have h10 := o.ord hx
  have h11 := o.mat
  have h12 := o.m1
  have h13 := o.c1
  unfold twoB at h3 h4
  have h3 := of_decide_eq_true h3
  have h4 := of_decide_eq_true h4
  exact ⟨by omega, by omega, by omega, by omega, by omega, by omega, by omega, by omega, by omega, by omega⟩
theorem cnt_text {S : Bk} (o : S.Ok) : cntD (textD S) = S.L.length := by
  have := o.n
  unfold cntD textD
  rw [List.take_left' (beF_length _ _), dec_be (by omega) (by omega) (by omega)]
  omega
theorem recs_of_text {S : Bk} (o : S.Ok) : recsD (textD S) = S.L := by
  unfold recsD
  rw [cnt_text o]
  unfold textD
  rw [List.drop_left' (beF_length _ _), text_recs S.L fun x hx => o.fit hx]
theorem text_read {S : Bk} (o : S.Ok) : ReadOK S.mem S.cur (textD S) ∧ readBk S.mem S.cur (textD S) = S := by
  have hr := recs_of_text o
  have hl : (ordsL S.L).length = S.mat := by rw [o.ords.length_eq, oneTo_length]
  refine ⟨{ m1 := o.m1, c1 := o.c1, l2 := by rw [textD_length]; omega, n := by rw [cnt_text o]; exact o.n, len := by rw [cnt_text o, textD_length]; omega, may := ?_, nd := ?_, ords := ?_ }, ?_⟩
  · rw [hr]; exact fun x hx => ⟨o.may x hx, o.could x hx⟩
  · rw [hr]; exact o.nd
  · rw [hr, hl]; exact o.ords
  · unfold readBk
    rw [hr, hl]

/-! those of a state -/
theorem ords_pw : ∀ {L : List En}, (ordsL L).Nodup → L.Pairwise fun x y => 0 < x.ord → x.ord ≠ y.ord
  | [], _ => .nil
  | x :: L, h => by
    by_cases g : 0 < x.ord
    · have e : ordsL (x :: L) = x.ord :: ordsL L := by
        unfold ordsL
        rw [List.map_cons, List.filter_cons_of_pos (by simpa using g)]
      rw [e, List.nodup_cons] at h
      refine .cons (fun y hy _ he => h.1 (mem_ordsL.2 ⟨y, hy, he.symm, g⟩)) (ords_pw h.2)
    · have e : ordsL (x :: L) = ordsL L := by
        unfold ordsL
        rw [List.map_cons, List.filter_cons_of_neg (by simpa using g)]
      rw [e] at h
      exact .cons (fun y hy g2 => absurd g2 g) (ords_pw h)
theorem sorted_eq : ∀ {a b : List En}, a.Pairwise (fun x y => x.ord < y.ord) → b.Pairwise (fun x y => x.ord < y.ord) → (∀ x, x ∈ a ↔ x ∈ b) → a = b
  | [], [], _, _, _ => rfl
  | [], y :: b, _, _, h => by have := (h y).2 (List.mem_cons_self ..); cases this
  | x :: a, [], _, _, h => by have := (h x).1 (List.mem_cons_self ..); cases this
  | x :: a, y :: b, ha, hb, h => by
    obtain ⟨a1, a2⟩ := List.pairwise_cons.1 ha
    obtain ⟨b1, b2⟩ := List.pairwise_cons.1 hb
    have exy : x = y := by
      rcases List.mem_cons.1 ((h x).1 (List.mem_cons_self ..)) with e | hx
      · exact e
      · rcases List.mem_cons.1 ((h y).2 (List.mem_cons_self ..)) with e | hy
        · exact e.symm
        · have := b1 x hx
          have := a1 y hy
          omega
    subst exy
    congr 1
    refine sorted_eq a2 b2 fun z => ⟨fun hz => ?_, fun hz => ?_⟩
    · rcases List.mem_cons.1 ((h z).1 (List.mem_cons_of_mem _ hz)) with e | hz2
      · subst e
        have := a1 z hz; omega
      · exact hz2
    · rcases List.mem_cons.1 ((h z).2 (List.mem_cons_of_mem _ hz)) with e | hz2
      · subst e
        have := b1 z hz; omega
      · exact hz2
theorem all_sorted {S : Bk} (o : S.Ok) {d : List En} (p : d.Perm (S.L.filter fun x => decide (x.st = 2))) (s : d.Pairwise fun x y => x.ord ≤ y.ord) : d.map (fun x => x.d.id) = allM S 2 := by
  unfold allM
  rw [if_pos rfl]
  congr 1
  have pw : S.L.Pairwise fun x y => 0 < x.ord → x.ord ≠ y.ord := ords_pw (o.ords.nodup_iff.2 (oneTo_nodup _))
  have pos : ∀ x ∈ S.L, x.st = 2 → 0 < x.ord := fun x hx e => by
    have := o.could x hx
    unfold couldE at this; omega
  refine sorted_eq ?_ ?_ fun x => ?_
  · have f : (S.L.filter fun x => decide (x.st = 2)).Pairwise fun x y => x.ord ≠ y.ord := by
      refine List.Pairwise.imp_of_mem ?_ (pw.filter _)
      intro x y hx hy h
      have hx := List.mem_filter.1 hx
      exact h (pos x hx.1 (of_decide_eq_true hx.2))
    have g : d.Pairwise fun x y => x.ord ≠ y.ord := (p.pairwise_iff (fun h => fun e => h e.symm)).2 f
    refine List.Pairwise.imp (fun {a b} (h : a.ord ≤ b.ord ∧ a.ord ≠ b.ord) => by omega) (List.Pairwise.and s g)
  · rw [List.pairwise_flatMap]
    refine ⟨fun n hn => ?_, ?_⟩
    · refine List.Pairwise.imp_of_mem ?_ (pw.filter _)
      intro x y hx hy h
      have hx := of_decide_eq_true (List.mem_filter.1 hx).2
      have hy := of_decide_eq_true (List.mem_filter.1 hy).2
      exact absurd (hx.1.trans hy.1.symm) (h (by omega))
    · refine List.Pairwise.imp ?_ List.pairwise_lt_range
      intro n m hnm x hx y hy
      have hx := of_decide_eq_true (List.mem_filter.1 hx).2
      have hy := of_decide_eq_true (List.mem_filter.1 hy).2
      omega
  · rw [p.mem_iff, List.mem_flatMap, List.mem_filter]
    constructor
    · rintro ⟨hx, e⟩
      have e := of_decide_eq_true e
      have h1 := pos x hx e
      have h2 := o.ord hx
      exact ⟨(x.ord - 1).toNat, by rw [List.mem_range]; omega, List.mem_filter.2 ⟨hx, decide_eq_true ⟨by omega, e⟩⟩⟩
    · rintro ⟨n, hn, hx⟩
      have hx := List.mem_filter.1 hx
      exact ⟨hx.1, decide_eq_true (of_decide_eq_true hx.2).2⟩
end Go.Proofs.Ytjihfieahkbohaa

/- Lists in memory, read by number; new lists; errors as numbers. -/
namespace Go.Proofs.Ytjihfieahkbohaa
open Go Go.Sy Go.Value
set_option linter.unusedVariables false

/-- an element of a list in memory, read -/
theorem ix {k : IntKind} {h : Heap} {a : Option Addr} {l : List Int} {N : Nat} (I : Ints k h a l) (hn : l.length = N) {j : Nat} {i : Int} (hi : i = (j : Int)) {x : Int} (hx : l[j]? = some x) {Q : Int → Prop} (kk : Q x) :
    0 ≤ i ∧ i < (N : Int) ∧ withAddr a fun b o => ∃ n, h.cell b (o + i.toNat) = some (.int k n) ∧ Q n := by
  subst hi hn
  have hj : j < l.length := (List.getElem?_eq_some_iff.1 hx).1
  obtain ⟨b, o, e, hc⟩ := I.at hj
  refine ⟨by omega, by omega, withAddr_intro e ⟨x, ?_, kk⟩⟩
  have : l[j] = x := by rw [List.getElem?_eq_getElem hj] at hx; exact Option.some.inj hx
  rw [Int.toNat_natCast, hc, this]
theorem ix0 {k : IntKind} {h : Heap} {a : Option Addr} {l : List Int} {N : Nat} (I : Ints k h a l) (hn : l.length = N) {x : Int} (hx : l[0]? = some x) {Q : Int → Prop} (kk : Q x) :
    (0 : Int) ≤ 0 ∧ (0 : Int) < (N : Int) ∧ withAddr a fun b o => ∃ n, h.cell b o = some (.int k n) ∧ Q n := by
  have := ix I hn (i := 0) (j := 0) rfl hx kk
  exact this

def errB (b : Bool) : Int := if b then 0 else 1
theorem own_new {h : Heap} {r : Nat} {T : TypeId} {z : List Value} (hr : h r = none) : OwnL h (h.ins r (.cells [].toArray T (0, 0))) z (some ⟨r, 0, none⟩) 0 [] :=
  .inr ⟨r, [], rfl, hr, At.new h r [] T, by simp⟩
/-! rows of structs -/
def Arr {α : Type} (enc : α → List Value) (h : Heap) (p : Option Addr) (l : List α) : Prop := rdL h p (l.flatMap enc)
theorem Arr.le {α : Type} {enc : α → List Value} {h h' : Heap} {p : Option Addr} {l : List α} (a : Arr enc h p l) (e : h.le h') : Arr enc h' p l := rdL_le e a
theorem arr_len {α : Type} {enc : α → List Value} {w : Nat} (hw : ∀ x, (enc x).length = w) (l : List α) : (l.flatMap enc).length = l.length * w := by
  induction l with
  | nil => simp
  | cons a l ih => rw [List.flatMap_cons, List.length_append, ih, hw, List.length_cons, Nat.succ_mul]; omega
theorem arr_get {α : Type} {enc : α → List Value} {w : Nat} (hw : ∀ x, (enc x).length = w) : ∀ (l : List α) (j i : Nat) (x : α), l[j]? = some x → i < w → (l.flatMap enc)[j * w + i]? = (enc x)[i]?
  | [], j, _, x, h, _ => by simp at h
  | y :: l, 0, i, x, h, hi => by
    simp at h
    subst h
    rw [Nat.zero_mul, Nat.zero_add, List.flatMap_cons, List.getElem?_append_left (by rw [hw]; exact hi)]
  | y :: l, j + 1, i, x, h, hi => by
    rw [List.flatMap_cons, List.getElem?_append_right (by rw [hw, Nat.succ_mul]; omega), hw, show (j + 1) * w + i - w = j * w + i by rw [Nat.succ_mul]; omega]
    exact arr_get hw l j i x (by simpa using h) hi
theorem ax {α : Type} {enc : α → List Value} {w : Nat} (hw : ∀ x, (enc x).length = w) {h : Heap} {p : Option Addr} {l : List α} {N : Nat} (C : Arr enc h p l) (hn : l.length = N) {j : Nat} {i : Int} (hi : i = (j : Int)) {x : α} (hx : l[j]? = some x) (w0 : 0 < w) {Q : Nat → Nat → Prop}
    (kk : ∀ b o, p = some ⟨b, o, none⟩ → (∀ i, i < w → h.cell b (o + (j : Int).toNat * w + i) = (enc x)[i]?) → Q b o) : 0 ≤ i ∧ i < (N : Int) ∧ withAddr p Q := by
  subst hi hn
  have hj : j < l.length := (List.getElem?_eq_some_iff.1 hx).1
  have hjw : (j + 1) * w ≤ l.length * w := Nat.mul_le_mul_right _ hj
  rw [Nat.succ_mul] at hjw
  rcases C with e | ⟨b, o, e, r⟩
  · have := congrArg List.length e
    rw [arr_len hw, List.length_nil] at this
    omega
  · exact ⟨by omega, by omega, withAddr_intro e (kk b o e fun i hi => by rw [Int.toNat_natCast, Nat.add_assoc, r _ (by rw [arr_len hw]; omega), arr_get hw l j i x hx hi])⟩
theorem arr_of {α : Type} {enc : α → List Value} {P : α → Prop} {e : Sh} {h : Heap} {p : Option Addr} {n c : Nat} (H : (Sh.sl e).Has h [.slice p n c]) (dec : ∀ vs, e.Has h vs → ∃ x, vs = enc x ∧ P x) :
    n ≤ c ∧ c ≤ 9223372036854775807 ∧ ∃ l : List α, l.length = n ∧ Arr enc h p l ∧ ∀ x ∈ l, P x := by
  obtain ⟨h1, h2, L, hL, hA, hR⟩ := Sh.Has.list H
  refine ⟨h1, h2, ?_⟩
  have : ∀ L : List (List Value), (∀ vs ∈ L, vs.length = e.n ∧ e.Has h vs) → ∃ l : List α, l.length = L.length ∧ L.flatten = l.flatMap enc ∧ ∀ x ∈ l, P x := by
    intro L
    induction L with
    | nil => exact fun _ => ⟨[], rfl, rfl, fun _ hn => (by cases hn)⟩
    | cons a L ih =>
      intro hA
      obtain ⟨l, e1, e2, e3⟩ := ih (fun vs hv => hA vs (List.mem_cons_of_mem _ hv))
      obtain ⟨x, hx, px⟩ := dec a (hA a (List.mem_cons_self ..)).2
      refine ⟨x :: l, by simp [e1], by rw [List.flatten_cons, e2, List.flatMap_cons, hx], fun y hy => ?_⟩
      rcases List.mem_cons.1 hy with rfl | hy
      · exact px
      · exact e3 y hy
  obtain ⟨l, e1, e2, e3⟩ := this L hA
  exact ⟨l, by rw [e1, hL], by unfold Arr; rw [← e2]; exact hR, e3⟩
end Go.Proofs.Ytjihfieahkbohaa

/- A book of instructions in memory: its box, its list, its map. -/
namespace Go.Proofs.Ytjihfieahkbohaa
open Go Go.Sy Go.Value
set_option linter.unusedVariables false
set_option linter.unusedSimpArgs false

def eV (x : En) : List Value := [.int .i64 x.d.id, .int .i64 x.d.a, .int .i64 x.d.b, .int .i64 x.d.sc, .int .i64 x.d.bc, .int .i64 x.d.sell, .int .i64 x.d.buy, .int .i64 x.st, .int .i64 x.ask, .int .i64 x.ord]
def dV (d : Dl) : List Value := [.int .i64 d.id, .int .i64 d.a, .int .i64 d.b, .int .i64 d.sc, .int .i64 d.bc, .int .i64 d.sell, .int .i64 d.buy]
theorem eV_len (x : En) : (eV x).length = 10 := rfl
theorem dV_len (d : Dl) : (dV d).length = 7 := rfl
def z10 : List Value := [.int .i64 0, .int .i64 0, .int .i64 0, .int .i64 0, .int .i64 0, .int .i64 0, .int .i64 0, .int .i64 0, .int .i64 0, .int .i64 0]
def nulH : Heap := fun _ => none
theorem nulH_le (h : Heap) : nulH.le h := fun _ _ e => by cases e
/-- a row of structs, one of them written into -/
theorem setL_app {us bs ws : List Value} {o : Nat} : setL (us ++ bs) (us.length + o) ws = us ++ setL bs o ws := by
  induction ws generalizing o bs with
  | nil => rfl
  | cons w ws ih =>
    rw [setL, setL, setT_eq, setT_eq, List.set_append_right _ _ (by omega), Nat.add_sub_cancel_left, Nat.add_assoc, ih]
theorem setL_fst {us bs ws : List Value} {o : Nat} (h : o + ws.length ≤ us.length) : setL (us ++ bs) o ws = setL us o ws ++ bs := by
  induction ws generalizing o us with
  | nil => rfl
  | cons w ws ih =>
    rw [List.length_cons] at h
    rw [setL, setL, setT_eq, setT_eq, List.set_append_left _ _ (by omega), ih (by rw [List.length_set]; omega)]
theorem setL_row {L : List En} {i o : Nat} {x y : En} {ws sp : List Value} (hx : L[i]? = some x) (ho : o + ws.length ≤ 10) (e : setL (eV x) o ws = eV y) : setL (L.flatMap eV ++ sp) (i * 10 + o) ws = (L.set i y).flatMap eV ++ sp := by
  have hi := (List.getElem?_eq_some_iff.1 hx).1
  have hxi := (List.getElem?_eq_some_iff.1 hx).2
  have es : L = L.take i ++ x :: L.drop (i + 1) := by rw [← hxi, ← List.drop_eq_getElem_cons hi, List.take_append_drop]
  have lt : ((L.take i).flatMap eV).length = i * 10 := by rw [arr_len eV_len, List.length_take]; congr 1; omega
  rw [List.set_eq_take_append_cons_drop, if_pos hi]
  conv => lhs; rw [es]
  rw [List.flatMap_append, List.flatMap_append, List.flatMap_cons, List.flatMap_cons]
  simp only [List.append_assoc]
  rw [← lt, setL_app, setL_fst (by rw [eV_len]; exact ho), e]

/-- where an Id is, as a map tells it -/
def posF (L : List En) (id : Int) : Option Int := (posE id L).map fun (n : Nat) => (n : Int)
/-- the book at p: its list at lp, its map at mr -/
structure PBk (h : Heap) (p : Nat) (S : Bk) (lp : Option Addr) (c mr : Nat) : Prop where
  ap : At h p [.int .i64 S.mem, .int .i64 S.cur, .slice lp S.L.length c, .map (some mr), .int .i64 (S.mat : Int)]
  ol : OwnL nulH h z10 lp c (S.L.flatMap eV)
  mp : MapF h mr .i64 .i64 (posF S.L)
  np : lp ≠ some ⟨p, 0, none⟩
def PB (h : Heap) (p : Nat) (S : Bk) : Prop := S.Ok ∧ ∃ lp c mr, PBk h p S lp c mr
section
variable {h h' : Heap} {p : Nat} {S : Bk} {lp : Option Addr} {c mr : Nat}
theorem PBk.le (B : PBk h p S lp c mr) (l : h.le h') : PBk h' p S lp c mr := ⟨B.ap.le l, B.ol.le l, B.mp.le l, B.np⟩
theorem PB.le (B : PB h p S) (l : h.le h') : PB h' p S := ⟨B.1, B.2.elim fun lp ⟨c, mr, x⟩ => ⟨lp, c, mr, x.le l⟩⟩
theorem PBk.arr (B : PBk h p S lp c mr) : Arr eV h lp S.L := B.ol.rd
/-- where an entry lies -/
theorem PBk.row (B : PBk h p S lp c mr) {i : Nat} {x : En} (hx : S.L[i]? = some x) : ∃ r sp, lp = some ⟨r, 0, none⟩ ∧ At h r (S.L.flatMap eV ++ sp) ∧ r ≠ p ∧ ∀ o, o < 10 → h.cell r (i * 10 + o) = (eV x)[o]? := by
  rcases B.ol with ⟨e, _, _⟩ | ⟨r, sp, e, _, a, _⟩
  · have hi := (List.getElem?_eq_some_iff.1 hx).1
    have := congrArg List.length e
    rw [arr_len eV_len, List.length_nil] at this
    omega
  · refine ⟨r, sp, e, a, fun g => B.np (by rw [e, g]), fun o ho => ?_⟩
    have hi := (List.getElem?_eq_some_iff.1 hx).1
    have g := arr_get eV_len S.L i o x hx ho
    have hlt : o < (eV x).length := ho
    rw [List.getElem?_eq_getElem hlt] at g ⊢
    refine a.cell ?_
    rw [List.getElem?_append_left (by rw [arr_len eV_len]; omega), g]
/-- an entry is written into -/
theorem PBk.wr (B : PBk h p S lp c mr) {i o r : Nat} {x y : En} {ws : List Value} (hx : S.L[i]? = some x) (hr : lp = some ⟨r, 0, none⟩) (ho : o + ws.length ≤ 10) (e : setL (eV x) o ws = eV y) (hd : y.d = x.d) :
    PBk (h.setN r (i * 10 + o) ws) p { S with L := S.L.set i y } lp c mr := by
  obtain ⟨r', sp, e', a, hne, _⟩ := B.row hx
  rw [hr] at e'
  have e' : r = r' := by simpa using e'
  subst e'
  refine ⟨?_, ?_, ?_, B.np⟩
  · show At _ p [.int .i64 S.mem, .int .i64 S.cur, .slice lp (S.L.set i y).length c, .map (some mr), .int .i64 (S.mat : Int)]
    rw [List.length_set]
    exact B.ap.set_ne (fun g => hne g.symm)
  · rcases B.ol with ⟨e1, e2, _⟩ | ⟨r2, sp2, e1, _, a2, k2⟩
    · rw [hr] at e2; cases e2
    · rw [hr] at e1
      have e1 : r = r2 := by simpa using e1
      subst e1
      refine .inr ⟨r, sp2, hr, rfl, ?_, ?_⟩
      · have := a2.set (o := i * 10 + o) (ws := ws)
        rw [setL_row hx ho e] at this
        exact this
      · rw [k2, List.length_append, List.length_append, arr_len eV_len, arr_len eV_len, List.length_set]
  · show MapF _ mr .i64 .i64 (posF (S.L.set i y))
    have : posF (S.L.set i y) = posF S.L := by
      funext id
      unfold posF
      rw [posE_set hx hd]
    rw [this]
    exact B.mp.set a
theorem PBk.can (B : PBk h p S lp c mr) {i o r n : Nat} {x : En} (hx : S.L[i]? = some x) (hr : lp = some ⟨r, 0, none⟩) (ho : o + n ≤ 10) : h.canSt r (i * 10 + o) n := by
  obtain ⟨r', sp, e', a, hne, _⟩ := B.row hx
  rw [hr] at e'
  have e' : r = r' := by simpa using e'
  subst e'
  have hi := (List.getElem?_eq_some_iff.1 hx).1
  refine a.canSt ?_
  rw [List.length_append, arr_len eV_len]; omega
/-- how many were matched is written -/
theorem PBk.wrM (B : PBk h p S lp c mr) (m : Nat) : PBk (h.setN p 4 [.int .i64 (m : Int)]) p { S with mat := m } lp c mr := by
  refine ⟨?_, B.ol.set_ne B.np, B.mp.set B.ap, B.np⟩
  exact B.ap.set (o := 4) (ws := [.int .i64 (m : Int)])
end
end Go.Proofs.Ytjihfieahkbohaa

/- The reference's book of instructions in memory. -/
namespace Go.Proofs.Ytjihfieahkbohaa
open Go Go.Sy Go.Value
set_option linter.unusedVariables false
set_option linter.unusedSimpArgs false

def byA (x : En) : Bool := x.ask % 2 == 1
def byB (x : En) : Bool := x.ask / 2 == 1
def rV (x : En) : List Value := [.int .i64 x.d.id, .int .i64 x.d.a, .int .i64 x.d.b, .int .i64 x.d.sc, .int .i64 x.d.bc, .int .i64 x.d.sell, .int .i64 x.d.buy, .int .i64 x.st, .bool (byA x), .bool (byB x), .int .i64 x.ord]
theorem rV_len (x : En) : (rV x).length = 11 := rfl
def z11 : List Value := [.int .i64 0, .int .i64 0, .int .i64 0, .int .i64 0, .int .i64 0, .int .i64 0, .int .i64 0, .int .i64 0, .bool false, .bool false, .int .i64 0]
theorem setL_rowR {L : List En} {i o : Nat} {x y : En} {ws sp : List Value} (hx : L[i]? = some x) (ho : o + ws.length ≤ 11) (e : setL (rV x) o ws = rV y) : setL (L.flatMap rV ++ sp) (i * 11 + o) ws = (L.set i y).flatMap rV ++ sp := by
  have hi := (List.getElem?_eq_some_iff.1 hx).1
  have hxi := (List.getElem?_eq_some_iff.1 hx).2
  have es : L = L.take i ++ x :: L.drop (i + 1) := by rw [← hxi, ← List.drop_eq_getElem_cons hi, List.take_append_drop]
  have lt : ((L.take i).flatMap rV).length = i * 11 := by rw [arr_len rV_len, List.length_take]; congr 1; omega
  rw [List.set_eq_take_append_cons_drop, if_pos hi]
  conv => lhs; rw [es]
  rw [List.flatMap_append, List.flatMap_append, List.flatMap_cons, List.flatMap_cons]
  simp only [List.append_assoc]
  rw [← lt, setL_app, setL_fst (by rw [rV_len]; exact ho), e]
/-- the reference's book at q: its list at lp -/
structure RBk (h : Heap) (q : Nat) (S : Bk) (lp : Option Addr) (c : Nat) : Prop where
  ap : At h q [.int .i64 S.mem, .int .i64 S.cur, .slice lp S.L.length c, .int .i64 (S.mat : Int)]
  ol : OwnL nulH h z11 lp c (S.L.flatMap rV)
  np : lp ≠ some ⟨q, 0, none⟩
def RB (h : Heap) (q : Nat) (S : Bk) : Prop := S.Ok ∧ ∃ lp c, RBk h q S lp c
section
variable {h h' : Heap} {q : Nat} {S : Bk} {lp : Option Addr} {c : Nat}
theorem RBk.le (B : RBk h q S lp c) (l : h.le h') : RBk h' q S lp c := ⟨B.ap.le l, B.ol.le l, B.np⟩
theorem RB.le (B : RB h q S) (l : h.le h') : RB h' q S := ⟨B.1, B.2.elim fun lp ⟨c, x⟩ => ⟨lp, c, x.le l⟩⟩
theorem RBk.arr (B : RBk h q S lp c) : Arr rV h lp S.L := B.ol.rd
end
end Go.Proofs.Ytjihfieahkbohaa

/- A book of instructions: made, asked, and changed. -/
namespace Go.Proofs.Ytjihfieahkbohaa
open Go Go.Sy Go.Value
set_option linter.unusedVariables false
set_option linter.unusedSimpArgs false

def dA (d : Dl) : Value := agg #[.int .i64 d.id, .int .i64 d.a, .int .i64 d.b, .int .i64 d.sc, .int .i64 d.bc, .int .i64 d.sell, .int .i64 d.buy]
def dl0 : Dl := ⟨0, 0, 0, 0, 0, 0, 0⟩
def dealM (S : Bk) (id : Int) : Dl × Bool := match getE S id with
  | some x => (x.d, true)
  | none => (dl0, false)
def I64d (d : Dl) : Prop := d.sell ≤ 9223372036854775807 ∧ d.buy ≤ 9223372036854775807
section
variable {h : Heap} {K : Value → Heap → Prop} {p : Nat} {S : Bk} {lp : Option Addr} {c mr : Nat}
theorem S_two {a b m : Int} (k : K (.bool (twoB a b m)) h) : CallA Try.prog fn_deal_two [.int .i64 a, .int .i64 b, .int .i64 m] h K := by
  refine F_deal_two _ _ _ _ _ ?_
  unfold F_deal_twoT
  have no : ¬ (0 ≤ a ∧ 0 ≤ b ∧ a < m ∧ b < m) → K (.bool false) h := fun g => by
    have e : twoB a b m = false := by unfold twoB; rw [decide_eq_false_iff_not]; omega
    rw [e] at k; exact k
  refine Br.dec (fun g1 => Br.dec (fun g2 => Br.dec (fun g3 => Br.dec (fun g4 => Ret.mk ?_) fun g => Ret.mk (no (by omega))) fun g => Ret.mk (no (by omega))) fun g => Ret.mk (no (by omega))) fun g => Ret.mk (no (by omega))
  have e : twoB a b m = (a != b) := by
    unfold twoB
    by_cases g : a = b
    · rw [decide_eq_false (by omega)]; simp [g]
    · rw [decide_eq_true (by omega)]; simp [g]
  rw [e] at k; exact k
theorem S_may (B : PBk h p S lp c mr) {d : Dl} (k : ∀ h', h.le h' → K (.bool (decide (mayD S.mem S.cur d))) h') : CallA Try.prog fn_pdeal_Book_may [pointer (some ⟨p, 0, none⟩), dA d] h K := by
  refine F_pdeal_Book_may _ _ _ _ _ _ _ _ _ _ ?_
  unfold F_pdeal_Book_mayT
  refine newB_at fun r h1 hr l1 A1 => ?_
  have B1 := B.le l1
  have no : ¬ mayD S.mem S.cur d → K (.bool false) h1 := fun g => by
    have := k h1 l1
    rw [decide_eq_false g] at this; exact this
  have yes : mayD S.mem S.cur d → K (.bool true) h1 := fun g => by
    have := k h1 l1
    rw [decide_eq_true g] at this; exact this
  refine ⟨_, A1.cell rfl, Br.dec (fun g1 => ⟨_, A1.cell rfl, Br.dec (fun g2 => ⟨_, A1.cell rfl, _, A1.cell rfl, withAddr_intro rfl ⟨_, B1.ap.cell rfl, S_two ⟨_, rfl, Br.intro (fun g3 => ?_) fun g3 => Ret.mk (no fun m => by rw [m.2.2.1] at g3; cases g3)⟩⟩⟩) fun g => Ret.mk (no fun m => g m.2.1)⟩) fun g => Ret.mk (no fun m => g m.1)⟩
  refine ⟨_, A1.cell rfl, _, A1.cell rfl, withAddr_intro rfl ⟨_, B1.ap.cell rfl, S_two ⟨_, rfl, Br.intro (fun g4 => ?_) fun g4 => Ret.mk (no fun m => by rw [m.2.2.2.1] at g4; cases g4)⟩⟩⟩
  refine ⟨_, A1.cell rfl, Br.dec (fun g5 => ⟨_, A1.cell rfl, Ret.mk ?_⟩) fun g => Ret.mk (no fun m => g m.2.2.2.2.1)⟩
  by_cases g6 : d.buy ≥ 1
  · rw [decide_eq_true g6]; exact yes ⟨g1, g2, g3, g4, g5, g6⟩
  · rw [decide_eq_false g6]; exact no fun m => g6 m.2.2.2.2.2
theorem S_mirror {d : Dl} (k : ∀ h', h.le h' → K (dA (mirD d)) h') : CallA Try.prog fn_deal_mirror [dA d] h K := by
  refine F_deal_mirror _ _ _ _ _ _ _ _ _ ?_
  unfold F_deal_mirrorT
  refine newB_at fun r h1 hr l1 A1 => newB_at fun r2 h2 hr2 l2 A2 => ?_
  have A1' := A1.le l2
  have A3 := A2.set (o := 0) (ws := dV (mirD d))
  refine ⟨_, A1'.cell rfl, _, A1'.cell rfl, _, A1'.cell rfl, _, A1'.cell rfl, _, A1'.cell rfl, _, A1'.cell rfl, _, A1'.cell rfl, A2.canSt (Nat.le_refl _), _, A3.cell rfl, _, A3.cell rfl, _, A3.cell rfl, _, A3.cell rfl, _, A3.cell rfl, _, A3.cell rfl, _, A3.cell rfl, Ret.mk ?_⟩
  exact k _ (le_setN (Heap.le_trans l1 l2) (none_of_le l1 hr2))
theorem S_find (B : PBk h p S lp c mr) {id : Int} (k0 : posE id S.L = none → K (pointer none) h) (k1 : ∀ i x r, posE id S.L = some i → S.L[i]? = some x → lp = some ⟨r, 0, none⟩ → K (pointer (some ⟨r, i * 10, none⟩)) h) :
    CallA Try.prog fn_pdeal_Book_find [pointer (some ⟨p, 0, none⟩), .int .i64 id] h K := by
  refine F_pdeal_Book_find _ _ _ _ ?_
  unfold F_pdeal_Book_findT
  refine withAddr_intro rfl ⟨_, B.ap.cell rfl, mr, _, rfl, B.mp, ?_⟩
  unfold posF
  cases hp : posE id S.L with
  | none =>
    exact Br.yes rfl (Ret.mk (k0 hp))
  | some i =>
    obtain ⟨x, hx, _⟩ := posE_some hp
    obtain ⟨r, sp, e, _⟩ := B.row hx
    have hi := (List.getElem?_eq_some_iff.1 hx).1
    refine Br.no rfl (withAddr_intro rfl ⟨_, _, _, B.ap.cell rfl, by simp, by simp; omega, withAddr_intro e (Ret.mk ?_)⟩)
    have := k1 i x r hp hx e
    simpa using this
theorem S_who {r a : Nat} {x : En} {m : Int} (hc : ∀ o, o < 10 → h.cell r (a + o) = (eV x)[o]?) (k : K (.int .i64 (whoE x m)) h) : CallA Try.prog fn_pdeal_entry_who [pointer (some ⟨r, a, none⟩), .int .i64 m] h K := by
  refine F_pdeal_entry_who _ _ _ _ ?_
  unfold F_pdeal_entry_whoT
  unfold whoE at k
  refine withAddr_intro rfl ⟨_, hc 1 (by decide), Br.intro (fun g => ?_) fun g => withAddr_intro rfl ⟨_, hc 2 (by decide), Br.intro (fun g2 => withAddr_intro rfl ⟨_, hc 7 (by decide), Br.intro (fun g3 => ?_) fun g3 => ?_⟩) fun g2 => ?_⟩⟩
  · rw [if_pos (by simpa using g)] at k; exact Ret.mk k
  · rw [if_neg (by simpa using g), if_pos ⟨by simpa using g2, by simpa using g3⟩] at k; exact Ret.mk k
  · rw [if_neg (by simpa using g), if_neg (fun e => by simp [e.2] at g3)] at k; exact Ret.mk k
  · rw [if_neg (by simpa using g), if_neg (fun e => by simp [e.1] at g2)] at k; exact Ret.mk k
theorem S_State (B : PBk h p S lp c mr) {id : Int} (k : K (.int .i64 (stateM S id)) h) : CallA Try.prog fn_pdeal_Book_State [pointer (some ⟨p, 0, none⟩), .int .i64 id] h K := by
  refine F_pdeal_Book_State _ _ _ _ ?_
  unfold F_pdeal_Book_StateT
  unfold stateM getE at k
  refine S_find B (fun hp => ⟨_, rfl, Br.no rfl (Ret.mk ?_)⟩) fun i x r hp hx hr => ⟨_, rfl, Br.yes rfl (withAddr_intro rfl ?_)⟩
  · rw [hp] at k; exact k
  · obtain ⟨r', sp, e', a, _, hc⟩ := B.row hx
    rw [hr] at e'
    have e' : r = r' := by simpa using e'
    subst e'
    rw [hp] at k
    dsimp only [Option.bind] at k
    rw [hx] at k
    exact ⟨_, hc 7 (by decide), Ret.mk k⟩
theorem S_Deal (B : PBk h p S lp c mr) {id : Int} (k : ∀ h', h.le h' → K (tuple #[dA (dealM S id).1, .bool (dealM S id).2]) h') : CallA Try.prog fn_pdeal_Book_Deal [pointer (some ⟨p, 0, none⟩), .int .i64 id] h K := by
  refine F_pdeal_Book_Deal _ _ _ _ ?_
  unfold F_pdeal_Book_DealT
  unfold dealM getE at k
  refine newB_at fun r0 h1 hr0 l1 A1 => ?_
  have B1 := B.le l1
  refine S_find B1 (fun hp => ⟨_, rfl, Br.no rfl ?_⟩) fun i x r hp hx hr => ⟨_, rfl, Br.yes rfl (withAddr_intro rfl ?_)⟩
  · rw [hp] at k
    have A3 := A1.set (o := 0) (ws := dV dl0)
    refine ⟨A1.canSt (Nat.le_refl _), _, A3.cell rfl, _, A3.cell rfl, _, A3.cell rfl, _, A3.cell rfl, _, A3.cell rfl, _, A3.cell rfl, _, A3.cell rfl, Ret.mk ?_⟩
    exact k _ (le_setN l1 hr0)
  · obtain ⟨r', sp, e', a, _, hc⟩ := B1.row hx
    rw [hr] at e'
    have e' : r = r' := by simpa using e'
    subst e'
    rw [hp] at k
    dsimp only [Option.bind] at k
    rw [hx] at k
    have A3 := A1.set (o := 0) (ws := dV x.d)
    refine ⟨_, hc 0 (by decide), _, hc 1 (by decide), _, hc 2 (by decide), _, hc 3 (by decide), _, hc 4 (by decide), _, hc 5 (by decide), _, hc 6 (by decide), A1.canSt (Nat.le_refl _), _, A3.cell rfl, _, A3.cell rfl, _, A3.cell rfl, _, A3.cell rfl, _, A3.cell rfl, _, A3.cell rfl, _, A3.cell rfl, Ret.mk ?_⟩
    exact k _ (le_setN l1 hr0)
theorem S_Settle (P : PB h p S) {id : Int} (k : ∀ h', PB h' p (settleM S id).2 → K (.int .i64 (settleM S id).1) h') : CallA Try.prog fn_pdeal_Book_Settle [pointer (some ⟨p, 0, none⟩), .int .i64 id] h K := by
  obtain ⟨ok, lp, c, mr, B⟩ := P
  refine F_pdeal_Book_Settle _ _ _ _ ?_
  unfold F_pdeal_Book_SettleT
  unfold settleM at k
  refine S_find B (fun hp => ⟨_, rfl, Br.yes rfl (Ret.mk ?_)⟩) fun i x r hp hx hr => ⟨_, rfl, Br.no rfl (withAddr_intro rfl ?_)⟩
  · rw [hp] at k; exact k h ⟨ok, lp, c, mr, B⟩
  · obtain ⟨r', sp, e', a, _, hc⟩ := B.row hx
    rw [hr] at e'
    have e' : r = r' := by simpa using e'
    subst e'
    rw [hp] at k
    dsimp only at k
    rw [hx] at k
    dsimp only at k
    refine ⟨_, hc 7 (by decide), Br.intro (fun g => ?_) fun g => ?_⟩
    · rw [if_pos (by simpa using g)] at k
      exact Ret.mk (k h ⟨ok, lp, c, mr, B⟩)
    · have g : x.st = 2 := by simpa using g
      rw [if_neg (by simp [g])] at k
      refine withAddr_intro rfl ⟨B.can hx hr (by decide), Ret.mk (k _ ⟨?_, lp, c, mr, B.wr hx hr (by simp) rfl rfl⟩)⟩
      have := ok.could x (List.mem_of_getElem? hx)
      refine ok.chg hx rfl rfl (.inr (.inl ⟨.inr rfl, ?_⟩))
      unfold couldE at this
      dsimp only
      omega
end
end Go.Proofs.Ytjihfieahkbohaa

/- A book of instructions: made, submitted to, rescinded, removed from. -/
namespace Go.Proofs.Ytjihfieahkbohaa
open Go Go.Sy Go.Value
set_option linter.unusedVariables false
set_option linter.unusedSimpArgs false

theorem and_who {a w : Int} (ha : 0 ≤ a ∧ a ≤ 3) (hw : w = 1 ∨ w = 2) : (IntKind.wrap .i64 ((BitVec.toNat (BitVec.ofInt 64 a &&& BitVec.ofInt 64 w) : Nat) : Int) != 0) = decide (a / w % 2 = 1) := by
  have : a = 0 ∨ a = 1 ∨ a = 2 ∨ a = 3 := by omega
  rcases this with rfl | rfl | rfl | rfl <;> rcases hw with rfl | rfl <;> decide
theorem or_who {a w : Int} (ha : 0 ≤ a ∧ a ≤ 3) (hw : w = 1 ∨ w = 2) (h : ¬ a / w % 2 = 1) : IntKind.wrap .i64 ((BitVec.toNat (BitVec.ofInt 64 a ||| BitVec.ofInt 64 w) : Nat) : Int) = a + w := by
  have : a = 0 ∨ a = 1 ∨ a = 2 ∨ a = 3 := by omega
  rcases this with rfl | rfl | rfl | rfl <;> rcases hw with rfl | rfl <;> first | decide | exact absurd (by decide) h
theorem MapF.keepB {h h' : Heap} {q : Option Addr} {r : Nat} {kk vk : IntKind} {f : Int → Option Int} (M : MapF h r kk vk f) (keep : ∀ b y, h b = some y → q ≠ some ⟨b, 0, none⟩ → h' b = some y) (ne : q ≠ some ⟨r, 0, none⟩) : MapF h' r kk vk f := by
  obtain ⟨es, e, c, h1, h2⟩ := M
  exact ⟨es, e, c, keep _ _ h1 ne, h2⟩
theorem OwnL.neM {g h : Heap} {z : List Value} {q : Option Addr} {c r : Nat} {vs : List Value} {kk vk : IntKind} {f : Int → Option Int} (x : OwnL g h z q c vs) (M : MapF h r kk vk f) : q ≠ some ⟨r, 0, none⟩ := fun e => by
  rcases x with ⟨_, e2, _⟩ | ⟨s, sp, e2, _, a, _⟩
  · rw [e2] at e; cases e
  · rw [e2] at e
    have e : s = r := by simpa using e
    exact M.ne a e
section
variable {h : Heap} {K : Value → Heap → Prop} {p : Nat} {S : Bk} {lp : Option Addr} {c mr : Nat}
/-- what is written elsewhere leaves a book as it is -/
theorem PBk.keep {h' : Heap} {q : Option Addr} (B : PBk h p S lp c mr) (keep : ∀ b y, h b = some y → q ≠ some ⟨b, 0, none⟩ → h' b = some y) (n1 : q ≠ some ⟨p, 0, none⟩) (n2 : ∀ r, lp = some ⟨r, 0, none⟩ → q ≠ some ⟨r, 0, none⟩) (n3 : q ≠ some ⟨mr, 0, none⟩) :
    PBk h' p S lp c mr := ⟨keepAt keep B.ap n1, B.ol.mv fun b xs e a => keepAt keep a (n2 b e), MapF.keepB B.mp keep n3, B.np⟩
theorem S_New {m cu : Int} (k0 : ¬ ((1 ≤ m ∧ m ≤ 16) ∧ 1 ≤ cu ∧ cu ≤ 8) → K (tuple #[pointer none, .int .i64 1]) h)
    (k1 : (1 ≤ m ∧ m ≤ 16) ∧ 1 ≤ cu ∧ cu ≤ 8 → ∀ p h', h.le h' → PB h' p ⟨m, cu, [], 0⟩ → K (tuple #[pointer (some ⟨p, 0, none⟩), .int .i64 0]) h') : CallA Try.prog fn_deal_New [.int .i64 m, .int .i64 cu] h K := by
  refine F_deal_New _ _ _ _ ?_
  unfold F_deal_NewT
  refine Br.dec (fun g => Ret.mk (k0 (by omega))) fun g1 => Br.dec (fun g => Ret.mk (k0 (by omega))) fun g2 => Br.dec (fun g => Ret.mk (k0 (by omega))) fun g3 => Br.dec (fun g => Ret.mk (k0 (by omega))) fun g4 => ?_
  intro r hr
  refine newB_at fun r2 h2 hr2 l2 A2 => Ret.mk (k1 (by omega) _ _ (Heap.le_trans (le_ins hr) l2) ⟨?_, none, 0, r, ⟨A2, .nil _ _ _, (MapF.new h r .i64 .i64).le l2, fun e => by cases e⟩⟩)
  exact { m1 := by dsimp only; omega, c1 := by dsimp only; omega, n := Nat.zero_le _, may := fun _ x => (by cases x), i64 := fun _ x => (by cases x), nd := fun i x e => (by simp at e), could := fun _ x => (by cases x), ords := .refl _ }
theorem S_Submit (P : PB h p S) {d : Dl} (hi : I64d d) (k : ∀ h', PB h' p (submitM S d).2.2 → K (tuple #[.bool (submitM S d).1, .int .i64 (submitM S d).2.1]) h') :
    CallA Try.prog fn_pdeal_Book_Submit [pointer (some ⟨p, 0, none⟩), dA d] h K := by
  obtain ⟨ok, lp, c, mr, B⟩ := P
  refine F_pdeal_Book_Submit _ _ _ _ _ _ _ _ _ _ ?_
  unfold F_pdeal_Book_SubmitT
  unfold submitM at k
  refine newB_at fun r h1 hr l1 A1 => ⟨_, A1.cell rfl, _, A1.cell rfl, _, A1.cell rfl, _, A1.cell rfl, _, A1.cell rfl, _, A1.cell rfl, _, A1.cell rfl, ?_⟩
  refine S_may (d := d) (B.le l1) fun h2 l2 => ⟨_, rfl, ?_⟩
  have A := A1.le l2
  have B := B.le (Heap.le_trans l1 l2)
  clear A1 l1 l2 hr h1
  by_cases gm : mayD S.mem S.cur d
  rotate_left
  · rw [decide_eq_false gm]
    rw [if_neg gm] at k
    exact Br.yes rfl (Ret.mk (k _ ⟨ok, lp, c, mr, B⟩))
  rw [decide_eq_true gm]
  rw [if_pos gm] at k
  refine Br.no rfl ⟨_, A.cell rfl, S_find B (fun hp => ⟨_, rfl, Br.yes rfl ?_⟩) fun i x r' hp hx hr' => ⟨_, rfl, Br.no rfl ?_⟩⟩
  · rw [hp] at k
    dsimp only at k
    have hn := ok.n
    refine withAddr_intro rfl ⟨_, _, _, B.ap.cell rfl, Br.intro (fun g => ?_) fun g => ?_⟩
    · rw [if_pos (by have := of_decide_eq_true (show decide ((S.L.length : Int) = 200) = true from g); omega)] at k
      exact Ret.mk (k _ ⟨ok, lp, c, mr, B⟩)
    have g : S.L.length ≠ 200 := fun e => by rw [e] at g; cases g
    rw [if_neg g] at k
    refine Br.yes rfl (withAddr_intro rfl ⟨_, B.ap.cell rfl, _, A.cell rfl, withAddr_intro rfl ⟨_, _, _, B.ap.cell rfl, mr, _, rfl, B.mp, fun o ho hc hcn => ?_⟩⟩)
    have hat : ∀ b xs, At h2 b xs → At (h2.ins mr o) b xs := fun b xs a => a.insM (B.mp.ne a)
    have A' := hat _ _ A
    have ap' := hat _ _ B.ap
    have ol' := B.ol.mv (h' := h2.ins mr o) fun b xs e a => hat b xs a
    have mp' : MapF (h2.ins mr o) mr .i64 .i64 (posF (S.L ++ [⟨d, 1, 0, 0⟩])) := by
      have := ho (h2.ins mr o) (by unfold Heap.ins; rw [if_pos rfl])
      have e : (fun x => if x = d.id then some ((S.L.length : Nat) : Int) else posF S.L x) = posF (S.L ++ [⟨d, 1, 0, 0⟩]) := by
        funext x
        unfold posF
        rw [posE_snoc S.L ⟨d, 1, 0, 0⟩ hp]
        dsimp only
        split <;> rfl
      rw [← e]; exact this
    generalize h2.ins mr o = h3 at *
    refine withAddr_intro rfl ⟨_, _, _, ap'.cell rfl, _, A'.cell rfl, _, A'.cell rfl, _, A'.cell rfl, _, A'.cell rfl, _, A'.cell rfl, _, A'.cell rfl, _, A'.cell rfl, ?_⟩
    refine push1 ol' (by decide) (nulH_le _) (by omega) rfl rfl (by rw [arr_len eV_len]; rfl) fun r4 h4 p' c' h5 hr4 l4 _ ol5 keep how => ?_
    have ap5 := keepAt keep (ap'.le l4) B.np
    have np5 := push_ne how (ap'.le l4) B.np
    have mp5 := MapF.keepB (mp'.le l4) keep (OwnL.neM (ol'.le l4) (mp'.le l4))
    refine withAddr_intro rfl ⟨ap5.canSt (by simp), Ret.mk (k _ ⟨ok.snoc gm hi (by omega) hp, p', c', mr, ?_, ?_, mp5.set ap5, np5⟩)⟩
    · have := ap5.set (o := 2) (ws := [.slice p' (S.L.length + 1) c'])
      have e : (S.L ++ [(⟨d, 1, 0, 0⟩ : En)]).length = S.L.length + 1 := by simp
      dsimp only
      rw [e]
      exact this
    · have := ol5.set_ne (o := 2) (ws := [.slice p' (S.L.length + 1) c']) np5
      have e : (S.L ++ [(⟨d, 1, 0, 0⟩ : En)]).flatMap eV = S.L.flatMap eV ++ eV ⟨d, 1, 0, 0⟩ := by rw [List.flatMap_append]; simp
      dsimp only
      rw [e]
      exact this
  · obtain ⟨r2, sp, e', a, hne, hc⟩ := B.row hx
    rw [hr'] at e'
    have e' : r' = r2 := by simpa using e'
    subst e'
    rw [hp] at k
    dsimp only at k
    rw [hx] at k
    dsimp only at k
    refine Br.no rfl (withAddr_intro rfl ⟨_, hc 7 (by decide), Br.intro (fun g => ?_) fun g => ?_⟩)
    · rw [if_pos (.inl (by simpa using g))] at k
      exact Ret.mk (k _ ⟨ok, lp, c, mr, B⟩)
    have g1 : x.st = 1 := by simpa using g
    refine withAddr_intro rfl ⟨_, hc 1 (by decide), _, A.cell rfl, Br.intro (fun g => ?_) fun g => ?_⟩
    · rw [if_pos (.inr (by simpa using g))] at k
      exact Ret.mk (k _ ⟨ok, lp, c, mr, B⟩)
    have g2 : x.d.a ≠ d.a := by simpa using g
    rw [if_neg (by simp [g1, g2])] at k
    refine withAddr_intro rfl ⟨_, hc 0 (by decide), _, hc 1 (by decide), _, hc 2 (by decide), _, hc 3 (by decide), _, hc 4 (by decide), _, hc 5 (by decide), _, hc 6 (by decide), ?_⟩
    refine ⟨_, A.cell rfl, _, A.cell rfl, _, A.cell rfl, _, A.cell rfl, _, A.cell rfl, _, A.cell rfl, _, A.cell rfl, ?_⟩
    refine S_mirror (d := d) fun h3 l3 => ⟨_, _, _, _, _, _, _, rfl, .inl l3, ?_⟩
    have B3 := B.le l3
    cases he : eqD x.d (mirD d) with
    | false =>
      rw [if_pos he] at k
      exact Br.yes (show (!eqD x.d (mirD d)) = true by rw [he]; rfl) (Ret.mk (k _ ⟨ok, lp, c, mr, B3⟩))
    | true =>
      rw [if_neg (by rw [he]; decide)] at k
      refine Br.no (show (!eqD x.d (mirD d)) = false by rw [he]; rfl) ?_
      have hm := ok.mat
      have w : IntKind.wrap .i64 ((S.mat : Int) + 1) = ((S.mat + 1 : Nat) : Int) := by rw [wrap_i64_id (by omega) (by omega)]; omega
      have B4 := B3.wrM (S.mat + 1)
      have B5 := B4.wr (o := 7) (y := { x with st := 2 }) (ws := [.int .i64 2]) hx hr' (by simp) rfl rfl
      have hi := (List.getElem?_eq_some_iff.1 hx).1
      have hx5 : (S.L.set i { x with st := 2 })[i]? = some { x with st := 2 } := by rw [List.getElem?_set_self hi]
      have B6 := B5.wr (o := 9) (y := { x with st := 2, ord := ((S.mat + 1 : Nat) : Int) }) (ws := [.int .i64 ((S.mat + 1 : Nat) : Int)]) hx5 hr' (by simp) rfl rfl
      refine withAddr_intro rfl ⟨_, B3.ap.cell rfl, withAddr_intro rfl ⟨B3.ap.canSt (by simp), withAddr_intro rfl ?_⟩⟩
      rw [w]
      refine ⟨_, B4.ap.cell rfl, withAddr_intro rfl ⟨B4.can hx hr' (by decide), withAddr_intro rfl ⟨B5.can hx5 hr' (by decide), Ret.mk (k _ ⟨ok.match hx g1, lp, c, mr, ?_⟩)⟩⟩⟩
      have e : (S.L.set i { x with st := 2 }).set i { x with st := 2, ord := ((S.mat + 1 : Nat) : Int) } = S.L.set i { x with st := 2, ord := (S.mat : Int) + 1 } := by
        rw [List.set_set]; rfl
      dsimp only at B6
      rw [e] at B6
      exact B6
theorem S_Rescind (P : PB h p S) {m id : Int} (k : ∀ h', PB h' p (rescindM S m id).2.2 → K (tuple #[.int .i64 (rescindM S m id).1, .int .i64 (rescindM S m id).2.1]) h') :
    CallA Try.prog fn_pdeal_Book_Rescind [pointer (some ⟨p, 0, none⟩), .int .i64 m, .int .i64 id] h K := by
  obtain ⟨ok, lp, c, mr, B⟩ := P
  refine F_pdeal_Book_Rescind _ _ _ _ _ ?_
  unfold F_pdeal_Book_RescindT
  unfold rescindM at k
  refine S_find B (fun hp => ⟨_, rfl, Br.yes rfl (Ret.mk ?_)⟩) fun i x r hp hx hr => ⟨_, rfl, Br.no rfl ?_⟩
  · rw [hp] at k; exact k h ⟨ok, lp, c, mr, B⟩
  obtain ⟨r', sp, e', a, _, hc⟩ := B.row hx
  rw [hr] at e'
  have e' : r = r' := by simpa using e'
  subst e'
  have hcx := ok.could x (List.mem_of_getElem? hx)
  rw [hp] at k
  dsimp only at k
  rw [hx] at k
  dsimp only at k
  refine S_who hc ⟨_, rfl, Br.intro (fun g => ?_) fun g => ?_⟩
  · rw [if_pos (by simpa using g)] at k
    exact Ret.mk (k h ⟨ok, lp, c, mr, B⟩)
  have g1 : whoE x m ≠ 0 := by simpa using g
  have gw : whoE x m = 1 ∨ whoE x m = 2 := by
    unfold whoE at g1 ⊢
    split at g1 <;> (try split at g1) <;> simp_all
  rw [if_neg g1] at k
  refine withAddr_intro rfl ⟨_, hc 7 (by decide), Br.dec (fun g => ?_) fun g3 => ?_⟩
  · rw [if_pos g] at k
    exact Ret.mk (k h ⟨ok, lp, c, mr, B⟩)
  rw [if_neg g3] at k
  refine withAddr_intro rfl ⟨_, hc 7 (by decide), Br.intro (fun g => ?_) fun g => ?_⟩
  · rw [if_pos (by simpa using g)] at k
    refine withAddr_intro rfl ⟨B.can hx hr (by decide), Ret.mk (k _ ⟨?_, lp, c, mr, B.wr hx hr (by simp) rfl rfl⟩)⟩
    refine ok.chg hx rfl rfl (.inr (.inr ⟨rfl, ?_⟩))
    unfold couldE at hcx
    dsimp only; omega
  have g4 : x.st ≠ 1 := by simpa using g
  rw [if_neg g4] at k
  have hst : x.st = 2 := by have := hcx.st; omega
  have hask := hcx.ask
  refine withAddr_intro rfl ⟨_, hc 8 (by decide), S_who hc ⟨_, rfl, .inl (Heap.le_refl _), ?_⟩⟩
  rw [and_who hask gw]
  refine Br.dec (fun g => ?_) fun g5 => ?_
  · rw [if_pos g] at k
    exact Ret.mk (k h ⟨ok, lp, c, mr, B⟩)
  rw [if_neg g5] at k
  refine withAddr_intro rfl ⟨_, hc 8 (by decide), S_who hc ⟨_, rfl, .inl (Heap.le_refl _), withAddr_intro rfl ⟨B.can hx hr (by decide), withAddr_intro rfl ?_⟩⟩⟩
  rw [or_who hask gw g5]
  have hi := (List.getElem?_eq_some_iff.1 hx).1
  have B1 := B.wr (o := 8) (y := { x with ask := x.ask + whoE x m }) (ws := [.int .i64 (x.ask + whoE x m)]) hx hr (by simp) rfl rfl
  have hx1 : (S.L.set i { x with ask := x.ask + whoE x m })[i]? = some { x with ask := x.ask + whoE x m } := by rw [List.getElem?_set_self hi]
  obtain ⟨r1, sp1, e1, _, _, hc1⟩ := B1.row hx1
  rw [hr] at e1
  have e1 : r = r1 := by simpa using e1
  subst e1
  refine ⟨_, hc1 8 (by decide), Br.intro (fun g => ?_) fun g => ?_⟩
  · have g : x.ask + whoE x m = 3 := by simpa using g
    rw [if_pos g] at k
    have B2 := B1.wr (o := 7) (y := { x with ask := x.ask + whoE x m, st := 4 }) (ws := [.int .i64 4]) hx1 hr (by simp) rfl rfl
    have hx2 : ((S.L.set i { x with ask := x.ask + whoE x m }).set i { x with ask := x.ask + whoE x m, st := 4 })[i]? = some { x with ask := x.ask + whoE x m, st := 4 } := by rw [List.getElem?_set_self (by simpa using hi)]
    obtain ⟨r2, sp2, e2, _, _, hc2⟩ := B2.row hx2
    rw [hr] at e2
    have e2 : r = r2 := by simpa using e2
    subst e2
    refine withAddr_intro rfl ⟨B1.can hx1 hr (by decide), withAddr_intro rfl ⟨_, hc2 7 (by decide), Ret.mk (k _ ⟨?_, lp, c, mr, ?_⟩)⟩⟩
    · refine ok.chg hx rfl rfl (.inr (.inr ⟨rfl, ?_⟩))
      unfold couldE at hcx
      dsimp only; omega
    · dsimp only at B2
      rw [List.set_set] at B2
      rw [g] at B2 ⊢
      exact B2
  · have g : x.ask + whoE x m ≠ 3 := by simpa using g
    rw [if_neg g] at k
    refine withAddr_intro rfl ⟨_, hc1 7 (by decide), Ret.mk (k _ ⟨?_, lp, c, mr, B1⟩)⟩
    refine ok.chg hx rfl rfl (.inr (.inl ⟨.inl hst, ?_⟩))
    unfold couldE at hcx
    dsimp only
    rcases gw with gw | gw <;> rw [gw] at g5 g ⊢ <;> omega
end
end Go.Proofs.Ytjihfieahkbohaa
