import Derived.Test.YtjihfieahkbohaaM06
import Derived.Test.YtjihfieahkbohaaM04
import Derived.Test.YtjihfieahkbohaaM14
import Derived.Test.YtjihfieahkbohaaM13
/- A list parted: by which pivot; patterns broken. -/
namespace Go.Proofs.Ytjihfieahkbohaa
open Go Go.Sy Go.Value Go.Sort
set_option linter.unusedVariables false
set_option linter.unusedSimpArgs false

def tab8I : ByteArray := (ByteArray.mk (List.toArray (List.append (List.append [0, 1, 2, 2, 3, 3, 3, 3, 4, 4, 4, 4, 4, 4, 4, 4, 5, 5, 5, 5, 5, 5, 5, 5, 5, 5, 5, 5, 5, 5, 5, 5, 6, 6, 6, 6, 6, 6, 6, 6, 6, 6, 6, 6, 6, 6, 6, 6, 6, 6, 6, 6, 6, 6, 6, 6, 6, 6, 6, 6, 6, 6, 6, 6] [7, 7, 7, 7, 7, 7, 7, 7, 7, 7, 7, 7, 7, 7, 7, 7, 7, 7, 7, 7, 7, 7, 7, 7, 7, 7, 7, 7, 7, 7, 7, 7, 7, 7, 7, 7, 7, 7, 7, 7, 7, 7, 7, 7, 7, 7, 7, 7, 7, 7, 7, 7, 7, 7, 7, 7, 7, 7, 7, 7, 7, 7, 7, 7]) (List.append [8, 8, 8, 8, 8, 8, 8, 8, 8, 8, 8, 8, 8, 8, 8, 8, 8, 8, 8, 8, 8, 8, 8, 8, 8, 8, 8, 8, 8, 8, 8, 8, 8, 8, 8, 8, 8, 8, 8, 8, 8, 8, 8, 8, 8, 8, 8, 8, 8, 8, 8, 8, 8, 8, 8, 8, 8, 8, 8, 8, 8, 8, 8, 8] [8, 8, 8, 8, 8, 8, 8, 8, 8, 8, 8, 8, 8, 8, 8, 8, 8, 8, 8, 8, 8, 8, 8, 8, 8, 8, 8, 8, 8, 8, 8, 8, 8, 8, 8, 8, 8, 8, 8, 8, 8, 8, 8, 8, 8, 8, 8, 8, 8, 8, 8, 8, 8, 8, 8, 8, 8, 8, 8, 8, 8, 8, 8, 8]))))
theorem tab8_getI : ∀ y : Fin 256, tab8I[y.val]? = some (UInt8.ofNat (bitsLen y.val)) ∧ bitsLen y.val ≤ 8 := by decide +kernel
section
variable {h : Heap} {K : Value → Heap → Prop}
theorem S_len64I {x : Nat} (hx : x < 256) (k : K (.int .i64 ((bitsLen x : Nat) : Int)) h) : CallA Try.prog fn_math_bits_Len64 [.int .u64 (x : Int)] h K := by
  refine F_math_bits_Len64 _ _ _ ?_
  unfold F_math_bits_Len64T
  refine Br.no (by simp; omega) (Br.no (by simp; omega) (Br.no (by simp; omega) ?_))
  have w : IntKind.wrap .u8 (x : Int) = (x : Int) := by rw [wrap_u8]; omega
  rw [w, Int.toNat_natCast]
  have g := tab8_getI ⟨x, hx⟩
  dsimp only at g
  have t : (UInt8.ofNat (bitsLen x)).toNat = bitsLen x := by simp; omega
  refine ⟨by omega, _, g.1, Ret.mk ?_⟩
  rw [t, widI (x := ((bitsLen x : Nat) : Int)) (by omega) (by omega), Int.zero_add, widI (by omega) (by omega)]
  exact k
theorem S_lenI {x : Nat} (hx : x < 256) (k : K (.int .i64 ((bitsLen x : Nat) : Int)) h) : CallA Try.prog fn_math_bits_Len [.int .u64 (x : Int)] h K := by
  refine F_math_bits_Len _ _ _ ?_
  unfold F_math_bits_LenT
  exact S_len64I hx ⟨_, rfl, Ret.mk k⟩
theorem S_nextPowI {x : Nat} (hx : x < 256) (k : K (.int .u64 ((2 ^ bitsLen x : Nat) : Int)) h) : CallA Try.prog fn_slices_nextPowerOfTwo [.int .i64 (x : Int)] h K := by
  refine F_slices_nextPowerOfTwo _ _ _ ?_
  unfold F_slices_nextPowerOfTwoT
  have w : IntKind.wrap .u64 (x : Int) = (x : Int) := wrap_u64_id (by omega) (by omega)
  rw [w]
  have g := (tab8_getI ⟨x, hx⟩).2
  dsimp only at g
  refine S_lenI hx ⟨_, rfl, Br.yes (by simp) (Ret.mk ?_)⟩
  have e : (1 : Int) * 2 ^ min (Int.toNat ((bitsLen x : Nat) : Int)) 64 = ((2 ^ bitsLen x : Nat) : Int) := by
    rw [Int.toNat_natCast, Nat.min_eq_left (by omega), Int.one_mul]; simp
  have b : (2 ^ bitsLen x : Nat) ≤ 2 ^ 8 := Nat.pow_le_pow_right (by omega) g
  rw [e]
  generalize (2 ^ bitsLen x : Nat) = M at *
  rw [wrap_u64_id (by omega) (by omega)]
  exact k
end
theorem rand_ltI (y : Int) {M : Nat} (h1 : 1 ≤ M) (h2 : M ≤ 1024) : ∃ x : Nat, x < M ∧ IntKind.wrap .i64 (IntKind.wrap .u64 ((BitVec.toNat (BitVec.ofInt 64 y &&& BitVec.ofInt 64 (IntKind.wrap .u64 ((M : Int) - 1))) : Nat) : Int)) = (x : Int) := by
  refine ⟨BitVec.toNat (BitVec.ofInt 64 y &&& BitVec.ofInt 64 (IntKind.wrap .u64 ((M : Int) - 1))), ?_, ?_⟩
  · rw [wrap_u64_id (by omega) (by omega), BitVec.toNat_and]
    have : (BitVec.ofInt 64 ((M : Int) - 1)).toNat = M - 1 := by rw [BitVec.toNat_ofInt]; omega
    rw [this]
    have := @Nat.and_le_right (BitVec.ofInt 64 y).toNat (M - 1)
    omega
  · rw [wrap_u64_id (n := ((M : Int) - 1)) (by omega) (by omega)]
    have h3 : BitVec.toNat (BitVec.ofInt 64 y &&& BitVec.ofInt 64 ((M : Int) - 1)) ≤ M - 1 := by
      rw [BitVec.toNat_and]
      have : (BitVec.ofInt 64 ((M : Int) - 1)).toNat = M - 1 := by rw [BitVec.toNat_ofInt]; omega
      rw [this]
      exact Nat.and_le_right
    rw [wrap_u64_id (by omega) (by omega), widI (by omega) (by omega)]
section
variable {g0 : Heap} {B m n c : Nat} {sp : List Value} {left : List Int} {K : Value → Heap → Prop}
theorem DaI.ne {h : Heap} {d : Array Int} (D : DaI left g0 B m n sp h d) {r o : Nat} {vs : List Value} (hr : g0 r = none) (hb : B ≠ r) : DaI left g0 B m n sp (h.setN r o vs) d := ⟨le_setN D.le hr, D.at_.set_ne hb, D.sz, D.rg⟩
theorem S_nextI {h : Heap} {d : Array Int} {r : Nat} {x : Int} (D : DaI left g0 B m n sp h d) (hr : g0 r = none) (hb : B ≠ r) (A : At h r [.int .u64 x]) (k : ∀ h' y, DaI left g0 B m n sp h' d → At h' r [.int .u64 y] → K (.int .u64 y) h') :
    CallA Try.prog fn_pslices_xorshift_Next [pointer (some ⟨r, 0, none⟩)] h K := by
  refine F_pslices_xorshift_Next _ _ _ ?_
  unfold F_pslices_xorshift_NextT
  refine withAddr_intro rfl ⟨_, A.cell rfl, withAddr_intro rfl ⟨_, A.cell rfl, withAddr_intro rfl ⟨A.canSt (Nat.le_refl _), ?_⟩⟩⟩
  generalize IntKind.wrap .u64 _ = x1
  have A1 : At (h.setN r 0 [.int .u64 x1]) r [.int .u64 x1] := A.set (o := 0)
  have D1 := D.ne (o := 0) (vs := [.int .u64 x1]) hr hb
  generalize h.setN r 0 [.int .u64 x1] = h1 at *
  refine withAddr_intro rfl ⟨_, A1.cell rfl, withAddr_intro rfl ⟨_, A1.cell rfl, withAddr_intro rfl ⟨A1.canSt (Nat.le_refl _), ?_⟩⟩⟩
  generalize IntKind.wrap .u64 _ = x2
  have A2 : At (h1.setN r 0 [.int .u64 x2]) r [.int .u64 x2] := A1.set (o := 0)
  have D2 := D1.ne (o := 0) (vs := [.int .u64 x2]) hr hb
  generalize h1.setN r 0 [.int .u64 x2] = h2 at *
  refine withAddr_intro rfl ⟨_, A2.cell rfl, withAddr_intro rfl ⟨_, A2.cell rfl, withAddr_intro rfl ⟨A2.canSt (Nat.le_refl _), ?_⟩⟩⟩
  generalize IntKind.wrap .u64 _ = x3
  have A3 : At (h2.setN r 0 [.int .u64 x3]) r [.int .u64 x3] := A2.set (o := 0)
  have D3 := D2.ne (o := 0) (vs := [.int .u64 x3]) hr hb
  exact withAddr_intro rfl ⟨_, A3.cell rfl, Ret.mk (k _ _ D3 A3)⟩
variable (e0 : g0 B = none) (hm : left.length = m) (I : True) (hn : n ≤ 1000000)
include e0 hn
theorem brk_0I {a b M r : Nat} (h8 : 8 ≤ b - a) (hb : b ≤ n) (hM1 : 1 ≤ M) (hM : M ≤ 2 * (b - a)) (hM2 : M ≤ 1024) (hr : g0 r = none) (hbr : B ≠ r) {d0 : Array Int} :
    ∀ (q idx : Nat) (h : Heap) (d : Array Int) (x : Int), a + (b - a) / 4 * 2 + 2 - idx ≤ q → a ≤ idx → DaI left g0 B m n sp h d → PermIn a b d0 d → At h r [.int .u64 x] →
    (∀ h' d', DaI left g0 B m n sp h' d' → PermIn a b d0 d' → K (tuple #[]) h') →
    L_slices_breakPatternsOrdered_int_0 (some ⟨B, 0, none⟩) n c (a : Int) ((b - a : Nat) : Int) r (M : Int) (idx : Int) h K := by
  have w1 : Int.tdiv ((b - a : Nat) : Int) 4 = (((b - a) / 4 : Nat) : Int) := by rw [Int.tdiv_eq_ediv_of_nonneg (by omega)]; omega
  have w2 : IntKind.wrap .i64 ((((b - a) / 4 : Nat) : Int)) = (((b - a) / 4 : Nat) : Int) := widI (by omega) (by omega)
  have w3 : IntKind.wrap .i64 ((((b - a) / 4 : Nat) : Int) * 2) = (((b - a) / 4 * 2 : Nat) : Int) := by rw [widI (by omega) (by omega)]; omega
  have w4 : IntKind.wrap .i64 ((a : Int) + (((b - a) / 4 * 2 : Nat) : Int)) = ((a + (b - a) / 4 * 2 : Nat) : Int) := by rw [widI (by omega) (by omega)]; omega
  have w5 : IntKind.wrap .i64 (((a + (b - a) / 4 * 2 : Nat) : Int) + 1) = ((a + (b - a) / 4 * 2 + 1 : Nat) : Int) := by rw [widI (by omega) (by omega)]; omega
  intro q
  induction q with
  | zero =>
    intro idx h d x hq hi D P A k
    refine L_slices_breakPatternsOrdered_int_0r _ _ _ _ _ _ _ _ _ _ ?_
    unfold L_slices_breakPatternsOrdered_int_0T
    rw [w1, w2, w3, w4, w5]
    exact Br.no (by simp; omega) (Ret.mk (k h d D P))
  | succ q ih =>
    intro idx h d x hq hi D P A k
    refine L_slices_breakPatternsOrdered_int_0r _ _ _ _ _ _ _ _ _ _ ?_
    unfold L_slices_breakPatternsOrdered_int_0T
    rw [w1, w2, w3, w4, w5]
    refine Br.dec (fun g => S_nextI D hr hbr A fun h1 y D1 A1 => ⟨_, rfl, ?_⟩) fun g => Ret.mk (k h d D P)
    have hz : d.size = n := D.sz
    obtain ⟨z, hz1, hz2⟩ := rand_ltI y hM1 hM2
    rw [wp1I (j := idx) (by omega)]
    rw [hz2]
    refine Br.dec (fun g2 => ?_) fun g2 => ?_
    · have v1 : IntKind.wrap .i64 ((z : Int) - ((b - a : Nat) : Int)) = ((z - (b - a) : Nat) : Int) := by rw [widI (by omega) (by omega)]; omega
      have v2 : IntKind.wrap .i64 ((a : Int) + ((z - (b - a) : Nat) : Int)) = ((a + (z - (b - a)) : Nat) : Int) := by rw [widI (by omega) (by omega)]; omega
      rw [v1, v2]
      have hA : ∀ h2, DaI left g0 B m n sp h2 (swp d idx (a + (z - (b - a)))) → At h2 r [.int .u64 y] → L_slices_breakPatternsOrdered_int_0 (some ⟨B, 0, none⟩) n c (a : Int) ((b - a : Nat) : Int) r (M : Int) ((idx + 1 : Nat) : Int) h2 K := fun h2 D2 A2 =>
        ih (idx + 1) h2 _ y (by omega) (by omega) D2 (permIn_trans _ _ _ _ _ P (swp_permIn d a b _ _ (by omega) (by omega) (by omega) (by omega) (by omega))) A2 k
      exact swapRI (J := fun h2 => L_slices_breakPatternsOrdered_int_0 (some ⟨B, 0, none⟩) n c (a : Int) ((b - a : Nat) : Int) r (M : Int) ((idx + 1 : Nat) : Int) h2 K) D1 e0 A1 hbr rfl rfl (by omega) (by omega) hA
    · have v2 : IntKind.wrap .i64 ((a : Int) + (z : Int)) = ((a + z : Nat) : Int) := by rw [widI (by omega) (by omega)]; omega
      rw [v2]
      have hA : ∀ h2, DaI left g0 B m n sp h2 (swp d idx (a + z)) → At h2 r [.int .u64 y] → L_slices_breakPatternsOrdered_int_0 (some ⟨B, 0, none⟩) n c (a : Int) ((b - a : Nat) : Int) r (M : Int) ((idx + 1 : Nat) : Int) h2 K := fun h2 D2 A2 =>
        ih (idx + 1) h2 _ y (by omega) (by omega) D2 (permIn_trans _ _ _ _ _ P (swp_permIn d a b _ _ (by omega) (by omega) (by omega) (by omega) (by omega))) A2 k
      exact swapRI (J := fun h2 => L_slices_breakPatternsOrdered_int_0 (some ⟨B, 0, none⟩) n c (a : Int) ((b - a : Nat) : Int) r (M : Int) ((idx + 1 : Nat) : Int) h2 K) D1 e0 A1 hbr rfl rfl (by omega) (by omega) hA
theorem S_breakI {h : Heap} {d : Array Int} {a b : Nat} (h8 : 8 ≤ b - a) (h256 : b - a < 256) (hb : b ≤ n) (D : DaI left g0 B m n sp h d)
    (k : ∀ h' d', DaI left g0 B m n sp h' d' → PermIn a b d d' → K (tuple #[]) h') :
    CallA Try.prog fn_slices_breakPatternsOrdered_int [slice (some ⟨B, 0, none⟩) n c, .int .i64 (a : Int), .int .i64 (b : Int)] h K := by
  refine F_slices_breakPatternsOrdered_int _ _ _ _ _ _ _ ?_
  unfold F_slices_breakPatternsOrdered_intT
  have w0 : IntKind.wrap .i64 ((b : Int) - (a : Int)) = ((b - a : Nat) : Int) := by rw [widI (by omega) (by omega)]; omega
  have w1 : Int.tdiv ((b - a : Nat) : Int) 4 = (((b - a) / 4 : Nat) : Int) := by rw [Int.tdiv_eq_ediv_of_nonneg (by omega)]; omega
  have w2 : IntKind.wrap .i64 ((((b - a) / 4 : Nat) : Int)) = (((b - a) / 4 : Nat) : Int) := widI (by omega) (by omega)
  have w3 : IntKind.wrap .i64 ((((b - a) / 4 : Nat) : Int) * 2) = (((b - a) / 4 * 2 : Nat) : Int) := by rw [widI (by omega) (by omega)]; omega
  have w4 : IntKind.wrap .i64 ((a : Int) + (((b - a) / 4 * 2 : Nat) : Int)) = ((a + (b - a) / 4 * 2 : Nat) : Int) := by rw [widI (by omega) (by omega)]; omega
  have w5 : IntKind.wrap .i64 (((a + (b - a) / 4 * 2 : Nat) : Int) - 1) = ((a + (b - a) / 4 * 2 - 1 : Nat) : Int) := by rw [widI (by omega) (by omega)]; omega
  rw [w0, w1, w2, w3, w4, w5]
  have g := (tab8_getI ⟨b - a, h256⟩).2
  dsimp only at g
  have b1 : (2 ^ bitsLen (b - a) : Nat) ≤ 2 ^ 8 := Nat.pow_le_pow_right (by omega) g
  refine Br.yes (by simp; omega) (newB_at fun r h1 hr l1 A1 => ⟨A1.canSt (Nat.le_refl _), ?_⟩)
  generalize IntKind.wrap .u64 _ = x
  have hr0 := none_of_le D.le hr
  have hbr : B ≠ r := D.at_.ne hr
  have A2 : At (h1.setN r 0 [.int .u64 x]) r [.int .u64 x] := A1.set (o := 0)
  have D2 := (D.mv l1).ne (o := 0) (vs := [.int .u64 x]) hr0 hbr
  refine S_nextPowI h256 ⟨_, rfl, ?_⟩
  exact brk_0I e0 hn h8 hb (Nat.one_le_two_pow) (two_pow_bitsLen_le (by omega)) (by omega) hr0 hbr _ _ _ d x (Nat.le_refl _) (by omega) D2 (permIn_refl d a b) A2 k
omit e0
include hm I
omit hn in
theorem S_order2I {h : Heap} {d : Array Int} {a b r : Nat} {s : Int} (ha : a < n) (hb : b < n) (D : DaI left g0 B m n sp h d) (hr : g0 r = none) (hbr : B ≠ r) (A : At h r [.int .i64 s])
    (k : ∀ h' s' (x y : Nat), DaI left g0 B m n sp h' d → At h' r [.int .i64 s'] → (x = a ∧ y = b ∨ x = b ∧ y = a) → K (tuple #[.int .i64 (x : Int), .int .i64 (y : Int)]) h') :
    CallA Try.prog fn_slices_order2Ordered_int [slice (some ⟨B, 0, none⟩) n c, .int .i64 (a : Int), .int .i64 (b : Int), pointer (some ⟨r, 0, none⟩)] h K := by
  refine F_slices_order2Ordered_int _ _ _ _ _ _ _ _ ?_
  unfold F_slices_order2Ordered_intT
  refine lessRI D hm I A rfl rfl hb ha fun h1 D1 A1 => Br.intro (fun g => ?_) fun g => Ret.mk (k _ _ a b D1 A1 (.inl ⟨rfl, rfl⟩))
  refine withAddr_intro rfl ⟨_, A1.cell rfl, withAddr_intro rfl ⟨A1.canSt (Nat.le_refl _), Ret.mk ?_⟩⟩
  generalize IntKind.wrap .i64 _ = x
  have A2 : At (h1.setN r 0 [.int .i64 x]) r [.int .i64 x] := A1.set (o := 0)
  exact k _ _ b a (D1.ne hr hbr) A2 (.inr ⟨rfl, rfl⟩)
omit hn in
theorem S_medianI {h : Heap} {d : Array Int} {a b c' r : Nat} {s : Int} (ha : a < n) (hb : b < n) (hc : c' < n) (D : DaI left g0 B m n sp h d) (hr : g0 r = none) (hbr : B ≠ r) (A : At h r [.int .i64 s])
    (k : ∀ h' s' (x : Nat), DaI left g0 B m n sp h' d → At h' r [.int .i64 s'] → (x = a ∨ x = b ∨ x = c') → K (.int .i64 (x : Int)) h') :
    CallA Try.prog fn_slices_medianOrdered_int [slice (some ⟨B, 0, none⟩) n c, .int .i64 (a : Int), .int .i64 (b : Int), .int .i64 (c' : Int), pointer (some ⟨r, 0, none⟩)] h K := by
  refine F_slices_medianOrdered_int _ _ _ _ _ _ _ _ _ ?_
  unfold F_slices_medianOrdered_intT
  refine S_order2I hm I ha hb D hr hbr A fun h1 s1 x y D1 A1 e1 => ⟨_, _, rfl, S_order2I hm I (by omega) hc D1 hr hbr A1 fun h2 s2 z w D2 A2 e2 => ⟨_, _, rfl, S_order2I hm I (by omega) (by omega) D2 hr hbr A2 fun h3 s3 u v D3 A3 e3 => ⟨_, _, rfl, Ret.mk (k _ _ v D3 A3 (by omega))⟩⟩⟩
theorem S_medianAdjI {h : Heap} {d : Array Int} {a r : Nat} {s : Int} (h1 : 1 ≤ a) (ha : a + 1 < n) (D : DaI left g0 B m n sp h d) (hr : g0 r = none) (hbr : B ≠ r) (A : At h r [.int .i64 s])
    (k : ∀ h' s' (x : Nat), DaI left g0 B m n sp h' d → At h' r [.int .i64 s'] → (a ≤ x + 1 ∧ x ≤ a + 1) → K (.int .i64 (x : Int)) h') :
    CallA Try.prog fn_slices_medianAdjacentOrdered_int [slice (some ⟨B, 0, none⟩) n c, .int .i64 (a : Int), pointer (some ⟨r, 0, none⟩)] h K := by
  refine F_slices_medianAdjacentOrdered_int _ _ _ _ _ _ _ ?_
  unfold F_slices_medianAdjacentOrdered_intT
  have w2 : IntKind.wrap .i64 ((a : Int) - 1) = ((a - 1 : Nat) : Int) := by rw [widI (by omega) (by omega)]; omega
  rw [wp1I (by omega), w2]
  exact S_medianI hm I (by omega) (by omega) (by omega) D hr hbr A fun h1 s1 x D1 A1 e => ⟨_, rfl, Ret.mk (k _ _ x D1 A1 (by omega))⟩
theorem S_pivotI {h : Heap} {d : Array Int} {a b : Nat} (h12 : 12 < b - a) (hb : b ≤ n) (D : DaI left g0 B m n sp h d)
    (k : ∀ h' (x : Nat) (hint : Int), DaI left g0 B m n sp h' d → a ≤ x → x < b → K (tuple #[.int .i64 (x : Int), .int .i64 hint]) h') :
    CallA Try.prog fn_slices_choosePivotOrdered_int [slice (some ⟨B, 0, none⟩) n c, .int .i64 (a : Int), .int .i64 (b : Int)] h K := by
  refine F_slices_choosePivotOrdered_int _ _ _ _ _ _ _ ?_
  unfold F_slices_choosePivotOrdered_intT
  have w0 : IntKind.wrap .i64 ((b : Int) - (a : Int)) = ((b - a : Nat) : Int) := by rw [widI (by omega) (by omega)]; omega
  have w1 : Int.tdiv ((b - a : Nat) : Int) 4 = (((b - a) / 4 : Nat) : Int) := by rw [Int.tdiv_eq_ediv_of_nonneg (by omega)]; omega
  have hq : (b - a) / 4 * 4 ≤ b - a := by omega
  have hq3 : 3 ≤ (b - a) / 4 := by omega
  generalize (b - a) / 4 = l at *
  have w2 : IntKind.wrap .i64 (l : Int) = (l : Int) := widI (by omega) (by omega)
  have w3 : IntKind.wrap .i64 ((l : Int) * 1) = (l : Int) := by rw [widI (by omega) (by omega)]; omega
  have w4 : IntKind.wrap .i64 ((l : Int) * 2) = ((2 * l : Nat) : Int) := by rw [widI (by omega) (by omega)]; omega
  have w5 : IntKind.wrap .i64 ((l : Int) * 3) = ((3 * l : Nat) : Int) := by rw [widI (by omega) (by omega)]; omega
  have w6 : IntKind.wrap .i64 ((a : Int) + (l : Int)) = ((a + l : Nat) : Int) := by rw [widI (by omega) (by omega)]; omega
  have w7 : IntKind.wrap .i64 ((a : Int) + ((2 * l : Nat) : Int)) = ((a + 2 * l : Nat) : Int) := by rw [widI (by omega) (by omega)]; omega
  have w8 : IntKind.wrap .i64 ((a : Int) + ((3 * l : Nat) : Int)) = ((a + 3 * l : Nat) : Int) := by rw [widI (by omega) (by omega)]; omega
  rw [w0, w1, w2, w3, w4, w5, w6, w7, w8]
  refine newB_at fun r h1 hr l1 A1 => ?_
  have hr0 := none_of_le D.le hr
  have hbr : B ≠ r := D.at_.ne hr
  have D1 := D.mv l1
  have fin : ∀ (h' : Heap) (s : Int) (x : Nat), DaI left g0 B m n sp h' d → a ≤ x → x < b → Br (s == 0) (Ret h' K (tuple #[.int .i64 (x : Int), .int .i64 1])) (Br (s == 12) (Ret h' K (tuple #[.int .i64 (x : Int), .int .i64 2])) (Ret h' K (tuple #[.int .i64 (x : Int), .int .i64 0]))) :=
    fun h' s x D' g1 g2 => Br.intro (fun _ => Ret.mk (k _ _ _ D' g1 g2)) fun _ => Br.intro (fun _ => Ret.mk (k _ _ _ D' g1 g2)) fun _ => Ret.mk (k _ _ _ D' g1 g2)
  refine Br.yes (by simp; omega) (Br.intro (fun g => ?_) fun g => ?_)
  · refine S_medianAdjI hm I hn (by omega) (by omega) D1 hr0 hbr A1 fun h2 s2 x D2 A2 e2 => ⟨_, rfl, S_medianAdjI hm I hn (by omega) (by omega) D2 hr0 hbr A2 fun h3 s3 y D3 A3 e3 => ⟨_, rfl, S_medianAdjI hm I hn (by omega) (by omega) D3 hr0 hbr A3 fun h4 s4 z D4 A4 e4 => ⟨_, rfl, ?_⟩⟩⟩
    exact S_medianI hm I (by omega) (by omega) (by omega) D4 hr0 hbr A4 fun h5 s5 u D5 A5 e5 => ⟨_, rfl, _, A5.cell rfl, fin _ _ _ D5 (by omega) (by omega)⟩
  · exact S_medianI hm I (by omega) (by omega) (by omega) D1 hr0 hbr A1 fun h5 s5 u D5 A5 e5 => ⟨_, rfl, _, A5.cell rfl, fin _ _ _ D5 (by omega) (by omega)⟩
end
end Go.Proofs.Ytjihfieahkbohaa

/- A list put in order: a permutation, sorted. -/
namespace Go.Proofs.Ytjihfieahkbohaa
open Go Go.Sy Go.Value Go.Sort
set_option linter.unusedVariables false
set_option linter.unusedSimpArgs false

section
variable {g0 : Heap} {B m n c : Nat} {sp : List Value} {left : List Int} (e0 : g0 B = none) (hm : left.length = m) (I : True) (hn : n < 256)
include e0 hm I hn
theorem pdq_allI : ∀ (q a b : Nat) (limit : Int) (wb wp : Bool) (d : Array Int) (h : Heap) (K : Value → Heap → Prop), b - a ≤ q → a ≤ b → b ≤ n → 0 ≤ limit + 1000 - q → limit ≤ 1000 → DaI left g0 B m n sp h d → Below (ltOI left) a b d →
    (∀ h' d', DaI left g0 B m n sp h' d' → PermIn a b d d' → SortedIn (ltOI left) a b d' → K (tuple #[]) h') →
    L_slices_pdqsortOrdered_int_0 (some ⟨B, 0, none⟩) n c (a : Int) (b : Int) limit wb wp h K := by
  intro q
  induction q with
  | zero =>
    intro a b limit wb wp d h K hq hab hb hl1 hl2 D hB k
    have hz : d.size = n := D.sz
    refine L_slices_pdqsortOrdered_int_0r _ _ _ _ _ _ _ _ _ _ ?_
    unfold L_slices_pdqsortOrdered_int_0T
    have w0 : IntKind.wrap .i64 ((b : Int) - (a : Int)) = ((b - a : Nat) : Int) := by rw [widI (by omega) (by omega)]; omega
    rw [w0]
    refine Br.yes (by simp; omega) (S_insertionI e0 hm I (by omega) (by omega) hb D fun h1 D1 => ⟨rfl, Ret.mk ?_⟩)
    have := insertionSort_holds (swoOI left) d a b hab (by omega)
    exact k h1 _ D1 this.1 this.2
  | succ q ih =>
    intro a b limit wb wp d h K hq hab hb hl1 hl2 D hB k
    have hz : d.size = n := D.sz
    refine L_slices_pdqsortOrdered_int_0r _ _ _ _ _ _ _ _ _ _ ?_
    unfold L_slices_pdqsortOrdered_int_0T
    have w0 : IntKind.wrap .i64 ((b : Int) - (a : Int)) = ((b - a : Nat) : Int) := by rw [widI (by omega) (by omega)]; omega
    rw [w0]
    refine Br.dec (fun g => ?_) fun g => ?_
    · refine S_insertionI e0 hm I (by omega) (by omega) hb D fun h1 D1 => ⟨rfl, Ret.mk ?_⟩
      have := insertionSort_holds (swoOI left) d a b hab (by omega)
      exact k h1 _ D1 this.1 this.2
    refine Br.intro (fun _ => ?_) fun _ => ?_
    · refine S_heapI e0 hm I (by omega) (by omega) hb D fun h1 D1 => ⟨rfl, Ret.mk ?_⟩
      have := heapSort_holds (swoOI left) d a b hab (by omega)
      exact k h1 _ D1 this.1 this.2
    have h12 : 12 < b - a := by omega
    -- behind the patterns
    have cont : ∀ (lim : Int) (h : Heap) (d1 : Array Int), 0 ≤ lim + 1000 - q → lim ≤ 1000 → DaI left g0 B m n sp h d1 → PermIn a b d d1 → L_slices_pdqsortOrdered_int_1010 (some ⟨B, 0, none⟩) n c (a : Int) (b : Int) lim wb wp ((b - a : Nat) : Int) h K := by
      intro lim h d1 hl3 hl4 D1 P1
      have B1 := hB.perm (by omega) P1
      refine L_slices_pdqsortOrdered_int_1010r _ _ _ _ _ _ _ _ _ _ _ ?_
      unfold L_slices_pdqsortOrdered_int_1010T
      -- the parts
      have part : ∀ (h : Heap) (d3 : Array Int) (pivot : Nat), DaI left g0 B m n sp h d3 → PermIn a b d d3 → a ≤ pivot → pivot < b → L_slices_pdqsortOrdered_int_1017 (some ⟨B, 0, none⟩) n c (a : Int) (b : Int) lim wb wp ((b - a : Nat) : Int) (pivot : Int) h K := by
        intro h d3 pivot D3 P3 hp1 hp2
        have B3 := hB.perm (by omega) P3
        have hz3 : d3.size = n := D3.sz
        refine L_slices_pdqsortOrdered_int_1017r _ _ _ _ _ _ _ _ _ _ _ _ ?_
        unfold L_slices_pdqsortOrdered_int_1017T
        have ordinary : ∀ h, DaI left g0 B m n sp h d3 → CallA Try.prog fn_slices_partitionOrdered_int [slice (some ⟨B, 0, none⟩) n c, .int .i64 (a : Int), .int .i64 (b : Int), .int .i64 (pivot : Int)] h fun v h =>
            ∃ (x : Int), ∃ (y : Bool), v = tuple #[.int .i64 x, .bool y] ∧ Br (decide (IntKind.wrap .i64 (x - (a : Int)) < IntKind.wrap .i64 ((b : Int) - x)))
              (CallA Try.prog fn_slices_pdqsortOrdered_int [slice (some ⟨B, 0, none⟩) n c, .int .i64 (a : Int), .int .i64 x, .int .i64 lim] h fun v h => v = tuple #[] ∧
                L_slices_pdqsortOrdered_int_0 (some ⟨B, 0, none⟩) n c (IntKind.wrap .i64 (x + 1)) (b : Int) lim (decide (IntKind.wrap .i64 (x - (a : Int)) ≥ IntKind.wrap .i64 (Int.tdiv ((b - a : Nat) : Int) 8))) y h K)
              (CallA Try.prog fn_slices_pdqsortOrdered_int [slice (some ⟨B, 0, none⟩) n c, .int .i64 (IntKind.wrap .i64 (x + 1)), .int .i64 (b : Int), .int .i64 lim] h fun v h => v = tuple #[] ∧
                L_slices_pdqsortOrdered_int_0 (some ⟨B, 0, none⟩) n c (a : Int) x lim (decide (IntKind.wrap .i64 ((b : Int) - x) ≥ IntKind.wrap .i64 (Int.tdiv ((b - a : Nat) : Int) 8))) y h K) := by
          intro h D3
          refine S_partitionI e0 hm I (by omega) (by omega) hb hp1 hp2 D3 fun h4 D4 => ⟨_, _, rfl, ?_⟩
          generalize hx : partition (ltOI left) d3 a b pivot = r at *
          obtain ⟨mid, ap, d4⟩ := r
          obtain ⟨g1, g2, hs4, hBa, hBr, hleft, hright⟩ := round_part (swoOI left) (partition_holds (ltOI left)) hp1 hp2 (by omega) B3 hx
          dsimp only at D4 ⊢
          have w1 : IntKind.wrap .i64 ((mid : Int) - (a : Int)) = ((mid - a : Nat) : Int) := by rw [widI (by omega) (by omega)]; omega
          have w2 : IntKind.wrap .i64 ((b : Int) - (mid : Int)) = ((b - mid : Nat) : Int) := by rw [widI (by omega) (by omega)]; omega
          rw [w1, w2, wp1I (by omega)]
          refine Br.intro (fun _ => ?_) fun _ => ?_
          · refine F_slices_pdqsortOrdered_int _ _ _ _ _ _ _ _ ?_
            unfold F_slices_pdqsortOrdered_intT
            refine ih a mid lim true true d4 h4 _ (by omega) g1 (by omega) hl3 hl4 D4 hBa fun h5 d5 D5 l1 l2 => ⟨rfl, ?_⟩
            obtain ⟨hBL, hfin⟩ := hleft _ l1 l2
            refine ih (mid + 1) b lim _ ap d5 h5 _ (by omega) (by omega) hb hl3 hl4 D5 hBL fun h6 d6 D6 r1 r2 => ?_
            obtain ⟨q1, q2⟩ := hfin _ r1 r2
            exact k h6 _ D6 (permIn_trans _ _ _ a b P3 q1) q2
          · refine F_slices_pdqsortOrdered_int _ _ _ _ _ _ _ _ ?_
            unfold F_slices_pdqsortOrdered_intT
            refine ih (mid + 1) b lim true true d4 h4 _ (by omega) (by omega) hb hl3 hl4 D4 hBr fun h5 d5 D5 l1 l2 => ⟨rfl, ?_⟩
            obtain ⟨hBL, hfin⟩ := hright _ l1 l2
            refine ih a mid lim _ ap d5 h5 _ (by omega) g1 (by omega) hl3 hl4 D5 hBL fun h6 d6 D6 r1 r2 => ?_
            obtain ⟨q1, q2⟩ := hfin _ r1 r2
            exact k h6 _ D6 (permIn_trans _ _ _ a b P3 q1) q2
        refine Br.dec (fun ga => ?_) fun ga => ordinary h D3
        have w1 : IntKind.wrap .i64 ((a : Int) - 1) = ((a - 1 : Nat) : Int) := by rw [widI (by omega) (by omega)]; omega
        rw [w1]
        refine lessNI D3 hm I rfl rfl (by omega) (by omega) fun h' D' => Br.intro (fun g2 => ?_) fun g2 => ordinary h' D'
        refine S_partitionEqualI e0 hm I (by omega) (by omega) hb hp1 hp2 D' fun h4 D4 => ⟨_, rfl, ?_⟩
        generalize hx : partitionEqual (ltOI left) d3 a b pivot = r at *
        obtain ⟨mid, d4⟩ := r
        obtain ⟨m1, m2, hs4, hB4, hfin⟩ := round_eq (swoOI left) (partitionEqual_holds (lt := ltOI left)) (by omega) hp1 hp2 (by omega) B3 (by simpa using g2) hx
        dsimp only at D4 ⊢
        refine ih mid b lim wb wp d4 h4 _ (by omega) m2 hb hl3 hl4 D4 hB4 fun h6 d6 D6 r1 r2 => ?_
        obtain ⟨q1, q2⟩ := hfin _ r1 r2
        exact k h6 _ D6 (permIn_trans _ _ _ a b P3 q1) q2
      -- few steps
      have few : ∀ (h : Heap) (d2 : Array Int) (pivot : Nat) (hint : Int), DaI left g0 B m n sp h d2 → PermIn a b d d2 → a ≤ pivot → pivot < b → L_slices_pdqsortOrdered_int_1015 (some ⟨B, 0, none⟩) n c (a : Int) (b : Int) lim wb wp ((b - a : Nat) : Int) (pivot : Int) hint h K := by
        intro h d2 pivot hint D2 P2 hp1 hp2
        have B2 := hB.perm (by omega) P2
        have hz2 : d2.size = n := D2.sz
        refine L_slices_pdqsortOrdered_int_1015r _ _ _ _ _ _ _ _ _ _ _ _ _ ?_
        unfold L_slices_pdqsortOrdered_int_1015T
        refine Br.intro (fun _ => Br.intro (fun _ => Br.intro (fun _ => ?_) fun _ => part h d2 pivot D2 P2 hp1 hp2) fun _ => part h d2 pivot D2 P2 hp1 hp2) fun _ => part h d2 pivot D2 P2 hp1 hp2
        have s := partialInsertionSort_holds (swoOI left) d2 a b (by omega) (by omega) B2
        refine S_fewI e0 hm I (by omega) (by omega) hb D2 fun h3 D3 => ⟨_, rfl, Br.intro (fun g => Ret.mk ?_) fun g => ?_⟩
        · exact k h3 _ D3 (permIn_trans _ _ _ a b P2 s.1) (s.2 g)
        · exact part h3 _ pivot D3 (permIn_trans _ _ _ a b P2 s.1) hp1 hp2
      refine S_pivotI hm I (by omega) h12 hb D1 fun h2 x hint D2 hx1 hx2 => ⟨_, _, rfl, Br.intro (fun _ => ?_) fun _ => few h2 d1 x hint D2 P1 hx1 hx2⟩
      refine S_reverseI e0 (by omega) (by omega) hb D2 fun h3 D3 => ⟨rfl, ?_⟩
      have s := reverseRange_holds d1 a b hab (by have := D1.sz; omega)
      have w1 : IntKind.wrap .i64 ((b : Int) - 1) = ((b - 1 : Nat) : Int) := by rw [widI (by omega) (by omega)]; omega
      have w2 : IntKind.wrap .i64 ((x : Int) - (a : Int)) = ((x - a : Nat) : Int) := by rw [widI (by omega) (by omega)]; omega
      have w3 : IntKind.wrap .i64 (((b - 1 : Nat) : Int) - ((x - a : Nat) : Int)) = ((b - 1 - (x - a) : Nat) : Int) := by rw [widI (by omega) (by omega)]; omega
      rw [w1, w2, w3]
      exact few h3 _ _ 1 D3 (permIn_trans _ _ _ a b P1 s) (by omega) (by omega)
    refine Br.intro (fun _ => ?_) fun _ => cont limit h d (by omega) hl2 D (permIn_refl d a b)
    refine S_breakI e0 (by omega) (by omega) (by omega) hb D fun h1 d1 D1 P1 => ⟨rfl, ?_⟩
    rw [widI (x := limit - 1) (by omega) (by omega)]
    exact cont _ h1 d1 (by omega) (by omega) D1 P1
theorem S_sortFuncI {h : Heap} {d : Array Int} {K : Value → Heap → Prop} (D : DaI left g0 B m n sp h d)
    (k : ∀ h' d', DaI left g0 B m n sp h' d' → PermIn 0 n d d' → SortedIn (ltOI left) 0 n d' → K (tuple #[]) h') :
    CallA Try.prog fn_slices_Sort_int_int [slice (some ⟨B, 0, none⟩) n c] h K := by
  refine F_slices_Sort_int_int _ _ _ _ _ ?_
  unfold F_slices_Sort_int_intT
  rw [wrap_u64_id (by omega) (by omega)]
  have g := (tab8_getI ⟨n, hn⟩).2
  dsimp only at g
  refine S_lenI hn ⟨_, rfl, ?_⟩
  refine F_slices_pdqsortOrdered_int _ _ _ _ _ _ _ _ ?_
  unfold F_slices_pdqsortOrdered_intT
  refine pdq_allI e0 hm I hn n 0 n _ true true d h _ (by omega) (by omega) (Nat.le_refl _) (by omega) (by omega) D (.inl rfl) fun h1 d1 D1 P1 s1 => ⟨rfl, Ret.mk (k h1 d1 D1 P1 s1)⟩
end
end Go.Proofs.Ytjihfieahkbohaa

/- A book of instructions, read from bytes. -/
namespace Go.Proofs.Ytjihfieahkbohaa
open Go Go.Sy Go.Value
set_option linter.unusedVariables false
set_option linter.unusedSimpArgs false

theorem recs_snoc : ∀ (n : Nat) (l : List Int), recs (n + 1) l = recs n l ++ [recE ((l.drop (28 * n)).take 28)]
  | 0, l => rfl
  | n + 1, l => by
    rw [recs, recs_snoc n, recs, List.drop_drop, show 28 + 28 * n = 28 * (n + 1) by omega]; rfl
theorem recs_take : ∀ (n j : Nat) (l : List Int), j ≤ n → (recs n l).take j = recs j l
  | n, 0, l, _ => by rw [List.take_zero]; rfl
  | n + 1, j + 1, l, h => by rw [recs, List.take_succ_cons, recs_take n j _ (by omega), recs]
def offE : List Nat := [0, 4, 5, 6, 7, 8, 16, 24, 25, 26, 28]
theorem off_next {j : Nat} (h : j < 10) : offE.getD j 0 + wdE.getD j 0 = offE.getD (j + 1) 0 ∧ offE.getD (j + 1) 0 ≤ 28 := by
  have : j = 0 ∨ j = 1 ∨ j = 2 ∨ j = 3 ∨ j = 4 ∨ j = 5 ∨ j = 6 ∨ j = 7 ∨ j = 8 ∨ j = 9 := by omega
  rcases this with rfl | rfl | rfl | rfl | rfl | rfl | rfl | rfl | rfl | rfl <;> decide
theorem rec_num {l : List Int} {j : Nat} (h : j < 10) : (numsE (recE l)).getD j 0 = decL 0 ((l.drop (offE.getD j 0)).take (wdE.getD j 0)) := by
  have : j = 0 ∨ j = 1 ∨ j = 2 ∨ j = 3 ∨ j = 4 ∨ j = 5 ∨ j = 6 ∨ j = 7 ∨ j = 8 ∨ j = 9 := by omega
  rcases this with rfl | rfl | rfl | rfl | rfl | rfl | rfl | rfl | rfl | rfl <;> rfl
theorem rec_num2 {l : List Int} {a j : Nat} (h : j < 10) : decL 0 ((l.take (a + offE.getD j 0 + wdE.getD j 0)).drop (a + offE.getD j 0)) = (numsE (recE ((l.drop a).take 28))).getD j 0 := by
  have := off_next h
  rw [rec_num h, List.drop_take, List.drop_take, List.drop_drop, List.take_take]
  congr 2
  omega
def nkE (x : En) (j : Nat) : List Int := (numsE x).take j ++ List.replicate (10 - j) 0
theorem nkE_succ {x : En} {j : Nat} (h : j < 10) : (nkE x j).set j ((numsE x).getD j 0) = nkE x (j + 1) := by
  have : j = 0 ∨ j = 1 ∨ j = 2 ∨ j = 3 ∨ j = 4 ∨ j = 5 ∨ j = 6 ∨ j = 7 ∨ j = 8 ∨ j = 9 := by omega
  rcases this with rfl | rfl | rfl | rfl | rfl | rfl | rfl | rfl | rfl | rfl <;> rfl
theorem nkE_len (x : En) {j : Nat} (h : j ≤ 10) : (nkE x j).length = 10 := by
  unfold nkE
  rw [List.length_append, List.length_take, List.length_replicate]
  show min j 10 + (10 - j) = 10
  omega
theorem setL_ints1 {l : List Int} {c : Nat} {v : Int} (h : c < l.length) : setL (intsV .i64 l) c [.int .i64 v] = intsV .i64 (l.set c v) := by
  have := setL_i1I (sp := []) (v := v) h
  simpa using this
theorem rd_bytes {h : Heap} {r cap : Nat} {s : ByteArray} {e : TypeId} : rdL (h.ins r (.cells (u8V (bytesI s) ++ List.replicate (cap - s.size) (Value.int IntKind.u8 0)).toArray e (cap, cap + 1))) (some ⟨r, 0, none⟩) (intsV .u8 (bytesI s)) := by
  refine .inr ⟨r, 0, rfl, fun j hj => ?_⟩
  rw [Nat.zero_add]
  have hs : (Heap.ins h r (.cells (u8V (bytesI s) ++ List.replicate (cap - s.size) (Value.int IntKind.u8 0)).toArray e (cap, cap + 1))) r = some (.cells (u8V (bytesI s) ++ List.replicate (cap - s.size) (Value.int IntKind.u8 0)).toArray e (cap, cap + 1)) := by unfold Heap.ins; rw [if_pos rfl]
  unfold Heap.cell
  rw [hs]
  rw [u8V_ints']
  rw [List.getElem?_eq_getElem hj]
  have : (intsV .u8 (bytesI s) ++ List.replicate (cap - s.size) (Value.int IntKind.u8 0))[j]? = some (intsV .u8 (bytesI s))[j] := by rw [List.getElem?_append_left hj, List.getElem?_eq_getElem hj]
  simpa using this
section
variable {h0 h : Heap} {K : Value → Heap → Prop} {p : Nat} {S : Bk} {lp : Option Addr} {c mr : Nat}
theorem take_0 {q : Option Addr} {l : List Int} {n qc : Nat} (I : Ints .u8 h q l) (hn : l.length = n) (hs : n ≤ 1000000) (hb : bytes l) {v : Int} (k : K (.int .i64 v) h) :
    ∀ (m j : Nat) (a : Int), m + j = n → decL a (l.drop j) = v → L_deal_take_0 a q n qc (n : Int) (j : Int) h K := by
  intro m
  induction m with
  | zero =>
    intro j a hj e
    refine L_deal_take_0r _ _ _ _ _ _ _ _ ?_
    unfold L_deal_take_0T
    rw [List.drop_eq_nil_of_le (by omega)] at e
    have e : a = v := e
    subst e
    exact Br.no (by simp; omega) (Ret.mk k)
  | succ m ih =>
    intro j a hj e
    refine L_deal_take_0r _ _ _ _ _ _ _ _ ?_
    unfold L_deal_take_0T
    have hjl : j < l.length := by omega
    rw [List.drop_eq_getElem_cons hjl, decL] at e
    refine Br.yes (decide_eq_true (by omega)) (ix I hn rfl (List.getElem?_eq_getElem hjl) ?_)
    rw [dec_step (hb _ (List.getElem_mem _)), wrap_i64_id (n := (j : Int) + 1) (by omega) (by omega)]
    exact ih (j + 1) _ (by omega) e
theorem S_take {s : ByteArray} (hs : s.size ≤ 1000000) (k : ∀ h', h.le h' → K (.int .i64 (decL 0 (bytesI s))) h') : CallA Try.prog fn_deal_take [string s] h K := by
  refine F_deal_take _ _ _ ?_
  unfold F_deal_takeT
  intro cap r hcap hr
  have := take_0 (h := h.ins r (.cells (u8V (bytesI s) ++ List.replicate (cap - s.size) (Value.int IntKind.u8 0)).toArray 5 (cap, cap + 1))) (K := K) (q := some ⟨r, 0, none⟩) (l := bytesI s) (n := s.size) (qc := cap) rd_bytes (bytesI_length s) hs (bytesI_r s) (k _ (le_ins hr)) s.size 0 0 (by omega) rfl
  exact this
theorem S_could {x : En} (h1 : 0 ≤ x.ask) (h2 : 0 ≤ x.ord) (k : ∀ h', h.le h' → K (.bool (decide (couldE x))) h') : CallA Try.prog fn_deal_entry_could [eA x] h K := by
  refine F_deal_entry_could _ _ _ _ _ _ _ _ _ _ _ _ ?_
  unfold F_deal_entry_couldT
  refine newB_at fun r h3 hr l1 A => ?_
  have kk : ∀ b : Bool, (b = true ↔ couldE x) → Ret h3 K (.bool b) := fun b e => by
    have := k h3 l1
    rw [show decide (couldE x) = b by cases b with
      | true => exact decide_eq_true (e.1 rfl)
      | false => exact decide_eq_false fun c => by cases e.2 c] at this
    exact Ret.mk this
  have two : x.st = 2 ∨ x.st = 3 → ∃ (n : Int), h3.cell r 8 = some (.int .i64 n) ∧ Br (decide (n < 3)) (∃ (n : Int), h3.cell r 9 = some (.int .i64 n) ∧ Ret h3 K (.bool (decide (n > 0)))) (Ret h3 K (.bool false)) := fun g => by
    refine ⟨_, A.cell rfl, Br.dec (fun g1 => ⟨_, A.cell rfl, kk _ ?_⟩) fun g1 => kk _ ?_⟩
    · rw [decide_eq_true_eq]; unfold couldE; omega
    · unfold couldE; simp; omega
  have four : x.st ≠ 1 → x.st ≠ 2 → x.st ≠ 3 → Br (x.st == 4) (∃ (n : Int), h3.cell r 8 = some (.int .i64 n) ∧ Br (decide (n ≤ 3)) (∃ (n : Int), h3.cell r 9 = some (.int .i64 n) ∧ Br (decide (n > 0)) (Ret h3 K (.bool true)) (∃ (n : Int), h3.cell r 8 = some (.int .i64 n) ∧ Ret h3 K (.bool (n == 0)))) (Ret h3 K (.bool false))) (Ret h3 K (.bool false)) := fun n1 n2 n3 => by
    refine Br.intro (fun g => ⟨_, A.cell rfl, Br.dec (fun g1 => ⟨_, A.cell rfl, Br.dec (fun g2 => kk _ ?_) fun g2 => ⟨_, A.cell rfl, kk _ ?_⟩⟩) fun g1 => kk _ ?_⟩) fun g => kk _ ?_
    · have g : x.st = 4 := by simpa using g
      unfold couldE; simp; omega
    · have g : x.st = 4 := by simpa using g
      rw [beq_iff_eq]; unfold couldE; omega
    · have g : x.st = 4 := by simpa using g
      unfold couldE; simp; omega
    · have g : x.st ≠ 4 := by simpa using g
      unfold couldE; simp; omega
  refine ⟨_, A.cell rfl, Br.intro (fun g => ⟨_, A.cell rfl, Br.intro (fun g1 => ⟨_, A.cell rfl, kk _ ?_⟩) fun g1 => kk _ ?_⟩) fun g => ?_⟩
  · have g : x.st = 1 := by simpa using g
    have g1 : x.ask = 0 := by simpa using g1
    rw [beq_iff_eq]; unfold couldE; omega
  · have g : x.st = 1 := by simpa using g
    have g1 : x.ask ≠ 0 := by simpa using g1
    unfold couldE; simp; omega
  have g : x.st ≠ 1 := by simpa using g
  refine Br.intro (fun g2 => Br.yes g2 (two (.inl (by simpa using g2)))) fun g2 => Br.intro (fun g3 => two (.inr (by simpa using g3))) fun g3 => four g (by simpa using g2) (by simpa using g3)
end
end Go.Proofs.Ytjihfieahkbohaa

/- A book of instructions, read from bytes: record by record. -/
namespace Go.Proofs.Ytjihfieahkbohaa
open Go Go.Sy Go.Value
set_option linter.unusedVariables false
set_option linter.unusedSimpArgs false

/-- what comes out of numbers put in order -/
theorem sort_ints {l : List Int} {n : Nat} {d : Array Int} {left : List Int} (hn : l.length = n) (hp : Go.Sort.PermIn 0 n l.toArray d) (hs : Go.Sort.SortedIn (ltOI left) 0 n d) : d.toList.Perm l ∧ d.toList.Pairwise fun x y => x ≤ y := by
  have hz : d.size = n := by rw [hp.1]; simpa using hn
  constructor
  · have h1 := hp.2.2
    have e1 : (d.extract 0 n).toList = d.toList := by rw [← hz]; simp
    have e2 : (l.toArray.extract 0 n).toList = l := by simp [List.take_of_length_le (Nat.le_of_eq hn)]
    rw [e1, e2] at h1
    exact h1
  · rw [List.pairwise_iff_getElem]
    intro i j hi hj hij
    have hi' : i < d.size := by simpa using hi
    have hj' : j < d.size := by simpa using hj
    have := hs i j (Nat.zero_le _) hij (by omega)
    unfold ltOI at this
    rw [decide_eq_false_iff_not, getElem!_pos d i hi', getElem!_pos d j hj'] at this
    have e1 : d.toList[i] = d[i] := by simp
    have e2 : d.toList[j] = d[j] := by simp
    rw [e1, e2]; omega
theorem oneTo_pw (n : Nat) : (oneTo n).Pairwise fun x y => x ≤ y := by
  unfold oneTo
  rw [List.pairwise_map]
  exact List.Pairwise.imp (fun h => by omega) List.pairwise_lt_range
section
variable {h : Heap} {K : Value → Heap → Prop} {p : Nat} {S : Bk} {lp : Option Addr} {c mr : Nat}
/-- one more entry is kept -/
theorem addE (B : PBk h p S lp c mr) {r : Nat} {x : En} (A : At h r (eV x)) (hp : posE x.d.id S.L = none) (hn : S.L.length ≤ 1000) {J : Heap → Prop}
    (k : ∀ h' lp' c', PBk h' p { S with L := S.L ++ [x] } lp' c' mr →
      (∀ z q cq vs, OwnL nulH h z q cq vs → q ≠ some ⟨p, 0, none⟩ → (∀ r', lp = some ⟨r', 0, none⟩ → q ≠ some ⟨r', 0, none⟩) → OwnL nulH h' z q cq vs ∧ ∀ r', lp' = some ⟨r', 0, none⟩ → q ≠ some ⟨r', 0, none⟩) → J h') :
    withAddr (some ⟨p, 0, none⟩) fun b o => ∃ (m : Option Nat), h.cell b (o + 3) = some (map m) ∧ ∃ (n : Int), h.cell r 0 = some (.int .i64 n) ∧ withAddr (some ⟨p, 0, none⟩) fun b o => ∃ (a : Option Addr), ∃ (n2 : Nat), ∃ (m2 : Nat), h.cell b (o + 2) = some (slice a n2 m2) ∧
      MPutA h m .i64 .i64 n (n2 : Int) fun h => withAddr (some ⟨p, 0, none⟩) fun b o => ∃ (a : Option Addr), ∃ (n : Nat), ∃ (m : Nat), h.cell b (o + 2) = some (slice a n m) ∧ LdJ10 h r 0 fun n0 n1 n2 n3 n4 n5 n6 n7 n8 n9 =>
        newB h [.int .i64 n0, .int .i64 n1, .int .i64 n2, .int .i64 n3, .int .i64 n4, .int .i64 n5, .int .i64 n6, .int .i64 n7, .int .i64 n8, .int .i64 n9] 77 fun (r : Nat) (h : Heap) => AppA [.int .i64 0, .int .i64 0, .int .i64 0, .int .i64 0, .int .i64 0, .int .i64 0, .int .i64 0, .int .i64 0, .int .i64 0, .int .i64 0] 77 h a n m 1 (some { block := r, off := 0 }) fun (ap : Option Addr) (cp : Nat) (h : Heap) =>
          withAddr (some ⟨p, 0, none⟩) fun b o => h.canSt b (o + 2) 1 ∧ J (h.setN b (o + 2) [slice ap (n + 1) cp]) := by
  refine withAddr_intro rfl ⟨_, B.ap.cell rfl, _, A.cell rfl, withAddr_intro rfl ⟨_, _, _, B.ap.cell rfl, mr, _, rfl, B.mp, fun o ho hc hcn => ?_⟩⟩
  have hat : ∀ b xs, At h b xs → At (h.ins mr o) b xs := fun b xs a => a.insM (B.mp.ne a)
  have A' := hat _ _ A
  have ap' := hat _ _ B.ap
  have ol' := B.ol.mv (h' := h.ins mr o) fun b xs e a => hat b xs a
  have mp' : MapF (h.ins mr o) mr .i64 .i64 (posF (S.L ++ [x])) := by
    have := ho (h.ins mr o) (by unfold Heap.ins; rw [if_pos rfl])
    have e : (fun y => if y = x.d.id then some ((S.L.length : Nat) : Int) else posF S.L y) = posF (S.L ++ [x]) := by
      funext y
      unfold posF
      rw [posE_snoc S.L x hp]
      split <;> rfl
    rw [← e]; exact this
  have fr1 : ∀ z q cq vs, OwnL nulH h z q cq vs → OwnL nulH (h.ins mr o) z q cq vs := fun z q cq vs w => w.mv fun b xs e a => hat b xs a
  generalize h.ins mr o = h3 at *
  refine withAddr_intro rfl ⟨_, _, _, ap'.cell rfl, _, A'.cell rfl, _, A'.cell rfl, _, A'.cell rfl, _, A'.cell rfl, _, A'.cell rfl, _, A'.cell rfl, _, A'.cell rfl, _, A'.cell rfl, _, A'.cell rfl, _, A'.cell rfl, ?_⟩
  refine push1 ol' (by decide) (nulH_le _) (by omega) rfl rfl (by rw [arr_len eV_len]; rfl) fun r4 h4 p' c' h5 hr4 l4 _ ol5 keep how => ?_
  have ap5 := keepAt keep (ap'.le l4) B.np
  have np5 := push_ne how (ap'.le l4) B.np
  have mp5 := MapF.keepB (mp'.le l4) keep (OwnL.neM (ol'.le l4) (mp'.le l4))
  refine withAddr_intro rfl ⟨ap5.canSt (by simp), k _ p' c' ⟨?_, ?_, mp5.set ap5, np5⟩ fun z q cq vs w n1 n2 => ?_⟩
  · have := ap5.set (o := 2) (ws := [.slice p' (S.L.length + 1) c'])
    have e : (S.L ++ [x]).length = S.L.length + 1 := by simp
    dsimp only
    rw [e]
    exact this
  · have := ol5.set_ne (o := 2) (ws := [.slice p' (S.L.length + 1) c']) np5
    have e : (S.L ++ [x]).flatMap eV = S.L.flatMap eV ++ eV x := by rw [List.flatMap_append]; simp
    dsimp only
    rw [e]
    exact this
  · have w4 := (fr1 z q cq vs w).le l4
    have w5 : OwnL nulH h5 z q cq vs := w4.mv fun b xs e a => keepAt keep a fun e2 => n2 b e2 e
    refine ⟨w5.set_ne n1, fun r' e => ?_⟩
    intro e2
    rcases w4 with ⟨_, e3, _⟩ | ⟨s, sp, e3, _, a, _⟩
    · rw [e3] at e2; cases e2
    · rw [e3] at e2
      have e2 : s = r' := by simpa using e2
      subst e2
      exact push_ne how a (fun e4 => n2 s e4 e3) e
variable {text : ByteArray}
/-- a record's numbers -/
theorem num_1 {hb : Heap} {a r oc on : Nat} {op : Option Addr} {x : En} (ha : a + 28 ≤ text.size) (hs : text.size ≤ 100000) (hx : x = recE (((bytesI text).drop a).take 28)) (hr : hb r = none)
    (k : ∀ h', hb.le h' → At h' r (eV x) → L_deal_Read_1 text (some ⟨p, 0, none⟩) op on oc (a : Int) r ((a + 28 : Nat) : Int) 4 1 1 1 1 8 8 1 1 2 10 h' K) :
    ∀ (m j : Nat) (h : Heap), m + j = 10 → hb.le h → At h r (intsV .i64 (nkE x j)) → L_deal_Read_1 text (some ⟨p, 0, none⟩) op on oc (a : Int) r ((a + offE.getD j 0 : Nat) : Int) 4 1 1 1 1 8 8 1 1 2 (j : Int) h K := by
  intro m
  induction m with
  | zero =>
    intro j h hj l0 A
    have hj : j = 10 := by omega
    subst hj
    exact k h l0 A
  | succ m ih =>
    intro j h hj l0 A
    refine L_deal_Read_1r _ _ _ _ _ _ _ _ _ _ _ _ _ _ _ _ _ _ _ _ _ ?_
    unfold L_deal_Read_1T
    have hj10 : j < 10 := by omega
    obtain ⟨o1, o2⟩ := off_next hj10
    refine Br.yes (decide_eq_true (by omega)) ⟨by omega, by omega, arr_wd hj10 ?_⟩
    have w : IntKind.wrap .i64 (((a + offE.getD j 0 : Nat) : Int) + ((wdE.getD j 0 : Nat) : Int)) = ((a + offE.getD (j + 1) 0 : Nat) : Int) := by rw [wrap_i64_id (by omega) (by omega)]; omega
    rw [w, w1d (by omega)]
    simp only [Int.toNat_natCast]
    refine ⟨by omega, by omega, by omega, by omega, S_take ?_ fun h1 l1 => ⟨_, rfl, Br.yes (decide_eq_true (by omega)) (Br.yes (decide_eq_true (by omega)) ?_)⟩⟩
    · rw [ByteArray.size_extract]; omega
    have A1 := A.le l1
    refine ⟨A1.canSt (by rw [intsV_length, nkE_len x (by omega)]; omega), ?_⟩
    have ev : decL 0 (bytesI (text.extract (a + offE.getD j 0) (a + offE.getD (j + 1) 0))) = (numsE x).getD j 0 := by
      rw [bytesI_extract, hx, ← rec_num2 hj10]
      congr 3; omega
    rw [ev, Nat.zero_add]
    refine ih (j + 1) _ (by omega) (le_setN (Heap.le_trans l0 l1) hr) ?_
    have := A1.set (o := j) (ws := [.int .i64 ((numsE x).getD j 0)])
    rw [setL_ints1 (by rw [nkE_len x (by omega)]; exact hj10), nkE_succ hj10] at this
    exact this
end
end Go.Proofs.Ytjihfieahkbohaa
