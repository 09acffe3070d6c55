import Derived.Test.YtjihfieahkbohaaGreatM03
import Derived.Test.YtjihfieahkbohaaGreatM08
import Derived.Test.YtjihfieahkbohaaGreatM06
/- A list parted: by which pivot; patterns broken. -/
namespace Go.Proofs.YtjihfieahkbohaaGreat
open Go Go.Sy Go.Value Go.Sort
set_option linter.unusedVariables false
set_option linter.unusedSimpArgs false

def qZT : ByteArray := (ByteArray.mk (List.toArray (List.append (List.append [0, 1, 2, 2, 3, 3, 3, 3, 4, 4, 4, 4, 4, 4, 4, 4, 5, 5, 5, 5, 5, 5, 5, 5, 5, 5, 5, 5, 5, 5, 5, 5, 6, 6, 6, 6, 6, 6, 6, 6, 6, 6, 6, 6, 6, 6, 6, 6, 6, 6, 6, 6, 6, 6, 6, 6, 6, 6, 6, 6, 6, 6, 6, 6] [7, 7, 7, 7, 7, 7, 7, 7, 7, 7, 7, 7, 7, 7, 7, 7, 7, 7, 7, 7, 7, 7, 7, 7, 7, 7, 7, 7, 7, 7, 7, 7, 7, 7, 7, 7, 7, 7, 7, 7, 7, 7, 7, 7, 7, 7, 7, 7, 7, 7, 7, 7, 7, 7, 7, 7, 7, 7, 7, 7, 7, 7, 7, 7]) (List.append [8, 8, 8, 8, 8, 8, 8, 8, 8, 8, 8, 8, 8, 8, 8, 8, 8, 8, 8, 8, 8, 8, 8, 8, 8, 8, 8, 8, 8, 8, 8, 8, 8, 8, 8, 8, 8, 8, 8, 8, 8, 8, 8, 8, 8, 8, 8, 8, 8, 8, 8, 8, 8, 8, 8, 8, 8, 8, 8, 8, 8, 8, 8, 8] [8, 8, 8, 8, 8, 8, 8, 8, 8, 8, 8, 8, 8, 8, 8, 8, 8, 8, 8, 8, 8, 8, 8, 8, 8, 8, 8, 8, 8, 8, 8, 8, 8, 8, 8, 8, 8, 8, 8, 8, 8, 8, 8, 8, 8, 8, 8, 8, 8, 8, 8, 8, 8, 8, 8, 8, 8, 8, 8, 8, 8, 8, 8, 8]))))
theorem qMv : ∀ y : Fin 256, qZT[y.val]? = some (UInt8.ofNat (bitsLen y.val)) ∧ bitsLen y.val ≤ 8 := by decide +kernel
theorem qZI {g0 h : Heap} {B m n : Nat} {sp : List Value} {d : Array Int} (D : Da g0 B m n sp h d) {left : List Int} (hm : left.length = m) {lp : Option Addr} {lc : Nat} (I : Ints .i64 g0 lp left) {r : Nat} {vs : List Value} (A : At h r vs) {X Y : Int} {i j : Nat} (hX : X = (i : Int)) (hY : Y = (j : Int)) (hi : i < n) (hj : j < n) {P Q : Heap → Prop}
    (k : ∀ h', Da g0 B m n sp h' d → At h' r vs → Br (ltO left d[i]! d[j]!) (P h') (Q h')) :
    (0 : Int) ≤ X ∧ X < (n : Int) ∧ qA (some ⟨B, 0, none⟩) fun b o => ∃ x, h.cell b (o + X.toNat) = some (.int .i64 x) ∧ (0 : Int) ≤ Y ∧ Y < (n : Int) ∧ qA (some ⟨B, 0, none⟩) fun b o => ∃ y, h.cell b (o + Y.toNat) = some (.int .i64 y) ∧
      CallA Tryz.prog qC [agg #[slice lp m lc], .int .i64 x, .int .i64 y] h fun v h => ∃ r, v = .int .i64 r ∧ Br (decide (r < 0)) (P h) (Q h) := by
  subst hX hY hm
  refine ⟨by omega, by omega, qB rfl ⟨d[i]!, by rw [Int.toNat_natCast, Nat.zero_add]; exact D.get hi, by omega, by omega, qB rfl ⟨d[j]!, by rw [Int.toNat_natCast, Nat.zero_add]; exact D.get hj, ?_⟩⟩⟩
  exact qP7 (I.le D.le) (D.val hi) (D.val hj) fun h' l' => ⟨_, rfl, k h' (D.mv l') (A.le l')⟩
theorem qWv {g0 h : Heap} {B m n : Nat} {sp : List Value} {d : Array Int} (D : Da g0 B m n sp h d) (e0 : g0 B = none) {r : Nat} {vs : List Value} (A : At h r vs) (hbr : B ≠ r) {X Y : Int} {i j : Nat} (hX : X = (i : Int)) (hY : Y = (j : Int)) (hi : i < n) (hj : j < n) {J : Heap → Prop}
    (k : ∀ h', Da g0 B m n sp h' (Go.Sort.swp d j i) → At h' r vs → J h') :
    (0 : Int) ≤ X ∧ X < (n : Int) ∧ qA (some ⟨B, 0, none⟩) fun b o => ∃ x, h.cell b (o + X.toNat) = some (.int .i64 x) ∧ (0 : Int) ≤ Y ∧ Y < (n : Int) ∧ qA (some ⟨B, 0, none⟩) fun b o => ∃ y, h.cell b (o + Y.toNat) = some (.int .i64 y) ∧
      (0 : Int) ≤ Y ∧ Y < (n : Int) ∧ qA (some ⟨B, 0, none⟩) fun b o => h.canSt b (o + Y.toNat) 1 ∧ (0 : Int) ≤ X ∧ X < (n : Int) ∧ qA (some ⟨B, 0, none⟩) fun b1 o1 => (h.setN b (o + Y.toNat) [.int .i64 x]).canSt b1 (o1 + X.toNat) 1 ∧
        J ((h.setN b (o + Y.toNat) [.int .i64 x]).setN b1 (o1 + X.toNat) [.int .i64 y]) := by
  subst hX hY
  have D1 := D.st e0 hj (D.val hi)
  have D2 := D1.st e0 hi (D.val hj)
  have e : ∀ z : Nat, 0 + ((z : Nat) : Int).toNat = z := fun z => by rw [Int.toNat_natCast, Nat.zero_add]
  refine ⟨by omega, by omega, qB rfl ⟨d[i]!, by rw [e]; exact D.get hi, by omega, by omega, qB rfl ⟨d[j]!, by rw [e]; exact D.get hj, by omega, by omega, qB rfl ⟨by rw [e]; exact D.can hj, by omega, by omega, qB rfl ⟨by rw [e, e]; exact D1.can hi, ?_⟩⟩⟩⟩⟩
  rw [e, e]
  exact k _ D2 ((A.set_ne (Ne.symm hbr)).set_ne (Ne.symm hbr))
section
variable {h : Heap} {K : Value → Heap → Prop}
theorem qXD {x : Nat} (hx : x < 256) (k : K (.int .i64 ((bitsLen x : Nat) : Int)) h) : CallA Tryz.prog qF1 [.int .u64 (x : Int)] h K := by
  refine qKl _ _ _ ?_
  unfold qHI
  refine Br.no (by simp; omega) (Br.no (by simp; omega) (Br.no (by simp; omega) ?_))
  have w : IntKind.wrap .u8 (x : Int) = (x : Int) := by rw [qS2]; omega
  rw [w, Int.toNat_natCast]
  have g := qMv ⟨x, hx⟩
  dsimp only at g
  have t : (UInt8.ofNat (bitsLen x)).toNat = bitsLen x := by simp; omega
  refine ⟨by omega, _, g.1, Ret.mk ?_⟩
  rw [t, wid (x := ((bitsLen x : Nat) : Int)) (by omega) (by omega), Int.zero_add, wid (by omega) (by omega)]
  exact k
theorem qXB {x : Nat} (hx : x < 256) (k : K (.int .i64 ((bitsLen x : Nat) : Int)) h) : CallA Tryz.prog qD8 [.int .u64 (x : Int)] h K := by
  refine qLk _ _ _ ?_
  unfold qIO
  exact qXD hx ⟨_, rfl, Ret.mk k⟩
theorem qUW {x : Nat} (hx : x < 256) (k : K (.int .u64 ((2 ^ bitsLen x : Nat) : Int)) h) : CallA Tryz.prog qCQ [.int .i64 (x : Int)] h K := by
  refine qHn _ _ _ ?_
  unfold qFT
  have w : IntKind.wrap .u64 (x : Int) = (x : Int) := qAQ (by omega) (by omega)
  rw [w]
  have g := (qMv ⟨x, hx⟩).2
  dsimp only at g
  refine qXB hx ⟨_, rfl, Br.yes (by simp) (Ret.mk ?_)⟩
  have e : (1 : Int) * 2 ^ min (Int.toNat ((bitsLen x : Nat) : Int)) 64 = ((2 ^ bitsLen x : Nat) : Int) := by
    rw [Int.toNat_natCast, Nat.min_eq_left (by omega), Int.one_mul]; simp
  have b : (2 ^ bitsLen x : Nat) ≤ 2 ^ 8 := Nat.pow_le_pow_right (by omega) g
  rw [e]
  generalize (2 ^ bitsLen x : Nat) = M at *
  rw [qAQ (by omega) (by omega)]
  exact k
end
theorem qXX (y : Int) {M : Nat} (h1 : 1 ≤ M) (h2 : M ≤ 1024) : ∃ x : Nat, x < M ∧ IntKind.wrap .i64 (IntKind.wrap .u64 ((BitVec.toNat (BitVec.ofInt 64 y &&& BitVec.ofInt 64 (IntKind.wrap .u64 ((M : Int) - 1))) : Nat) : Int)) = (x : Int) := by
  refine ⟨BitVec.toNat (BitVec.ofInt 64 y &&& BitVec.ofInt 64 (IntKind.wrap .u64 ((M : Int) - 1))), ?_, ?_⟩
  · rw [qAQ (by omega) (by omega), BitVec.toNat_and]
    have : (BitVec.ofInt 64 ((M : Int) - 1)).toNat = M - 1 := by rw [BitVec.toNat_ofInt]; omega
    rw [this]
    have := @Nat.and_le_right (BitVec.ofInt 64 y).toNat (M - 1)
    omega
  · rw [qAQ (n := ((M : Int) - 1)) (by omega) (by omega)]
    have h3 : BitVec.toNat (BitVec.ofInt 64 y &&& BitVec.ofInt 64 ((M : Int) - 1)) ≤ M - 1 := by
      rw [BitVec.toNat_and]
      have : (BitVec.ofInt 64 ((M : Int) - 1)).toNat = M - 1 := by rw [BitVec.toNat_ofInt]; omega
      rw [this]
      exact Nat.and_le_right
    rw [qAQ (by omega) (by omega), wid (by omega) (by omega)]
section
variable {g0 : Heap} {B m n c lc : Nat} {sp : List Value} {left : List Int} {lp : Option Addr} {K : Value → Heap → Prop}
theorem Da.ne {h : Heap} {d : Array Int} (D : Da g0 B m n sp h d) {r o : Nat} {vs : List Value} (hr : g0 r = none) (hb : B ≠ r) : Da g0 B m n sp (h.setN r o vs) d := ⟨qAf D.le hr, D.at_.set_ne hb, D.sz, D.rg⟩
theorem qX1 {h : Heap} {d : Array Int} {r : Nat} {x : Int} (D : Da g0 B m n sp h d) (hr : g0 r = none) (hb : B ≠ r) (A : At h r [.int .u64 x]) (k : ∀ h' y, Da g0 B m n sp h' d → At h' r [.int .u64 y] → K (.int .u64 y) h') :
    CallA Tryz.prog qCN [pointer (some ⟨r, 0, none⟩)] h K := by
  refine qHm _ _ _ ?_
  unfold qFh
  refine qB rfl ⟨_, A.cell rfl, qB rfl ⟨_, A.cell rfl, qB rfl ⟨A.canSt (Nat.le_refl _), ?_⟩⟩⟩
  generalize IntKind.wrap .u64 _ = x1
  have A1 : At (h.setN r 0 [.int .u64 x1]) r [.int .u64 x1] := A.set (o := 0)
  have D1 := D.ne (o := 0) (vs := [.int .u64 x1]) hr hb
  generalize h.setN r 0 [.int .u64 x1] = h1 at *
  refine qB rfl ⟨_, A1.cell rfl, qB rfl ⟨_, A1.cell rfl, qB rfl ⟨A1.canSt (Nat.le_refl _), ?_⟩⟩⟩
  generalize IntKind.wrap .u64 _ = x2
  have A2 : At (h1.setN r 0 [.int .u64 x2]) r [.int .u64 x2] := A1.set (o := 0)
  have D2 := D1.ne (o := 0) (vs := [.int .u64 x2]) hr hb
  generalize h1.setN r 0 [.int .u64 x2] = h2 at *
  refine qB rfl ⟨_, A2.cell rfl, qB rfl ⟨_, A2.cell rfl, qB rfl ⟨A2.canSt (Nat.le_refl _), ?_⟩⟩⟩
  generalize IntKind.wrap .u64 _ = x3
  have A3 : At (h2.setN r 0 [.int .u64 x3]) r [.int .u64 x3] := A2.set (o := 0)
  have D3 := D2.ne (o := 0) (vs := [.int .u64 x3]) hr hb
  exact qB rfl ⟨_, A3.cell rfl, Ret.mk (k _ _ D3 A3)⟩
variable (e0 : g0 B = none) (hm : left.length = m) (I : Ints .i64 g0 lp left) (hn : n ≤ 1000000)
include e0 hn
theorem qZC {a b M r : Nat} (h8 : 8 ≤ b - a) (hb : b ≤ n) (hM1 : 1 ≤ M) (hM : M ≤ 2 * (b - a)) (hM2 : M ≤ 1024) (hr : g0 r = none) (hbr : B ≠ r) {d0 : Array Int} :
    ∀ (q idx : Nat) (h : Heap) (d : Array Int) (x : Int), a + (b - a) / 4 * 2 + 2 - idx ≤ q → a ≤ idx → Da g0 B m n sp h d → PermIn a b d0 d → At h r [.int .u64 x] →
    (∀ h' d', Da g0 B m n sp h' d' → PermIn a b d0 d' → K (tuple #[]) h') →
    qZ (some ⟨B, 0, none⟩) n c (a : Int) ((b - a : Nat) : Int) r (M : Int) (idx : Int) h K := by
  have w1 : Int.tdiv ((b - a : Nat) : Int) 4 = (((b - a) / 4 : Nat) : Int) := by rw [Int.tdiv_eq_ediv_of_nonneg (by omega)]; omega
  have w2 : IntKind.wrap .i64 ((((b - a) / 4 : Nat) : Int)) = (((b - a) / 4 : Nat) : Int) := wid (by omega) (by omega)
  have w3 : IntKind.wrap .i64 ((((b - a) / 4 : Nat) : Int) * 2) = (((b - a) / 4 * 2 : Nat) : Int) := by rw [wid (by omega) (by omega)]; omega
  have w4 : IntKind.wrap .i64 ((a : Int) + (((b - a) / 4 * 2 : Nat) : Int)) = ((a + (b - a) / 4 * 2 : Nat) : Int) := by rw [wid (by omega) (by omega)]; omega
  have w5 : IntKind.wrap .i64 (((a + (b - a) / 4 * 2 : Nat) : Int) + 1) = ((a + (b - a) / 4 * 2 + 1 : Nat) : Int) := by rw [wid (by omega) (by omega)]; omega
  intro q
  induction q with
  | zero =>
    intro idx h d x hq hi D P A k
    refine qEQ _ _ _ _ _ _ _ _ _ _ ?_
    unfold qCS
    rw [w1, w2, w3, w4, w5]
    exact Br.no (by simp; omega) (Ret.mk (k h d D P))
  | succ q ih =>
    intro idx h d x hq hi D P A k
    refine qEQ _ _ _ _ _ _ _ _ _ _ ?_
    unfold qCS
    rw [w1, w2, w3, w4, w5]
    refine Br.dec (fun g => qX1 D hr hbr A fun h1 y D1 A1 => ⟨_, rfl, ?_⟩) fun g => Ret.mk (k h d D P)
    have hz : d.size = n := D.sz
    obtain ⟨z, hz1, hz2⟩ := qXX y hM1 hM2
    rw [wp1 (j := idx) (by omega)]
    rw [hz2]
    refine Br.dec (fun g2 => ?_) fun g2 => ?_
    · have v1 : IntKind.wrap .i64 ((z : Int) - ((b - a : Nat) : Int)) = ((z - (b - a) : Nat) : Int) := by rw [wid (by omega) (by omega)]; omega
      have v2 : IntKind.wrap .i64 ((a : Int) + ((z - (b - a) : Nat) : Int)) = ((a + (z - (b - a)) : Nat) : Int) := by rw [wid (by omega) (by omega)]; omega
      rw [v1, v2]
      have hA : ∀ h2, Da g0 B m n sp h2 (swp d idx (a + (z - (b - a)))) → At h2 r [.int .u64 y] → qZ (some ⟨B, 0, none⟩) n c (a : Int) ((b - a : Nat) : Int) r (M : Int) ((idx + 1 : Nat) : Int) h2 K := fun h2 D2 A2 =>
        ih (idx + 1) h2 _ y (by omega) (by omega) D2 (permIn_trans _ _ _ _ _ P (swp_permIn d a b _ _ (by omega) (by omega) (by omega) (by omega) (by omega))) A2 k
      exact qWv (J := fun h2 => qZ (some ⟨B, 0, none⟩) n c (a : Int) ((b - a : Nat) : Int) r (M : Int) ((idx + 1 : Nat) : Int) h2 K) D1 e0 A1 hbr rfl rfl (by omega) (by omega) hA
    · have v2 : IntKind.wrap .i64 ((a : Int) + (z : Int)) = ((a + z : Nat) : Int) := by rw [wid (by omega) (by omega)]; omega
      rw [v2]
      have hA : ∀ h2, Da g0 B m n sp h2 (swp d idx (a + z)) → At h2 r [.int .u64 y] → qZ (some ⟨B, 0, none⟩) n c (a : Int) ((b - a : Nat) : Int) r (M : Int) ((idx + 1 : Nat) : Int) h2 K := fun h2 D2 A2 =>
        ih (idx + 1) h2 _ y (by omega) (by omega) D2 (permIn_trans _ _ _ _ _ P (swp_permIn d a b _ _ (by omega) (by omega) (by omega) (by omega) (by omega))) A2 k
      exact qWv (J := fun h2 => qZ (some ⟨B, 0, none⟩) n c (a : Int) ((b - a : Nat) : Int) r (M : Int) ((idx + 1 : Nat) : Int) h2 K) D1 e0 A1 hbr rfl rfl (by omega) (by omega) hA
theorem qXi {h : Heap} {d : Array Int} {a b : Nat} (h8 : 8 ≤ b - a) (h256 : b - a < 256) (hb : b ≤ n) (D : Da g0 B m n sp h d)
    (k : ∀ h' d', Da g0 B m n sp h' d' → PermIn a b d d' → K (tuple #[]) h') :
    CallA Tryz.prog qCn [slice (some ⟨B, 0, none⟩) n c, .int .i64 (a : Int), .int .i64 (b : Int), func (Fn.func qC) #[agg #[slice lp m lc]] #[]] h K := by
  refine qH5 _ _ _ _ _ _ _ _ _ _ ?_
  unfold qE0
  have w0 : IntKind.wrap .i64 ((b : Int) - (a : Int)) = ((b - a : Nat) : Int) := by rw [wid (by omega) (by omega)]; omega
  have w1 : Int.tdiv ((b - a : Nat) : Int) 4 = (((b - a) / 4 : Nat) : Int) := by rw [Int.tdiv_eq_ediv_of_nonneg (by omega)]; omega
  have w2 : IntKind.wrap .i64 ((((b - a) / 4 : Nat) : Int)) = (((b - a) / 4 : Nat) : Int) := wid (by omega) (by omega)
  have w3 : IntKind.wrap .i64 ((((b - a) / 4 : Nat) : Int) * 2) = (((b - a) / 4 * 2 : Nat) : Int) := by rw [wid (by omega) (by omega)]; omega
  have w4 : IntKind.wrap .i64 ((a : Int) + (((b - a) / 4 * 2 : Nat) : Int)) = ((a + (b - a) / 4 * 2 : Nat) : Int) := by rw [wid (by omega) (by omega)]; omega
  have w5 : IntKind.wrap .i64 (((a + (b - a) / 4 * 2 : Nat) : Int) - 1) = ((a + (b - a) / 4 * 2 - 1 : Nat) : Int) := by rw [wid (by omega) (by omega)]; omega
  rw [w0, w1, w2, w3, w4, w5]
  have g := (qMv ⟨b - a, h256⟩).2
  dsimp only at g
  have b1 : (2 ^ bitsLen (b - a) : Nat) ≤ 2 ^ 8 := Nat.pow_le_pow_right (by omega) g
  refine Br.yes (by simp; omega) (qr fun r h1 hr l1 A1 => ⟨A1.canSt (Nat.le_refl _), ?_⟩)
  generalize IntKind.wrap .u64 _ = x
  have hr0 := qAk D.le hr
  have hbr : B ≠ r := D.at_.ne hr
  have A2 : At (h1.setN r 0 [.int .u64 x]) r [.int .u64 x] := A1.set (o := 0)
  have D2 := (D.mv l1).ne (o := 0) (vs := [.int .u64 x]) hr0 hbr
  refine qUW h256 ⟨_, rfl, ?_⟩
  exact qZC e0 hn h8 hb (Nat.one_le_two_pow) (two_pow_bitsLen_le (by omega)) (by omega) hr0 hbr _ _ _ d x (Nat.le_refl _) (by omega) D2 (permIn_refl d a b) A2 k
omit e0
include hm I
omit hn in
theorem qOz {h : Heap} {d : Array Int} {a b r : Nat} {s : Int} (ha : a < n) (hb : b < n) (D : Da g0 B m n sp h d) (hr : g0 r = none) (hbr : B ≠ r) (A : At h r [.int .i64 s])
    (k : ∀ h' s' (x y : Nat), Da g0 B m n sp h' d → At h' r [.int .i64 s'] → (x = a ∧ y = b ∨ x = b ∧ y = a) → K (tuple #[.int .i64 (x : Int), .int .i64 (y : Int)]) h') :
    CallA Tryz.prog qBh [slice (some ⟨B, 0, none⟩) n c, .int .i64 (a : Int), .int .i64 (b : Int), pointer (some ⟨r, 0, none⟩), func (Fn.func qC) #[agg #[slice lp m lc]] #[]] h K := by
  refine qKP _ _ _ _ _ _ _ _ _ _ _ ?_
  unfold qGZ
  refine qZI D hm I A rfl rfl hb ha fun h1 D1 A1 => Br.intro (fun g => ?_) fun g => Ret.mk (k _ _ a b D1 A1 (.inl ⟨rfl, rfl⟩))
  refine qB rfl ⟨_, A1.cell rfl, qB rfl ⟨A1.canSt (Nat.le_refl _), Ret.mk ?_⟩⟩
  generalize IntKind.wrap .i64 _ = x
  have A2 : At (h1.setN r 0 [.int .i64 x]) r [.int .i64 x] := A1.set (o := 0)
  exact k _ _ b a (D1.ne hr hbr) A2 (.inr ⟨rfl, rfl⟩)
omit hn in
theorem qO6 {h : Heap} {d : Array Int} {a b c' r : Nat} {s : Int} (ha : a < n) (hb : b < n) (hc : c' < n) (D : Da g0 B m n sp h d) (hr : g0 r = none) (hbr : B ≠ r) (A : At h r [.int .i64 s])
    (k : ∀ h' s' (x : Nat), Da g0 B m n sp h' d → At h' r [.int .i64 s'] → (x = a ∨ x = b ∨ x = c') → K (.int .i64 (x : Int)) h') :
    CallA Tryz.prog qGe [slice (some ⟨B, 0, none⟩) n c, .int .i64 (a : Int), .int .i64 (b : Int), .int .i64 (c' : Int), pointer (some ⟨r, 0, none⟩), func (Fn.func qC) #[agg #[slice lp m lc]] #[]] h K := by
  refine qKS _ _ _ _ _ _ _ _ _ _ _ _ ?_
  unfold qGd
  refine qOz hm I ha hb D hr hbr A fun h1 s1 x y D1 A1 e1 => ⟨_, _, rfl, qOz hm I (by omega) hc D1 hr hbr A1 fun h2 s2 z w D2 A2 e2 => ⟨_, _, rfl, qOz hm I (by omega) (by omega) D2 hr hbr A2 fun h3 s3 u v D3 A3 e3 => ⟨_, _, rfl, Ret.mk (k _ _ v D3 A3 (by omega))⟩⟩⟩
theorem qL3 {h : Heap} {d : Array Int} {a r : Nat} {s : Int} (h1 : 1 ≤ a) (ha : a + 1 < n) (D : Da g0 B m n sp h d) (hr : g0 r = none) (hbr : B ≠ r) (A : At h r [.int .i64 s])
    (k : ∀ h' s' (x : Nat), Da g0 B m n sp h' d → At h' r [.int .i64 s'] → (a ≤ x + 1 ∧ x ≤ a + 1) → K (.int .i64 (x : Int)) h') :
    CallA Tryz.prog qEi [slice (some ⟨B, 0, none⟩) n c, .int .i64 (a : Int), pointer (some ⟨r, 0, none⟩), func (Fn.func qC) #[agg #[slice lp m lc]] #[]] h K := by
  refine qHy _ _ _ _ _ _ _ _ _ _ ?_
  unfold qEn
  have w2 : IntKind.wrap .i64 ((a : Int) - 1) = ((a - 1 : Nat) : Int) := by rw [wid (by omega) (by omega)]; omega
  rw [wp1 (by omega), w2]
  exact qO6 hm I (by omega) (by omega) (by omega) D hr hbr A fun h1 s1 x D1 A1 e => ⟨_, rfl, Ret.mk (k _ _ x D1 A1 (by omega))⟩
theorem qXa {h : Heap} {d : Array Int} {a b : Nat} (h12 : 12 < b - a) (hb : b ≤ n) (D : Da g0 B m n sp h d)
    (k : ∀ h' (x : Nat) (hint : Int), Da g0 B m n sp h' d → a ≤ x → x < b → K (tuple #[.int .i64 (x : Int), .int .i64 hint]) h') :
    CallA Tryz.prog qC9 [slice (some ⟨B, 0, none⟩) n c, .int .i64 (a : Int), .int .i64 (b : Int), func (Fn.func qC) #[agg #[slice lp m lc]] #[]] h K := by
  refine qIh _ _ _ _ _ _ _ _ _ _ ?_
  unfold qFd
  have w0 : IntKind.wrap .i64 ((b : Int) - (a : Int)) = ((b - a : Nat) : Int) := by rw [wid (by omega) (by omega)]; omega
  have w1 : Int.tdiv ((b - a : Nat) : Int) 4 = (((b - a) / 4 : Nat) : Int) := by rw [Int.tdiv_eq_ediv_of_nonneg (by omega)]; omega
  have hq : (b - a) / 4 * 4 ≤ b - a := by omega
  have hq3 : 3 ≤ (b - a) / 4 := by omega
  generalize (b - a) / 4 = l at *
  have w2 : IntKind.wrap .i64 (l : Int) = (l : Int) := wid (by omega) (by omega)
  have w3 : IntKind.wrap .i64 ((l : Int) * 1) = (l : Int) := by rw [wid (by omega) (by omega)]; omega
  have w4 : IntKind.wrap .i64 ((l : Int) * 2) = ((2 * l : Nat) : Int) := by rw [wid (by omega) (by omega)]; omega
  have w5 : IntKind.wrap .i64 ((l : Int) * 3) = ((3 * l : Nat) : Int) := by rw [wid (by omega) (by omega)]; omega
  have w6 : IntKind.wrap .i64 ((a : Int) + (l : Int)) = ((a + l : Nat) : Int) := by rw [wid (by omega) (by omega)]; omega
  have w7 : IntKind.wrap .i64 ((a : Int) + ((2 * l : Nat) : Int)) = ((a + 2 * l : Nat) : Int) := by rw [wid (by omega) (by omega)]; omega
  have w8 : IntKind.wrap .i64 ((a : Int) + ((3 * l : Nat) : Int)) = ((a + 3 * l : Nat) : Int) := by rw [wid (by omega) (by omega)]; omega
  rw [w0, w1, w2, w3, w4, w5, w6, w7, w8]
  refine qr fun r h1 hr l1 A1 => ?_
  have hr0 := qAk D.le hr
  have hbr : B ≠ r := D.at_.ne hr
  have D1 := D.mv l1
  have fin : ∀ (h' : Heap) (s : Int) (x : Nat), Da g0 B m n sp h' d → a ≤ x → x < b → Br (s == 0) (Ret h' K (tuple #[.int .i64 (x : Int), .int .i64 1])) (Br (s == 12) (Ret h' K (tuple #[.int .i64 (x : Int), .int .i64 2])) (Ret h' K (tuple #[.int .i64 (x : Int), .int .i64 0]))) :=
    fun h' s x D' g1 g2 => Br.intro (fun _ => Ret.mk (k _ _ _ D' g1 g2)) fun _ => Br.intro (fun _ => Ret.mk (k _ _ _ D' g1 g2)) fun _ => Ret.mk (k _ _ _ D' g1 g2)
  refine Br.yes (by simp; omega) (Br.intro (fun g => ?_) fun g => ?_)
  · refine qL3 hm I hn (by omega) (by omega) D1 hr0 hbr A1 fun h2 s2 x D2 A2 e2 => ⟨_, rfl, qL3 hm I hn (by omega) (by omega) D2 hr0 hbr A2 fun h3 s3 y D3 A3 e3 => ⟨_, rfl, qL3 hm I hn (by omega) (by omega) D3 hr0 hbr A3 fun h4 s4 z D4 A4 e4 => ⟨_, rfl, ?_⟩⟩⟩
    exact qO6 hm I (by omega) (by omega) (by omega) D4 hr0 hbr A4 fun h5 s5 u D5 A5 e5 => ⟨_, rfl, _, A5.cell rfl, fin _ _ _ D5 (by omega) (by omega)⟩
  · exact qO6 hm I (by omega) (by omega) (by omega) D1 hr0 hbr A1 fun h5 s5 u D5 A5 e5 => ⟨_, rfl, _, A5.cell rfl, fin _ _ _ D5 (by omega) (by omega)⟩
end
end Go.Proofs.YtjihfieahkbohaaGreat

/- A list put in order: a permutation, sorted. -/
namespace Go.Proofs.YtjihfieahkbohaaGreat
open Go Go.Sy Go.Value Go.Sort
set_option linter.unusedVariables false
set_option linter.unusedSimpArgs false

section
variable {g0 : Heap} {B m n c lc : Nat} {sp : List Value} {left : List Int} {lp : Option Addr} (e0 : g0 B = none) (hm : left.length = m) (I : Ints .i64 g0 lp left) (hn : n < 256)
include e0 hm I hn
theorem qXR : ∀ (q a b : Nat) (limit : Int) (wb wp : Bool) (d : Array Int) (h : Heap) (K : Value → Heap → Prop), b - a ≤ q → a ≤ b → b ≤ n → 0 ≤ limit + 1000 - q → limit ≤ 1000 → Da g0 B m n sp h d → Below (ltO left) a b d →
    (∀ h' d', Da g0 B m n sp h' d' → PermIn a b d d' → SortedIn (ltO left) a b d' → K (tuple #[]) h') →
    qg (some ⟨B, 0, none⟩) n c (a : Int) (b : Int) limit lp m lc wb wp h K := by
  intro q
  induction q with
  | zero =>
    intro a b limit wb wp d h K hq hab hb hl1 hl2 D hB k
    have hz : d.size = n := D.sz
    refine qF2 _ _ _ _ _ _ _ _ _ _ _ _ _ ?_
    unfold qDb
    have w0 : IntKind.wrap .i64 ((b : Int) - (a : Int)) = ((b - a : Nat) : Int) := by rw [wid (by omega) (by omega)]; omega
    rw [w0]
    refine Br.yes (by simp; omega) (qOr e0 hm I (by omega) (by omega) hb D fun h1 D1 => ⟨rfl, Ret.mk ?_⟩)
    have := insertionSort_holds (qPP left) d a b hab (by omega)
    exact k h1 _ D1 this.1 this.2
  | succ q ih =>
    intro a b limit wb wp d h K hq hab hb hl1 hl2 D hB k
    have hz : d.size = n := D.sz
    refine qF2 _ _ _ _ _ _ _ _ _ _ _ _ _ ?_
    unfold qDb
    have w0 : IntKind.wrap .i64 ((b : Int) - (a : Int)) = ((b - a : Nat) : Int) := by rw [wid (by omega) (by omega)]; omega
    rw [w0]
    refine Br.dec (fun g => ?_) fun g => ?_
    · refine qOr e0 hm I (by omega) (by omega) hb D fun h1 D1 => ⟨rfl, Ret.mk ?_⟩
      have := insertionSort_holds (qPP left) d a b hab (by omega)
      exact k h1 _ D1 this.1 this.2
    refine Br.intro (fun _ => ?_) fun _ => ?_
    · refine qYD e0 hm I (by omega) (by omega) hb D fun h1 D1 => ⟨rfl, Ret.mk ?_⟩
      have := heapSort_holds (qPP left) d a b hab (by omega)
      exact k h1 _ D1 this.1 this.2
    have h12 : 12 < b - a := by omega
    -- behind the patterns
    have cont : ∀ (lim : Int) (h : Heap) (d1 : Array Int), 0 ≤ lim + 1000 - q → lim ≤ 1000 → Da g0 B m n sp h d1 → PermIn a b d d1 → qBk (some ⟨B, 0, none⟩) n c (a : Int) (b : Int) lim lp m lc wb wp ((b - a : Nat) : Int) h K := by
      intro lim h d1 hl3 hl4 D1 P1
      have B1 := hB.perm (by omega) P1
      refine qH7 _ _ _ _ _ _ _ _ _ _ _ _ _ _ ?_
      unfold qFK
      -- the parts
      have part : ∀ (h : Heap) (d3 : Array Int) (pivot : Nat), Da g0 B m n sp h d3 → PermIn a b d d3 → a ≤ pivot → pivot < b → qAO (some ⟨B, 0, none⟩) n c (a : Int) (b : Int) lim lp m lc wb wp ((b - a : Nat) : Int) (pivot : Int) h K := by
        intro h d3 pivot D3 P3 hp1 hp2
        have B3 := hB.perm (by omega) P3
        have hz3 : d3.size = n := D3.sz
        refine qIE _ _ _ _ _ _ _ _ _ _ _ _ _ _ _ ?_
        unfold qFM
        have ordinary : ∀ h, Da g0 B m n sp h d3 → CallA Tryz.prog qA9 [slice (some ⟨B, 0, none⟩) n c, .int .i64 (a : Int), .int .i64 (b : Int), .int .i64 (pivot : Int), func (Fn.func qC) #[agg #[slice lp m lc]] #[]] h fun v h =>
            ∃ (x : Int), ∃ (y : Bool), v = tuple #[.int .i64 x, .bool y] ∧ Br (decide (IntKind.wrap .i64 (x - (a : Int)) < IntKind.wrap .i64 ((b : Int) - x)))
              (CallA Tryz.prog qAp [slice (some ⟨B, 0, none⟩) n c, .int .i64 (a : Int), .int .i64 x, .int .i64 lim, func (Fn.func qC) #[agg #[slice lp m lc]] #[]] h fun v h => v = tuple #[] ∧
                qg (some ⟨B, 0, none⟩) n c (IntKind.wrap .i64 (x + 1)) (b : Int) lim lp m lc (decide (IntKind.wrap .i64 (x - (a : Int)) ≥ IntKind.wrap .i64 (Int.tdiv ((b - a : Nat) : Int) 8))) y h K)
              (CallA Tryz.prog qAp [slice (some ⟨B, 0, none⟩) n c, .int .i64 (IntKind.wrap .i64 (x + 1)), .int .i64 (b : Int), .int .i64 lim, func (Fn.func qC) #[agg #[slice lp m lc]] #[]] h fun v h => v = tuple #[] ∧
                qg (some ⟨B, 0, none⟩) n c (a : Int) x lim lp m lc (decide (IntKind.wrap .i64 ((b : Int) - x) ≥ IntKind.wrap .i64 (Int.tdiv ((b - a : Nat) : Int) 8))) y h K) := by
          intro h D3
          refine qSP e0 hm I (by omega) (by omega) hb hp1 hp2 D3 fun h4 D4 => ⟨_, _, rfl, ?_⟩
          generalize hx : partition (ltO left) d3 a b pivot = r at *
          obtain ⟨mid, ap, d4⟩ := r
          obtain ⟨g1, g2, hs4, hBa, hBr, hleft, hright⟩ := round_part (qPP left) (partition_holds (ltO left)) hp1 hp2 (by omega) B3 hx
          dsimp only at D4 ⊢
          have w1 : IntKind.wrap .i64 ((mid : Int) - (a : Int)) = ((mid - a : Nat) : Int) := by rw [wid (by omega) (by omega)]; omega
          have w2 : IntKind.wrap .i64 ((b : Int) - (mid : Int)) = ((b - mid : Nat) : Int) := by rw [wid (by omega) (by omega)]; omega
          rw [w1, w2, wp1 (by omega)]
          refine Br.intro (fun _ => ?_) fun _ => ?_
          · refine qEd _ _ _ _ _ _ _ _ _ _ _ ?_
            unfold qCh
            refine ih a mid lim true true d4 h4 _ (by omega) g1 (by omega) hl3 hl4 D4 hBa fun h5 d5 D5 l1 l2 => ⟨rfl, ?_⟩
            obtain ⟨hBL, hfin⟩ := hleft _ l1 l2
            refine ih (mid + 1) b lim _ ap d5 h5 _ (by omega) (by omega) hb hl3 hl4 D5 hBL fun h6 d6 D6 r1 r2 => ?_
            obtain ⟨q1, q2⟩ := hfin _ r1 r2
            exact k h6 _ D6 (permIn_trans _ _ _ a b P3 q1) q2
          · refine qEd _ _ _ _ _ _ _ _ _ _ _ ?_
            unfold qCh
            refine ih (mid + 1) b lim true true d4 h4 _ (by omega) (by omega) hb hl3 hl4 D4 hBr fun h5 d5 D5 l1 l2 => ⟨rfl, ?_⟩
            obtain ⟨hBL, hfin⟩ := hright _ l1 l2
            refine ih a mid lim _ ap d5 h5 _ (by omega) g1 (by omega) hl3 hl4 D5 hBL fun h6 d6 D6 r1 r2 => ?_
            obtain ⟨q1, q2⟩ := hfin _ r1 r2
            exact k h6 _ D6 (permIn_trans _ _ _ a b P3 q1) q2
        refine Br.dec (fun ga => ?_) fun ga => ordinary h D3
        have w1 : IntKind.wrap .i64 ((a : Int) - 1) = ((a - 1 : Nat) : Int) := by rw [wid (by omega) (by omega)]; omega
        rw [w1]
        refine qJk D3 hm I rfl rfl (by omega) (by omega) fun h' D' => Br.intro (fun g2 => ?_) fun g2 => ordinary h' D'
        refine qPG e0 hm I (by omega) (by omega) hb hp1 hp2 D' fun h4 D4 => ⟨_, rfl, ?_⟩
        generalize hx : partitionEqual (ltO left) d3 a b pivot = r at *
        obtain ⟨mid, d4⟩ := r
        obtain ⟨m1, m2, hs4, hB4, hfin⟩ := round_eq (qPP left) (partitionEqual_holds (lt := ltO left)) (by omega) hp1 hp2 (by omega) B3 (by simpa using g2) hx
        dsimp only at D4 ⊢
        refine ih mid b lim wb wp d4 h4 _ (by omega) m2 hb hl3 hl4 D4 hB4 fun h6 d6 D6 r1 r2 => ?_
        obtain ⟨q1, q2⟩ := hfin _ r1 r2
        exact k h6 _ D6 (permIn_trans _ _ _ a b P3 q1) q2
      -- few steps
      have few : ∀ (h : Heap) (d2 : Array Int) (pivot : Nat) (hint : Int), Da g0 B m n sp h d2 → PermIn a b d d2 → a ≤ pivot → pivot < b → qBn (some ⟨B, 0, none⟩) n c (a : Int) (b : Int) lim lp m lc wb wp ((b - a : Nat) : Int) (pivot : Int) hint h K := by
        intro h d2 pivot hint D2 P2 hp1 hp2
        have B2 := hB.perm (by omega) P2
        have hz2 : d2.size = n := D2.sz
        refine qIH _ _ _ _ _ _ _ _ _ _ _ _ _ _ _ _ ?_
        unfold qFI
        refine Br.intro (fun _ => Br.intro (fun _ => Br.intro (fun _ => ?_) fun _ => part h d2 pivot D2 P2 hp1 hp2) fun _ => part h d2 pivot D2 P2 hp1 hp2) fun _ => part h d2 pivot D2 P2 hp1 hp2
        have s := partialInsertionSort_holds (qPP left) d2 a b (by omega) (by omega) B2
        refine qY2 e0 hm I (by omega) (by omega) hb D2 fun h3 D3 => ⟨_, rfl, Br.intro (fun g => Ret.mk ?_) fun g => ?_⟩
        · exact k h3 _ D3 (permIn_trans _ _ _ a b P2 s.1) (s.2 g)
        · exact part h3 _ pivot D3 (permIn_trans _ _ _ a b P2 s.1) hp1 hp2
      refine qXa hm I (by omega) h12 hb D1 fun h2 x hint D2 hx1 hx2 => ⟨_, _, rfl, Br.intro (fun _ => ?_) fun _ => few h2 d1 x hint D2 P1 hx1 hx2⟩
      refine qUn e0 (by omega) (by omega) hb D2 fun h3 D3 => ⟨rfl, ?_⟩
      have s := reverseRange_holds d1 a b hab (by have := D1.sz; omega)
      have w1 : IntKind.wrap .i64 ((b : Int) - 1) = ((b - 1 : Nat) : Int) := by rw [wid (by omega) (by omega)]; omega
      have w2 : IntKind.wrap .i64 ((x : Int) - (a : Int)) = ((x - a : Nat) : Int) := by rw [wid (by omega) (by omega)]; omega
      have w3 : IntKind.wrap .i64 (((b - 1 : Nat) : Int) - ((x - a : Nat) : Int)) = ((b - 1 - (x - a) : Nat) : Int) := by rw [wid (by omega) (by omega)]; omega
      rw [w1, w2, w3]
      exact few h3 _ _ 1 D3 (permIn_trans _ _ _ a b P1 s) (by omega) (by omega)
    refine Br.intro (fun _ => ?_) fun _ => cont limit h d (by omega) hl2 D (permIn_refl d a b)
    refine qXi e0 (by omega) (by omega) (by omega) hb D fun h1 d1 D1 P1 => ⟨rfl, ?_⟩
    rw [wid (x := limit - 1) (by omega) (by omega)]
    exact cont _ h1 d1 (by omega) (by omega) D1 P1
theorem qTU {h : Heap} {d : Array Int} {K : Value → Heap → Prop} (D : Da g0 B m n sp h d)
    (k : ∀ h' d', Da g0 B m n sp h' d' → PermIn 0 n d d' → SortedIn (ltO left) 0 n d' → K (tuple #[]) h') :
    CallA Tryz.prog qEs [slice (some ⟨B, 0, none⟩) n c, func (Fn.func qC) #[agg #[slice lp m lc]] #[]] h K := by
  refine qKz _ _ _ _ _ _ _ _ ?_
  unfold qGw
  rw [qAQ (by omega) (by omega)]
  have g := (qMv ⟨n, hn⟩).2
  dsimp only at g
  refine qXB hn ⟨_, rfl, ?_⟩
  refine qEd _ _ _ _ _ _ _ _ _ _ _ ?_
  unfold qCh
  refine qXR e0 hm I hn n 0 n _ true true d h _ (by omega) (by omega) (Nat.le_refl _) (by omega) (by omega) D (.inl rfl) fun h1 d1 D1 P1 s1 => ⟨rfl, Ret.mk (k h1 d1 D1 P1 s1)⟩
end
end Go.Proofs.YtjihfieahkbohaaGreat

/- Shares, plainly: parts, what is left over, who gets one more. -/
namespace Go.Proofs.YtjihfieahkbohaaGreat
open Go Go.Sy Go.Value
set_option linter.unusedVariables false
set_option linter.unusedSimpArgs false

def qA1 (t s : Int) (ws : List Int) : List Int := ws.map fun w => t * w / s
def qFn (t s : Int) (ws : List Int) : List Int := ws.map fun w => t * w % s
theorem qKE (t s : Int) (ws : List Int) : (qA1 t s ws).length = ws.length := by simp [qA1]
theorem qJ7 (t s : Int) (ws : List Int) : (qFn t s ws).length = ws.length := by simp [qFn]
def qGo (n : Nat) : List Int := (List.range n).map fun (i : Nat) => (i : Int)
theorem qGH (n : Nat) : (qGo n).length = n := by simp [qGo]
theorem qVR (n : Nat) : qGo (n + 1) = qGo n ++ [(n : Int)] := by simp [qGo, List.range_succ]
theorem qSI {n : Nat} {x : Int} : x ∈ qGo n ↔ 0 ≤ x ∧ x < (n : Int) := by
  unfold qGo
  rw [List.mem_map]
  constructor
  · rintro ⟨i, h, rfl⟩; rw [List.mem_range] at h; omega
  · intro h; exact ⟨x.toNat, List.mem_range.2 (by omega), by omega⟩
def qNT (left : List Int) (n : Nat) : List Int := (qGo n).mergeSort fun x y => !ltO left y x
theorem qTD {left : List Int} {n : Nat} {d : Array Int} (hp : Go.Sort.PermIn 0 n (qGo n).toArray d) (hs : Go.Sort.SortedIn (ltO left) 0 n d) : d.toList = qNT left n := by
  have hz : (qGo n).toArray.size = n := by simp [qGH]
  have := Go.Sort.sorted_unique_holds (lt := ltO left) (qPP left) (qZj left) (qGo n).toArray d (by rw [hz]; exact hp) (by rw [hz]; exact hs)
  simpa [qNT] using this
theorem qXn {left : List Int} {n : Nat} {c : List Int} (hp : c.Perm (qGo n)) (hs : c.Pairwise fun x y => ltO left y x = false) : qNT left n = c := by
  have hl : c.length = n := by rw [hp.length_eq, qGH]
  have := qTD (left := left) (n := n) (d := c.toArray) ⟨by simp [hl, qGH], fun i hi => ?_, ?_⟩ fun i j _ hij hj => ?_
  · simpa using this.symm
  · have g1 : ¬ i < c.toArray.size := by simp; omega
    have g2 : ¬ i < (qGo n).toArray.size := by simp [qGH]; omega
    rw [getElem!_neg c.toArray i g1, getElem!_neg (qGo n).toArray i g2]
  · have e1 : (c.toArray.extract 0 n).toList = c := by simp [← hl]
    have e2 : ((qGo n).toArray.extract 0 n).toList = qGo n := by
      have := qGH n
      simp [List.take_of_length_le (Nat.le_of_eq this)]
    rw [e1, e2]; exact hp
  · rw [List.pairwise_iff_getElem] at hs
    have h1 : i < c.length := by omega
    have h2 : j < c.length := by omega
    have := hs i j h1 h2 hij
    rw [getElem!_pos c.toArray i (by simpa using h1), getElem!_pos c.toArray j (by simpa using h2)]
    simpa using this
theorem qQd (left : List Int) (n : Nat) : (qNT left n).Perm (qGo n) := List.mergeSort_perm _ _
theorem qWM (left : List Int) (n : Nat) : (qNT left n).length = n := by rw [(qQd left n).length_eq, qGH]
def qLv (l : List Int) (i : Int) : List Int := l.set i.toNat (l.getD i.toNat 0 + 1)
def qR3 (l : List Int) (who : List Int) : List Int := who.foldl qLv l
theorem qQ2 (l : List Int) (i : Int) : (qLv l i).length = l.length := by simp [qLv]
theorem qRr : ∀ (who l : List Int), (qR3 l who).length = l.length
  | [], l => rfl
  | i :: who, l => by rw [qR3, List.foldl_cons]; exact (qRr who _).trans (qQ2 _ _)
theorem qRQ : ∀ (l : List Int) (i : Nat) (v : Int), i < l.length → qP (l.set i v) = qP l - l.getD i 0 + v
  | x :: l, 0, v, _ => by simp [qP]; omega
  | x :: l, i + 1, v, h => by
    have := qRQ l i v (by simpa using h)
    simp only [List.set_cons_succ, qP, this, List.getD_cons_succ]
    omega
theorem qVG {l : List Int} {i : Int} (h0 : 0 ≤ i) (h : i < (l.length : Int)) : qP (qLv l i) = qP l + 1 := by
  unfold qLv
  rw [qRQ _ _ _ (by omega)]
  omega
def geL (l : List Int) : Prop := ∀ x ∈ l, 0 ≤ x
theorem qVj {l : List Int} (i : Int) (h : geL l) : geL (qLv l i) := fun x hx => by
  unfold qLv at hx
  rcases List.mem_or_eq_of_mem_set hx with hx | hx
  · exact h x hx
  · have : 0 ≤ l.getD i.toNat 0 := by
      rw [List.getD_eq_getElem?_getD]
      cases e : l[i.toNat]? with
      | none => simp
      | some y => simp only [Option.getD_some]; exact h y (List.mem_of_getElem? e)
    omega
theorem qMO : ∀ {l : List Int}, geL l → 0 ≤ qP l ∧ ∀ x ∈ l, x ≤ qP l
  | [], _ => by simp [qP]
  | y :: l, h => by
    have ih := qMO (l := l) fun x hx => h x (List.mem_cons_of_mem _ hx)
    have hy := h y (List.mem_cons_self ..)
    simp only [qP]
    refine ⟨by omega, fun x hx => ?_⟩
    rcases List.mem_cons.1 hx with rfl | hx
    · omega
    · have := ih.2 x hx; omega
/-! what the parts come to -/
theorem qQu (t s : Int) : ∀ ws : List Int, qP (qA1 t s ws) * s + qP (qFn t s ws) = t * qP ws
  | [] => by simp [qA1, qFn, qP]
  | w :: ws => by
    have ih := qQu t s ws
    have h := Int.mul_ediv_add_emod (t * w) s
    simp only [qA1, qFn, List.map_cons, qP] at ih ⊢
    generalize t * w / s = q at *
    generalize t * w % s = r at *
    rw [Int.mul_add, Int.add_mul]
    have : s * q = q * s := Int.mul_comm _ _
    omega
theorem qQC {t s : Int} (ht : 0 ≤ t) (hs : 0 < s) {ws : List Int} (hw : geL ws) : geL (qA1 t s ws) := fun x hx => by
  unfold qA1 at hx
  rw [List.mem_map] at hx
  obtain ⟨w, hw1, rfl⟩ := hx
  exact Int.ediv_nonneg (Int.mul_nonneg ht (hw w hw1)) (by omega)
theorem qTN {t s : Int} (hs : 0 < s) {ws : List Int} : ∀ x ∈ qFn t s ws, 0 ≤ x ∧ x < s := fun x hx => by
  unfold qFn at hx
  rw [List.mem_map] at hx
  obtain ⟨w, hw1, rfl⟩ := hx
  exact ⟨Int.emod_nonneg _ (by omega), Int.emod_lt_of_pos _ hs⟩
theorem qUr {s : Int} : ∀ {l : List Int}, (∀ x ∈ l, 0 ≤ x ∧ x < s) → 0 ≤ qP l ∧ qP l ≤ (l.length : Int) * s ∧ (l ≠ [] → qP l < (l.length : Int) * s)
  | [], _ => by simp [qP]
  | y :: l, h => by
    have ih := qUr (l := l) fun x hx => h x (List.mem_cons_of_mem _ hx)
    have hy := h y (List.mem_cons_self ..)
    simp only [qP, List.length_cons]
    have e : ((l.length + 1 : Nat) : Int) * s = (l.length : Int) * s + s := by
      rw [Int.natCast_add, Int.add_mul]; simp
    rw [e]
    refine ⟨by omega, by omega, fun _ => by omega⟩
theorem qNE {t : Int} {ws : List Int} (hs : 0 < qP ws) (hne : ws ≠ []) :
    0 ≤ t - qP (qA1 t (qP ws) ws) ∧ t - qP (qA1 t (qP ws) ws) < (ws.length : Int) := by
  have h1 := qQu t (qP ws) ws
  have h2 := qUr (qTN (t := t) (ws := ws) hs)
  have h3 := h2.2.2 (by intro e; apply hne; have := congrArg List.length e; rw [qJ7] at this; exact List.length_eq_zero_iff.1 this)
  rw [qJ7] at h3
  generalize qP (qFn t (qP ws) ws) = r at *
  generalize qP (qA1 t (qP ws) ws) = b at *
  generalize qP ws = s at *
  have e : (t - b) * s = r := by rw [Int.sub_mul]; omega
  constructor
  · rcases Int.lt_or_le (t - b) 0 with h | h
    · have := Int.mul_neg_of_neg_of_pos h hs; omega
    · exact h
  · rcases Int.lt_or_le (t - b) (ws.length : Int) with h | h
    · exact h
    · have := Int.mul_le_mul_of_nonneg_right h (Int.le_of_lt hs); omega
def qLE (ws : List Int) : Bool := ws.any fun x => decide (x < 0)
def qLT (ws : List Int) : Bool := ws.any fun x => decide (x > 0)
def qIe (t : Int) (ws : List Int) : List Int :=
  qR3 (qA1 t (qP ws) ws) ((qNT (qFn t (qP ws) ws) ws.length).take (t - qP (qA1 t (qP ws) ws)).toNat)
def qJV (t : Int) (ws : List Int) : List Int × Int :=
  if 64 < ws.length then ([], 4) else if t < 0 then ([], 1) else if qLE ws = true then ([], 1) else if qLT ws = false then ([], 1) else
  if (fit (qP ws)).2 ≠ 0 then ([], (fit (qP ws)).2) else (qIe t ws, 0)
theorem qVN {ws : List Int} (h : qLE ws = false) : geL ws := fun x hx => by
  unfold qLE at h
  rw [List.any_eq_false] at h
  have := h x hx
  simp at this; omega
theorem qYV {ws : List Int} (h : qLE ws = false) (hp : qLT ws = true) : 0 < qP ws ∧ ws ≠ [] := by
  unfold qLT at hp
  rw [List.any_eq_true] at hp
  obtain ⟨x, hx, h2⟩ := hp
  have := (qMO (qVN h)).2 x hx
  have h2 : x > 0 := by simpa using h2
  exact ⟨by omega, fun e => by rw [e] at hx; cases hx⟩
theorem qOt (t : Int) (ws : List Int) : (qIe t ws).length = ws.length := by rw [qIe, qRr, qKE]
end Go.Proofs.YtjihfieahkbohaaGreat

/- Shares: walked. -/
namespace Go.Proofs.YtjihfieahkbohaaGreat
open Go Go.Sy Go.Value
set_option linter.unusedVariables false
set_option linter.unusedSimpArgs false

def Dj (p q : Option Addr) : Prop := ∀ B, p = some ⟨B, 0, none⟩ → q ≠ some ⟨B, 0, none⟩
theorem Dj.symm {p q : Option Addr} (d : Dj p q) : Dj q p := fun B e1 e2 => d B e2 e1
theorem Dj.none (q : Option Addr) : Dj Option.none q := fun B e => by cases e
theorem qTJ {h0 h : Heap} {p : Option Addr} {c j : Nat} {l : List Int} {v : Int} {T t : TypeId} {J : Option Addr → Nat → Heap → Prop} (x : OwnL h0 h [.int .i64 0] p c (qf .i64 l)) (l0 : h0.le h) (hl : l.length = j) (hj : j ≤ 1000)
    (k : ∀ p' c' h', h0.le h' → OwnL h0 h' [.int .i64 0] p' c' (qf .i64 (l ++ [v])) →
      (∀ q cq lq, OwnL h0 h [.int .i64 0] q cq lq → Dj p q → OwnL h0 h' [.int .i64 0] q cq lq ∧ Dj p' q) → (∀ b xs, At h b xs → p ≠ some ⟨b, 0, none⟩ → At h' b xs ∧ p' ≠ some ⟨b, 0, none⟩) → J p' c' h') :
    qO h [.int .i64 v] T fun r h1 => AppA [.int .i64 0] t h1 p j c 1 (some ⟨r, 0, none⟩) J := by
  refine qJi x (by decide) l0 (by omega) rfl rfl (by rw [qw, hl]; simp) fun r h1 p' c' h' hr l1 l' w keep how => ?_
  have A : ∀ b xs, At h b xs → p ≠ some ⟨b, 0, none⟩ → At h' b xs ∧ p' ≠ some ⟨b, 0, none⟩ := fun b xs a e => ⟨qKD keep (a.le l1) e, qK3 how (a.le l1) e⟩
  refine k p' c' h' l' (by rw [qDY]; exact w) (fun q cq lq o d => ⟨o.mv fun b xs e a => (A b xs a fun e2 => d b e2 e).1, fun B e1 e2 => ?_⟩) A
  rcases o with ⟨_, e, _⟩ | ⟨s, sp, e, _, a, _⟩
  · rw [e] at e2; cases e2
  · rw [e] at e2
    have e2 : s = B := by simpa using e2
    subst e2
    exact (A s _ a fun e3 => d s e3 e).2 e1

section
variable {h : Heap} {K : Value → Heap → Prop}
theorem qXk {t w q s : Int} (h0 : 0 ≤ t * w - q * s) (h1 : t * w - q * s ≤ 9223372036854775807) :
    IntKind.wrap .i64 (IntKind.wrap .u64 (IntKind.wrap .u64 (IntKind.wrap .u64 t * IntKind.wrap .u64 w) - IntKind.wrap .u64 (IntKind.wrap .u64 q * IntKind.wrap .u64 s))) = t * w - q * s := by
  have e : ∀ a b : Int, IntKind.wrap .u64 (IntKind.wrap .u64 a * IntKind.wrap .u64 b) = IntKind.wrap .u64 (a * b) := fun a b => by
    rw [qBZ, qBZ, qBZ, qBZ, ← Int.mul_emod]
  rw [e, e]
  generalize t * w = x at *
  generalize q * s = y at *
  rw [qBZ, qBZ, qBZ, qHM]
  omega
theorem qYo {t w q s : Int} (h0 : 0 ≤ t * w - q * s) (h1 : t * w - q * s ≤ 9223372036854775807) (k : K (.int .i64 (t * w - q * s)) h) : CallA Tryz.prog qKM [.int .i64 t, .int .i64 w, .int .i64 q, .int .i64 s] h K := by
  refine qRo _ _ _ _ _ _ ?_
  unfold qM3
  refine Ret.mk ?_
  rw [qXk h0 h1]; exact k
/-! a list is looked through -/
theorem qWd {n : Int} (k : K (.bool (decide (n < 0))) h) : CallA Tryz.prog qCg [.int .i64 n] h K := by
  refine qQ5 _ _ _ ?_
  unfold qMY
  exact Ret.mk k
theorem qWE {n : Int} (k : K (.bool (decide (n > 0))) h) : CallA Tryz.prog qBV [.int .i64 n] h K := by
  refine qO0 _ _ _ ?_
  unfold qKh
  exact Ret.mk k
theorem qYA {q : Option Addr} {l : List Int} {n c : Nat} (I : Ints .i64 h q l) (hn : l.length = n) (hs : n ≤ 1000000) (k : ∀ v : Int, decide (v ≥ 0) = l.any (fun x => decide (x < 0)) → K (.int .i64 v) h) :
    ∀ (m j : Nat), m + j = n → l.any (fun x => decide (x < 0)) = (l.drop j).any (fun x => decide (x < 0)) → qBW q n c (n : Int) (j : Int) h K := by
  intro m
  induction m with
  | zero =>
    intro j hj e
    refine qEk _ _ _ _ _ _ _ ?_
    unfold qCi
    rw [List.drop_eq_nil_of_le (by omega)] at e
    exact Br.no (by simp; omega) (Ret.mk (k (-1) (by rw [e]; rfl)))
  | succ m ih =>
    intro j hj e
    refine qEk _ _ _ _ _ _ _ ?_
    unfold qCi
    have hx : l[j]? = some l[j] := List.getElem?_eq_getElem (by omega)
    rw [List.drop_eq_getElem_cons (by omega : j < l.length), List.any_cons] at e
    refine Br.yes (by simp; omega) (ix I hn rfl hx (qWd ⟨_, rfl, Br.intro (fun g => ?_) fun g => ?_⟩))
    · rw [g, Bool.true_or] at e
      exact Ret.mk (k (j : Int) (by rw [e]; exact decide_eq_true (by omega)))
    · rw [g, Bool.false_or] at e
      rw [qK (n := (j : Int) + 1) (by omega) (by omega)]
      exact ih (j + 1) (by omega) e
theorem qUk {q : Option Addr} {l : List Int} {n c : Nat} (I : Ints .i64 h q l) (hn : l.length = n) (hs : n ≤ 1000000) (k : K (.bool (qLE l)) h) :
    CallA Tryz.prog qAI [slice q n c, func (Fn.func qCg) #[] #[]] h K := by
  refine qHf _ _ _ _ _ ?_
  unfold qER
  refine qIZ _ _ _ _ _ ?_
  unfold qFJ
  refine qYA I hn hs (fun v hv => ⟨_, rfl, Ret.mk ?_⟩) n 0 (by omega) rfl
  rw [hv]; exact k
theorem qYB {q : Option Addr} {l : List Int} {n c : Nat} (I : Ints .i64 h q l) (hn : l.length = n) (hs : n ≤ 1000000) (k : ∀ v : Int, decide (v ≥ 0) = l.any (fun x => decide (x > 0)) → K (.int .i64 v) h) :
    ∀ (m j : Nat), m + j = n → l.any (fun x => decide (x > 0)) = (l.drop j).any (fun x => decide (x > 0)) → qBU q n c (n : Int) (j : Int) h K := by
  intro m
  induction m with
  | zero =>
    intro j hj e
    refine qEr _ _ _ _ _ _ _ ?_
    unfold qCk
    rw [List.drop_eq_nil_of_le (by omega)] at e
    exact Br.no (by simp; omega) (Ret.mk (k (-1) (by rw [e]; rfl)))
  | succ m ih =>
    intro j hj e
    refine qEr _ _ _ _ _ _ _ ?_
    unfold qCk
    have hx : l[j]? = some l[j] := List.getElem?_eq_getElem (by omega)
    rw [List.drop_eq_getElem_cons (by omega : j < l.length), List.any_cons] at e
    refine Br.yes (by simp; omega) (ix I hn rfl hx (qWE ⟨_, rfl, Br.intro (fun g => ?_) fun g => ?_⟩))
    · rw [g, Bool.true_or] at e
      exact Ret.mk (k (j : Int) (by rw [e]; exact decide_eq_true (by omega)))
    · rw [g, Bool.false_or] at e
      rw [qK (n := (j : Int) + 1) (by omega) (by omega)]
      exact ih (j + 1) (by omega) e
theorem qVL {q : Option Addr} {l : List Int} {n c : Nat} (I : Ints .i64 h q l) (hn : l.length = n) (hs : n ≤ 1000000) (k : K (.bool (qLT l)) h) :
    CallA Tryz.prog qAI [slice q n c, func (Fn.func qBV) #[] #[]] h K := by
  refine qHl _ _ _ _ _ ?_
  unfold qEc
  refine qIR _ _ _ _ _ ?_
  unfold qFG
  refine qYB I hn hs (fun v hv => ⟨_, rfl, Ret.mk ?_⟩) n 0 (by omega) rfl
  rw [hv]; exact k
end
section
variable {h0 : Heap} {K : Value → Heap → Prop}
/-! one more each -/
theorem qVZ {B : Nat} {sp : List Value} {whoP : Option Addr} {whoc sc n m : Nat} {t : Int} (hB0 : h0 B = none) {who : List Int} (hm : who.length = m) (hm2 : m ≤ 64) (hn : n ≤ 64) (hr : ∀ i ∈ who, 0 ≤ i ∧ i < (n : Int)) (ht : t ≤ 9223372036854775807) {res : List Int}
    (k : ∀ h', h0.le h' → At h' B (qf .i64 res ++ sp) → K (tuple #[slice (some ⟨B, 0, none⟩) n sc, .int .i64 0]) h') :
    ∀ (q j : Nat) (h : Heap) (l : List Int), q + j = m → h0.le h → Ints .i64 (h.del B) whoP who → At h B (qf .i64 l ++ sp) → l.length = n → geL l → qP l + (q : Int) ≤ t → qR3 l (who.drop j) = res →
    qFb (some ⟨B, 0, none⟩) n sc whoP m whoc (m : Int) (j : Int) h K := by
  intro q
  induction q with
  | zero =>
    intro j h l hj l0 I A hl hg hs e
    refine qKe _ _ _ _ _ _ _ _ _ _ ?_
    unfold qHx
    rw [List.drop_eq_nil_of_le (by omega)] at e
    have e : l = res := e
    subst e
    exact Br.no (by simp; omega) (Ret.mk (k h l0 A))
  | succ q ih =>
    intro j h l hj l0 I A hl hg hs e
    refine qKe _ _ _ _ _ _ _ _ _ _ ?_
    unfold qHx
    have hx : who[j]? = some who[j] := List.getElem?_eq_getElem (by omega)
    have hi := hr who[j] (List.getElem_mem _)
    rw [List.drop_eq_getElem_cons (by omega : j < who.length)] at e
    generalize who[j] = i at *
    have hg2 : l[i.toNat]? = some (l.getD i.toNat 0) := by
      rw [List.getD_eq_getElem?_getD, List.getElem?_eq_getElem (by omega)]; rfl
    have c1 : h.cell B i.toNat = some (.int .i64 (l.getD i.toNat 0)) := A.cell (by
      rw [List.getElem?_append_left (by rw [qw]; omega), qGa, List.getElem?_map, hg2]; rfl)
    have hb : 0 ≤ l.getD i.toNat 0 ∧ l.getD i.toNat 0 ≤ qP l := ⟨hg _ (List.mem_of_getElem? hg2), (qMO hg).2 _ (List.mem_of_getElem? hg2)⟩
    have w1 : IntKind.wrap .i64 ((j : Int) + 1) = ((j + 1 : Nat) : Int) := wp1 (by omega)
    rw [w1]
    refine Br.yes (by simp; omega) (ix (I.le (qPb h B)) hm rfl hx ⟨by omega, by omega, qB rfl ⟨_, by rw [Nat.zero_add]; exact c1, by omega, by omega, qB rfl ⟨A.canSt (by rw [List.length_append, qw]; simp; omega), ?_⟩⟩⟩)
    rw [Nat.zero_add, qK (n := l.getD i.toNat 0 + 1) (by omega) (by omega)]
    have A2 := A.set (o := i.toNat) (ws := [.int .i64 (l.getD i.toNat 0 + 1)])
    rw [qSm (by omega)] at A2
    refine ih (j + 1) _ (qLv l i) (by omega) (qAf l0 hB0) (by rw [qXo]; exact I) A2 (by rw [qQ2]; exact hl) (qVj i hg) ?_ (by rw [qR3, List.foldl_cons] at e; exact e)
    rw [qVG hi.1 (by omega)]
    omega
structure ShI (h0 h : Heap) (b : Nat) (p1 p2 p3 : Option Addr) (c1 c2 c3 : Nat) (l1 l2 l3 : List Int) : Prop where
  le : h0.le h
  fb : h0 b = none
  ab : At h b [slice p2 l2.length c2]
  o1 : OwnL h0 h [.int .i64 0] p1 c1 (qf .i64 l1)
  o2 : OwnL h0 h [.int .i64 0] p2 c2 (qf .i64 l2)
  o3 : OwnL h0 h [.int .i64 0] p3 c3 (qf .i64 l3)
  d12 : Dj p1 p2
  d13 : Dj p1 p3
  d23 : Dj p2 p3
  n1 : p1 ≠ some ⟨b, 0, none⟩
  n2 : p2 ≠ some ⟨b, 0, none⟩
  n3 : p3 ≠ some ⟨b, 0, none⟩
theorem qUV {h0 h : Heap} {p : Option Addr} {c : Nat} {l : List Int} (x : OwnL h0 h [.int .i64 0] p c (qf .i64 l)) (hl : l ≠ []) : ∃ B sp, p = some ⟨B, 0, none⟩ ∧ h0 B = none ∧ At h B (qf .i64 l ++ sp) ∧ c = l.length + sp.length := by
  rcases x with ⟨e, _, _⟩ | ⟨r, sp, e, e0, a, k⟩
  · have := congrArg List.length e; rw [qw] at this; exact absurd (List.length_eq_zero_iff.1 (by simpa using this)) hl
  · refine ⟨r, sp, e, e0, a, ?_⟩
    rw [List.length_append, qw] at k; simpa using k
theorem qVu {q : Option Addr} {ws : List Int} {n c : Nat} {t s : Int} (I : Ints .i64 h0 q ws) (hn : ws.length = n) (hn2 : n ≤ 64) (hI : qHN ws) (ht : I64 t) (h0t : 0 ≤ t) (hw : geL ws) (hs : s = qP ws) (hs0 : 0 < s) (hsI : I64 s) (hne : ws ≠ [])
    (k : ∀ B sp h' c', h0.le h' → h0 B = none → At h' B (qf .i64 (qIe t ws) ++ sp) → c' = n + sp.length → K (tuple #[slice (some ⟨B, 0, none⟩) n c', .int .i64 0]) h') :
    ∀ (m j : Nat) (h : Heap) (b : Nat) (p1 p2 p3 : Option Addr) (c1 c2 c3 : Nat), m + j = n → ShI h0 h b p1 p2 p3 c1 c2 c3 (qA1 t s (ws.take j)) (qFn t s (ws.take j)) (qGo j) →
    qFg t s b p1 j c1 p3 j c3 (t - qP (qA1 t s (ws.take j))) q n c (n : Int) (j : Int) h K := by
  intro m
  induction m with
  | zero =>
    intro j h b p1 p2 p3 c1 c2 c3 hj S
    refine qKg _ _ _ _ _ _ _ _ _ _ _ _ _ _ _ _ _ ?_
    unfold qH1
    have hjn : j = n := by omega
    subst hjn
    rw [List.take_of_length_le (by omega)] at S ⊢
    refine Br.no (by simp) ⟨_, _, _, S.ab.cell rfl, ?_⟩
    obtain ⟨B3, sp3, rfl, f3, A3, hc3⟩ := qUV S.o3 (by intro e; apply hne; have := congrArg List.length e; rw [qGH] at this; exact List.length_eq_zero_iff.1 (by rw [hn]; exact this))
    obtain ⟨B1, sp1, rfl, f1, A1, hc1⟩ := qUV S.o1 (by intro e; apply hne; have := congrArg List.length e; rw [qKE] at this; exact List.length_eq_zero_iff.1 this)
    have h13 : B1 ≠ B3 := fun e => S.d13 B1 rfl (by rw [e])
    rw [qJ7, hn]
    have D : Da (h.del B3) B3 j j sp3 h (qGo j).toArray := ⟨qPb h B3, A3, by simp [qGH], fun x hx => qSI.1 (by simpa using hx)⟩
    have I2 : Ints .i64 (h.del B3) p2 (qFn t s ws) := by
      refine qU4 S.o2.rd fun o e => ?_
      rcases S.o2 with ⟨_, e2, _⟩ | ⟨r, sp, e2, _, _, _⟩
      · rw [e2] at e; cases e
      · rw [e2] at e
        injection e with e
        injection e with e3 e4
        exact S.d23 r e2 (by rw [e3])
    have := qTU (c := c3) (lc := c2) (g0 := h.del B3) (qMy h B3) (by rw [qJ7, hn]) I2 (by omega) D (K := fun v h' => v = tuple #[] ∧ ((0 : Int) ≤ t - qP (qA1 t s ws) ∧ t - qP (qA1 t s ws) ≤ (c3 : Int) ∧ qFb (some ⟨B1, 0, none⟩) j c1 (some ⟨B3, 0, none⟩) (Int.toNat (t - qP (qA1 t s ws))) c3 (((Int.toNat (t - qP (qA1 t s ws)) : Nat) : Int)) 0 h' K)) fun h' d' D' P' s' => ⟨rfl, ?_⟩
    · exact this
    have hm := qNE (t := t) (ws := ws) (by omega) hne
    rw [← hs] at hm
    rw [qGH] at hc3
    refine ⟨hm.1, by omega, ?_⟩
    have hord := qTD P' s'
    have hlen : d'.toList.length = j := by rw [hord, qWM]
    have l0' : h0.le h' := fun x y hx => D'.le x y (qUa S.le f3 x y hx)
    have W : Ints .i64 (h'.del B1) (some ⟨B3, 0, none⟩) (d'.toList.take (Int.toNat (t - qP (qA1 t s ws)))) := by
      have a := D'.at_.del (m := B1) (Ne.symm h13)
      have r := a.toRd
      have e : qf .i64 d'.toList = qf .i64 (d'.toList.take (Int.toNat (t - qP (qA1 t s ws)))) ++ qf .i64 (d'.toList.drop (Int.toNat (t - qP (qA1 t s ws)))) := by rw [← qDY, List.take_append_drop]
      rw [e] at r
      exact qMe r
    have A1' : At h' B1 (qf .i64 (qA1 t s ws) ++ sp1) := (A1.del h13).le D'.le
    refine qVZ (t := t) f1 (who := d'.toList.take (Int.toNat (t - qP (qA1 t s ws)))) (by rw [List.length_take, hlen]; omega) (by omega) hn2 (fun i hi => ?_) (by unfold I64 at ht; omega) (res := qIe t ws) (fun h2 l2 A2 => ?_) _ 0 h' _ (Nat.add_zero _) l0' W A1' (by rw [qKE, hn]) (qQC h0t hs0 hw) (by omega) ?_
    · have := List.mem_of_mem_take hi
      rw [hord, (qQd _ _).mem_iff, qSI] at this
      exact this
    · rw [qKE, hn] at hc1
      exact k B1 sp1 h2 c1 l2 f1 A2 hc1
    · rw [List.drop_zero, hord, qIe, ← hs, hn]
  | succ m ih =>
    intro j h b p1 p2 p3 c1 c2 c3 hj S
    refine qKg _ _ _ _ _ _ _ _ _ _ _ _ _ _ _ _ _ ?_
    unfold qH1
    have hx : ws[j]? = some ws[j] := List.getElem?_eq_getElem (by omega)
    have hmem : ws[j] ∈ ws := List.getElem_mem _
    have e1 : ws.take (j + 1) = ws.take j ++ [ws[j]] := by rw [List.take_add_one, hx]; rfl
    have hwj := hw _ hmem
    have hws := (qMO hw).2 _ hmem
    have hIj := hI _ hmem
    have fin := qNE (t := t) (ws := ws) (by omega) hne
    rw [← hs] at fin
    have hdr : 0 ≤ qP (qA1 t s (ws.drop (j + 1))) := (qMO (qQC h0t hs0 fun x hx => hw x (List.mem_of_mem_drop hx))).1
    have htk : 0 ≤ qP (qA1 t s (ws.take j)) := (qMO (qQC h0t hs0 fun x hx => hw x (List.mem_of_mem_take hx))).1
    have hall : qP (qA1 t s ws) = qP (qA1 t s (ws.take (j + 1))) + qP (qA1 t s (ws.drop (j + 1))) := by
      rw [← qH6]; unfold qA1; rw [← List.map_append, List.take_append_drop]
    have eb : qA1 t s (ws.take (j + 1)) = qA1 t s (ws.take j) ++ [t * ws[j] / s] := by rw [e1]; unfold qA1; rw [List.map_append]; rfl
    have er : qFn t s (ws.take (j + 1)) = qFn t s (ws.take j) ++ [t * ws[j] % s] := by rw [e1]; unfold qFn; rw [List.map_append]; rfl
    have l1 : (qA1 t s (ws.take j)).length = j := by rw [qKE, List.length_take]; omega
    have l2 : (qFn t s (ws.take j)).length = j := by rw [qJ7, List.length_take]; omega
    rw [eb, qH6] at hall
    have nx := fun h b p1 p2 p3 c1 c2 c3 => ih (j + 1) h b p1 p2 p3 c1 c2 c3 (by omega)
    rw [eb, er, qVR, qH6] at nx
    generalize ws[j] = w at *
    have hq0 : 0 ≤ t * w / s := Int.ediv_nonneg (Int.mul_nonneg h0t hwj) (by omega)
    have hqt : t * w / s ≤ t := Int.ediv_le_of_le_mul hs0 (Int.mul_le_mul_of_nonneg_left (by omega) h0t)
    have hr0 := Int.emod_nonneg (t * w) (show s ≠ 0 by omega)
    have hr1 := Int.emod_lt_of_pos (t * w) hs0
    have hdm : t * w - t * w / s * s = t * w % s := by have h1 := Int.mul_ediv_add_emod (t * w) s; have h2 := Int.mul_comm s (t * w / s); omega
    unfold I64 at ht hsI
    refine Br.yes (by simp; omega) (ix (I.le S.le) hn rfl hx (qVr ht hIj hsI false h _ ⟨_, _, rfl, ?_⟩))
    have emd : md t w s false = (t * w / s, 0) := by
      unfold md
      rw [if_neg (by omega)]
      exact qIG (show I64 (t * w / s) by unfold I64; omega)
    rw [emd]
    dsimp only
    generalize qA1 t s (ws.take j) = BL at *
    generalize qFn t s (ws.take j) = RL at *
    refine qTJ (v := t * w / s) S.o1 S.le l1 (by omega) fun p1' c1' h1 m1 w1 keep1 A1 => ⟨p2, RL.length, c2, (A1 b _ S.ab S.n1).1.cell rfl, ?_⟩
    obtain ⟨o2, d2⟩ := keep1 p2 c2 _ S.o2 S.d12
    obtain ⟨o3, d3⟩ := keep1 p3 c3 _ S.o3 S.d13
    obtain ⟨a1, n1⟩ := A1 b _ S.ab S.n1
    refine qYo (by omega) (by omega) ⟨_, rfl, .inl (Heap.le_refl _), ?_⟩
    rw [hdm]
    refine qTJ (v := t * w % s) o2 m1 rfl (by omega) fun p2' c2' h2 m2 w2 keep2 A2 => ?_
    obtain ⟨o1', d1'⟩ := keep2 p1' c1' _ w1 d2.symm
    obtain ⟨o3', d3'⟩ := keep2 p3 c3 _ o3 S.d23
    obtain ⟨a2, n2⟩ := A2 b _ a1 S.n2
    refine ⟨a2.canSt (Nat.le_refl _), ?_⟩
    have a3 : At (h2.setN b 0 [slice p2' (RL.length + 1) c2']) b [slice p2' (RL.length + 1) c2'] := a2.set (o := 0)
    have m3 : h0.le (h2.setN b 0 [slice p2' (RL.length + 1) c2']) := qAf m2 S.fb
    refine qTJ (v := (j : Int)) (o3'.set_ne S.n3) m3 (by rw [qGH]) (by omega) fun p3' c3' h3 m4 w3 keep3 A3 => ?_
    obtain ⟨o1'', d1''⟩ := keep3 p1' c1' _ (o1'.set_ne n1) d3.symm
    obtain ⟨o2'', d2''⟩ := keep3 p2' c2' _ (w2.set_ne n2) d3'.symm
    obtain ⟨a4, n4⟩ := A3 b _ a3 S.n3
    rw [wp1 (by omega), qK (n := t - qP BL - t * w / s) (by simp [qP] at hall; omega) (by omega)]
    have e5 : t - (qP BL + qP [t * w / s]) = t - qP BL - t * w / s := by simp [qP]; omega
    rw [e5] at nx
    exact nx h3 b p1' p2' p3' c1' c2' c3' ⟨m4, S.fb, by rw [List.length_append]; exact a4, o1'', o2'', w3, d1'.symm, d1''.symm, d2''.symm, n1, n2, n4⟩
theorem qWQ {h : Heap} {q : Option Addr} {ws : List Int} {n c : Nat} {t : Int} (I : Ints .i64 h q ws) (hn : ws.length = n) (hn2 : n ≤ 1000000) (hI : qHN ws) (ht : I64 t)
    (k : ∀ p' c' h', h.le h' → Ints .i64 h' p' (qJV t ws).1 → K (tuple #[slice p' (qJV t ws).1.length c', .int .i64 (qJV t ws).2]) h') :
    CallA Tryz.prog qI3 [.int .i64 t, slice q n c] h K := by
  refine qQR _ _ _ _ _ _ ?_
  unfold qLq
  unfold qJV at k
  refine Br.dec (fun g1 => ?_) fun g1 => ?_
  · rw [if_pos (by omega)] at k; exact Ret.mk (k none 0 h h.le_refl (.inl rfl))
  rw [if_neg (by omega)] at k
  refine Br.dec (fun g2 => ?_) fun g2 => ?_
  · rw [if_pos (by omega)] at k; exact Ret.mk (k none 0 h h.le_refl (.inl rfl))
  rw [if_neg (by omega)] at k
  refine qUk I hn hn2 ⟨_, rfl, Br.intro (fun g3 => ?_) fun g3 => ?_⟩
  · rw [if_pos g3] at k; exact Ret.mk (k none 0 h h.le_refl (.inl rfl))
  rw [if_neg (by rw [g3]; decide)] at k
  refine qVL I hn hn2 ⟨_, rfl, Br.intro (fun g4 => ?_) fun g4 => ?_⟩
  · rw [if_pos (by simpa using g4)] at k; exact Ret.mk (k none 0 h h.le_refl (.inl rfl))
  rw [if_neg (by simp at g4; rw [g4]; decide)] at k
  have g4 : qLT ws = true := by simpa using g4
  have := qWx (l := ws) (by omega) hI (c := c) h I (K := fun v h => ∃ (n_1 : Int), ∃ (n_2 : Int), v = tuple #[.int .i64 n_1, .int .i64 n_2] ∧ Br (n_2 != 0) (Ret h K (tuple #[slice none 0 0, .int .i64 n_2]))
    (qO h [slice none 0 0] 132 fun (r : Nat) (h : Heap) => qFg t n_1 r none 0 0 none 0 0 t q n c (n : Int) 0 h K)) ⟨_, _, rfl, Br.intro (fun g5 => ?_) fun g5 => ?_⟩
  · rw [hn] at this; exact this
  · rw [if_pos (by simpa using g5)] at k
    exact Ret.mk (k none 0 h h.le_refl (.inl rfl))
  have hfit : I64 (qP ws) := Classical.byContradiction fun g => by rw [qGI g] at g5; cases g5
  rw [if_neg (by rw [qIG hfit]; simp)] at k
  rw [qIG hfit]
  have hp := qYV g3 g4
  dsimp only at k ⊢
  refine qr fun r h1 hr l1 A => ?_
  have ss := qVu (K := K) (s := qP ws) (c := c) I hn (by omega) hI ht (by omega) (qVN g3) rfl hp.1 hfit hp.2 (fun B sp h' c' l' f' A' hc' => ?_) n 0 h1 r none none none 0 0 0 (by omega) ⟨l1, hr, A, OwnL.nil _ _ _, OwnL.nil _ _ _, OwnL.nil _ _ _, Dj.none _, Dj.none _, Dj.none _, by simp, by simp, by simp⟩
  · simpa [qA1, qP] using ss
  · rw [qOt, hn] at k
    exact k (some ⟨B, 0, none⟩) c' h' l' A'.toRd
end
end Go.Proofs.YtjihfieahkbohaaGreat
