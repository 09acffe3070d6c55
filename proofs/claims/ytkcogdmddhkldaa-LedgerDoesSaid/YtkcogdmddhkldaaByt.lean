/- Bytes: a number by eight bytes, and back; texts and their bytes; and a Builder, that is told bytes and then the text. -/
import Derived.Test.YtkcogdmddhkldaaMoneySum
import Derived.Test.YtkcogdmddhkldaaEqBld
namespace Go.Proofs.Ytkcogdmddhkldaa
open Go Go.Sy Go.Value
set_option linter.unusedVariables false
set_option linter.unusedSimpArgs false

def byteAt (n : Int) (i : Nat) : Int := n / 2 ^ (8 * i) % 256
def beF (n : Int) : Nat → List Int
  | 0 => []
  | j + 1 => byteAt n j :: beF n j
def be8 (n : Int) : List Int := beF n 8
theorem byteAt_r (n : Int) (i : Nat) : 0 ≤ byteAt n i ∧ byteAt n i < 256 := by unfold byteAt; omega
theorem beF_length (n : Int) : ∀ j, (beF n j).length = j
  | 0 => rfl
  | j + 1 => by rw [beF, List.length_cons, beF_length n j]
theorem be8_length (n : Int) : (be8 n).length = 8 := beF_length n 8
def bytes (l : List Int) : Prop := ∀ b ∈ l, 0 ≤ b ∧ b < 256
theorem bytes_nil : bytes [] := fun _ h => by cases h
theorem bytes_app {a b : List Int} (x : bytes a) (y : bytes b) : bytes (a ++ b) := fun n h => (List.mem_append.1 h).elim (x n) (y n)
theorem beF_r (n : Int) : ∀ j, bytes (beF n j)
  | 0 => bytes_nil
  | j + 1 => fun b h => by
    rcases List.mem_cons.1 h with rfl | h
    · exact byteAt_r n j
    · exact beF_r n j b h
theorem be8_r (n : Int) : bytes (be8 n) := beF_r n 8
theorem shift_byte (n : Int) (j : Nat) (hj : j ≤ 7) : IntKind.wrap IntKind.u8 (Int.fdiv n (2 ^ min (Int.toNat (IntKind.wrap IntKind.i64 (8 * (j : Int)))) 64)) = byteAt n j := by
  rw [wrap_i64_id (by omega) (by omega), wrap_u8, show min (Int.toNat (8 * (j : Int))) 64 = 8 * j by omega, fdiv_pos _ (Int.le_of_lt (Int.pow_pos (by decide)))]
  rfl
theorem wrap_cong {x y k : Int} (h : x = y + k * 18446744073709551616) : IntKind.wrap IntKind.i64 x = IntKind.wrap IntKind.i64 y := by
  rw [wrap_i64, wrap_i64]; omega
theorem wrap_u64c (x : Int) : ∃ k, IntKind.wrap IntKind.i64 x = x + k * 18446744073709551616 := ⟨-((x + 9223372036854775808) / 18446744073709551616), by rw [wrap_i64]; omega⟩
theorem dec_step {a b : Int} (hb : 0 ≤ b ∧ b < 256) :
    IntKind.wrap IntKind.i64 ((BitVec.toNat (BitVec.ofInt 64 (IntKind.wrap IntKind.i64 (a * 256)) ||| BitVec.ofInt 64 (IntKind.wrap IntKind.i64 b)) : Nat) : Int) = IntKind.wrap IntKind.i64 (a * 256 + b) := by
  obtain ⟨k, hk⟩ := wrap_u64c (a * 256)
  rw [hk, wrap_i64_id (n := b) (by omega) (by omega), BitVec.toNat_or, BitVec.toNat_ofInt, BitVec.toNat_ofInt]
  have e2 : (b % (2 ^ 64 : Nat)).toNat = b.toNat := by
    rw [Int.emod_eq_of_lt hb.1 (by have : ((2 ^ 64 : Nat) : Int) = 18446744073709551616 := by decide
                                   omega)]
  obtain ⟨y, hy⟩ : ∃ y : Nat, ((a * 256 + k * 18446744073709551616) % (2 ^ 64 : Nat)).toNat = 2 ^ 8 * y ∧ (2 ^ 8 * y : Int) = (a * 256) % 18446744073709551616 := by
    have e : ((2 ^ 64 : Nat) : Int) = 18446744073709551616 := by decide
    rw [e]
    refine ⟨((a * 256) % 18446744073709551616 / 256).toNat, ?_, ?_⟩
    · have : (a * 256 + k * 18446744073709551616) % 18446744073709551616 = (a * 256) % 18446744073709551616 := by omega
      rw [this]; omega
    · omega
  rw [e2, hy.1]
  have hlt : b.toNat < 2 ^ 8 := by omega
  rw [← Nat.two_pow_add_eq_or_of_lt hlt]
  have h2 := hy.2
  refine wrap_cong (k := -((a * 256) / 18446744073709551616)) ?_
  have : ((2 ^ 8 * y + b.toNat : Nat) : Int) = (2 ^ 8 * y : Int) + b := by
    rw [Int.natCast_add]
    have : ((2 ^ 8 * y : Nat) : Int) = (2 ^ 8 * y : Int) := by simp
    omega
  rw [this, h2]; omega
/-- bytes, added up -/
def decL : Int → List Int → Int
  | a, [] => a
  | a, b :: l => decL (IntKind.wrap IntKind.i64 (a * 256 + b)) l
theorem emod_mul256 (n p : Int) (hp : 0 < p) : n % (p * 256) = n % p + p * (n / p % 256) := by
  have h1 := Int.mul_ediv_add_emod n p
  have h2 := Int.mul_ediv_add_emod (n / p) 256
  have h3 := Int.emod_nonneg n (Int.ne_of_gt hp)
  have h4 := Int.emod_lt_of_pos n hp
  have h5 : 0 ≤ n / p % 256 ∧ n / p % 256 < 256 := by omega
  have e : n = (n % p + p * (n / p % 256)) + (p * 256) * (n / p / 256) := by
    have : p * (256 * (n / p / 256) + n / p % 256) + n % p = n := by rw [h2, h1]
    rw [Int.mul_add, ← Int.mul_assoc] at this
    omega
  have h6 : 0 ≤ p * (n / p % 256) := Int.mul_nonneg (by omega) h5.1
  have h7 : p * (n / p % 256) ≤ p * 255 := Int.mul_le_mul_of_nonneg_left (by omega) (by omega)
  have key : (n % p + p * (n / p % 256)) % (p * 256) = n % p + p * (n / p % 256) := Int.emod_eq_of_lt (by omega) (by omega)
  have e2 : n % (p * 256) = ((n % p + p * (n / p % 256)) + (p * 256) * (n / p / 256)) % (p * 256) := by rw [← e]
  rw [e2, Int.add_mul_emod_self_left, key]
theorem dec_beF (n : Int) : ∀ (j : Nat) (a : Int), decL (IntKind.wrap IntKind.i64 a) (beF n j) = IntKind.wrap IntKind.i64 (a * 256 ^ j + n % 256 ^ j)
  | 0, a => by
    show IntKind.wrap IntKind.i64 a = IntKind.wrap IntKind.i64 (a * 1 + n % 1)
    rw [Int.mul_one, Int.emod_one, Int.add_zero]
  | j + 1, a => by
    rw [beF, decL]
    have e1 : IntKind.wrap IntKind.i64 (IntKind.wrap IntKind.i64 a * 256 + byteAt n j) = IntKind.wrap IntKind.i64 (a * 256 + byteAt n j) := by
      obtain ⟨k, hk⟩ := wrap_u64c a
      rw [hk]
      exact wrap_cong (k := k * 256) (by rw [Int.add_mul]; omega)
    rw [e1, dec_beF n j]
    have hp : (0 : Int) < 256 ^ j := Int.pow_pos (by decide)
    have e2 : byteAt n j = n / 256 ^ j % 256 := by
      unfold byteAt
      rw [show (2 : Int) ^ (8 * j) = 256 ^ j from by rw [Int.pow_mul]; rfl]
    rw [Int.pow_succ, emod_mul256 n _ hp, ← e2, Int.add_mul]
    congr 1
    rw [Int.mul_comm (256 ^ j) (byteAt n j), Int.mul_comm (256 ^ j) 256, ← Int.mul_assoc]
    omega
theorem dec_be8 {n : Int} (h : I64 n) : decL 0 (be8 n) = n := by
  have := dec_beF n 8 0
  rw [show IntKind.wrap IntKind.i64 0 = 0 from rfl] at this
  unfold be8
  rw [this, Int.zero_mul, Int.zero_add, show (256 : Int) ^ 8 = 18446744073709551616 from rfl]
  obtain ⟨h1, h2⟩ := h
  rw [wrap_i64]; omega
/-! texts and their bytes -/
theorem strOf_data : ∀ (l : List Int) (s : ByteArray), (l.foldl (fun s n => s.push (UInt8.ofNat n.toNat)) s).data.toList = s.data.toList ++ l.map fun n => UInt8.ofNat n.toNat
  | [], s => by simp
  | n :: l, s => by
    rw [List.foldl_cons, strOf_data l]
    simp
theorem bytesI_strOf {l : List Int} (h : bytes l) : bytesI (strOf l) = l := by
  unfold bytesI strOf
  rw [strOf_data]
  simp only [List.map_append, List.map_map]
  show [] ++ _ = l
  rw [List.nil_append]
  have : ∀ n ∈ l, ((fun b : UInt8 => (b.toNat : Int)) ∘ fun n : Int => UInt8.ofNat n.toNat) n = n := fun n hn => by
    obtain ⟨h1, h2⟩ := h n hn
    show ((UInt8.ofNat n.toNat).toNat : Int) = n
    rw [UInt8.toNat_ofNat', Nat.mod_eq_of_lt (by omega)]; omega
  rw [List.map_congr_left this, List.map_id'']
  exact fun _ => rfl
theorem bytesI_length (s : ByteArray) : (bytesI s).length = s.size := by unfold bytesI; rw [List.length_map]; rfl
theorem bytesI_r (s : ByteArray) : bytes (bytesI s) := fun b hb => by
  unfold bytesI at hb
  obtain ⟨c, _, rfl⟩ := List.mem_map.1 hb
  have := c.toNat_lt
  omega
theorem strOf_size {l : List Int} (h : bytes l) : (strOf l).size = l.length := by rw [← bytesI_length, bytesI_strOf h]
theorem bytesI_get (s : ByteArray) (i : Nat) (c : UInt8) (h : s[i]? = some c) : (bytesI s)[i]? = some (c.toNat : Int) := by
  unfold bytesI
  rw [List.getElem?_map]
  have : s.data.toList[i]? = some c := by
    rw [Array.getElem?_toList]
    have h2 : i < s.size := by
      rcases Nat.lt_or_ge i s.size with h3 | h3
      · exact h3
      · rw [getElem?_neg s i (by omega)] at h; cases h
    rw [getElem?_pos s i h2] at h
    have h3 : i < s.data.size := h2
    rw [Array.getElem?_eq_getElem h3]
    exact h
  rw [this]; rfl
theorem str_get (s : ByteArray) {i : Nat} (h : i < s.size) : ∃ c : UInt8, s[i]? = some c ∧ (bytesI s)[i]? = some (c.toNat : Int) := ⟨s[i], getElem?_pos s i h, bytesI_get s i _ (getElem?_pos s i h)⟩
theorem bytesI_extract (s : ByteArray) (a b : Nat) : bytesI (s.extract a b) = ((bytesI s).take b).drop a := by
  unfold bytesI
  rw [ByteArray.data_extract, Array.toList_extract, List.extract_eq_take_drop, ← List.map_take, ← List.map_drop, List.take_drop]
  by_cases h : a ≤ b
  · rw [show a + (b - a) = b by omega]
  · rw [show a + (b - a) = a by omega]
    rw [List.drop_eq_nil_of_le (by rw [List.length_take]; omega), List.drop_eq_nil_of_le (by rw [List.length_take]; omega)]
theorem strOf_bytesI (s : ByteArray) : strOf (bytesI s) = s := by
  have e : (strOf (bytesI s)).data.toList = s.data.toList := by
    unfold strOf
    rw [strOf_data]
    unfold bytesI
    show [] ++ _ = _
    rw [List.nil_append, List.map_map]
    have : ∀ b ∈ s.data.toList, ((fun n : Int => UInt8.ofNat n.toNat) ∘ fun b : UInt8 => (b.toNat : Int)) b = b := fun b _ => by
      show UInt8.ofNat ((b.toNat : Int)).toNat = b
      rw [Int.toNat_natCast, UInt8.ofNat_toNat]
    rw [List.map_congr_left this, List.map_id'']
    exact fun _ => rfl
  have e2 : (strOf (bytesI s)).data = s.data := Array.toList_inj.1 e
  cases h : strOf (bytesI s) with
  | mk d =>
    rw [h] at e2
    cases s with
    | mk d2 => dsimp only at e2; rw [e2]
theorem bytesI_append (a b : ByteArray) : bytesI (a ++ b) = bytesI a ++ bytesI b := by
  unfold bytesI
  rw [ByteArray.data_append, Array.toList_append, List.map_append]
theorem byte_mod (n : Int) (i : Nat) (hi : i < 8) : byteAt (n % 18446744073709551616) i = byteAt n i := by
  unfold byteAt
  match i, hi with
  | 0, _ => rw [show (2 : Int) ^ (8 * 0) = 1 from rfl]; omega
  | 1, _ => rw [show (2 : Int) ^ (8 * 1) = 256 from rfl]; omega
  | 2, _ => rw [show (2 : Int) ^ (8 * 2) = 65536 from rfl]; omega
  | 3, _ => rw [show (2 : Int) ^ (8 * 3) = 16777216 from rfl]; omega
  | 4, _ => rw [show (2 : Int) ^ (8 * 4) = 4294967296 from rfl]; omega
  | 5, _ => rw [show (2 : Int) ^ (8 * 5) = 1099511627776 from rfl]; omega
  | 6, _ => rw [show (2 : Int) ^ (8 * 6) = 281474976710656 from rfl]; omega
  | 7, _ => rw [show (2 : Int) ^ (8 * 7) = 72057594037927936 from rfl]; omega
theorem div_next (u : Int) (i : Nat) : u / 2 ^ (8 * i) / 256 = u / 2 ^ (8 * (i + 1)) := by
  rw [Int.ediv_ediv_of_nonneg (Int.le_of_lt (Int.pow_pos (by decide))), show (2 : Int) ^ (8 * (i + 1)) = 2 ^ (8 * i) * 256 from by rw [show 8 * (i + 1) = 8 * i + 8 by omega, Int.pow_add]; rfl]
end Go.Proofs.Ytkcogdmddhkldaa
