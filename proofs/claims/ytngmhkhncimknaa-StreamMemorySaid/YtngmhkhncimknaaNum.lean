/- Plain lemmas, without a condition: the model's operations on unsigned whole numbers, said of UInt8, UInt16, UInt32, UInt64 behind names that the walk does not open. -/
import Derived.WalkKit
namespace Go.Proofs.Ytngmhkhncimknaa
open Go
set_option linter.unusedVariables false
set_option linter.unusedSimpArgs false

/-- unsigned numbers as the model's integers, behind names -/
def n8 (x : UInt8) : Int := (x.toNat : Int)
def n16 (x : UInt16) : Int := (x.toNat : Int)
def n32 (x : UInt32) : Int := (x.toNat : Int)
def n64 (x : UInt64) : Int := (x.toNat : Int)

theorem n8_nonneg (x : UInt8) : 0 ≤ n8 x := Int.natCast_nonneg _
theorem n16_nonneg (x : UInt16) : 0 ≤ n16 x := Int.natCast_nonneg _
theorem n32_nonneg (x : UInt32) : 0 ≤ n32 x := Int.natCast_nonneg _
theorem n64_nonneg (x : UInt64) : 0 ≤ n64 x := Int.natCast_nonneg _
theorem n8_lt (x : UInt8) : n8 x < 256 := by have := x.toNat_lt; unfold n8; omega
theorem n16_lt (x : UInt16) : n16 x < 65536 := by have := x.toNat_lt; unfold n16; omega
theorem n32_lt (x : UInt32) : n32 x < 4294967296 := by have := x.toNat_lt; unfold n32; omega
theorem n64_lt (x : UInt64) : n64 x < 18446744073709551616 := by have := x.toNat_lt; unfold n64; omega
theorem n8_inj {a b : UInt8} (h : n8 a = n8 b) : a = b := UInt8.toNat_inj.1 (Int.ofNat_inj.1 h)
theorem n16_inj {a b : UInt16} (h : n16 a = n16 b) : a = b := UInt16.toNat_inj.1 (Int.ofNat_inj.1 h)
theorem n32_inj {a b : UInt32} (h : n32 a = n32 b) : a = b := UInt32.toNat_inj.1 (Int.ofNat_inj.1 h)
theorem n64_inj {a b : UInt64} (h : n64 a = n64 b) : a = b := UInt64.toNat_inj.1 (Int.ofNat_inj.1 h)

/-- a wf number is one of these -/
theorem n8_of {x : Int} (h0 : 0 ≤ x) (h1 : x < 256) : ∃ u, x = n8 u := ⟨UInt8.ofNat x.toNat, by unfold n8; simp; omega⟩
theorem n16_of {x : Int} (h0 : 0 ≤ x) (h1 : x < 65536) : ∃ u, x = n16 u := ⟨UInt16.ofNat x.toNat, by unfold n16; simp; omega⟩
theorem n32_of {x : Int} (h0 : 0 ≤ x) (h1 : x < 4294967296) : ∃ u, x = n32 u := ⟨UInt32.ofNat x.toNat, by unfold n32; simp; omega⟩
theorem n64_of {x : Int} (h0 : 0 ≤ x) (h1 : x < 18446744073709551616) : ∃ u, x = n64 u := ⟨UInt64.ofNat x.toNat, by unfold n64; simp; omega⟩

theorem beq_n8 (a b : UInt8) : (n8 a == n8 b) = (a == b) := by
  rw [Bool.eq_iff_iff, beq_iff_eq, beq_iff_eq]; exact ⟨n8_inj, fun h => by rw [h]⟩
theorem beq_n16 (a b : UInt16) : (n16 a == n16 b) = (a == b) := by
  rw [Bool.eq_iff_iff, beq_iff_eq, beq_iff_eq]; exact ⟨n16_inj, fun h => by rw [h]⟩
theorem beq_n32 (a b : UInt32) : (n32 a == n32 b) = (a == b) := by
  rw [Bool.eq_iff_iff, beq_iff_eq, beq_iff_eq]; exact ⟨n32_inj, fun h => by rw [h]⟩
theorem beq_n64 (a b : UInt64) : (n64 a == n64 b) = (a == b) := by
  rw [Bool.eq_iff_iff, beq_iff_eq, beq_iff_eq]; exact ⟨n64_inj, fun h => by rw [h]⟩

/-! bits -/
theorem xor8 (a b : UInt8) : bits .xor .u8 (n8 a) (n8 b) = n8 (a ^^^ b) := by
  unfold n8; rw [u8_xor_nat _ _ a.toNat_lt b.toNat_lt, UInt8.toNat_xor]
theorem and8 (a b : UInt8) : bits .and .u8 (n8 a) (n8 b) = n8 (a &&& b) := by
  unfold n8; rw [u8_and_nat _ _ a.toNat_lt b.toNat_lt, UInt8.toNat_and]
theorem or8 (a b : UInt8) : bits .or .u8 (n8 a) (n8 b) = n8 (a ||| b) := by
  unfold n8; rw [u8_or_nat _ _ a.toNat_lt b.toNat_lt, UInt8.toNat_or]
theorem xor32 (a b : UInt32) : bits .xor .u32 (n32 a) (n32 b) = n32 (a ^^^ b) := by
  unfold n32; rw [u32_xor_nat _ _ a.toNat_lt b.toNat_lt, UInt32.toNat_xor]
theorem and32 (a b : UInt32) : bits .and .u32 (n32 a) (n32 b) = n32 (a &&& b) := by
  unfold n32; rw [u32_and_nat _ _ a.toNat_lt b.toNat_lt, UInt32.toNat_and]
theorem or32 (a b : UInt32) : bits .or .u32 (n32 a) (n32 b) = n32 (a ||| b) := by
  unfold n32; rw [u32_or_nat _ _ a.toNat_lt b.toNat_lt, UInt32.toNat_or]
theorem and64 (a b : UInt64) : bits .and .u64 (n64 a) (n64 b) = n64 (a &&& b) := by
  unfold n64; rw [u64_and_nat _ _ a.toNat_lt b.toNat_lt, UInt64.toNat_and]
theorem or64 (a b : UInt64) : bits .or .u64 (n64 a) (n64 b) = n64 (a ||| b) := by
  unfold n64; rw [u64_or_nat _ _ a.toNat_lt b.toNat_lt, UInt64.toNat_or]
theorem xor64 (a b : UInt64) : bits .xor .u64 (n64 a) (n64 b) = n64 (a ^^^ b) := by
  unfold n64; rw [u64_xor_nat _ _ a.toNat_lt b.toNat_lt, UInt64.toNat_xor]
theorem not32 (a : UInt32) : bits .xor .u32 IntKind.u32.max (n32 a) = n32 (~~~ a) := by
  have h : IntKind.u32.max = n32 4294967295 := by decide
  rw [h, xor32]
  congr 1
theorem and32_15 (a : UInt32) : bits .and .u32 (n32 a) 15 = n32 (a &&& 15) := and32 a 15
theorem and32_1 (a : UInt32) : bits .and .u32 (n32 a) 1 = n32 (a &&& 1) := and32 a 1
theorem or8_128 (a : UInt8) : bits .or .u8 (n8 a) 128 = n8 (a ||| 128) := or8 a 128
theorem and8_127 (a : UInt8) : bits .and .u8 (n8 a) 127 = n8 (a &&& 127) := and8 a 127
theorem xor8_255 (a : UInt8) : bits .xor .u8 (n8 a) 255 = n8 (a ^^^ 255) := xor8 a 255

/-! shifts by a constant -/
theorem shr32 (a : UInt32) (k : UInt32) (m : Int) (hk : k.toNat < 32) (hm : m = 2 ^ k.toNat) : n32 a / m = n32 (a >>> k) := by
  unfold n32
  rw [UInt32.toNat_shiftRight, Nat.mod_eq_of_lt hk, Nat.shiftRight_eq_div_pow, hm]
  simp
theorem shr64 (a : UInt64) (k : UInt64) (m : Int) (hk : k.toNat < 64) (hm : m = 2 ^ k.toNat) : n64 a / m = n64 (a >>> k) := by
  unfold n64
  rw [UInt64.toNat_shiftRight, Nat.mod_eq_of_lt hk, Nat.shiftRight_eq_div_pow, hm]
  simp
theorem shr32_1 (a : UInt32) : n32 a / (2 : Int) = n32 (a >>> 1) := shr32 a 1 2 (by decide) (by decide)
theorem shr32_4 (a : UInt32) : n32 a / (16 : Int) = n32 (a >>> 4) := shr32 a 4 16 (by decide) (by decide)
theorem shr32_8 (a : UInt32) : n32 a / (256 : Int) = n32 (a >>> 8) := shr32 a 8 256 (by decide) (by decide)
theorem shr32_16 (a : UInt32) : n32 a / (65536 : Int) = n32 (a >>> 16) := shr32 a 16 65536 (by decide) (by decide)
theorem shr32_24 (a : UInt32) : n32 a / (16777216 : Int) = n32 (a >>> 24) := shr32 a 24 16777216 (by decide) (by decide)
theorem shr64_7 (a : UInt64) : n64 a / (128 : Int) = n64 (a >>> 7) := shr64 a 7 128 (by decide) (by decide)
theorem shr64_8 (a : UInt64) : n64 a / (256 : Int) = n64 (a >>> 8) := shr64 a 8 256 (by decide) (by decide)
theorem shl64_8 (a : UInt64) : n64 a * (256 : Int) % (18446744073709551616 : Int) = n64 (a <<< 8) := by
  unfold n64
  rw [UInt64.toNat_shiftLeft, Nat.shiftLeft_eq]
  have : (8 : UInt64).toNat % 64 = 8 := by decide
  rw [this]
  omega

/-! division, remainder, sums -/
theorem div64 (a b : UInt64) (m : Int) (hm : m = n64 b) : (n64 a).tdiv m = n64 (a / b) := by
  subst hm; unfold n64; rw [UInt64.toNat_div, Int.tdiv_eq_ediv_of_nonneg (Int.natCast_nonneg _)]; exact (Int.natCast_ediv _ _).symm
theorem mod64 (a b : UInt64) (m : Int) (hm : m = n64 b) : (n64 a).tmod m = n64 (a % b) := by
  subst hm; unfold n64; rw [UInt64.toNat_mod, Int.tmod_eq_emod_of_nonneg (Int.natCast_nonneg _)]; exact (Int.natCast_emod _ _).symm
theorem div32 (a b : UInt32) (m : Int) (hm : m = n32 b) : (n32 a).tdiv m = n32 (a / b) := by
  subst hm; unfold n32; rw [UInt32.toNat_div, Int.tdiv_eq_ediv_of_nonneg (Int.natCast_nonneg _)]; exact (Int.natCast_ediv _ _).symm
theorem mod32 (a b : UInt32) (m : Int) (hm : m = n32 b) : (n32 a).tmod m = n32 (a % b) := by
  subst hm; unfold n32; rw [UInt32.toNat_mod, Int.tmod_eq_emod_of_nonneg (Int.natCast_nonneg _)]; exact (Int.natCast_emod _ _).symm
theorem mod8 (a b : UInt8) (m : Int) (hm : m = n8 b) : (n8 a).tmod m = n8 (a % b) := by
  subst hm; unfold n8; rw [UInt8.toNat_mod, Int.tmod_eq_emod_of_nonneg (Int.natCast_nonneg _)]; exact (Int.natCast_emod _ _).symm
theorem div64_256 (a : UInt64) : (n64 a).tdiv 256 = n64 (a / 256) := div64 a 256 256 (by decide)
theorem mod64_256 (a : UInt64) : (n64 a).tmod 256 = n64 (a % 256) := mod64 a 256 256 (by decide)
theorem div64_128 (a : UInt64) : (n64 a).tdiv 128 = n64 (a / 128) := div64 a 128 128 (by decide)
theorem mod64_128 (a : UInt64) : (n64 a).tmod 128 = n64 (a % 128) := mod64 a 128 128 (by decide)
theorem div32_2 (a : UInt32) : (n32 a).tdiv 2 = n32 (a / 2) := div32 a 2 2 (by decide)
theorem mod32_2 (a : UInt32) : (n32 a).tmod 2 = n32 (a % 2) := mod32 a 2 2 (by decide)
theorem mod8_128 (a : UInt8) : (n8 a).tmod 128 = n8 (a % 128) := mod8 a 128 128 (by decide)
theorem add64 (a b : UInt64) : (n64 a + n64 b) % (18446744073709551616 : Int) = n64 (a + b) := by
  unfold n64; rw [UInt64.toNat_add]; omega
theorem mul64 (a b : UInt64) : (n64 a * n64 b) % (18446744073709551616 : Int) = n64 (a * b) := by
  unfold n64; rw [UInt64.toNat_mul]; omega
theorem mul64_256 (a : UInt64) : (n64 a * (256 : Int)) % (18446744073709551616 : Int) = n64 (a * 256) := mul64 a 256
theorem mul64_128 (a : UInt64) : (n64 a * (128 : Int)) % (18446744073709551616 : Int) = n64 (a * 128) := mul64 a 128

/-! conversions -/
theorem c8_16 (b : UInt8) : n8 b % (65536 : Int) = n16 b.toUInt16 := by have := b.toNat_lt; unfold n8 n16; simp; omega
theorem c8_32 (b : UInt8) : n8 b % (4294967296 : Int) = n32 b.toUInt32 := by have := b.toNat_lt; unfold n8 n32; simp; omega
theorem c8_64 (b : UInt8) : n8 b % (18446744073709551616 : Int) = n64 b.toUInt64 := by have := b.toNat_lt; unfold n8 n64; simp; omega
theorem c16_64 (b : UInt16) : n16 b % (18446744073709551616 : Int) = n64 b.toUInt64 := by have := b.toNat_lt; unfold n16 n64; simp; omega
theorem c32_64 (b : UInt32) : n32 b % (18446744073709551616 : Int) = n64 b.toUInt64 := by have := b.toNat_lt; unfold n32 n64; simp; omega
theorem c64_8 (x : UInt64) : n64 x % (256 : Int) = n8 x.toUInt8 := by unfold n64 n8; simp
theorem c64_16 (x : UInt64) : n64 x % (65536 : Int) = n16 x.toUInt16 := by unfold n64 n16; simp
theorem c64_32 (x : UInt64) : n64 x % (4294967296 : Int) = n32 x.toUInt32 := by unfold n64 n32; simp
theorem c32_8 (x : UInt32) : n32 x % (256 : Int) = n8 x.toUInt8 := by unfold n32 n8; simp

theorem beq_n32_1 (a : UInt32) : (n32 a == (1 : Int)) = (a == 1) := beq_n32 a 1
theorem beq_n32_0 (a : UInt32) : (n32 a == (0 : Int)) = (a == 0) := beq_n32 a 0
theorem beq_n64_0 (a : UInt64) : (n64 a == (0 : Int)) = (a == 0) := beq_n64 a 0
theorem bne_n8 (a b : UInt8) : (n8 a != n8 b) = (a != b) := by unfold bne; rw [beq_n8]
theorem bne_n16 (a b : UInt16) : (n16 a != n16 b) = (a != b) := by unfold bne; rw [beq_n16]
theorem bne_n32 (a b : UInt32) : (n32 a != n32 b) = (a != b) := by unfold bne; rw [beq_n32]
theorem bne_n64 (a b : UInt64) : (n64 a != n64 b) = (a != b) := by unfold bne; rw [beq_n64]
theorem bne_n32_0 (a : UInt32) : (n32 a != (0 : Int)) = (a != 0) := bne_n32 a 0
theorem bne_n64_0 (a : UInt64) : (n64 a != (0 : Int)) = (a != 0) := bne_n64 a 0
theorem xor32_poly (a : UInt32) : bits .xor .u32 (n32 a) 2197175160 = n32 (a ^^^ 0x82f63b78) := xor32 a 0x82f63b78
theorem n8_self (a : UInt8) : n8 a % (256 : Int) = n8 a := Int.emod_eq_of_lt (n8_nonneg a) (n8_lt a)
theorem n16_self (a : UInt16) : n16 a % (65536 : Int) = n16 a := Int.emod_eq_of_lt (n16_nonneg a) (n16_lt a)
theorem n32_self (a : UInt32) : n32 a % (4294967296 : Int) = n32 a := Int.emod_eq_of_lt (n32_nonneg a) (n32_lt a)
theorem n64_self (a : UInt64) : n64 a % (18446744073709551616 : Int) = n64 a := Int.emod_eq_of_lt (n64_nonneg a) (n64_lt a)
theorem and_i64_1 (n : Int) (h0 : 0 ≤ n) (h1 : n ≤ 9223372036854775807) : bits .and .i64 n 1 = n % 2 :=
  bits_mask .i64 63 (by decide) (fun m h0 h1 => by rw [IntKind.wrap_i64]; omega) 1 (by decide) n h0 (by omega)
theorem n32_and15_lt (a : UInt32) : n32 (a &&& 15) < 16 := by
  unfold n32
  rw [UInt32.toNat_and]
  have : a.toNat &&& (15 : UInt32).toNat ≤ 15 := Nat.and_le_right
  omega
end Go.Proofs.Ytngmhkhncimknaa
