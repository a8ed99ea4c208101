/- Package turnstileref01: the walks of what reads. -/
import Derived.Test.YtonfeppenhebjaaDoorPackR4
import Derived.Test.YtonfeppenhebjaaDoorRefW
namespace Go.Proofs.YtonfeppenhebjaaDoor
open Go Go.RowKit
set_option linter.unusedVariables false
set_option linter.unusedSimpArgs false
attribute [local go_sem] IntKind.wrap_u64 c64_8 c8_64 c16_64 c32_64 c64_16 c64_32 or8 and8 shr64_7 shr64_8 shl64_8 or64 and64 n64_self n8_self beq_n64 beq_n8 bne_n8 bne_n64 mod64_256 div64_256 mod64_128 div64_128 mul64_256 mul64_128 add64 mod8_128

/-- the number of a fault: ErrShort is 2, ErrForm 3 -/
def fr : Nat → Value
  | 0 => .int .i64 0
  | 1 => .int .i64 2
  | _ => .int .i64 3
theorem shl_or (x : UInt64) (b : UInt8) : (x <<< (8 : UInt64)) + b.toUInt64 = (x <<< (8 : UInt64)) ||| b.toUInt64 := by
  apply UInt64.toNat_inj.1
  rw [UInt64.toNat_or, UInt64.toNat_add, UInt64.toNat_shiftLeft, show (8 : UInt64).toNat % 64 = 8 by decide, Nat.shiftLeft_eq]
  have hb : b.toUInt64.toNat < 2 ^ 8 := by have := b.toNat_lt; simp; omega
  generalize b.toUInt64.toNat = y at *
  have p64 : (2 : Nat) ^ 64 = 18446744073709551616 := by decide
  have p56 : (2 : Nat) ^ 56 = 72057594037927936 := by decide
  have p8 : (2 : Nat) ^ 8 = 256 := by decide
  have e1 : x.toNat * 2 ^ 8 % 2 ^ 64 = (x.toNat % 2 ^ 56) <<< 8 := by rw [Nat.shiftLeft_eq, p64, p56, p8]; omega
  rw [e1, ← Nat.shiftLeft_add_eq_or_of_lt hb, Nat.shiftLeft_eq, p64, p56, p8]
  rw [p8] at hb
  have hx : x.toNat % 72057594037927936 < 72057594037927936 := Nat.mod_lt _ (by decide)
  generalize x.toNat % 72057594037927936 = z at *
  exact Nat.mod_eq_of_lt (by omega)
end Go.Proofs.YtonfeppenhebjaaDoor
