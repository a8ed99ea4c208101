/- Package turnstileref01: the reader of text. -/
import Derived.Test.YtonfeppenhebjaaDoorRefR
namespace Go.Proofs.YtonfeppenhebjaaDoor
open Go Go.RowKit
set_option linter.unusedVariables false
set_option linter.unusedSimpArgs false
attribute [local go_sem] IntKind.wrap_u64 c64_8 c8_64 c16_64 c32_64 c64_16 c64_32 or8 and8 n64_self n8_self beq_n64 beq_n8 bne_n8 bne_n64

theorem textS_short (rest : List UInt8) (h : rest.length < 2) : textS rest 0 = ([], rest, 1) := by
  have e : fixedS rest 0 2 = (0, rest, 1) := by unfold fixedS takeS; rw [if_pos rfl, if_pos h]
  unfold textS
  rw [e]
  unfold takeS
  rfl
theorem leV_two (a b : UInt8) : (leV [a, b]).toNat = a.toNat + 256 * b.toNat := by
  have e : leV [a, b] = (b.toUInt64 <<< (8 : UInt64)) ||| a.toUInt64 := by unfold leV; simp
  rw [e, ← shl_or, UInt64.toNat_add, UInt64.toNat_shiftLeft, show (8 : UInt64).toNat % 64 = 8 by decide, Nat.shiftLeft_eq]
  have ha := a.toNat_lt
  have hb := b.toNat_lt
  have p64 : (2 : Nat) ^ 64 = 18446744073709551616 := by decide
  have p8 : (2 : Nat) ^ 8 = 256 := by decide
  simp only [UInt8.toNat_toUInt64]
  rw [p64, p8]
  omega
theorem textS_two (a b : UInt8) (l : List UInt8) : textS (a :: b :: l) 0 =
    if l.length < a.toNat + 256 * b.toNat then ([], a :: b :: l, 1) else (l.take (a.toNat + 256 * b.toNat), l.drop (a.toNat + 256 * b.toNat), 0) := by
  have e : fixedS (a :: b :: l) 0 2 = (leV [a, b], l, 0) := by unfold fixedS takeS; rw [if_pos rfl, if_neg (by simp)]; rfl
  unfold textS
  rw [e]
  simp only [leV_two]
  unfold takeS
  rw [if_pos rfl]
  by_cases hlt : l.length < a.toNat + 256 * b.toNat
  · simp only [if_pos hlt]
  · simp only [if_neg hlt]

end Go.Proofs.YtonfeppenhebjaaDoor
