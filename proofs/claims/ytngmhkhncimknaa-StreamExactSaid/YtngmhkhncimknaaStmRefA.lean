/- The reference's length, New, Waiting, Bad. -/
import Derived.Test.YtngmhkhncimknaaStmRefP
import Derived.Deep.RegionHeld3
namespace Go.Proofs.Ytngmhkhncimknaa
open Go Go.Conc Go.RowKit
set_option linter.unusedVariables false
set_option linter.unusedSimpArgs false
attribute [local go_sem] n8_self beq_n8 bne_n8

theorem lenN_wrap (a b : UInt8) : IntKind.i64.wrap (n8 a + IntKind.i64.wrap (256 * n8 b)) = (lenN a b : Int) := by
  have ha := n8_lt a
  have ha0 := n8_nonneg a
  have hb := n8_lt b
  have hb0 := n8_nonneg b
  rw [IntKind.wrap_i64, IntKind.wrap_i64]
  have : (lenN a b : Int) = n8 a + 256 * n8 b := by simp [lenN, n8]
  rw [this]
  omega

set_option maxRecDepth 100000 in
set_option maxHeartbeats 1600000 in
theorem rlength_calls (A : Option Addr) (c : Nat) (l : List UInt8) (w : World) (hl : 3 ≤ l.length) (hA : Cells w A (Bs l)) :
    Calls Try.prog 24 #[.slice A l.length c] w fun e w' => e = .returned (.int .i64 (lenN (l.getD 1 0) (l.getD 2 0) : Int)) ∧ LoneN w w' := by
  obtain ⟨b, o, rfl, hc⟩ := hA (by rw [Bs_length]; omega)
  have c1 := hc 1 (by rw [Bs_length]; omega)
  have c2 := hc 2 (by rw [Bs_length]; omega)
  have i1 : (1 : Int) < (l.length : Int) := by omega
  have i2 : (2 : Int) < (l.length : Int) := by omega
  have e1 : (Bs l)[1]'(by rw [Bs_length]; omega) = .int .u8 (n8 (l.getD 1 0)) := by simp [Bs, List.getD, List.getElem?_eq_getElem (show 1 < l.length by omega)]
  have e2 : (Bs l)[2]'(by rw [Bs_length]; omega) = .int .u8 (n8 (l.getD 2 0)) := by simp [Bs, List.getD, List.getElem?_eq_getElem (show 2 < l.length by omega)]
  rw [e1] at c1
  rw [e2] at c2
  clear e1 e2 hc hA
  rw [← lenN_wrap]
  generalize l.getD 1 0 = x at *
  generalize l.getD 2 0 = y at *
  have k1 := wrap64_n8 x
  have k2 := wrap64_n8 y
  go_enter Try.func24, Try.ntmps24
  go_wp2
  go_quiet (fail)
  go_wp2
  go_ret
  have hz : wrap64 (n8 x + wrap64 (256 * n8 y)) = IntKind.i64.wrap (n8 x + IntKind.i64.wrap (256 * n8 y)) := by rw [Go.IntWalk.i64_left, Go.IntWalk.i64_left]
  exact ⟨congrArg (fun z => Ending.returned (Value.int .i64 z)) hz, loneN_next (loneN_refl _) _⟩
end Go.Proofs.Ytngmhkhncimknaa
