/- Package turnstileref01: groups. -/
import Derived.Test.YtjkocjkfedcdoaaDoorRefT
namespace Go.Proofs.YtjkocjkfedcdoaaDoor
open Go Go.RowKit
attribute [local go_sem] IntKind.wrap_u64 c64_8 c8_64 or8 and8 n64_self n8_self beq_n64 beq_n8 bne_n8 bne_n64

/-- how many bytes the number at the head takes; 0: none -/
def cntG (i : Nat) : List UInt8 → Nat
  | [] => 0
  | u :: l => if 10 ≤ i then 0 else if n8 u < 128 then i + 1 else cntG (i + 1) l

set_option maxRecDepth 100000 in
set_option maxHeartbeats 800000 in
theorem rgroups_calls (A : Option Addr) (c : Nat) (l : List UInt8) (w : World) (hl : l.length ≤ 9223372036854775807) (hA : Cells w A (Bs l)) :
    Calls Tryd.prog 78 #[.slice A l.length c] w fun e w' => e = .returned (.int .i64 ((cntG 0 l : Nat) : Int)) ∧ w' = w := by
  have HA := Go.Lib.hid hA
  clear hA
  go_enter Tryd.func78, Tryd.ntmps78
  go_wp2
  go_loopw [3] (fun i wr => ∃ k : Nat, wr = w ∧ k ≤ l.length ∧ k ≤ 10 ∧ i = .int .i64 (k : Int) ∧ Hid (cntG k (l.drop k) = cntG 0 l)) (fun i _ => l.length - (intOf i).toNat)
  case atStart => exact ⟨0, rfl, by omega, by omega, rfl, rfl⟩
  case round =>
    obtain ⟨k, rfl, hk, hk10, rfl, HG⟩ := hrel
    by_cases hkl : k < l.length
    · have hG := HG.out
      rw [List.drop_eq_getElem_cons hkl, cntG] at hG
      obtain ⟨b, o, hAe, hcell⟩ := HA.out (by rw [Bs_length]; omega)
      have hck : wr.cell? ⟨b, o + k, none⟩ = some (.int .u8 (n8 l[k])) := by
        rw [hcell k (by rw [Bs_length]; omega)]
        simp [Bs]
      subst hAe
      clear hcell HG
      generalize l[k] = u at *
      have hk0 : (0 : Int) ≤ (k : Int) := Int.natCast_nonneg _
      have hk1 : (k : Int) < (l.length : Int) := by omega
      by_cases h10 : k < 10
      · rw [if_neg (by omega)] at hG
        by_cases hu : n8 u < 128
        · rw [if_pos hu] at hG
          have HX := Go.Lib.hid hG
          clear hG
          go_wp2
          go_ret
          exact ⟨by rw [← HX.out]; go_num, rfl⟩
        · rw [if_neg hu] at hG
          have HX := Go.Lib.hid hG
          clear hG
          go_wp2
          go_roundw
          case rel => exact ⟨k + 1, by trivial, by omega, by omega, by go_num, HX⟩
          case measure => simp [intOf]; omega
      · rw [if_pos (by omega)] at hG
        have HX := Go.Lib.hid hG
        clear hG
        go_wp2
        go_ret
        exact ⟨by rw [← HX.out]; rfl, rfl⟩
    · have hkn : k = l.length := by omega
      have hG := HG.out
      rw [hkn, List.drop_length] at hG
      have HX := Go.Lib.hid (show cntG 0 l = 0 from hG.symm)
      clear hG HG
      go_wp2
      go_ret
      exact ⟨by rw [HX.out]; rfl, rfl⟩
theorem rleft_nil (w : World) : Calls Tryd.prog 54 #[.pointer none] w fun e w' => e = .returned (.int .i64 0) ∧ w' = w := by
  go_enter Tryd.func54, Tryd.ntmps54
  go_wp2
  go_ret
  exact ⟨rfl, rfl⟩
theorem rerr_nil (w : World) : Calls Tryd.prog 55 #[.pointer none] w fun e w' => e = .returned (.int .i64 15) ∧ w' = w := by
  go_enter Tryd.func55, Tryd.ntmps55
  go_wp2
  go_ret
  exact ⟨rfl, rfl⟩
theorem rend_nil (w : World) : Calls Tryd.prog 56 #[.pointer none] w fun e w' => e = .returned (.int .i64 15) ∧ w' = w := by
  go_enter Tryd.func56, Tryd.ntmps56
  go_wp2
  go_ret
  exact ⟨rfl, rfl⟩
theorem rnumber_nil (w : World) : Calls Tryd.prog 65 #[.pointer none] w fun e w' => e = .returned (.int .u64 0) ∧ w' = w := by
  go_enter Tryd.func65, Tryd.ntmps65
  go_wp2
  go_ret
  exact ⟨rfl, rfl⟩
end Go.Proofs.YtjkocjkfedcdoaaDoor
