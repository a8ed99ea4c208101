/- Layer 20's law package: same. -/
import Derived.Test.YtonfeppenhebjaaDoorReqF
namespace Go.Proofs.YtonfeppenhebjaaDoor
open Go Go.RowKit
set_option linter.unusedVariables false
set_option linter.unusedSimpArgs false
attribute [local go_sem] IntKind.wrap_u64 c64_8 c8_64 c16_64 c32_64 c64_16 c64_32 or8 and8 n64_self n8_self beq_n64 beq_n8 bne_n8 bne_n64 beq_n64_0 bne_n64_0 wrap_b8

set_option maxRecDepth 100000 in
set_option maxHeartbeats 1600000 in
theorem same_calls (A B : Option Addr) (c d : Nat) (l m : List UInt8) (w : World) (hL : l.length ≤ 9223372036854775807) (hA : Cells w A (Bs l)) (hB : Cells w B (Bs m)) :
    Calls Tryd.prog 13 #[.slice A l.length c, .slice B m.length d] w fun e w' => e = .returned (.bool (l == m)) ∧ Below w.heap.size w w' := by
  by_cases hlen : l.length = m.length
  case neg =>
    have hne : (l == m) = false := by rw [beq_eq_false_iff_ne]; intro h; exact hlen (by rw [h])
    rw [hne]
    have g1 : ((l.length : Int) == (m.length : Int)) = false := by rw [beq_eq_false_iff_ne]; omega
    have g2 : ((l.length : Int) != (m.length : Int)) = true := by rw [bne, g1]; rfl
    clear hne hA hB
    go_enter Tryd.func13, Tryd.ntmps13
    go_wp2
    go_ret
    exact ⟨rfl, Below.refl _ _⟩
  have HML := Go.Lib.hid hlen
  have HA := Go.Lib.hid hA
  have HB := Go.Lib.hid hB
  rw [← hlen]
  clear hlen hA hB
  go_enter Tryd.func13, Tryd.ntmps13
  go_wp2
  go_loopw [5] (fun i wr => ∃ (k : Nat), k ≤ l.length ∧ i = .int .i64 (k : Int) ∧ Hid (l.take k = m.take k) ∧ Hid (Below w.heap.size w wr)) (fun i _ => l.length - (intOf i).toNat)
  case atStart => exact ⟨0, by omega, rfl, rfl, Below.refl _ _⟩
  case round =>
    obtain ⟨k, hk, rfl, HK, HD⟩ := hrel
    by_cases hlt : k < l.length
    · have hlm : k < m.length := by have := HML.out; omega
      obtain ⟨b, o, rfl, hc1⟩ := HA.out.byte k hlt
      obtain ⟨b2, o2, rfl, hc2⟩ := HB.out.byte k hlm
      have x1 : wr.cell? ⟨b, o + k, none⟩ = some (.int .u8 (n8 l[k])) := below_cell HD.out hc1
      have x2 : wr.cell? ⟨b2, o2 + k, none⟩ = some (.int .u8 (n8 m[k])) := below_cell HD.out hc2
      have hk0 : (0 : Int) ≤ (k : Int) := Int.natCast_nonneg _
      have hk1 : (k : Int) < (l.length : Int) := by omega
      have HT := Go.Lib.hid (show l.take (k + 1) = l.take k ++ [l[k]] from (List.take_append_getElem hlt).symm)
      have HTM := Go.Lib.hid (show m.take (k + 1) = m.take k ++ [m[k]] from (List.take_append_getElem hlm).symm)
      have HNE : Hid (l[k] ≠ m[k] → (l == m) = false) := fun h => by rw [beq_eq_false_iff_ne]; rintro rfl; exact h rfl
      generalize l[k] = x at *
      generalize m[k] = y at *
      clear hc1 hc2
      by_cases hxy : x = y
      · subst hxy
        go_wp2
        go_quiet (fail)
        go_wp2
        go_roundw
        case rel => exact ⟨k + 1, by omega, rfl, by rw [Hid, HT.out, HTM.out, HK.out], HD.out.trans (below_drewN _ _ _)⟩
        case measure => simp [intOf]; omega
      · have g1 : (n8 x == n8 y) = false := by rw [beq_n8]; simpa using hxy
        have g2 : (n8 x != n8 y) = true := by rw [bne, g1]; rfl
        have hxy' : (x == y) = false := by simpa using hxy
        have hxy2 : (x != y) = true := by rw [bne, hxy']; rfl
        go_wp2
        go_quiet (fail)
        go_wp2
        go_ret
        rw [HNE.out hxy]
        exact ⟨rfl, HD.out.trans (below_drewN _ _ _)⟩
    · have hkl : k = l.length := by omega
      go_wp2
      go_ret
      have : l = m := by
        have h := HK.out
        rw [hkl, List.take_length, HML.out, List.take_length] at h
        exact h
      subst this
      exact ⟨by simp, HD.out⟩
end Go.Proofs.YtonfeppenhebjaaDoor
