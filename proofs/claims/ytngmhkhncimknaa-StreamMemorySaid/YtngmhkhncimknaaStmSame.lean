/- same: the same payloads; its lone contract, and the same beside goroutines that leave. -/
import Derived.Test.YtngmhkhncimknaaStmLone
namespace Go.Proofs.Ytngmhkhncimknaa
open Go Go.Conc Go.RowKit
set_option linter.unusedVariables false
set_option linter.unusedSimpArgs false

attribute [local go_sem] n8_self beq_n8 bne_n8

set_option maxRecDepth 100000 in
set_option maxHeartbeats 1600000 in
theorem same_calls (A B : Option Addr) (c d : Nat) (l m : List (List UInt8)) (w : World) (hL : l.length ≤ 9223372036854775807) (hA : RowsB w A l) (hB : RowsB w B m) :
    Calls Try.prog 13 #[.slice A l.length c, .slice B m.length d] w fun e w' => e = .returned (.bool (l == m)) ∧ LoneN w w' := by
  by_cases hlen : l.length = m.length
  case neg =>
    have hne : (l == m) = false := by rw [beq_eq_false_iff_ne]; intro h; exact hlen (by rw [h])
    rw [hne]
    have g1 : ((l.length : Int) == (m.length : Int)) = false := by rw [beq_eq_false_iff_ne]; omega
    have g2 : ((l.length : Int) != (m.length : Int)) = true := by rw [bne, g1]; rfl
    clear hne hA hB
    go_enter Try.func13, Try.ntmps13
    go_wp2
    go_ret
    exact ⟨rfl, loneN_refl _⟩
  have HML := Go.Lib.hid hlen
  have HA := Go.Lib.hid hA
  have HB := Go.Lib.hid hB
  rw [← hlen]
  clear hlen hA hB
  go_enter Try.func13, Try.ntmps13
  go_wp2
  go_loopw [5] (fun i wr => ∃ (k : Nat), k ≤ l.length ∧ i = .int .i64 (k : Int) ∧ Hid (l.take k = m.take k) ∧ Hid (LoneN w wr)) (fun i _ => l.length - (intOf i).toNat)
  case atStart => exact ⟨0, by omega, rfl, rfl, loneN_refl _⟩
  case round =>
    obtain ⟨k, hk, rfl, HK, HD⟩ := hrel
    by_cases hlt : k < l.length
    · have hlm : k < m.length := by have := HML.out; omega
      have hbw := loneN_below HD.out w.heap.size
      obtain ⟨b, o, rfl, A1, c1, hl1, hc1, hr1⟩ := HA.out.row k hlt
      obtain ⟨b2, o2, rfl, A2, c2, hl2, hc2, hr2⟩ := HB.out.row k hlm
      have x1 := below_cell hbw hc1
      have x2 := below_cell hbw hc2
      have e1 := fun n => lone_str (c := c1) (cells_below (hbw.trans (drewN_below _ _ n)) hr1)
      have e2 := fun n => lone_str (c := c2) (cells_below (hbw.trans (drewN_below _ _ n)) hr2)
      have hk0 : (0 : Int) ≤ (k : Int) := Int.natCast_nonneg _
      have hk1 : (k : Int) < (l.length : Int) := by omega
      have HT := Go.Lib.hid (show l.take (k + 1) = l.take k ++ [l[k]] from (List.take_append_getElem hlt).symm)
      have HTM := Go.Lib.hid (show m.take (k + 1) = m.take k ++ [m[k]] from (List.take_append_getElem hlm).symm)
      have HNE : Hid (l[k] ≠ m[k] → (l == m) = false) := fun h => by rw [beq_eq_false_iff_ne]; rintro rfl; exact h rfl
      generalize l[k] = x at *
      generalize m[k] = y at *
      clear hc1 hc2 hr1 hr2 hbw
      by_cases hxy : x = y
      · subst hxy
        go_wp2
        go_quiet (fail)
        go_wp2
        exact ⟨⟨k + 1, by omega, rfl, by rw [Hid, HT.out, HTM.out, HK.out], loneN_next HD.out _⟩, by simp [intOf]; omega⟩
      · have hxy' : (x == y) = false := beq_eq_false_iff_ne.2 hxy
        go_wp2
        go_quiet (fail)
        go_wp2
        go_ret
        rw [HNE.out hxy]
        exact ⟨rfl, loneN_next HD.out _⟩
    · have hkl : k = l.length := by omega
      go_wp2
      go_ret
      have : l = m := by
        have h := HK.out
        rw [hkl, List.take_length, HML.out, List.take_length] at h
        exact h
      subst this
      exact ⟨by simp, HD.out⟩

theorem same_shut : Shut Try.prog (fun x => [13].contains x) := shut_of _ (by kernel_rfl) (by kernel_rfl)
theorem same_m {Post : Value → World → Prop} (A B : Option Addr) (c d : Nat) (l m : List (List UInt8)) (w : World) (hL : l.length ≤ 9223372036854775807) (hA : RowsB w A l) (hB : RowsB w B m) :
    callM Try.prog (XF Try.prog (XEnds Try.prog Post)) 13 #[.slice A l.length c, .slice B m.length d] (fun γ v w' => γ = none ∧ v = .bool (l == m) ∧ ∃ d, w' = w.at d) none w := by
  refine callM_of_calls (R := fun v w' => v = .bool (l == m) ∧ ∃ d, w' = w.at d) same_shut (by decide) (fun w1 h1 h2 h3 => ?_) ?_
  · refine (same_calls A B c d l m w1 hL (rowsB_heap h1 hA) (rowsB_heap h1 hB)).mono ?_
    rintro e w' ⟨he, n, rfl⟩
    refine ⟨_, he, rfl, (w1.drewN n).drawn, ?_⟩
    cases w1
    cases w
    simp only at h1 h2 h3
    subst h1 h2 h3
    rfl
  · rintro v w' d ⟨rfl, d', rfl⟩
    exact ⟨rfl, d, rfl⟩
end Go.Proofs.Ytngmhkhncimknaa
