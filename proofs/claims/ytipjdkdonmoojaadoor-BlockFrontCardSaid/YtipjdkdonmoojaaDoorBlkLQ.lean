/- Layer 8's law BlockFront: the plain laws. -/
import Derived.Test.YtipjdkdonmoojaaDoorBlkLP2
namespace Go.Proofs.YtipjdkdonmoojaaDoor
open Go Go.RowKit
set_option linter.unusedVariables false
set_option linter.unusedSimpArgs false

theorem front1 {first : UInt64} {cs : List (List (List UInt8))} (h : ChainOK first cs) (i : Nat) (hi : i < cs.length) : scanB ((packC first cs).take (512 * i)) [] first = ((cs.take i).flatten, i) := by
  obtain ⟨e, h2⟩ := packC_take cs first i h
  rw [e, scan_all h2, List.length_take, Nat.min_eq_left (Nat.le_of_lt hi)]
theorem front2 {first : UInt64} {cs : List (List (List UInt8))} (h : ChainOK first cs) (i : Nat) (hi : i < cs.length) : scanB (packC first cs) [(i : Int), -1, (i : Int)] first = ((cs.take i).flatten, i) := by
  have h2 := (packC_take cs first i h).2
  have hl : (cs.take i).length = i := by rw [List.length_take]; omega
  have h1 := scanF_pre (cs.take i) first (cs.length - i) 0 (packC (first + UInt64.ofNat (cs.take i).flatten.length) (cs.drop i)) [(i : Int), -1, (i : Int)] h2 (fun j _ hj => by
    rw [hl] at hj
    have a1 : (j : Int) ≠ (i : Int) := by omega
    have a2 : (j : Int) ≠ -1 := by omega
    simp [a1, a2])
  rw [← packC_split, hl, show cs.length - i + i = cs.length by omega, Nat.zero_add, scanF_bad _ i _ _ _ (by simp)] at h1
  unfold scanB
  rw [packC_length cs first h, Nat.mul_div_cancel_left _ (by decide), h1]
  simp
theorem front3 {first : UInt64} {cs : List (List (List UInt8))} (h : ChainOK first cs) (i : Nat) (hi : i < cs.length) (junk : List UInt8) (hj : junk.length < 512 ∨ (decB (junk.take 512)).2.2 ≠ 0 ∨ (decB (junk.take 512)).1 ≠ first + UInt64.ofNat (cs.take i).flatten.length) :
    scanB ((packC first cs).take (512 * i) ++ junk) [] first = ((cs.take i).flatten, i) := by
  obtain ⟨e, h2⟩ := packC_take cs first i h
  have hl : (cs.take i).length = i := by rw [List.length_take]; omega
  have h1 := scanF_pre (cs.take i) first (junk.length / 512) 0 junk [] h2 (fun _ _ _ => rfl)
  have hlen := packC_length (cs.take i) first h2
  rw [hl] at h1 hlen
  unfold scanB
  rw [e, List.length_append, hlen, show (512 * i + junk.length) / 512 = junk.length / 512 + i by omega, h1, Nat.zero_add]
  rcases hj with hj | hj
  · rw [show junk.length / 512 = 0 by omega, scanF]; simp
  · rw [scanF_stop _ _ _ _ _ hj]; simp
theorem flat_pre (cs : List (List (List UInt8))) (i : Nat) : cs.flatten.take (cs.take i).flatten.length = (cs.take i).flatten := by
  conv => lhs; rw [← List.take_append_drop i cs, List.flatten_append]
  rw [List.take_append_drop]
  exact List.take_left
end Go.Proofs.YtipjdkdonmoojaaDoor
