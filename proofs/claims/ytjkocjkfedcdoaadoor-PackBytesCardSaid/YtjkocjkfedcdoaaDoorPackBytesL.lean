/- The law PackBytes: its walk. -/
import Derived.Test.YtjkocjkfedcdoaaDoorPackR2
import Derived.Deep.RegionWith
import Derived.Deep.RegionHeld3
namespace Go.Proofs.YtjkocjkfedcdoaaDoor
open Go Go.RowKit
attribute [local go_sem] IntKind.wrap_u64 c64_8 c8_64 c16_64 c32_64 c64_16 c64_32 or8 and8 shr64_7 shr64_8 shl64_8 or64 and64 n64_self n8_self beq_n64 beq_n8 bne_n8 bne_n64 div64_256

theorem div_shr (u : UInt64) : u / (256 : UInt64) = u >>> (8 : UInt64) := by
  apply UInt64.toNat_inj.1
  rw [UInt64.toNat_div, UInt64.toNat_shiftRight, show (8 : UInt64).toNat % 64 = 8 by decide, Nat.shiftRight_eq_div_pow, show (256 : UInt64).toNat = 2 ^ 8 by decide]
theorem shr8_nat (u : UInt64) : (u >>> 8).toNat = u.toNat / 256 := by
  rw [UInt64.toNat_shiftRight, show (8 : UInt64).toNat % 64 = 8 by decide, Nat.shiftRight_eq_div_pow]
theorem byte_nat (u : UInt64) : u.toUInt8.toNat = u.toNat % 256 := by simp
theorem le_ext (a b : UInt64) (n : Nat) (h : a.toNat % 256 ^ n = b.toNat % 256 ^ n) : leS a n = leS b n := by
  induction n generalizing a b with
  | zero => rfl
  | succ n ih =>
    unfold leS
    congr 1
    · apply UInt8.toNat_inj.1
      rw [byte_nat, byte_nat]
      have := congrArg (fun t => t % 256) h
      simp only [Nat.pow_succ] at this
      rwa [Nat.mod_mul_left_mod, Nat.mod_mul_left_mod] at this
    · apply ih
      rw [shr8_nat, shr8_nat]
      rw [Nat.pow_succ, Nat.mul_comm] at h
      have := congrArg (fun t => t / 256) h
      rwa [Nat.mod_mul_right_div_self, Nat.mod_mul_right_div_self] at this
theorem le_take (x : UInt64) (n m : Nat) (h : n ≤ m) : (leS x m).take n = leS x n := by
  induction n generalizing x m with
  | zero => rfl
  | succ n ih =>
    obtain ⟨m, rfl⟩ : ∃ k, m = k + 1 := ⟨m - 1, by omega⟩
    simp only [leS, List.take_succ_cons]
    rw [ih _ _ (by omega)]
theorem le_32 (x : UInt64) : leS x.toUInt32.toUInt64 4 = (leS x 8).take 4 := by
  rw [le_take _ _ _ (by omega)]
  apply le_ext
  simp
theorem le_16 (x : UInt64) : leS x.toUInt16.toUInt64 2 = (leS x 8).take 2 := by
  rw [le_take _ _ _ (by omega)]
  apply le_ext
  simp

theorem alike_same (A B : Option Addr) (c d n m : Nat) (l k : List UInt8) (w : World) (hl : l = k) (hn : n = l.length) (hm : m = k.length) (hA : Cells w A (Bs l)) (hB : Cells w B (Bs k)) :
    Calls Tryd.prog 27 #[.slice A n c, .slice B m d] w fun e w' => e = .returned (.bool true) ∧ w' = w := by
  subst hl hn hm
  have := alike_calls A B c d l l w hA hB
  rwa [beq_self_eq_true] at this

set_option maxRecDepth 100000 in
set_option maxHeartbeats 1600000 in
theorem packBytes_calls (x : UInt64) (w : World) (a0 a1 : Addr) (hE : Errs w a0 a1) :
    Calls Tryd.prog 9 #[.int .u64 (n64 x)] w fun e w' => e = .returned (.bool true) ∧ Below w.heap.size w w' := by
  have HE := Go.Lib.hid hE
  clear hE
  go_enter Tryd.func9, Tryd.ntmps9
  go_wp2_with fail
  refine (lives_calls w a0 a1 HE.out).mono ?_
  rintro e w1 ⟨rfl, hb1⟩
  have HB1 := Go.Lib.hid hb1
  clear hb1
  go_wp2_with fail
  refine (putU64_calls none 0 [] x w1 (by decide) (fun h => absurd h (by simp [Bs]))).mono ?_
  rintro e w2 ⟨v, rfl, hv, hb2⟩
  obtain ⟨A, c, rfl, hc1, hc2, hc3, hc4⟩ := own_addr hv
  have hlen : (Bs ([] ++ leS x 8)).length = 8 := by rw [Bs_length, List.nil_append, leS_length]
  have HB2 := Go.Lib.hid (below_then HB1.out hb2)
  have HC := Go.Lib.hid hc3
  rw [hlen] at hc1 ⊢
  clear hv hb2 hc3 hc4 HB1 hlen
  go_wp2
  go_loopw [4, 5] (fun y i wr => ∃ (k : Nat) (u : UInt64), k ≤ 8 ∧ i = .int .i64 (k : Int) ∧ y = .int .u64 (n64 u) ∧ wr = w2 ∧ Hid (∃ acc, acc.length = k ∧ acc ++ leS u (8 - k) = leS x 8)) (fun _ i _ => 8 - (intOf i).toNat)
  case atStart => exact ⟨0, x, by omega, rfl, rfl, rfl, [], rfl, rfl⟩
  case round =>
    obtain ⟨k, u, hk, rfl, rfl, rfl, HK⟩ := hrel
    by_cases h8 : k < 8
    · obtain ⟨acc, ha, he⟩ := HK.out
      have hu : (leS x 8)[k]? = some u.toUInt8 := by
        rw [← he, show 8 - k = (8 - (k + 1)) + 1 by omega, List.getElem?_append_right (by omega), ha, Nat.sub_self]
        rfl
      have HN : Hid (∃ acc, acc.length = k + 1 ∧ acc ++ leS (u / 256) (8 - (k + 1)) = leS x 8) := by
        refine ⟨acc ++ [u.toUInt8], by simp [ha], ?_⟩
        rw [← he, show 8 - k = (8 - (k + 1)) + 1 by omega, div_shr]
        simp [leS]
      obtain ⟨b, o, hAe, hcell⟩ := HC.out (by rw [Bs_length, List.nil_append, leS_length]; omega)
      have hck : wr.cell? ⟨b, o + k, none⟩ = some (.int .u8 (n8 u.toUInt8)) := by
        have hkl : k < (leS x 8).length := by rw [leS_length]; exact h8
        rw [hcell k (by rw [Bs_length, List.nil_append, leS_length]; omega)]
        have : (leS x 8)[k] = u.toUInt8 := by rw [List.getElem?_eq_getElem hkl] at hu; exact Option.some.inj hu
        simp [Bs, this]
      subst hAe
      clear hcell hu he ha
      go_wp2
      go_roundw
      case rel => exact ⟨k + 1, u / 256, by omega, by go_num, rfl, by trivial, HN⟩
      case measure => simp [intOf]; omega
    · have hcut4 : ∀ W : World, (Instr.slice 26 (.slice A 8 c) none (some (.int .i64 4)) none).run Tryd.prog W = .ok (.slice A 4 c) W := run_cut_h (P := Tryd.prog) 26 5 Tryd.underlying26 size8' A 8 c 4 (by omega)
      have hcut2 : ∀ W : World, (Instr.slice 26 (.slice A 8 c) none (some (.int .i64 2)) none).run Tryd.prog W = .ok (.slice A 2 c) W := run_cut_h (P := Tryd.prog) 26 5 Tryd.underlying26 size8' A 8 c 2 (by omega)
      have C4 : Hid (Cells wr A (Bs ((leS x 8).take 4))) := by have := cells_take HC.out 4; rw [← Bs_take] at this; exact this
      have C2 : Hid (Cells wr A (Bs ((leS x 8).take 2))) := by have := cells_take HC.out 2; rw [← Bs_take] at this; exact this
      clear HC HK
      go_wp2
      go_region_held3 (fun w' => Cells w' A (Bs ((leS x 8).take 4)) ∧ Cells w' A (Bs ((leS x 8).take 2)))
        (first | exact ⟨C4.out, C2.out⟩ | exact ⟨cells_below hb5 C4.out, cells_below hb5 C2.out⟩ | exact ⟨cells_below hb6 (cells_below hb5 C4.out), cells_below hb6 (cells_below hb5 C2.out)⟩ | (trace_state; fail))
        (first
          | (go_at_call 28; refine (putU32_calls none 0 [] x.toUInt32 _ (by decide) (fun h => absurd h (by simp [Bs]))).mono ?_; rintro e w5 ⟨v5, rfl, hv5, hb5⟩; obtain ⟨A5, c5, rfl, h51, h52, h53, h54⟩ := own_addr hv5; clear hv5)
          | (go_at_call 27; refine (alike_same A6 A c6 c _ _ ([] ++ leS x.toUInt16.toUInt64 2) ((leS x 8).take 2) _ (le_16 x) (Bs_length _) (by rw [List.length_take, leS_length]; rfl) h63 (cells_below hb6 (cells_below hb5 C2.out))).mono ?_; rintro e w8 ⟨rfl, rfl⟩)
          | (go_at_call 29; refine (putU16_calls none 0 [] x.toUInt16 _ (by decide) (fun h => absurd h (by simp [Bs]))).mono ?_; rintro e w6 ⟨v6, rfl, hv6, hb6⟩; obtain ⟨A6, c6, rfl, h61, h62, h63, h64⟩ := own_addr hv6; clear hv6)
          | (go_at_call 27; refine (alike_same A5 A c5 c _ _ ([] ++ leS x.toUInt32.toUInt64 4) ((leS x 8).take 4) _ (le_32 x) (Bs_length _) (by rw [List.length_take, leS_length]; rfl) h53 (cells_below hb5 C4.out)).mono ?_; rintro e w8 ⟨rfl, rfl⟩))
      go_wp2
      go_ret
      exact ⟨rfl, below_then (below_then HB2.out (undrew hb5)) (by first | exact hb6 | exact undrew hb6 | exact undrewN hb6)⟩
end Go.Proofs.YtjkocjkfedcdoaaDoor
