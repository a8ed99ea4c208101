/- The laws CrcMoves and CrcZeros: their walks. -/
import Derived.Test.YtjkocjkfedcdoaaDoorCrcAllW
import Derived.Deep.RegionWith
namespace Go.Proofs.YtjkocjkfedcdoaaDoor
open Go Go.RowKit
attribute [local go_sem] beq_n32_0 bne_n32_0 bne_n32 n32_self mod32_2 div32_2 beq_n32_1 xor32_poly xor32 and32 or32 not32 shr32_4 shr32_1 shr32_8 shr32_16 shr32_24 and32_15 and32_1 c8_32 c32_8 n32_nonneg n32_and15_lt beq_n32

theorem joinS_low (a b : UInt32) (n : Int) (h : n < 1) : joinS a b n = a ^^^ b := by unfold joinS; rw [if_pos h]
theorem joinS_steps (a b : UInt32) (n : Int) (h : n ≤ 9223372036854775807) : joinS a b n = stepsR (8 * n.toNat) a ^^^ b := by rw [joinS_eq, movedR_steps a n h]

set_option maxRecDepth 100000 in
set_option maxHeartbeats 1600000 in
theorem crcMoves_calls (a b : UInt32) (m n : Int) (w : World) (hT : Tab w) (hm1 : -9223372036854775808 ≤ m) (hm2 : m ≤ 9223372036854775807) (hn1 : -9223372036854775808 ≤ n) (hn2 : n ≤ 9223372036854775807) :
    Calls Tryd.prog 6 #[.int .u32 (n32 a), .int .u32 (n32 b), .int .i64 m, .int .i64 n] w fun e w' => e = .returned (.bool true) ∧ Below w.heap.size w w' := by
  have HT := Go.Lib.hid hT
  clear hT
  have t1 : (joinS a b 0 != a ^^^ b) = false := by rw [joinS_low _ _ _ (by omega)]; simp [bne]
  have t1' : m ≤ 0 → (joinS a b m != a ^^^ b) = false := fun h => by rw [joinS_low _ _ _ (by omega)]; simp [bne]
  have t2 : (joinS (a ^^^ b) 0 n != joinS a 0 n ^^^ joinS b 0 n) = false := by
    rw [joinS_steps _ _ _ hn2, joinS_steps _ _ _ hn2, joinS_steps _ _ _ hn2, stepsR_xor]; simp [bne]
  have t3 : (joinS a b n != joinS a 0 n ^^^ b) = false := by
    rw [joinS_steps _ _ _ hn2, joinS_steps _ _ _ hn2]; simp [bne]
  go_enter Tryd.func6, Tryd.ntmps6
  go_wp2_with fail
  refine (awake_calls _ HT.out).mono ?_
  rintro e w1 ⟨rfl, hb1⟩
  have HB1 := Go.Lib.hid hb1
  have HT1 := Go.Lib.hid (tab_below hb1 HT.out)
  clear hb1 HT
  by_cases hm0 : 0 < m
  · go_wp2_with fail
    refine (join_calls a b 0 _ HT1.out (by omega) (by omega)).mono ?_
    rintro e w2 ⟨rfl, hb2⟩
    have HB2 := Go.Lib.hid (below_then HB1.out hb2)
    have HT2 := Go.Lib.hid (tab_below hb2 HT1.out)
    clear hb2 HT1 HB1
    go_wp2_with fail
    refine (join_calls (a ^^^ b) 0 n _ HT2.out hn1 hn2).mono ?_
    rintro e w3 ⟨rfl, hb3⟩
    have HB3 := Go.Lib.hid (below_then HB2.out hb3)
    have HT3 := Go.Lib.hid (tab_below hb3 HT2.out)
    clear hb3 HT2 HB2
    go_wp2_with fail
    refine (join_calls a 0 n _ HT3.out hn1 hn2).mono ?_
    rintro e w4 ⟨rfl, hb4⟩
    have HB4 := Go.Lib.hid (below_then HB3.out hb4)
    have HT4 := Go.Lib.hid (tab_below hb4 HT3.out)
    clear hb4 HT3 HB3
    go_wp2_with fail
    refine (join_calls b 0 n _ HT4.out hn1 hn2).mono ?_
    rintro e w5 ⟨rfl, hb5⟩
    have HB5 := Go.Lib.hid (below_then HB4.out hb5)
    have HT5 := Go.Lib.hid (tab_below hb5 HT4.out)
    clear hb5 HT4 HB4
    go_wp2_with fail
    refine (join_calls a b n _ HT5.out hn1 hn2).mono ?_
    rintro e w6 ⟨rfl, hb6⟩
    have HB6 := Go.Lib.hid (below_then HB5.out hb6)
    have HT6 := Go.Lib.hid (tab_below hb6 HT5.out)
    clear hb6 HT5 HB5
    go_wp2_with fail
    refine (join_calls a 0 n _ HT6.out hn1 hn2).mono ?_
    rintro e w7 ⟨rfl, hb7⟩
    have HB7 := Go.Lib.hid (below_then HB6.out hb7)
    have HT7 := Go.Lib.hid (tab_below hb7 HT6.out)
    clear hb7 HT6 HB6
    by_cases hbad : m < 0 ∨ n < 0 ∨ 1099511627776 < m ∨ 1099511627776 < n
    · go_wp2_with fail
      all_goals first | (exfalso; omega) | skip
      all_goals (go_ret; exact ⟨rfl, HB7.out⟩)
    have g1 : 0 ≤ m := by omega
    have g2 : 0 ≤ n := by omega
    have g3 : m ≤ 1099511627776 := by omega
    have g4 : n ≤ 1099511627776 := by omega
    clear hbad
    go_wp2_with fail
    refine (join_calls a 0 m _ HT7.out hm1 hm2).mono ?_
    rintro e w8 ⟨rfl, hb8⟩
    have HB8 := Go.Lib.hid (below_then HB7.out hb8)
    have HT8 := Go.Lib.hid (tab_below hb8 HT7.out)
    clear hb8 HT7 HB7
    go_wp2_with fail
    refine (join_calls (joinS a 0 m) 0 n _ HT8.out hn1 hn2).mono ?_
    rintro e w9 ⟨rfl, hb9⟩
    have HB9 := Go.Lib.hid (below_then HB8.out hb9)
    have HT9 := Go.Lib.hid (tab_below hb9 HT8.out)
    clear hb9 HT8 HB8
    go_wp2_with fail
    refine (join_calls a 0 (m + n) _ HT9.out (by omega) (by omega)).mono ?_
    rintro e w10 ⟨rfl, hb10⟩
    have HB10 := Go.Lib.hid (below_then HB9.out hb10)
    clear hb10 HT9 HB9
    have t4 : (joinS (joinS a 0 m) 0 n == joinS a 0 (m + n)) = true := by
      rw [joinS_steps _ _ _ hn2, joinS_steps _ _ _ hm2, joinS_steps _ _ _ (by omega)]
      simp only [UInt32.xor_zero]
      rw [← stepsR_add, show (m + n).toNat = m.toNat + n.toNat by omega, Nat.mul_add]
      simp
    go_wp2
    go_ret
    exact ⟨rfl, HB10.out⟩
  · have t1'' := t1' (by omega)
    clear t1'
    go_wp2_with fail
    refine (join_calls a b m _ HT1.out (by omega) (by omega)).mono ?_
    rintro e w2 ⟨rfl, hb2⟩
    have HB2 := Go.Lib.hid (below_then HB1.out hb2)
    have HT2 := Go.Lib.hid (tab_below hb2 HT1.out)
    clear hb2 HT1 HB1
    go_wp2_with fail
    refine (join_calls (a ^^^ b) 0 n _ HT2.out hn1 hn2).mono ?_
    rintro e w3 ⟨rfl, hb3⟩
    have HB3 := Go.Lib.hid (below_then HB2.out hb3)
    have HT3 := Go.Lib.hid (tab_below hb3 HT2.out)
    clear hb3 HT2 HB2
    go_wp2_with fail
    refine (join_calls a 0 n _ HT3.out hn1 hn2).mono ?_
    rintro e w4 ⟨rfl, hb4⟩
    have HB4 := Go.Lib.hid (below_then HB3.out hb4)
    have HT4 := Go.Lib.hid (tab_below hb4 HT3.out)
    clear hb4 HT3 HB3
    go_wp2_with fail
    refine (join_calls b 0 n _ HT4.out hn1 hn2).mono ?_
    rintro e w5 ⟨rfl, hb5⟩
    have HB5 := Go.Lib.hid (below_then HB4.out hb5)
    have HT5 := Go.Lib.hid (tab_below hb5 HT4.out)
    clear hb5 HT4 HB4
    go_wp2_with fail
    refine (join_calls a b n _ HT5.out hn1 hn2).mono ?_
    rintro e w6 ⟨rfl, hb6⟩
    have HB6 := Go.Lib.hid (below_then HB5.out hb6)
    have HT6 := Go.Lib.hid (tab_below hb6 HT5.out)
    clear hb6 HT5 HB5
    go_wp2_with fail
    refine (join_calls a 0 n _ HT6.out hn1 hn2).mono ?_
    rintro e w7 ⟨rfl, hb7⟩
    have HB7 := Go.Lib.hid (below_then HB6.out hb7)
    have HT7 := Go.Lib.hid (tab_below hb7 HT6.out)
    clear hb7 HT6 HB6
    by_cases hbad : m < 0 ∨ n < 0 ∨ 1099511627776 < m ∨ 1099511627776 < n
    · go_wp2_with fail
      all_goals first | (exfalso; omega) | skip
      all_goals (go_ret; exact ⟨rfl, HB7.out⟩)
    have g1 : 0 ≤ m := by omega
    have g2 : 0 ≤ n := by omega
    have g3 : m ≤ 1099511627776 := by omega
    have g4 : n ≤ 1099511627776 := by omega
    clear hbad
    go_wp2_with fail
    refine (join_calls a 0 m _ HT7.out hm1 hm2).mono ?_
    rintro e w8 ⟨rfl, hb8⟩
    have HB8 := Go.Lib.hid (below_then HB7.out hb8)
    have HT8 := Go.Lib.hid (tab_below hb8 HT7.out)
    clear hb8 HT7 HB7
    go_wp2_with fail
    refine (join_calls (joinS a 0 m) 0 n _ HT8.out hn1 hn2).mono ?_
    rintro e w9 ⟨rfl, hb9⟩
    have HB9 := Go.Lib.hid (below_then HB8.out hb9)
    have HT9 := Go.Lib.hid (tab_below hb9 HT8.out)
    clear hb9 HT8 HB8
    go_wp2_with fail
    refine (join_calls a 0 (m + n) _ HT9.out (by omega) (by omega)).mono ?_
    rintro e w10 ⟨rfl, hb10⟩
    have HB10 := Go.Lib.hid (below_then HB9.out hb10)
    clear hb10 HT9 HB9
    have t4 : (joinS (joinS a 0 m) 0 n == joinS a 0 (m + n)) = true := by
      rw [joinS_steps _ _ _ hn2, joinS_steps _ _ _ hm2, joinS_steps _ _ _ (by omega)]
      simp only [UInt32.xor_zero]
      rw [← stepsR_add, show (m + n).toNat = m.toNat + n.toNat by omega, Nat.mul_add]
      simp
    go_wp2
    go_ret
    exact ⟨rfl, HB10.out⟩

theorem info8 : (Tryd.prog.info? 5).map (fun i => (i.zero, i.size, i.bytes)) = some (some (.int .u8 0), 1, 1) := by kernel_rfl

theorem own_word (s : UInt32) : UInt32.ofNat (word [s.toUInt8, (s >>> 8).toUInt8, (s >>> 16).toUInt8, (s >>> 24).toUInt8]) = s := by
  apply UInt32.toNat_inj.1
  have h := s.toNat_lt
  have e8 : (8 : UInt32).toNat % 32 = 8 := by decide
  have e16 : (16 : UInt32).toNat % 32 = 16 := by decide
  have e24 : (24 : UInt32).toNat % 32 = 24 := by decide
  simp only [word, UInt32.toNat_toUInt8, UInt32.toNat_shiftRight, e8, e16, e24, Nat.shiftRight_eq_div_pow]
  rw [UInt32.toNat_ofNat_of_lt' (by show _ < 4294967296; omega)]
  omega
theorem zeros_bytes (n : Nat) : List.replicate n (Value.int .u8 0) = Bs (List.replicate n 0) := by
  unfold Bs; rw [List.map_replicate]; rfl

set_option maxRecDepth 100000 in
set_option maxHeartbeats 1600000 in
theorem crcZeros_calls (A : Option Addr) (c : Nat) (l : List UInt8) (n : Int) (w : World) (hT : Tab w) (hl : l.length ≤ 9223372036854775807) (hA : Cells w A (Bs l)) (hn1 : -9223372036854775808 ≤ n) (hn2 : n ≤ 9223372036854775807) :
    Calls Tryd.prog 7 #[.slice A l.length c, .int .i64 n] w fun e w' => e = .returned (.bool true) ∧ Below w.heap.size w w' := by
  have HT := Go.Lib.hid hT
  clear hT
  go_enter Tryd.func7, Tryd.ntmps7
  go_wp2_with fail
  refine (awake_calls _ HT.out).mono ?_
  rintro e w1 ⟨rfl, hb1⟩
  have HB1 := Go.Lib.hid hb1
  have HT1 := Go.Lib.hid (tab_below hb1 HT.out)
  have hA1 := cells_below hb1 hA
  clear hb1 HT
  go_wp2_with fail
  refine (sum_calls _ _ _ _ hl HT1.out hA1).mono ?_
  rintro e w2 ⟨rfl, rfl⟩
  generalize addS 0 l = s at *
  go_wp2_with fail
  have hb2 : Below w2.heap.size w2 (w2.alloc (.cells (Bs [s.toUInt8, (s >>> 8).toUInt8, (s >>> 16).toUInt8, (s >>> 24).toUInt8]).toArray 5)) := (Below.refl _ _).alloc (Nat.le_refl _) _
  have HB2 := Go.Lib.hid (below_then HB1.out hb2)
  have HT2 := Go.Lib.hid (tab_below hb2 HT1.out)
  clear hb2
  refine (add_calls s _ _ [s.toUInt8, (s >>> 8).toUInt8, (s >>> 16).toUInt8, (s >>> 24).toUInt8] _ (by simp) HT2.out (cells_new _ _ _ _)).mono ?_
  rintro e w3 ⟨rfl, rfl⟩
  rw [addS_eq, own_sum s _ _ _ _ (own_word s)]
  by_cases hbad : n < 0 ∨ 1048576 < n
  · go_wp2_with fail
    all_goals first | (exfalso; omega) | skip
    all_goals (go_ret; exact ⟨rfl, HB2.out⟩)
  obtain ⟨k, rfl⟩ := Int.eq_ofNat_of_zero_le (show 0 ≤ n by omega)
  have hk : k ≤ 1048576 := by omega
  clear hbad
  generalize w2.alloc (.cells (Bs [s.toUInt8, (s >>> 8).toUInt8, (s >>> 16).toUInt8, (s >>> 24).toUInt8]).toArray 5) = w3 at *
  have hne : (n32 1214729159 != 1214729159) = false := by decide
  go_wp2_with (first | (with_reducible refine wpList_make_row _ rfl (.tmp 37) (.tmp 37) 26 rfl 5 (.int .u8 0) 1 Tryd.underlying26 info8 rfl k rfl rfl (by omega) (by omega) ?_; intro w4 hw4 hb4))
  rw [zeros_bytes] at hw4
  have HT4 := Go.Lib.hid (tab_below hb4 HT2.out)
  have HB4 := Go.Lib.hid (below_then HB2.out hb4)
  have HC4 := Go.Lib.hid (cells_at hw4)
  clear hw4 hb4 HT2 HB2
  have c1 := sum_calls (some ⟨w3.heap.size, 0, none⟩) k (List.replicate k 0) w4 (by simp; omega) HT4.out HC4.out
  rw [List.length_replicate] at c1
  have C1 := Go.Lib.hid c1
  clear c1
  refine C1.out.mono ?_
  rintro e w5 ⟨rfl, rfl⟩
  go_wp2_with fail
  have c2 := add_calls s (some ⟨w3.heap.size, 0, none⟩) k (List.replicate k 0) w5 (by simp; omega) HT4.out HC4.out
  rw [List.length_replicate] at c2
  refine c2.mono ?_
  rintro e w6 ⟨rfl, rfl⟩
  have HS := Go.Lib.hid (show (addS s (List.replicate k 0) == joinS s (addS 0 (List.replicate k 0)) k) = true by
    rw [joinS_eq, addS_eq, addS_eq, addR_moved s _ (by simp; omega), List.length_replicate]; simp)
  generalize addS 0 (List.replicate k 0) = t at *
  generalize addS s (List.replicate k 0) = u at *
  clear c2 C1
  go_wp2_with fail
  refine (join_calls s t k _ HT4.out (by omega) (by omega)).mono ?_
  rintro e w7 ⟨rfl, hb7⟩
  have HB7 := Go.Lib.hid (below_then HB4.out hb7)
  clear hb7
  have hs := HS.out
  go_wp2
  go_ret
  exact ⟨rfl, HB7.out⟩
end Go.Proofs.YtjkocjkfedcdoaaDoor
