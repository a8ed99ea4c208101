/- The law PackForm: its walk. -/
import Derived.Test.YtjkocjkfedcdoaaDoorPackR2
import Derived.Test.YtjkocjkfedcdoaaDoorPackNum
import Derived.LaidEql
import Derived.Deep.RegionHeld3
namespace Go.Proofs.YtjkocjkfedcdoaaDoor
open Go Go.RowKit
attribute [local go_sem] IntKind.wrap_u64 c64_8 c8_64 c16_64 c32_64 c64_16 c64_32 or8 and8 shr64_7 shr64_8 shl64_8 or64 and64 n64_self n8_self beq_n64 beq_n8 bne_n8 bne_n64 bne_n64_0

/-- the two errors differ -/
def Apart (w : World) (a0 a1 : Addr) : Prop := a0 ≠ a1 ∧ (∃ c t, w.heap[a0.block]? = some (.cells c t (0, 0))) ∧ ∃ c t, w.heap[a1.block]? = some (.cells c t (0, 0))
theorem apart_below {w w1 : World} {a0 a1 : Addr} (h : Apart w a0 a1) (hb : Below w.heap.size w w1) : Apart w1 a0 a1 := by
  obtain ⟨h1, ⟨c0, t0, h2⟩, c1, t1, h3⟩ := h
  exact ⟨h1, ⟨c0, t0, below_heap hb h2⟩, c1, t1, below_heap hb h3⟩
theorem infoPtr : (Tryd.prog.info? 107).map (·.comparable) = some true := by kernel_rfl
theorem infoErr : (Tryd.prog.info? 122).map (·.size) = some 1 := by kernel_rfl
theorem eql_same (w : World) (a : Addr) : (binOp .eql 54 (.iface 107 (.pointer (some a))) (.iface 107 (.pointer (some a)))).run Tryd.prog w = .ok (.bool true) w := by
  obtain ⟨i, hi, hc⟩ := Option.map_eq_some_iff.1 infoPtr
  obtain ⟨j, hj, hs⟩ := Option.map_eq_some_iff.1 infoErr
  exact run_eql_iface_ptr_same w a Tryd.underlying54 Tryd.underlying107 hi hc hj
theorem eql_other {w : World} {a b : Addr} (h : Apart w a b) : (binOp .eql 54 (.iface 107 (.pointer (some a))) (.iface 107 (.pointer (some b)))).run Tryd.prog w = .ok (.bool false) w := by
  obtain ⟨i, hi, hc⟩ := Option.map_eq_some_iff.1 infoPtr
  obtain ⟨j, hj, hs⟩ := Option.map_eq_some_iff.1 infoErr
  obtain ⟨h1, ⟨c0, t0, h2⟩, c1, t1, h3⟩ := h
  exact run_eql_iface_ptr_other w Tryd.underlying54 Tryd.underlying107 hi hc hj (by rw [hs]; decide) h1 h2 h3

theorem neq_same (w : World) (a : Addr) : (binOp .neq 54 (.iface 107 (.pointer (some a))) (.iface 107 (.pointer (some a)))).run Tryd.prog w = .ok (.bool false) w := by
  obtain ⟨i, hi, hc⟩ := Option.map_eq_some_iff.1 infoPtr
  obtain ⟨j, hj, hs⟩ := Option.map_eq_some_iff.1 infoErr
  simp only [binOp]
  simp [Op.equal, Op.maxDepth, run_equalIn_iface_ptr_same w 9998 a Tryd.underlying54 Tryd.underlying107 hi hc hj]
theorem neq_other {w : World} {a b : Addr} (h : Apart w a b) : (binOp .neq 54 (.iface 107 (.pointer (some a))) (.iface 107 (.pointer (some b)))).run Tryd.prog w = .ok (.bool true) w := by
  obtain ⟨i, hi, hc⟩ := Option.map_eq_some_iff.1 infoPtr
  obtain ⟨j, hj, hs⟩ := Option.map_eq_some_iff.1 infoErr
  obtain ⟨h1, ⟨c0, t0, h2⟩, c1, t1, h3⟩ := h
  simp only [binOp]
  simp [Op.equal, Op.maxDepth, run_equalIn_iface_ptr_other w 9998 Tryd.underlying54 Tryd.underlying107 hi hc hj (by rw [hs]; decide) h1 h2 h3]
theorem apart_symm {w : World} {a b : Addr} (h : Apart w a b) : Apart w b a := ⟨fun e => h.1 e.symm, h.2.2, h.2.1⟩
attribute [local go_sem] neq_same
theorem alike_same (A B : Option Addr) (c d n m : Nat) (l k : List UInt8) (w : World) (q : Bool) (hl : (l == k) = q) (hn : n = l.length) (hm : m = k.length) (hA : Cells w A (Bs l)) (hB : Cells w B (Bs k)) :
    Calls Tryd.prog 27 #[.slice A n c, .slice B m d] w fun e w' => e = .returned (.bool q) ∧ w' = w := by
  subst hl hn hm
  exact alike_calls A B c d l k w hA hB

set_option maxRecDepth 100000 in
set_option maxHeartbeats 1600000 in
theorem packForm_calls (A : Option Addr) (c : Nat) (l : List UInt8) (x : UInt64) (w : World) (a0 a1 : Addr) (hE : Errs w a0 a1) (hD : Apart w a0 a1) (hl : l.length ≤ 140737488351232) (hlc : l.length ≤ c) (hA : Cells w A (Bs l)) :
    Calls Tryd.prog 10 #[.slice A l.length c, .int .u64 (n64 x)] w fun e w' => e = .returned (.bool true) ∧ Below w.heap.size w w' := by
  have HE := Go.Lib.hid hE
  have HA := Go.Lib.hid hA
  have HD := Go.Lib.hid hD
  clear hE hA hD
  go_enter Tryd.func10, Tryd.ntmps10
  go_wp2_with fail
  refine (lives_calls w a0 a1 HE.out).mono ?_
  rintro e w1 ⟨rfl, hb1⟩
  have HB1 := Go.Lib.hid hb1
  clear hb1
  go_wp2_with fail
  refine (newReader_calls A c l w1 (by omega) (cells_below HB1.out HA.out)).mono ?_
  rintro e w2 ⟨g, rfl, hr2, hb2⟩
  have HB2 := Go.Lib.hid (below_then HB1.out hb2)
  have HR2 : Hid (Rd w2 w1.heap.size g l (fv a0 a1 0)) := hr2
  have hw1 := HB1.out.size
  clear hr2 hb2 HB1
  go_wp2_with fail
  refine (number_calls w2 w1.heap.size g a0 a1 l 0 (errs_below HE.out HB2.out) HR2.out).mono ?_
  rintro e w3 ⟨rfl, hr3, ho3⟩
  have hgw : w.heap.size ≤ g := by obtain ⟨_, _, h, _⟩ := HR2.out; omega
  have HB3 := Go.Lib.hid (HB2.out.trans (ho3.below hgw))
  rw [show numberF l 0 = numberS l from rfl] at hr3 ⊢
  obtain ⟨y, rest, f, hN⟩ : ∃ y rest f, numberS l = (y, rest, f) := ⟨_, _, _, rfl⟩
  have hf := fault_le l
  rw [hN] at hr3 hf ⊢
  simp only at hr3 hf ⊢
  have HR3 := Go.Lib.hid hr3
  have HN := Go.Lib.hid hN
  have hrl : rest.length ≤ l.length := by
    rcases hf with rfl | h | h
    · have := congrArg List.length (number_form hN); rw [List.length_append] at this; omega
    · rw [(number_fault hN (by omega)).2.1]; exact Nat.le_refl _
    · rw [(number_fault hN (by omega)).2.1]; exact Nat.le_refl _
  have HE3 := Go.Lib.hid (errs_below HE.out HB3.out)
  have HD3 := Go.Lib.hid (apart_below HD.out HB3.out)
  have HA3 := Go.Lib.hid (cells_below HB3.out HA.out)
  clear hr3 ho3 hN HR2 HB2 HE HD HA
  go_wp2_with fail
  refine (left_calls w3 _ g rest _ HR3.out).mono ?_
  rintro e w4 ⟨rfl, rfl⟩
  have hwr : IntKind.i64.wrap ((l.length : Int) - (rest.length : Int)) = ((l.length - rest.length : Nat) : Int) := by rw [IntKind.wrap_i64]; omega
  obtain ⟨n, hn⟩ : ∃ n, n = l.length - rest.length := ⟨_, rfl⟩
  rw [← hn] at hwr
  have HNN := Go.Lib.hid (show n + rest.length = l.length by omega)
  have hnl0 : n ≤ l.length := by omega
  clear hn
  have d1 : decide ((n : Int) < 0) = false := decide_eq_false (by omega)
  have d2 : decide ((l.length : Int) < (n : Int)) = false := decide_eq_false (by omega)
  have d3 : decide (l.length < n) = false := decide_eq_false (by omega)
  go_wp2_with fail
  refine (err_calls w4 _ g rest _ HR3.out).mono ?_
  rintro e w5 ⟨rfl, rfl⟩
  rcases hf with rfl | rfl | rfl
  · simp only [fv]
    have hform := number_form HN.out
    have hnl : n = (numS y 9).length := by have := congrArg List.length hform; rw [List.length_append] at this; have := HNN.out; omega
    have htake : (l.take n == numS y 9) = true := by rw [hnl]; conv => lhs; rw [hform]
                                                     simp
    have hcut := run_cut_h (P := Tryd.prog) 26 5 Tryd.underlying26 size8' A l.length c n (by omega)
    have C4 : Hid (Cells w5 A (Bs (l.take n))) := by have := cells_take HA3.out n; rw [← Bs_take] at this; exact this
    clear hform hnl
    go_wp2
    go_region_held3 (fun w' => Cells w' A (Bs (l.take n)) ∧ Cells w' A (Bs (l.take n)))
      (first | exact ⟨C4.out, C4.out⟩ | exact ⟨cells_below hb5 C4.out, cells_below hb5 C4.out⟩ | (trace_state; fail))
      (first
        | (go_at_call 34; refine (putNumber_calls none 0 [] y _ (by decide) (fun h => absurd h (by simp [Bs]))).mono ?_; rintro e w5 ⟨v5, rfl, hv5, hb5⟩; obtain ⟨A5, c5, rfl, h51, h52, h53, h54⟩ := own_addr hv5; clear hv5)
        | (go_at_call 27; refine (alike_same A A5 c c5 _ _ (l.take n) ([] ++ numS y 9) _ true htake (by rw [List.length_take]; omega) (Bs_length _) (cells_below hb5 C4.out) h53).mono ?_; rintro e w8 ⟨rfl, rfl⟩))
    go_wp2
    go_ret
    exact ⟨rfl, below_then HB3.out (by first | exact hb5 | exact undrew hb5 | exact undrewN hb5)⟩
  · obtain ⟨rfl, rfl, hno⟩ := number_fault HN.out (by decide)
    have hn0 : n = 0 := by have := HNN.out; omega
    have hnb : ((n : Int) != 0) = false := by rw [hn0]; rfl
    have HNO := Go.Lib.hid hno
    have HAL := Go.Lib.hid HD3.out
    clear hno hn0
    obtain ⟨e0, e1⟩ := HE3.out
    change w5.cell? _ = some (.iface 107 (.pointer (some a0))) at e0
    change w5.cell? _ = some (.iface 107 (.pointer (some a1))) at e1
    skip
    simp only [fv] at HR3 ⊢
    go_wp2
    go_quiet ((go_at_call 33; exact Calls.quiet_of_same (err_calls _ _ g _ _ HR3.out)))
    go_wp2_with fail
    refine (putNumber_calls none 0 [] x _ (by decide) (fun h => absurd h (by simp [Bs]))).mono ?_
    rintro e w6 ⟨v6, rfl, hv6, hb6⟩
    obtain ⟨A6, c6, rfl, h61, h62, h63, h64⟩ := own_addr hv6
    have HB6 := Go.Lib.hid (below_then HB3.out (by first | exact hb6 | exact undrew hb6 | exact undrewN hb6))
    have HC6 := Go.Lib.hid (h63 : Cells w6 A6 (Bs (numS x 9)))
    have HA6 := Go.Lib.hid (cells_below (by first | exact hb6 | exact undrew hb6 | exact undrewN hb6) HA3.out)
    rw [show (Bs ([] ++ numS x 9)).length = (numS x 9).length by rw [Bs_length]; rfl] at *
    obtain ⟨m, hm⟩ : ∃ m, m = (numS x 9).length := ⟨_, rfl⟩
    rw [← hm] at h61 ⊢
    have HM := Go.Lib.hid hm
    clear hv6 hb6 h63 h64 e0 e1 hm
    by_cases hlong : rest.length < m
    · have f1 : decide ((rest.length : Int) < (m : Int)) = true := decide_eq_true (by omega)
      have f2 : decide (rest.length < m) = true := decide_eq_true hlong
      go_wp2
      go_ret
      exact ⟨rfl, HB6.out⟩
    · have f1 : decide ((rest.length : Int) < (m : Int)) = false := decide_eq_false (by omega)
      have f2 : decide (rest.length < m) = false := decide_eq_false hlong
      have hcut := run_cut_h (P := Tryd.prog) 26 5 Tryd.underlying26 size8' A rest.length c m (by omega)
      have hne : (rest.take m == numS x 9) = false := by
        rw [beq_eq_false_iff_ne, HM.out]
        exact fun h => HNO.out x (by rw [← HM.out]; omega) h.symm
      have C6 : Hid (Cells w6 A (Bs (rest.take m))) := by have := cells_take HA6.out m; rw [← Bs_take] at this; exact this
      go_wp2_with fail
      refine (alike_same A A6 c c6 _ _ (rest.take m) (numS x 9) _ false hne (by rw [List.length_take]; omega) HM.out C6.out HC6.out).mono ?_
      rintro e w8 ⟨rfl, rfl⟩
      go_wp2
      go_ret
      exact ⟨rfl, HB6.out⟩
  · obtain ⟨rfl, rfl, hno⟩ := number_fault HN.out (by decide)
    have hn0 : n = 0 := by have := HNN.out; omega
    have hnb : ((n : Int) != 0) = false := by rw [hn0]; rfl
    have HNO := Go.Lib.hid hno
    have HAL := Go.Lib.hid HD3.out
    clear hno hn0
    obtain ⟨e0, e1⟩ := HE3.out
    change w5.cell? _ = some (.iface 107 (.pointer (some a0))) at e0
    change w5.cell? _ = some (.iface 107 (.pointer (some a1))) at e1
    have hq : ∀ k, (binOp .neq 54 (.iface 107 (.pointer (some a1))) (.iface 107 (.pointer (some a0)))).run Tryd.prog (w5.drewN k) = .ok (.bool true) (w5.drewN k) := fun k => neq_other (apart_symm (show Apart (w5.drewN k) a0 a1 from HD3.out))
    have hq0 := neq_other (apart_symm HD3.out)
    simp only [fv] at HR3 ⊢
    go_wp2
    go_quiet ((go_at_call 33; exact Calls.quiet_of_same (err_calls _ _ g _ _ HR3.out)))
    go_wp2_with fail
    refine (putNumber_calls none 0 [] x _ (by decide) (fun h => absurd h (by simp [Bs]))).mono ?_
    rintro e w6 ⟨v6, rfl, hv6, hb6⟩
    obtain ⟨A6, c6, rfl, h61, h62, h63, h64⟩ := own_addr hv6
    have HB6 := Go.Lib.hid (below_then HB3.out (by first | exact hb6 | exact undrew hb6 | exact undrewN hb6))
    have HC6 := Go.Lib.hid (h63 : Cells w6 A6 (Bs (numS x 9)))
    have HA6 := Go.Lib.hid (cells_below (by first | exact hb6 | exact undrew hb6 | exact undrewN hb6) HA3.out)
    rw [show (Bs ([] ++ numS x 9)).length = (numS x 9).length by rw [Bs_length]; rfl] at *
    obtain ⟨m, hm⟩ : ∃ m, m = (numS x 9).length := ⟨_, rfl⟩
    rw [← hm] at h61 ⊢
    have HM := Go.Lib.hid hm
    clear hv6 hb6 h63 h64 e0 e1 hm
    by_cases hlong : rest.length < m
    · have f1 : decide ((rest.length : Int) < (m : Int)) = true := decide_eq_true (by omega)
      have f2 : decide (rest.length < m) = true := decide_eq_true hlong
      go_wp2
      go_ret
      exact ⟨rfl, HB6.out⟩
    · have f1 : decide ((rest.length : Int) < (m : Int)) = false := decide_eq_false (by omega)
      have f2 : decide (rest.length < m) = false := decide_eq_false hlong
      have hcut := run_cut_h (P := Tryd.prog) 26 5 Tryd.underlying26 size8' A rest.length c m (by omega)
      have hne : (rest.take m == numS x 9) = false := by
        rw [beq_eq_false_iff_ne, HM.out]
        exact fun h => HNO.out x (by rw [← HM.out]; omega) h.symm
      have C6 : Hid (Cells w6 A (Bs (rest.take m))) := by have := cells_take HA6.out m; rw [← Bs_take] at this; exact this
      go_wp2_with fail
      refine (alike_same A A6 c c6 _ _ (rest.take m) (numS x 9) _ false hne (by rw [List.length_take]; omega) HM.out C6.out HC6.out).mono ?_
      rintro e w8 ⟨rfl, rfl⟩
      go_wp2
      go_ret
      exact ⟨rfl, HB6.out⟩
end Go.Proofs.YtjkocjkfedcdoaaDoor
