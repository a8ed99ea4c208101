/- Layer 20's law package: plays: every call against the reference's. (Printed by gen_reqall.py of this session.) -/
import Derived.Test.YtonfeppenhebjaaDoorRef20F
import Derived.Test.YtonfeppenhebjaaDoorReqA
namespace Go.Proofs.YtonfeppenhebjaaDoor
open Go Go.RowKit
set_option linter.unusedVariables false
set_option linter.unusedSimpArgs false
attribute [local go_sem] IntKind.wrap_u64 c64_8 c8_64 c16_64 c32_64 c64_16 c64_32 or8 and8 n64_self n8_self beq_n64 beq_n8 bne_n8 bne_n64 beq_n64_0 bne_n64_0 wrap_b8

/-- one call's data -/
structure OpQ where
  kind : Int
  r : Req
  a : Ans
  b : List UInt8
  deriving Inhabited
theorem reqOr_le (r : Req) (k : Nat) (h : k ≤ 15) : (reqOr r k).2 ≤ 15 := by unfold reqOr; split <;> simp <;> omega
theorem ansOr_le (a : Ans) (k : Nat) (h : k ≤ 15) : (ansOr a k).2 ≤ 15 := by unfold ansOr; split <;> simp <;> omega
theorem endE_le (rest : List UInt8) (f n : Nat) : endE rest f n ≤ 15 := by
  unfold endE
  split
  · exact faultE_le f
  · split <;> omega
theorem takePol_le (rest : List UInt8) (f : Nat) : (takePolS rest f).2.1 ≤ 15 := by
  unfold takePolS takePolQ
  split
  · exact faultE_le _
  · simp only
    split
    · exact faultE_le _
    · split
      · exact faultE_le _
      · simp
theorem decOp_le (n op : Nat) (t : List UInt8 × List UInt8 × Nat) : (decOp n op t).2 ≤ 15 := by
  by_cases h : t.2.2 ≠ 0
  · unfold decOp; rw [if_pos h]; exact faultE_le _
  · unfold decOp
    rw [if_neg h]
    by_cases h1 : op = 1
    · rw [if_pos h1]
      by_cases h2 : (takePolS t.2.1 t.2.2).2.1 ≠ 0
      · simp only [if_pos h2]; exact takePol_le _ _
      · simp only [if_neg h2]; exact reqOr_le _ _ (endE_le _ _ _)
    · rw [if_neg h1]
      by_cases h2 : op = 2
      · rw [if_pos h2]; exact reqOr_le _ _ (endE_le _ _ _)
      · rw [if_neg h2]; exact reqOr_le _ _ (endE_le _ _ _)
theorem decS_le (b : List UInt8) : (decS b).2 ≤ 15 := by
  unfold decS
  generalize fixedS b 0 1 = q
  by_cases h : q.2.2 ≠ 0
  · unfold decQ; rw [if_pos h]; exact faultE_le _
  · unfold decQ
    rw [if_neg h]
    by_cases h2 : q.1.toUInt8.toNat < 1 ∨ 5 < q.1.toUInt8.toNat
    · simp only [if_pos h2]; omega
    · simp only [if_neg h2]; exact decOp_le _ _ _
theorem decRC_le (n op code : Nat) (rest : List UInt8) (f : Nat) : (decRC n op code rest f).2 ≤ 15 := by
  unfold decRC
  simp only
  by_cases h1 : op = 2 ∧ code = 1
  · rw [if_pos h1]; exact ansOr_le _ _ (endE_le _ _ _)
  · rw [if_neg h1]
    by_cases h2 : op = 2 ∧ code = 0
    · rw [if_pos h2]; exact ansOr_le _ _ (endE_le _ _ _)
    · rw [if_neg h2]
      by_cases h3 : op = 3 ∧ code = 0
      · rw [if_pos h3]
        unfold decR3
        by_cases h4 : (takePolS (fixedS rest f 8).2.1 (fixedS rest f 8).2.2).2.1 ≠ 0
        · rw [if_pos h4]; exact takePol_le _ _
        · rw [if_neg h4]; exact ansOr_le _ _ (endE_le _ _ _)
      · rw [if_neg h3]; exact ansOr_le _ _ (endE_le _ _ _)
theorem decR_le (b : List UInt8) : (decR b).2 ≤ 15 := by
  unfold decR
  generalize fixedS b 0 1 = q
  by_cases h : q.2.2 ≠ 0
  · unfold decRQ; rw [if_pos h]; exact faultE_le _
  · unfold decRQ
    rw [if_neg h]
    by_cases h2 : 5 < q.1.toUInt8.toNat
    · rw [if_pos h2]; simp
    · rw [if_neg h2]
      generalize fixedS q.2.1 0 1 = c
      unfold decR2
      by_cases h3 : c.2.2 ≠ 0
      · rw [if_pos h3]; exact faultE_le _
      · rw [if_neg h3]
        by_cases h4 : pairS (q.1.toUInt8.toNat : Int) (c.1.toUInt8.toNat : Int) = false
        · rw [if_pos h4]; simp
        · rw [if_neg h4]; exact decRC_le _ _ _ _ _
theorem encS_le (r : Req) : (encS r).2 ≤ 15 := by
  unfold encS
  split
  · simp
  · split
    · simp
    · unfold fit; split <;> simp
theorem encR_le (a : Ans) : (encR a).2 ≤ 15 := by unfold encR; split <;> simp
theorem frameS_le (b : List UInt8) : (frameS b).2 ≤ 15 := by
  unfold frameS
  split
  · simp
  · split <;> simp
theorem errsAt_e4 {w : World} {p : Nat → Addr} (h : ErrsAt w p) : E4 w p := fun k h1 h2 => (h.1 k h1 (by omega)).1
theorem same_refl (A B : Option Addr) (c d : Nat) (l : List UInt8) (w : World) (hL : l.length ≤ 9223372036854775807) (hA : Cells w A (Bs l)) (hB : Cells w B (Bs l)) :
    Calls Tryd.prog 13 #[.slice A l.length c, .slice B l.length d] w fun e w' => e = .returned (.bool true) ∧ Below w.heap.size w w' := by
  refine (same_calls A B c d l l w hL hA hB).mono ?_
  rintro e w' ⟨rfl, hb⟩
  exact ⟨by simp, hb⟩
theorem opsz : (Tryd.prog.info? 39).map (·.size) = some 22 := by kernel_rfl

set_option maxRecDepth 100000 in
set_option maxHeartbeats 3200000 in
theorem plays_1 (op : Int) (key : List UInt8) (kind : Int) (gap slack limit span units : UInt64) (aop code : Int) (at_ retry : UInt64) (k : Int) (p1 p2 p3 p4 l1 l2 l3 : UInt64) (Ab : Option Addr) (cb : Nat) (b : List UInt8) (p : Nat → Addr) (w : World) (hp : ErrsAt w p) (hkl : key.length ≤ 140737488351232) (hbl : b.length ≤ 140737488351232) (hbc : b.length ≤ cb) (hcb : cb ≤ 9223372036854775807) (hA : Cells w Ab (Bs b)) :
    Calls Tryd.prog 10 #[.agg #[.int .i64 1, .int .i64 op, .string ⟨key.toArray⟩, .int .i64 kind, .int .u64 (n64 gap), .int .u64 (n64 slack), .int .u64 (n64 limit), .int .u64 (n64 span), .int .u64 (n64 units), .int .i64 aop, .int .i64 code, .int .u64 (n64 at_), .int .u64 (n64 retry), .int .i64 k, .int .u64 (n64 p1), .int .u64 (n64 p2), .int .u64 (n64 p3), .int .u64 (n64 p4), .int .u64 (n64 l1), .int .u64 (n64 l2), .int .u64 (n64 l3), .slice Ab b.length cb]] w fun e w' => e = .returned (.bool true) ∧ Below w.heap.size w w' := by
  obtain ⟨W0, hW0⟩ : ∃ W, W = w.alloc (.cells #[.int .i64 1, .int .i64 op, .string ⟨key.toArray⟩, .int .i64 kind, .int .u64 (n64 gap), .int .u64 (n64 slack), .int .u64 (n64 limit), .int .u64 (n64 span), .int .u64 (n64 units), .int .i64 aop, .int .i64 code, .int .u64 (n64 at_), .int .u64 (n64 retry), .int .i64 k, .int .u64 (n64 p1), .int .u64 (n64 p2), .int .u64 (n64 p3), .int .u64 (n64 p4), .int .u64 (n64 l1), .int .u64 (n64 l2), .int .u64 (n64 l3), .slice Ab b.length cb] 39) := ⟨_, rfl⟩
  have hb0 : Below w.heap.size w W0 := by rw [hW0]; exact (Below.refl _ _).alloc (Nat.le_refl _) _
  have X : Hid (W0.heap[w.heap.size]? = some (.cells #[.int .i64 1, .int .i64 op, .string ⟨key.toArray⟩, .int .i64 kind, .int .u64 (n64 gap), .int .u64 (n64 slack), .int .u64 (n64 limit), .int .u64 (n64 span), .int .u64 (n64 units), .int .i64 aop, .int .i64 code, .int .u64 (n64 at_), .int .u64 (n64 retry), .int .i64 k, .int .u64 (n64 p1), .int .u64 (n64 p2), .int .u64 (n64 p3), .int .u64 (n64 p4), .int .u64 (n64 l1), .int .u64 (n64 l2), .int .u64 (n64 l3), .slice Ab b.length cb] 39 (0, 0))) := by rw [hW0]; exact heap_here w _ w.heap.size rfl
  have BL : Hid (Below w.heap.size w W0) := hb0
  have HE : Hid (ErrsAt W0 p) := errsAt_below hp hb0
  have HC : Hid (Cells W0 Ab (Bs b)) := cells_below hb0 hA
  clear hp hA hb0
  go_enter Tryd.func10, Tryd.ntmps10
  go_wp2_with fail
  rw [← hW0]
  clear hW0
  have hle := encS_le ⟨op, key, ⟨kind, gap, slack, limit, span⟩, units⟩
  refine (encode_calls ⟨op, key, ⟨kind, gap, slack, limit, span⟩, units⟩ p W0 (errsAt_e4 HE.out) (by show key.length ≤ _; omega)).mono ?_
  rintro e w1 ⟨v1, rfl, ho1, hb⟩
  have n_X := Go.Lib.hid (below_heap hb X.out)
  have n_BL : Hid (Below w.heap.size w w1) := below_then BL.out hb
  have n_HE : Hid (ErrsAt w1 p) := errsAt_below HE.out hb
  have n_HC : Hid (Cells w1 Ab (Bs b)) := cells_below hb HC.out
  clear X BL HE HC
  have X := n_X; clear n_X
  have BL := n_BL; clear n_BL
  have HE := n_HE; clear n_HE
  have HC := n_HC; clear n_HC
  have hr := rencode_calls ⟨op, key, ⟨kind, gap, slack, limit, span⟩, units⟩ w1 (by show key.length ≤ _; omega)
  generalize encS ⟨op, key, ⟨kind, gap, slack, limit, span⟩, units⟩ = d at *
  obtain ⟨L, kk⟩ := d
  simp only at ho1 hle hr ⊢
  obtain ⟨A1, c1, rfl, _, _, hc1⟩ := own_slice ho1
  rw [Bs_length] at *
  have hL : L.length ≤ 9223372036854775807 := by
    obtain ⟨A1', c1', hv, h1, h2, _⟩ := own_slice ho1
    rw [Bs_length] at h1
    omega
  have HC1 := Go.Lib.hid hc1
  have HR := Go.Lib.hid hr
  clear ho1 hc1 hb hr
  have c_X0 := blk_cell X.out 0 (.int .i64 1) rfl
  have c_X1 := blk_cell X.out 1 (.int .i64 op) rfl
  have c_X2 := blk_cell X.out 2 (.string ⟨key.toArray⟩) rfl
  have c_X3 := blk_cell X.out 3 (.int .i64 kind) rfl
  have c_X4 := blk_cell X.out 4 (.int .u64 (n64 gap)) rfl
  have c_X5 := blk_cell X.out 5 (.int .u64 (n64 slack)) rfl
  have c_X6 := blk_cell X.out 6 (.int .u64 (n64 limit)) rfl
  have c_X7 := blk_cell X.out 7 (.int .u64 (n64 span)) rfl
  have c_X8 := blk_cell X.out 8 (.int .u64 (n64 units)) rfl
  have c_X9 := blk_cell X.out 9 (.int .i64 aop) rfl
  have c_X10 := blk_cell X.out 10 (.int .i64 code) rfl
  have c_X11 := blk_cell X.out 11 (.int .u64 (n64 at_)) rfl
  have c_X12 := blk_cell X.out 12 (.int .u64 (n64 retry)) rfl
  have c_X13 := blk_cell X.out 13 (.int .i64 k) rfl
  have c_X14 := blk_cell X.out 14 (.int .u64 (n64 p1)) rfl
  have c_X15 := blk_cell X.out 15 (.int .u64 (n64 p2)) rfl
  have c_X16 := blk_cell X.out 16 (.int .u64 (n64 p3)) rfl
  have c_X17 := blk_cell X.out 17 (.int .u64 (n64 p4)) rfl
  have c_X18 := blk_cell X.out 18 (.int .u64 (n64 l1)) rfl
  have c_X19 := blk_cell X.out 19 (.int .u64 (n64 l2)) rfl
  have c_X20 := blk_cell X.out 20 (.int .u64 (n64 l3)) rfl
  have c_X21 := blk_cell X.out 21 (.slice Ab b.length cb) rfl
  have f_X := heap_frozen X.out
  go_wp2_with fail
  refine HR.out.mono ?_
  rintro e w2 ⟨v2, rfl, ho2, hb⟩
  clear c_X0 c_X1 c_X2 c_X3 c_X4 c_X5 c_X6 c_X7 c_X8 c_X9 c_X10 c_X11 c_X12 c_X13 c_X14 c_X15 c_X16 c_X17 c_X18 c_X19 c_X20 c_X21 f_X
  have n_X := Go.Lib.hid (below_heap hb X.out)
  have n_BL : Hid (Below w.heap.size w w2) := below_then BL.out hb
  have n_HE : Hid (ErrsAt w2 p) := errsAt_below HE.out hb
  have n_HC : Hid (Cells w2 Ab (Bs b)) := cells_below hb HC.out
  have n_HC1 : Hid (Cells w2 A1 (Bs L)) := cells_below hb HC1.out
  clear X BL HE HC HC1
  have X := n_X; clear n_X
  have BL := n_BL; clear n_BL
  have HE := n_HE; clear n_HE
  have HC := n_HC; clear n_HC
  have HC1 := n_HC1; clear n_HC1
  obtain ⟨A2, c2, rfl, _, _, hc2⟩ := own_slice ho2
  rw [Bs_length]
  have HC2 := Go.Lib.hid hc2
  clear ho2 hc2 hb HR
  go_wp2_with fail
  refine (is_yes w2 p kk (kk : Int) rfl hle HE.out).mono ?_
  rintro e w3 ⟨rfl, rfl⟩
  go_wp2_with fail
  refine (same_refl A1 A2 c1 c2 L w3 hL HC1.out HC2.out).mono ?_
  rintro e w4 ⟨rfl, hb⟩
  have BL4 := Go.Lib.hid (below_then BL.out hb)
  clear hb
  go_wp2
  go_ret
  exact ⟨rfl, BL4.out⟩

set_option maxRecDepth 100000 in
set_option maxHeartbeats 3200000 in
theorem plays_3 (op : Int) (key : List UInt8) (kind : Int) (gap slack limit span units : UInt64) (aop code : Int) (at_ retry : UInt64) (k : Int) (p1 p2 p3 p4 l1 l2 l3 : UInt64) (Ab : Option Addr) (cb : Nat) (b : List UInt8) (p : Nat → Addr) (w : World) (hp : ErrsAt w p) (hkl : key.length ≤ 140737488351232) (hbl : b.length ≤ 140737488351232) (hbc : b.length ≤ cb) (hcb : cb ≤ 9223372036854775807) (hA : Cells w Ab (Bs b)) :
    Calls Tryd.prog 10 #[.agg #[.int .i64 3, .int .i64 op, .string ⟨key.toArray⟩, .int .i64 kind, .int .u64 (n64 gap), .int .u64 (n64 slack), .int .u64 (n64 limit), .int .u64 (n64 span), .int .u64 (n64 units), .int .i64 aop, .int .i64 code, .int .u64 (n64 at_), .int .u64 (n64 retry), .int .i64 k, .int .u64 (n64 p1), .int .u64 (n64 p2), .int .u64 (n64 p3), .int .u64 (n64 p4), .int .u64 (n64 l1), .int .u64 (n64 l2), .int .u64 (n64 l3), .slice Ab b.length cb]] w fun e w' => e = .returned (.bool true) ∧ Below w.heap.size w w' := by
  obtain ⟨W0, hW0⟩ : ∃ W, W = w.alloc (.cells #[.int .i64 3, .int .i64 op, .string ⟨key.toArray⟩, .int .i64 kind, .int .u64 (n64 gap), .int .u64 (n64 slack), .int .u64 (n64 limit), .int .u64 (n64 span), .int .u64 (n64 units), .int .i64 aop, .int .i64 code, .int .u64 (n64 at_), .int .u64 (n64 retry), .int .i64 k, .int .u64 (n64 p1), .int .u64 (n64 p2), .int .u64 (n64 p3), .int .u64 (n64 p4), .int .u64 (n64 l1), .int .u64 (n64 l2), .int .u64 (n64 l3), .slice Ab b.length cb] 39) := ⟨_, rfl⟩
  have hb0 : Below w.heap.size w W0 := by rw [hW0]; exact (Below.refl _ _).alloc (Nat.le_refl _) _
  have X : Hid (W0.heap[w.heap.size]? = some (.cells #[.int .i64 3, .int .i64 op, .string ⟨key.toArray⟩, .int .i64 kind, .int .u64 (n64 gap), .int .u64 (n64 slack), .int .u64 (n64 limit), .int .u64 (n64 span), .int .u64 (n64 units), .int .i64 aop, .int .i64 code, .int .u64 (n64 at_), .int .u64 (n64 retry), .int .i64 k, .int .u64 (n64 p1), .int .u64 (n64 p2), .int .u64 (n64 p3), .int .u64 (n64 p4), .int .u64 (n64 l1), .int .u64 (n64 l2), .int .u64 (n64 l3), .slice Ab b.length cb] 39 (0, 0))) := by rw [hW0]; exact heap_here w _ w.heap.size rfl
  have BL : Hid (Below w.heap.size w W0) := hb0
  have HE : Hid (ErrsAt W0 p) := errsAt_below hp hb0
  have HC : Hid (Cells W0 Ab (Bs b)) := cells_below hb0 hA
  clear hp hA hb0
  go_enter Tryd.func10, Tryd.ntmps10
  go_wp2_with fail
  rw [← hW0]
  clear hW0
  have hle := encR_le ⟨aop, ⟨code, at_, retry, ⟨k, p1, p2, p3, p4⟩, ⟨l1, l2, l3⟩⟩⟩
  refine (encR_calls ⟨aop, ⟨code, at_, retry, ⟨k, p1, p2, p3, p4⟩, ⟨l1, l2, l3⟩⟩⟩ p W0 (errsAt_e4 HE.out)).mono ?_
  rintro e w1 ⟨v1, rfl, ho1, hb⟩
  have n_X := Go.Lib.hid (below_heap hb X.out)
  have n_BL : Hid (Below w.heap.size w w1) := below_then BL.out hb
  have n_HE : Hid (ErrsAt w1 p) := errsAt_below HE.out hb
  have n_HC : Hid (Cells w1 Ab (Bs b)) := cells_below hb HC.out
  clear X BL HE HC
  have X := n_X; clear n_X
  have BL := n_BL; clear n_BL
  have HE := n_HE; clear n_HE
  have HC := n_HC; clear n_HC
  have hr := rencR_calls ⟨aop, ⟨code, at_, retry, ⟨k, p1, p2, p3, p4⟩, ⟨l1, l2, l3⟩⟩⟩ w1
  generalize encR ⟨aop, ⟨code, at_, retry, ⟨k, p1, p2, p3, p4⟩, ⟨l1, l2, l3⟩⟩⟩ = d at *
  obtain ⟨L, kk⟩ := d
  simp only at ho1 hle hr ⊢
  obtain ⟨A1, c1, rfl, _, _, hc1⟩ := own_slice ho1
  rw [Bs_length] at *
  have hL : L.length ≤ 9223372036854775807 := by
    obtain ⟨A1', c1', hv, h1, h2, _⟩ := own_slice ho1
    rw [Bs_length] at h1
    omega
  have HC1 := Go.Lib.hid hc1
  have HR := Go.Lib.hid hr
  clear ho1 hc1 hb hr
  have c_X0 := blk_cell X.out 0 (.int .i64 3) rfl
  have c_X1 := blk_cell X.out 1 (.int .i64 op) rfl
  have c_X2 := blk_cell X.out 2 (.string ⟨key.toArray⟩) rfl
  have c_X3 := blk_cell X.out 3 (.int .i64 kind) rfl
  have c_X4 := blk_cell X.out 4 (.int .u64 (n64 gap)) rfl
  have c_X5 := blk_cell X.out 5 (.int .u64 (n64 slack)) rfl
  have c_X6 := blk_cell X.out 6 (.int .u64 (n64 limit)) rfl
  have c_X7 := blk_cell X.out 7 (.int .u64 (n64 span)) rfl
  have c_X8 := blk_cell X.out 8 (.int .u64 (n64 units)) rfl
  have c_X9 := blk_cell X.out 9 (.int .i64 aop) rfl
  have c_X10 := blk_cell X.out 10 (.int .i64 code) rfl
  have c_X11 := blk_cell X.out 11 (.int .u64 (n64 at_)) rfl
  have c_X12 := blk_cell X.out 12 (.int .u64 (n64 retry)) rfl
  have c_X13 := blk_cell X.out 13 (.int .i64 k) rfl
  have c_X14 := blk_cell X.out 14 (.int .u64 (n64 p1)) rfl
  have c_X15 := blk_cell X.out 15 (.int .u64 (n64 p2)) rfl
  have c_X16 := blk_cell X.out 16 (.int .u64 (n64 p3)) rfl
  have c_X17 := blk_cell X.out 17 (.int .u64 (n64 p4)) rfl
  have c_X18 := blk_cell X.out 18 (.int .u64 (n64 l1)) rfl
  have c_X19 := blk_cell X.out 19 (.int .u64 (n64 l2)) rfl
  have c_X20 := blk_cell X.out 20 (.int .u64 (n64 l3)) rfl
  have c_X21 := blk_cell X.out 21 (.slice Ab b.length cb) rfl
  have f_X := heap_frozen X.out
  go_wp2_with fail
  refine HR.out.mono ?_
  rintro e w2 ⟨v2, rfl, ho2, hb⟩
  clear c_X0 c_X1 c_X2 c_X3 c_X4 c_X5 c_X6 c_X7 c_X8 c_X9 c_X10 c_X11 c_X12 c_X13 c_X14 c_X15 c_X16 c_X17 c_X18 c_X19 c_X20 c_X21 f_X
  have n_X := Go.Lib.hid (below_heap hb X.out)
  have n_BL : Hid (Below w.heap.size w w2) := below_then BL.out hb
  have n_HE : Hid (ErrsAt w2 p) := errsAt_below HE.out hb
  have n_HC : Hid (Cells w2 Ab (Bs b)) := cells_below hb HC.out
  have n_HC1 : Hid (Cells w2 A1 (Bs L)) := cells_below hb HC1.out
  clear X BL HE HC HC1
  have X := n_X; clear n_X
  have BL := n_BL; clear n_BL
  have HE := n_HE; clear n_HE
  have HC := n_HC; clear n_HC
  have HC1 := n_HC1; clear n_HC1
  obtain ⟨A2, c2, rfl, _, _, hc2⟩ := own_slice ho2
  rw [Bs_length]
  have HC2 := Go.Lib.hid hc2
  clear ho2 hc2 hb HR
  go_wp2_with fail
  refine (is_yes w2 p kk (kk : Int) rfl hle HE.out).mono ?_
  rintro e w3 ⟨rfl, rfl⟩
  go_wp2_with fail
  refine (same_refl A1 A2 c1 c2 L w3 hL HC1.out HC2.out).mono ?_
  rintro e w4 ⟨rfl, hb⟩
  have BL4 := Go.Lib.hid (below_then BL.out hb)
  clear hb
  go_wp2
  go_ret
  exact ⟨rfl, BL4.out⟩

set_option maxRecDepth 100000 in
set_option maxHeartbeats 3200000 in
theorem plays_2 (op : Int) (key : List UInt8) (kind : Int) (gap slack limit span units : UInt64) (aop code : Int) (at_ retry : UInt64) (k : Int) (p1 p2 p3 p4 l1 l2 l3 : UInt64) (Ab : Option Addr) (cb : Nat) (b : List UInt8) (p : Nat → Addr) (w : World) (hp : ErrsAt w p) (hkl : key.length ≤ 140737488351232) (hbl : b.length ≤ 140737488351232) (hbc : b.length ≤ cb) (hcb : cb ≤ 9223372036854775807) (hA : Cells w Ab (Bs b)) :
    Calls Tryd.prog 10 #[.agg #[.int .i64 2, .int .i64 op, .string ⟨key.toArray⟩, .int .i64 kind, .int .u64 (n64 gap), .int .u64 (n64 slack), .int .u64 (n64 limit), .int .u64 (n64 span), .int .u64 (n64 units), .int .i64 aop, .int .i64 code, .int .u64 (n64 at_), .int .u64 (n64 retry), .int .i64 k, .int .u64 (n64 p1), .int .u64 (n64 p2), .int .u64 (n64 p3), .int .u64 (n64 p4), .int .u64 (n64 l1), .int .u64 (n64 l2), .int .u64 (n64 l3), .slice Ab b.length cb]] w fun e w' => e = .returned (.bool true) ∧ Below w.heap.size w w' := by
  have hb0 : Below w.heap.size w (w.alloc (.cells #[.int .i64 2, .int .i64 op, .string ⟨key.toArray⟩, .int .i64 kind, .int .u64 (n64 gap), .int .u64 (n64 slack), .int .u64 (n64 limit), .int .u64 (n64 span), .int .u64 (n64 units), .int .i64 aop, .int .i64 code, .int .u64 (n64 at_), .int .u64 (n64 retry), .int .i64 k, .int .u64 (n64 p1), .int .u64 (n64 p2), .int .u64 (n64 p3), .int .u64 (n64 p4), .int .u64 (n64 l1), .int .u64 (n64 l2), .int .u64 (n64 l3), .slice Ab b.length cb] 39)) := (Below.refl _ _).alloc (Nat.le_refl _) _
  have X : Hid ((w.alloc (.cells #[.int .i64 2, .int .i64 op, .string ⟨key.toArray⟩, .int .i64 kind, .int .u64 (n64 gap), .int .u64 (n64 slack), .int .u64 (n64 limit), .int .u64 (n64 span), .int .u64 (n64 units), .int .i64 aop, .int .i64 code, .int .u64 (n64 at_), .int .u64 (n64 retry), .int .i64 k, .int .u64 (n64 p1), .int .u64 (n64 p2), .int .u64 (n64 p3), .int .u64 (n64 p4), .int .u64 (n64 l1), .int .u64 (n64 l2), .int .u64 (n64 l3), .slice Ab b.length cb] 39)).heap[w.heap.size]? = some (.cells #[.int .i64 2, .int .i64 op, .string ⟨key.toArray⟩, .int .i64 kind, .int .u64 (n64 gap), .int .u64 (n64 slack), .int .u64 (n64 limit), .int .u64 (n64 span), .int .u64 (n64 units), .int .i64 aop, .int .i64 code, .int .u64 (n64 at_), .int .u64 (n64 retry), .int .i64 k, .int .u64 (n64 p1), .int .u64 (n64 p2), .int .u64 (n64 p3), .int .u64 (n64 p4), .int .u64 (n64 l1), .int .u64 (n64 l2), .int .u64 (n64 l3), .slice Ab b.length cb] 39 (0, 0))) := heap_here w _ w.heap.size rfl
  have BL : Hid (Below w.heap.size w (w.alloc (.cells #[.int .i64 2, .int .i64 op, .string ⟨key.toArray⟩, .int .i64 kind, .int .u64 (n64 gap), .int .u64 (n64 slack), .int .u64 (n64 limit), .int .u64 (n64 span), .int .u64 (n64 units), .int .i64 aop, .int .i64 code, .int .u64 (n64 at_), .int .u64 (n64 retry), .int .i64 k, .int .u64 (n64 p1), .int .u64 (n64 p2), .int .u64 (n64 p3), .int .u64 (n64 p4), .int .u64 (n64 l1), .int .u64 (n64 l2), .int .u64 (n64 l3), .slice Ab b.length cb] 39))) := hb0
  have HE : Hid (ErrsAt (w.alloc (.cells #[.int .i64 2, .int .i64 op, .string ⟨key.toArray⟩, .int .i64 kind, .int .u64 (n64 gap), .int .u64 (n64 slack), .int .u64 (n64 limit), .int .u64 (n64 span), .int .u64 (n64 units), .int .i64 aop, .int .i64 code, .int .u64 (n64 at_), .int .u64 (n64 retry), .int .i64 k, .int .u64 (n64 p1), .int .u64 (n64 p2), .int .u64 (n64 p3), .int .u64 (n64 p4), .int .u64 (n64 l1), .int .u64 (n64 l2), .int .u64 (n64 l3), .slice Ab b.length cb] 39)) p) := errsAt_below hp hb0
  have HC : Hid (Cells (w.alloc (.cells #[.int .i64 2, .int .i64 op, .string ⟨key.toArray⟩, .int .i64 kind, .int .u64 (n64 gap), .int .u64 (n64 slack), .int .u64 (n64 limit), .int .u64 (n64 span), .int .u64 (n64 units), .int .i64 aop, .int .i64 code, .int .u64 (n64 at_), .int .u64 (n64 retry), .int .i64 k, .int .u64 (n64 p1), .int .u64 (n64 p2), .int .u64 (n64 p3), .int .u64 (n64 p4), .int .u64 (n64 l1), .int .u64 (n64 l2), .int .u64 (n64 l3), .slice Ab b.length cb] 39)) Ab (Bs b)) := cells_below hb0 hA
  clear hp hA hb0
  go_enter Tryd.func10, Tryd.ntmps10
  have hroom : (Bs ([] : List UInt8)).length + b.length ≤ 140737488355328 := by simp [Bs]; omega
  have hbn : Below (w.heap.size + 1) (w.alloc (.cells #[.int .i64 2, .int .i64 op, .string ⟨key.toArray⟩, .int .i64 kind, .int .u64 (n64 gap), .int .u64 (n64 slack), .int .u64 (n64 limit), .int .u64 (n64 span), .int .u64 (n64 units), .int .i64 aop, .int .i64 code, .int .u64 (n64 at_), .int .u64 (n64 retry), .int .i64 k, .int .u64 (n64 p1), .int .u64 (n64 p2), .int .u64 (n64 p3), .int .u64 (n64 p4), .int .u64 (n64 l1), .int .u64 (n64 l2), .int .u64 (n64 l3), .slice Ab b.length cb] 39)) ((w.alloc (.cells #[.int .i64 2, .int .i64 op, .string ⟨key.toArray⟩, .int .i64 kind, .int .u64 (n64 gap), .int .u64 (n64 slack), .int .u64 (n64 limit), .int .u64 (n64 span), .int .u64 (n64 units), .int .i64 aop, .int .i64 code, .int .u64 (n64 at_), .int .u64 (n64 retry), .int .i64 k, .int .u64 (n64 p1), .int .u64 (n64 p2), .int .u64 (n64 p3), .int .u64 (n64 p4), .int .u64 (n64 l1), .int .u64 (n64 l2), .int .u64 (n64 l3), .slice Ab b.length cb] 39)).alloc (.cells #[] 5)) := (Below.refl _ _).alloc (by simp) _
  have HO3 := Go.Lib.hid (own_fresh (w := (w.alloc (.cells #[.int .i64 2, .int .i64 op, .string ⟨key.toArray⟩, .int .i64 kind, .int .u64 (n64 gap), .int .u64 (n64 slack), .int .u64 (n64 limit), .int .u64 (n64 span), .int .u64 (n64 units), .int .i64 aop, .int .i64 code, .int .u64 (n64 at_), .int .u64 (n64 retry), .int .i64 k, .int .u64 (n64 p1), .int .u64 (n64 p2), .int .u64 (n64 p3), .int .u64 (n64 p4), .int .u64 (n64 l1), .int .u64 (n64 l2), .int .u64 (n64 l3), .slice Ab b.length cb] 39)).alloc (.cells #[] 5)) (b := w.heap.size + 1) (g := w.heap.size + 1) (e := 5) (l := []) (heap_here (w.alloc (.cells #[.int .i64 2, .int .i64 op, .string ⟨key.toArray⟩, .int .i64 kind, .int .u64 (n64 gap), .int .u64 (n64 slack), .int .u64 (n64 limit), .int .u64 (n64 span), .int .u64 (n64 units), .int .i64 aop, .int .i64 code, .int .u64 (n64 at_), .int .u64 (n64 retry), .int .i64 k, .int .u64 (n64 p1), .int .u64 (n64 p2), .int .u64 (n64 p3), .int .u64 (n64 p4), .int .u64 (n64 l1), .int .u64 (n64 l2), .int .u64 (n64 l3), .slice Ab b.length cb] 39)) (.cells #[] 5) (w.heap.size + 1) (by simp)) (by simp) 0 rfl (by decide))
  have HB3 := Go.Lib.hid hbn
  have HC3 : Hid (Cells ((w.alloc (.cells #[.int .i64 2, .int .i64 op, .string ⟨key.toArray⟩, .int .i64 kind, .int .u64 (n64 gap), .int .u64 (n64 slack), .int .u64 (n64 limit), .int .u64 (n64 span), .int .u64 (n64 units), .int .i64 aop, .int .i64 code, .int .u64 (n64 at_), .int .u64 (n64 retry), .int .i64 k, .int .u64 (n64 p1), .int .u64 (n64 p2), .int .u64 (n64 p3), .int .u64 (n64 p4), .int .u64 (n64 l1), .int .u64 (n64 l2), .int .u64 (n64 l3), .slice Ab b.length cb] 39)).alloc (.cells #[] 5)) Ab (Bs b)) := cells_below ((Below.refl _ _).alloc (Nat.le_refl _) _) HC.out
  have hsz3 : w.heap.size + 1 ≤ ((w.alloc (.cells #[.int .i64 2, .int .i64 op, .string ⟨key.toArray⟩, .int .i64 kind, .int .u64 (n64 gap), .int .u64 (n64 slack), .int .u64 (n64 limit), .int .u64 (n64 span), .int .u64 (n64 units), .int .i64 aop, .int .i64 code, .int .u64 (n64 at_), .int .u64 (n64 retry), .int .i64 k, .int .u64 (n64 p1), .int .u64 (n64 p2), .int .u64 (n64 p3), .int .u64 (n64 p4), .int .u64 (n64 l1), .int .u64 (n64 l2), .int .u64 (n64 l3), .slice Ab b.length cb] 39)).alloc (.cells #[] 5)).heap.size := by simp
  clear hbn
  go_wp2_with (first
    | (at_builtin; (with_reducible refine wpList_append_all (s := .tmp 50) (x := .tmp 52) (t := 37) (e := 5) (z := .int .u8 0) (ht := Tryd.underlying37) (hinfo := info8) (base := w.heap.size + 1) (v := .slice (some ⟨w.heap.size + 1, 0, none⟩) 0 0) (vs := Bs []) (hown := HO3.out) (hbase := hsz3) (A := Ab) (c := cb) (l := b) (hA := HC3.out) (hroom := hroom) (hgd := rfl) (hz := ?_) (ho := ?_) (hs := ?_) (hx := ?_) (h := ?_)); rfl; rfl; rfl; rfl; intro v4 w4 hown4 hb4; have HO4 := Go.Lib.hid hown4; have HB4 := Go.Lib.hid hb4; clear hown4 hb4))
  obtain ⟨A4, c4, rfl, _, _, hc4⟩ := own_slice HO4.out
  have HSZ := Go.Lib.hid (show (w.alloc (.cells #[.int .i64 2, .int .i64 op, .string ⟨key.toArray⟩, .int .i64 kind, .int .u64 (n64 gap), .int .u64 (n64 slack), .int .u64 (n64 limit), .int .u64 (n64 span), .int .u64 (n64 units), .int .i64 aop, .int .i64 code, .int .u64 (n64 at_), .int .u64 (n64 retry), .int .i64 k, .int .u64 (n64 p1), .int .u64 (n64 p2), .int .u64 (n64 p3), .int .u64 (n64 p4), .int .u64 (n64 l1), .int .u64 (n64 l2), .int .u64 (n64 l3), .slice Ab b.length cb] 39)).heap.size = w.heap.size + 1 by simp)
  rw [show (Bs ([] : List UInt8) ++ Bs b) = Bs b by simp [Bs]] at hc4 ⊢
  rw [Bs_length]
  have hb24 : Below (w.alloc (.cells #[.int .i64 2, .int .i64 op, .string ⟨key.toArray⟩, .int .i64 kind, .int .u64 (n64 gap), .int .u64 (n64 slack), .int .u64 (n64 limit), .int .u64 (n64 span), .int .u64 (n64 units), .int .i64 aop, .int .i64 code, .int .u64 (n64 at_), .int .u64 (n64 retry), .int .i64 k, .int .u64 (n64 p1), .int .u64 (n64 p2), .int .u64 (n64 p3), .int .u64 (n64 p4), .int .u64 (n64 l1), .int .u64 (n64 l2), .int .u64 (n64 l3), .slice Ab b.length cb] 39)).heap.size (w.alloc (.cells #[.int .i64 2, .int .i64 op, .string ⟨key.toArray⟩, .int .i64 kind, .int .u64 (n64 gap), .int .u64 (n64 slack), .int .u64 (n64 limit), .int .u64 (n64 span), .int .u64 (n64 units), .int .i64 aop, .int .i64 code, .int .u64 (n64 at_), .int .u64 (n64 retry), .int .i64 k, .int .u64 (n64 p1), .int .u64 (n64 p2), .int .u64 (n64 p3), .int .u64 (n64 p4), .int .u64 (n64 l1), .int .u64 (n64 l2), .int .u64 (n64 l3), .slice Ab b.length cb] 39)) w4 := by rw [HSZ.out]; exact HB3.out.trans HB4.out
  have n_X := Go.Lib.hid (below_heap hb24 X.out)
  have n_BL : Hid (Below w.heap.size w w4) := below_then BL.out hb24
  have n_HE : Hid (ErrsAt w4 p) := errsAt_below HE.out hb24
  have n_HC : Hid (Cells w4 Ab (Bs b)) := cells_below hb24 HC.out
  clear X BL HE HC
  have X := n_X; clear n_X
  have BL := n_BL; clear n_BL
  have HE := n_HE; clear n_HE
  have HC := n_HC; clear n_HC
  have HC4 := Go.Lib.hid hc4
  clear hb24 HC3 HO3 HO4 HB3 HB4 hsz3 hc4 HSZ
  have hxw4 : w.heap.size < w4.heap.size := heap_lt X.out
  have hle := decS_le b
  refine (decode_calls A4 c4 b p w4 (errsAt_e4 HE.out) hbl HC4.out).mono ?_
  rintro e w5 ⟨rfl, hb⟩
  have n_X := Go.Lib.hid (below_heap hb X.out)
  have n_BL : Hid (Below w.heap.size w w5) := below_then BL.out hb
  have n_HE : Hid (ErrsAt w5 p) := errsAt_below HE.out hb
  have n_HC : Hid (Cells w5 Ab (Bs b)) := cells_below hb HC.out
  clear X BL HE HC
  have X := n_X; clear n_X
  have BL := n_BL; clear n_BL
  have HE := n_HE; clear n_HE
  have HC := n_HC; clear n_HC
  clear hb HC4
  have HR : Hid (∀ V : World, Cells V Ab (Bs b) → Calls Tryd.prog 19 #[.slice Ab b.length cb] V fun e w' => GaveRF V w' e (decS b)) := fun V hV => rdecode_calls Ab cb b V hbc hcb hV
  generalize decS b = d at *
  obtain ⟨⟨qop, qkey, ⟨qkind, qgap, qslack, qlimit, qspan⟩, qunits⟩, kk⟩ := d
  simp only [reqA, ansA] at hle ⊢
  have hxw5 : w.heap.size < w5.heap.size := heap_lt X.out
  have c_X0 := blk_cell X.out 0 (.int .i64 2) rfl
  have c_X1 := blk_cell X.out 1 (.int .i64 op) rfl
  have c_X2 := blk_cell X.out 2 (.string ⟨key.toArray⟩) rfl
  have c_X3 := blk_cell X.out 3 (.int .i64 kind) rfl
  have c_X4 := blk_cell X.out 4 (.int .u64 (n64 gap)) rfl
  have c_X5 := blk_cell X.out 5 (.int .u64 (n64 slack)) rfl
  have c_X6 := blk_cell X.out 6 (.int .u64 (n64 limit)) rfl
  have c_X7 := blk_cell X.out 7 (.int .u64 (n64 span)) rfl
  have c_X8 := blk_cell X.out 8 (.int .u64 (n64 units)) rfl
  have c_X9 := blk_cell X.out 9 (.int .i64 aop) rfl
  have c_X10 := blk_cell X.out 10 (.int .i64 code) rfl
  have c_X11 := blk_cell X.out 11 (.int .u64 (n64 at_)) rfl
  have c_X12 := blk_cell X.out 12 (.int .u64 (n64 retry)) rfl
  have c_X13 := blk_cell X.out 13 (.int .i64 k) rfl
  have c_X14 := blk_cell X.out 14 (.int .u64 (n64 p1)) rfl
  have c_X15 := blk_cell X.out 15 (.int .u64 (n64 p2)) rfl
  have c_X16 := blk_cell X.out 16 (.int .u64 (n64 p3)) rfl
  have c_X17 := blk_cell X.out 17 (.int .u64 (n64 p4)) rfl
  have c_X18 := blk_cell X.out 18 (.int .u64 (n64 l1)) rfl
  have c_X19 := blk_cell X.out 19 (.int .u64 (n64 l2)) rfl
  have c_X20 := blk_cell X.out 20 (.int .u64 (n64 l3)) rfl
  have c_X21 := blk_cell X.out 21 (.slice Ab b.length cb) rfl
  have f_X := heap_frozen X.out
  go_wp2_with fail
  clear c_X0 c_X1 c_X2 c_X3 c_X4 c_X5 c_X6 c_X7 c_X8 c_X9 c_X10 c_X11 c_X12 c_X13 c_X14 c_X15 c_X16 c_X17 c_X18 c_X19 c_X20 c_X21 f_X
  obtain ⟨w6, hnew⟩ : ∃ W, W = (w5.alloc (.cells #[.int .i64 qop, .string ⟨qkey.toArray⟩, .int .i64 qkind, .int .u64 (n64 qgap), .int .u64 (n64 qslack), .int .u64 (n64 qlimit), .int .u64 (n64 qspan), .int .u64 (n64 qunits)] 30)) := ⟨_, rfl⟩
  have n_X : Hid (w6.heap[w.heap.size]? = some (.cells #[.int .i64 2, .int .i64 op, .string ⟨key.toArray⟩, .int .i64 kind, .int .u64 (n64 gap), .int .u64 (n64 slack), .int .u64 (n64 limit), .int .u64 (n64 span), .int .u64 (n64 units), .int .i64 aop, .int .i64 code, .int .u64 (n64 at_), .int .u64 (n64 retry), .int .i64 k, .int .u64 (n64 p1), .int .u64 (n64 p2), .int .u64 (n64 p3), .int .u64 (n64 p4), .int .u64 (n64 l1), .int .u64 (n64 l2), .int .u64 (n64 l3), .slice Ab b.length cb] 39 (0, 0))) := by rw [hnew]; exact (alloc_heap X.out _)
  have R : Hid (w6.heap[w5.heap.size]? = some (.cells #[.int .i64 qop, .string ⟨qkey.toArray⟩, .int .i64 qkind, .int .u64 (n64 qgap), .int .u64 (n64 qslack), .int .u64 (n64 qlimit), .int .u64 (n64 qspan), .int .u64 (n64 qunits)] 30 (0, 0))) := by rw [hnew]; exact heap_here _ _ _ rfl
  have n_BL : Hid (Below w.heap.size w w6) := by rw [hnew]; exact below_alloc (BL.out) (Nat.le_refl _)
  have n_HE : Hid (ErrsAt w6 p) := by rw [hnew]; exact errsAt_below (HE.out) ((Below.refl _ _).alloc (Nat.le_refl _) _)
  have n_HC : Hid (Cells w6 Ab (Bs b)) := by rw [hnew]; exact cells_below ((Below.refl _ _).alloc (Nat.le_refl _) _) (HC.out)
  rw [← hnew]
  clear hnew X BL HE HC
  have X := n_X; clear n_X
  have BL := n_BL; clear n_BL
  have HE := n_HE; clear n_HE
  have HC := n_HC; clear n_HC
  refine (HR.out w6 HC.out).mono ?_
  rintro e w7 ⟨rfl, hb⟩
  simp only [reqA, ansA]
  have n_X := Go.Lib.hid (below_heap hb X.out)
  have n_R := Go.Lib.hid (below_heap hb R.out)
  have n_BL : Hid (Below w.heap.size w w7) := below_then BL.out hb
  have n_HE : Hid (ErrsAt w7 p) := errsAt_below HE.out hb
  have n_HC : Hid (Cells w7 Ab (Bs b)) := cells_below hb HC.out
  clear X R BL HE HC
  have X := n_X; clear n_X
  have R := n_R; clear n_R
  have BL := n_BL; clear n_BL
  have HE := n_HE; clear n_HE
  have HC := n_HC; clear n_HC
  clear hb HR
  have hn7 : w5.heap.size < w7.heap.size := heap_lt R.out
  have c_R0 := blk_cell R.out 0 (.int .i64 qop) rfl
  have c_R1 := blk_cell R.out 1 (.string ⟨qkey.toArray⟩) rfl
  have c_R2 := blk_cell R.out 2 (.int .i64 qkind) rfl
  have c_R3 := blk_cell R.out 3 (.int .u64 (n64 qgap)) rfl
  have c_R4 := blk_cell R.out 4 (.int .u64 (n64 qslack)) rfl
  have c_R5 := blk_cell R.out 5 (.int .u64 (n64 qlimit)) rfl
  have c_R6 := blk_cell R.out 6 (.int .u64 (n64 qspan)) rfl
  have c_R7 := blk_cell R.out 7 (.int .u64 (n64 qunits)) rfl
  have f_R := heap_frozen R.out
  go_wp2_with fail
  clear c_R0 c_R1 c_R2 c_R3 c_R4 c_R5 c_R6 c_R7 f_R
  obtain ⟨w8, hnew⟩ : ∃ W, W = (w7.alloc (.cells #[.int .i64 qop, .string ⟨qkey.toArray⟩, .int .i64 qkind, .int .u64 (n64 qgap), .int .u64 (n64 qslack), .int .u64 (n64 qlimit), .int .u64 (n64 qspan), .int .u64 (n64 qunits)] 30)) := ⟨_, rfl⟩
  have n_X : Hid (w8.heap[w.heap.size]? = some (.cells #[.int .i64 2, .int .i64 op, .string ⟨key.toArray⟩, .int .i64 kind, .int .u64 (n64 gap), .int .u64 (n64 slack), .int .u64 (n64 limit), .int .u64 (n64 span), .int .u64 (n64 units), .int .i64 aop, .int .i64 code, .int .u64 (n64 at_), .int .u64 (n64 retry), .int .i64 k, .int .u64 (n64 p1), .int .u64 (n64 p2), .int .u64 (n64 p3), .int .u64 (n64 p4), .int .u64 (n64 l1), .int .u64 (n64 l2), .int .u64 (n64 l3), .slice Ab b.length cb] 39 (0, 0))) := by rw [hnew]; exact (alloc_heap X.out _)
  have n_R : Hid (w8.heap[w5.heap.size]? = some (.cells #[.int .i64 qop, .string ⟨qkey.toArray⟩, .int .i64 qkind, .int .u64 (n64 qgap), .int .u64 (n64 qslack), .int .u64 (n64 qlimit), .int .u64 (n64 qspan), .int .u64 (n64 qunits)] 30 (0, 0))) := by rw [hnew]; exact (alloc_heap R.out _)
  have S : Hid (w8.heap[w7.heap.size]? = some (.cells #[.int .i64 qop, .string ⟨qkey.toArray⟩, .int .i64 qkind, .int .u64 (n64 qgap), .int .u64 (n64 qslack), .int .u64 (n64 qlimit), .int .u64 (n64 qspan), .int .u64 (n64 qunits)] 30 (0, 0))) := by rw [hnew]; exact heap_here _ _ _ rfl
  have n_BL : Hid (Below w.heap.size w w8) := by rw [hnew]; exact below_alloc (BL.out) (Nat.le_refl _)
  have n_HE : Hid (ErrsAt w8 p) := by rw [hnew]; exact errsAt_below (HE.out) ((Below.refl _ _).alloc (Nat.le_refl _) _)
  have n_HC : Hid (Cells w8 Ab (Bs b)) := by rw [hnew]; exact cells_below ((Below.refl _ _).alloc (Nat.le_refl _) _) (HC.out)
  rw [← hnew]
  clear hnew X R BL HE HC
  have X := n_X; clear n_X
  have R := n_R; clear n_R
  have BL := n_BL; clear n_BL
  have HE := n_HE; clear n_HE
  have HC := n_HC; clear n_HC
  have hq : ∀ V : World, (binOp .eql 30 (.agg #[.int .i64 qop, .string ⟨qkey.toArray⟩, .int .i64 qkind, .int .u64 (n64 qgap), .int .u64 (n64 qslack), .int .u64 (n64 qlimit), .int .u64 (n64 qspan), .int .u64 (n64 qunits)]) (.agg #[.int .i64 qop, .string ⟨qkey.toArray⟩, .int .i64 qkind, .int .u64 (n64 qgap), .int .u64 (n64 qslack), .int .u64 (n64 qlimit), .int .u64 (n64 qspan), .int .u64 (n64 qunits)])).run Tryd.prog V = .ok (.bool true) V := fun V => by have h := eql_req ⟨qop, qkey, ⟨qkind, qgap, qslack, qlimit, qspan⟩, qunits⟩ ⟨qop, qkey, ⟨qkind, qgap, qslack, qlimit, qspan⟩, qunits⟩ V; rwa [beq_self_eq_true] at h
  have c_R0 := blk_cell R.out 0 (.int .i64 qop) rfl
  have c_R1 := blk_cell R.out 1 (.string ⟨qkey.toArray⟩) rfl
  have c_R2 := blk_cell R.out 2 (.int .i64 qkind) rfl
  have c_R3 := blk_cell R.out 3 (.int .u64 (n64 qgap)) rfl
  have c_R4 := blk_cell R.out 4 (.int .u64 (n64 qslack)) rfl
  have c_R5 := blk_cell R.out 5 (.int .u64 (n64 qlimit)) rfl
  have c_R6 := blk_cell R.out 6 (.int .u64 (n64 qspan)) rfl
  have c_R7 := blk_cell R.out 7 (.int .u64 (n64 qunits)) rfl
  have f_R := heap_frozen R.out
  have c_S0 := blk_cell S.out 0 (.int .i64 qop) rfl
  have c_S1 := blk_cell S.out 1 (.string ⟨qkey.toArray⟩) rfl
  have c_S2 := blk_cell S.out 2 (.int .i64 qkind) rfl
  have c_S3 := blk_cell S.out 3 (.int .u64 (n64 qgap)) rfl
  have c_S4 := blk_cell S.out 4 (.int .u64 (n64 qslack)) rfl
  have c_S5 := blk_cell S.out 5 (.int .u64 (n64 qlimit)) rfl
  have c_S6 := blk_cell S.out 6 (.int .u64 (n64 qspan)) rfl
  have c_S7 := blk_cell S.out 7 (.int .u64 (n64 qunits)) rfl
  have f_S := heap_frozen S.out
  refine (is_yes w8 p kk (kk : Int) rfl hle HE.out).mono ?_
  rintro e w9 ⟨rfl, rfl⟩
  go_wp2
  go_ret
  exact ⟨rfl, BL.out⟩

set_option maxRecDepth 100000 in
set_option maxHeartbeats 3200000 in
theorem plays_4 (op : Int) (key : List UInt8) (kind : Int) (gap slack limit span units : UInt64) (aop code : Int) (at_ retry : UInt64) (k : Int) (p1 p2 p3 p4 l1 l2 l3 : UInt64) (Ab : Option Addr) (cb : Nat) (b : List UInt8) (p : Nat → Addr) (w : World) (hp : ErrsAt w p) (hkl : key.length ≤ 140737488351232) (hbl : b.length ≤ 140737488351232) (hbc : b.length ≤ cb) (hcb : cb ≤ 9223372036854775807) (hA : Cells w Ab (Bs b)) :
    Calls Tryd.prog 10 #[.agg #[.int .i64 4, .int .i64 op, .string ⟨key.toArray⟩, .int .i64 kind, .int .u64 (n64 gap), .int .u64 (n64 slack), .int .u64 (n64 limit), .int .u64 (n64 span), .int .u64 (n64 units), .int .i64 aop, .int .i64 code, .int .u64 (n64 at_), .int .u64 (n64 retry), .int .i64 k, .int .u64 (n64 p1), .int .u64 (n64 p2), .int .u64 (n64 p3), .int .u64 (n64 p4), .int .u64 (n64 l1), .int .u64 (n64 l2), .int .u64 (n64 l3), .slice Ab b.length cb]] w fun e w' => e = .returned (.bool true) ∧ Below w.heap.size w w' := by
  have hb0 : Below w.heap.size w (w.alloc (.cells #[.int .i64 4, .int .i64 op, .string ⟨key.toArray⟩, .int .i64 kind, .int .u64 (n64 gap), .int .u64 (n64 slack), .int .u64 (n64 limit), .int .u64 (n64 span), .int .u64 (n64 units), .int .i64 aop, .int .i64 code, .int .u64 (n64 at_), .int .u64 (n64 retry), .int .i64 k, .int .u64 (n64 p1), .int .u64 (n64 p2), .int .u64 (n64 p3), .int .u64 (n64 p4), .int .u64 (n64 l1), .int .u64 (n64 l2), .int .u64 (n64 l3), .slice Ab b.length cb] 39)) := (Below.refl _ _).alloc (Nat.le_refl _) _
  have X : Hid ((w.alloc (.cells #[.int .i64 4, .int .i64 op, .string ⟨key.toArray⟩, .int .i64 kind, .int .u64 (n64 gap), .int .u64 (n64 slack), .int .u64 (n64 limit), .int .u64 (n64 span), .int .u64 (n64 units), .int .i64 aop, .int .i64 code, .int .u64 (n64 at_), .int .u64 (n64 retry), .int .i64 k, .int .u64 (n64 p1), .int .u64 (n64 p2), .int .u64 (n64 p3), .int .u64 (n64 p4), .int .u64 (n64 l1), .int .u64 (n64 l2), .int .u64 (n64 l3), .slice Ab b.length cb] 39)).heap[w.heap.size]? = some (.cells #[.int .i64 4, .int .i64 op, .string ⟨key.toArray⟩, .int .i64 kind, .int .u64 (n64 gap), .int .u64 (n64 slack), .int .u64 (n64 limit), .int .u64 (n64 span), .int .u64 (n64 units), .int .i64 aop, .int .i64 code, .int .u64 (n64 at_), .int .u64 (n64 retry), .int .i64 k, .int .u64 (n64 p1), .int .u64 (n64 p2), .int .u64 (n64 p3), .int .u64 (n64 p4), .int .u64 (n64 l1), .int .u64 (n64 l2), .int .u64 (n64 l3), .slice Ab b.length cb] 39 (0, 0))) := heap_here w _ w.heap.size rfl
  have BL : Hid (Below w.heap.size w (w.alloc (.cells #[.int .i64 4, .int .i64 op, .string ⟨key.toArray⟩, .int .i64 kind, .int .u64 (n64 gap), .int .u64 (n64 slack), .int .u64 (n64 limit), .int .u64 (n64 span), .int .u64 (n64 units), .int .i64 aop, .int .i64 code, .int .u64 (n64 at_), .int .u64 (n64 retry), .int .i64 k, .int .u64 (n64 p1), .int .u64 (n64 p2), .int .u64 (n64 p3), .int .u64 (n64 p4), .int .u64 (n64 l1), .int .u64 (n64 l2), .int .u64 (n64 l3), .slice Ab b.length cb] 39))) := hb0
  have HE : Hid (ErrsAt (w.alloc (.cells #[.int .i64 4, .int .i64 op, .string ⟨key.toArray⟩, .int .i64 kind, .int .u64 (n64 gap), .int .u64 (n64 slack), .int .u64 (n64 limit), .int .u64 (n64 span), .int .u64 (n64 units), .int .i64 aop, .int .i64 code, .int .u64 (n64 at_), .int .u64 (n64 retry), .int .i64 k, .int .u64 (n64 p1), .int .u64 (n64 p2), .int .u64 (n64 p3), .int .u64 (n64 p4), .int .u64 (n64 l1), .int .u64 (n64 l2), .int .u64 (n64 l3), .slice Ab b.length cb] 39)) p) := errsAt_below hp hb0
  have HC : Hid (Cells (w.alloc (.cells #[.int .i64 4, .int .i64 op, .string ⟨key.toArray⟩, .int .i64 kind, .int .u64 (n64 gap), .int .u64 (n64 slack), .int .u64 (n64 limit), .int .u64 (n64 span), .int .u64 (n64 units), .int .i64 aop, .int .i64 code, .int .u64 (n64 at_), .int .u64 (n64 retry), .int .i64 k, .int .u64 (n64 p1), .int .u64 (n64 p2), .int .u64 (n64 p3), .int .u64 (n64 p4), .int .u64 (n64 l1), .int .u64 (n64 l2), .int .u64 (n64 l3), .slice Ab b.length cb] 39)) Ab (Bs b)) := cells_below hb0 hA
  clear hp hA hb0
  go_enter Tryd.func10, Tryd.ntmps10
  have hroom : (Bs ([] : List UInt8)).length + b.length ≤ 140737488355328 := by simp [Bs]; omega
  have hbn : Below (w.heap.size + 1) (w.alloc (.cells #[.int .i64 4, .int .i64 op, .string ⟨key.toArray⟩, .int .i64 kind, .int .u64 (n64 gap), .int .u64 (n64 slack), .int .u64 (n64 limit), .int .u64 (n64 span), .int .u64 (n64 units), .int .i64 aop, .int .i64 code, .int .u64 (n64 at_), .int .u64 (n64 retry), .int .i64 k, .int .u64 (n64 p1), .int .u64 (n64 p2), .int .u64 (n64 p3), .int .u64 (n64 p4), .int .u64 (n64 l1), .int .u64 (n64 l2), .int .u64 (n64 l3), .slice Ab b.length cb] 39)) ((w.alloc (.cells #[.int .i64 4, .int .i64 op, .string ⟨key.toArray⟩, .int .i64 kind, .int .u64 (n64 gap), .int .u64 (n64 slack), .int .u64 (n64 limit), .int .u64 (n64 span), .int .u64 (n64 units), .int .i64 aop, .int .i64 code, .int .u64 (n64 at_), .int .u64 (n64 retry), .int .i64 k, .int .u64 (n64 p1), .int .u64 (n64 p2), .int .u64 (n64 p3), .int .u64 (n64 p4), .int .u64 (n64 l1), .int .u64 (n64 l2), .int .u64 (n64 l3), .slice Ab b.length cb] 39)).alloc (.cells #[] 5)) := (Below.refl _ _).alloc (by simp) _
  have HO3 := Go.Lib.hid (own_fresh (w := (w.alloc (.cells #[.int .i64 4, .int .i64 op, .string ⟨key.toArray⟩, .int .i64 kind, .int .u64 (n64 gap), .int .u64 (n64 slack), .int .u64 (n64 limit), .int .u64 (n64 span), .int .u64 (n64 units), .int .i64 aop, .int .i64 code, .int .u64 (n64 at_), .int .u64 (n64 retry), .int .i64 k, .int .u64 (n64 p1), .int .u64 (n64 p2), .int .u64 (n64 p3), .int .u64 (n64 p4), .int .u64 (n64 l1), .int .u64 (n64 l2), .int .u64 (n64 l3), .slice Ab b.length cb] 39)).alloc (.cells #[] 5)) (b := w.heap.size + 1) (g := w.heap.size + 1) (e := 5) (l := []) (heap_here (w.alloc (.cells #[.int .i64 4, .int .i64 op, .string ⟨key.toArray⟩, .int .i64 kind, .int .u64 (n64 gap), .int .u64 (n64 slack), .int .u64 (n64 limit), .int .u64 (n64 span), .int .u64 (n64 units), .int .i64 aop, .int .i64 code, .int .u64 (n64 at_), .int .u64 (n64 retry), .int .i64 k, .int .u64 (n64 p1), .int .u64 (n64 p2), .int .u64 (n64 p3), .int .u64 (n64 p4), .int .u64 (n64 l1), .int .u64 (n64 l2), .int .u64 (n64 l3), .slice Ab b.length cb] 39)) (.cells #[] 5) (w.heap.size + 1) (by simp)) (by simp) 0 rfl (by decide))
  have HB3 := Go.Lib.hid hbn
  have HC3 : Hid (Cells ((w.alloc (.cells #[.int .i64 4, .int .i64 op, .string ⟨key.toArray⟩, .int .i64 kind, .int .u64 (n64 gap), .int .u64 (n64 slack), .int .u64 (n64 limit), .int .u64 (n64 span), .int .u64 (n64 units), .int .i64 aop, .int .i64 code, .int .u64 (n64 at_), .int .u64 (n64 retry), .int .i64 k, .int .u64 (n64 p1), .int .u64 (n64 p2), .int .u64 (n64 p3), .int .u64 (n64 p4), .int .u64 (n64 l1), .int .u64 (n64 l2), .int .u64 (n64 l3), .slice Ab b.length cb] 39)).alloc (.cells #[] 5)) Ab (Bs b)) := cells_below ((Below.refl _ _).alloc (Nat.le_refl _) _) HC.out
  have hsz3 : w.heap.size + 1 ≤ ((w.alloc (.cells #[.int .i64 4, .int .i64 op, .string ⟨key.toArray⟩, .int .i64 kind, .int .u64 (n64 gap), .int .u64 (n64 slack), .int .u64 (n64 limit), .int .u64 (n64 span), .int .u64 (n64 units), .int .i64 aop, .int .i64 code, .int .u64 (n64 at_), .int .u64 (n64 retry), .int .i64 k, .int .u64 (n64 p1), .int .u64 (n64 p2), .int .u64 (n64 p3), .int .u64 (n64 p4), .int .u64 (n64 l1), .int .u64 (n64 l2), .int .u64 (n64 l3), .slice Ab b.length cb] 39)).alloc (.cells #[] 5)).heap.size := by simp
  clear hbn
  go_wp2_with (first
    | (at_builtin; (with_reducible refine wpList_append_all (s := .tmp 96) (x := .tmp 98) (t := 37) (e := 5) (z := .int .u8 0) (ht := Tryd.underlying37) (hinfo := info8) (base := w.heap.size + 1) (v := .slice (some ⟨w.heap.size + 1, 0, none⟩) 0 0) (vs := Bs []) (hown := HO3.out) (hbase := hsz3) (A := Ab) (c := cb) (l := b) (hA := HC3.out) (hroom := hroom) (hgd := rfl) (hz := ?_) (ho := ?_) (hs := ?_) (hx := ?_) (h := ?_)); rfl; rfl; rfl; rfl; intro v4 w4 hown4 hb4; have HO4 := Go.Lib.hid hown4; have HB4 := Go.Lib.hid hb4; clear hown4 hb4))
  obtain ⟨A4, c4, rfl, _, _, hc4⟩ := own_slice HO4.out
  have HSZ := Go.Lib.hid (show (w.alloc (.cells #[.int .i64 4, .int .i64 op, .string ⟨key.toArray⟩, .int .i64 kind, .int .u64 (n64 gap), .int .u64 (n64 slack), .int .u64 (n64 limit), .int .u64 (n64 span), .int .u64 (n64 units), .int .i64 aop, .int .i64 code, .int .u64 (n64 at_), .int .u64 (n64 retry), .int .i64 k, .int .u64 (n64 p1), .int .u64 (n64 p2), .int .u64 (n64 p3), .int .u64 (n64 p4), .int .u64 (n64 l1), .int .u64 (n64 l2), .int .u64 (n64 l3), .slice Ab b.length cb] 39)).heap.size = w.heap.size + 1 by simp)
  rw [show (Bs ([] : List UInt8) ++ Bs b) = Bs b by simp [Bs]] at hc4 ⊢
  rw [Bs_length]
  have hb24 : Below (w.alloc (.cells #[.int .i64 4, .int .i64 op, .string ⟨key.toArray⟩, .int .i64 kind, .int .u64 (n64 gap), .int .u64 (n64 slack), .int .u64 (n64 limit), .int .u64 (n64 span), .int .u64 (n64 units), .int .i64 aop, .int .i64 code, .int .u64 (n64 at_), .int .u64 (n64 retry), .int .i64 k, .int .u64 (n64 p1), .int .u64 (n64 p2), .int .u64 (n64 p3), .int .u64 (n64 p4), .int .u64 (n64 l1), .int .u64 (n64 l2), .int .u64 (n64 l3), .slice Ab b.length cb] 39)).heap.size (w.alloc (.cells #[.int .i64 4, .int .i64 op, .string ⟨key.toArray⟩, .int .i64 kind, .int .u64 (n64 gap), .int .u64 (n64 slack), .int .u64 (n64 limit), .int .u64 (n64 span), .int .u64 (n64 units), .int .i64 aop, .int .i64 code, .int .u64 (n64 at_), .int .u64 (n64 retry), .int .i64 k, .int .u64 (n64 p1), .int .u64 (n64 p2), .int .u64 (n64 p3), .int .u64 (n64 p4), .int .u64 (n64 l1), .int .u64 (n64 l2), .int .u64 (n64 l3), .slice Ab b.length cb] 39)) w4 := by rw [HSZ.out]; exact HB3.out.trans HB4.out
  have n_X := Go.Lib.hid (below_heap hb24 X.out)
  have n_BL : Hid (Below w.heap.size w w4) := below_then BL.out hb24
  have n_HE : Hid (ErrsAt w4 p) := errsAt_below HE.out hb24
  have n_HC : Hid (Cells w4 Ab (Bs b)) := cells_below hb24 HC.out
  clear X BL HE HC
  have X := n_X; clear n_X
  have BL := n_BL; clear n_BL
  have HE := n_HE; clear n_HE
  have HC := n_HC; clear n_HC
  have HC4 := Go.Lib.hid hc4
  clear hb24 HC3 HO3 HO4 HB3 HB4 hsz3 hc4 HSZ
  have hxw4 : w.heap.size < w4.heap.size := heap_lt X.out
  have hle := decR_le b
  refine (decR_calls A4 c4 b p w4 (errsAt_e4 HE.out) hbl HC4.out).mono ?_
  rintro e w5 ⟨rfl, hb⟩
  have n_X := Go.Lib.hid (below_heap hb X.out)
  have n_BL : Hid (Below w.heap.size w w5) := below_then BL.out hb
  have n_HE : Hid (ErrsAt w5 p) := errsAt_below HE.out hb
  have n_HC : Hid (Cells w5 Ab (Bs b)) := cells_below hb HC.out
  clear X BL HE HC
  have X := n_X; clear n_X
  have BL := n_BL; clear n_BL
  have HE := n_HE; clear n_HE
  have HC := n_HC; clear n_HC
  clear hb HC4
  have HR : Hid (∀ V : World, Cells V Ab (Bs b) → Calls Tryd.prog 21 #[.slice Ab b.length cb] V fun e w' => GaveAF V w' e (decR b)) := fun V hV => rdecR_calls Ab cb b V hbc hcb hV
  generalize decR b = d at *
  obtain ⟨⟨qaop, ⟨qcode, qat_, qretry, ⟨qk, qp1, qp2, qp3, qp4⟩, ⟨ql1, ql2, ql3⟩⟩⟩, kk⟩ := d
  simp only [reqA, ansA] at hle ⊢
  have hxw5 : w.heap.size < w5.heap.size := heap_lt X.out
  have c_X0 := blk_cell X.out 0 (.int .i64 4) rfl
  have c_X1 := blk_cell X.out 1 (.int .i64 op) rfl
  have c_X2 := blk_cell X.out 2 (.string ⟨key.toArray⟩) rfl
  have c_X3 := blk_cell X.out 3 (.int .i64 kind) rfl
  have c_X4 := blk_cell X.out 4 (.int .u64 (n64 gap)) rfl
  have c_X5 := blk_cell X.out 5 (.int .u64 (n64 slack)) rfl
  have c_X6 := blk_cell X.out 6 (.int .u64 (n64 limit)) rfl
  have c_X7 := blk_cell X.out 7 (.int .u64 (n64 span)) rfl
  have c_X8 := blk_cell X.out 8 (.int .u64 (n64 units)) rfl
  have c_X9 := blk_cell X.out 9 (.int .i64 aop) rfl
  have c_X10 := blk_cell X.out 10 (.int .i64 code) rfl
  have c_X11 := blk_cell X.out 11 (.int .u64 (n64 at_)) rfl
  have c_X12 := blk_cell X.out 12 (.int .u64 (n64 retry)) rfl
  have c_X13 := blk_cell X.out 13 (.int .i64 k) rfl
  have c_X14 := blk_cell X.out 14 (.int .u64 (n64 p1)) rfl
  have c_X15 := blk_cell X.out 15 (.int .u64 (n64 p2)) rfl
  have c_X16 := blk_cell X.out 16 (.int .u64 (n64 p3)) rfl
  have c_X17 := blk_cell X.out 17 (.int .u64 (n64 p4)) rfl
  have c_X18 := blk_cell X.out 18 (.int .u64 (n64 l1)) rfl
  have c_X19 := blk_cell X.out 19 (.int .u64 (n64 l2)) rfl
  have c_X20 := blk_cell X.out 20 (.int .u64 (n64 l3)) rfl
  have c_X21 := blk_cell X.out 21 (.slice Ab b.length cb) rfl
  have f_X := heap_frozen X.out
  go_wp2_with fail
  clear c_X0 c_X1 c_X2 c_X3 c_X4 c_X5 c_X6 c_X7 c_X8 c_X9 c_X10 c_X11 c_X12 c_X13 c_X14 c_X15 c_X16 c_X17 c_X18 c_X19 c_X20 c_X21 f_X
  obtain ⟨w6, hnew⟩ : ∃ W, W = (w5.alloc (.cells #[.int .i64 qaop, .int .i64 qcode, .int .u64 (n64 qat_), .int .u64 (n64 qretry), .int .i64 qk, .int .u64 (n64 qp1), .int .u64 (n64 qp2), .int .u64 (n64 qp3), .int .u64 (n64 qp4), .int .u64 (n64 ql1), .int .u64 (n64 ql2), .int .u64 (n64 ql3)] 36)) := ⟨_, rfl⟩
  have n_X : Hid (w6.heap[w.heap.size]? = some (.cells #[.int .i64 4, .int .i64 op, .string ⟨key.toArray⟩, .int .i64 kind, .int .u64 (n64 gap), .int .u64 (n64 slack), .int .u64 (n64 limit), .int .u64 (n64 span), .int .u64 (n64 units), .int .i64 aop, .int .i64 code, .int .u64 (n64 at_), .int .u64 (n64 retry), .int .i64 k, .int .u64 (n64 p1), .int .u64 (n64 p2), .int .u64 (n64 p3), .int .u64 (n64 p4), .int .u64 (n64 l1), .int .u64 (n64 l2), .int .u64 (n64 l3), .slice Ab b.length cb] 39 (0, 0))) := by rw [hnew]; exact (alloc_heap X.out _)
  have R : Hid (w6.heap[w5.heap.size]? = some (.cells #[.int .i64 qaop, .int .i64 qcode, .int .u64 (n64 qat_), .int .u64 (n64 qretry), .int .i64 qk, .int .u64 (n64 qp1), .int .u64 (n64 qp2), .int .u64 (n64 qp3), .int .u64 (n64 qp4), .int .u64 (n64 ql1), .int .u64 (n64 ql2), .int .u64 (n64 ql3)] 36 (0, 0))) := by rw [hnew]; exact heap_here _ _ _ rfl
  have n_BL : Hid (Below w.heap.size w w6) := by rw [hnew]; exact below_alloc (BL.out) (Nat.le_refl _)
  have n_HE : Hid (ErrsAt w6 p) := by rw [hnew]; exact errsAt_below (HE.out) ((Below.refl _ _).alloc (Nat.le_refl _) _)
  have n_HC : Hid (Cells w6 Ab (Bs b)) := by rw [hnew]; exact cells_below ((Below.refl _ _).alloc (Nat.le_refl _) _) (HC.out)
  rw [← hnew]
  clear hnew X BL HE HC
  have X := n_X; clear n_X
  have BL := n_BL; clear n_BL
  have HE := n_HE; clear n_HE
  have HC := n_HC; clear n_HC
  refine (HR.out w6 HC.out).mono ?_
  rintro e w7 ⟨rfl, hb⟩
  simp only [reqA, ansA]
  have n_X := Go.Lib.hid (below_heap hb X.out)
  have n_R := Go.Lib.hid (below_heap hb R.out)
  have n_BL : Hid (Below w.heap.size w w7) := below_then BL.out hb
  have n_HE : Hid (ErrsAt w7 p) := errsAt_below HE.out hb
  have n_HC : Hid (Cells w7 Ab (Bs b)) := cells_below hb HC.out
  clear X R BL HE HC
  have X := n_X; clear n_X
  have R := n_R; clear n_R
  have BL := n_BL; clear n_BL
  have HE := n_HE; clear n_HE
  have HC := n_HC; clear n_HC
  clear hb HR
  have hn7 : w5.heap.size < w7.heap.size := heap_lt R.out
  have c_R0 := blk_cell R.out 0 (.int .i64 qaop) rfl
  have c_R1 := blk_cell R.out 1 (.int .i64 qcode) rfl
  have c_R2 := blk_cell R.out 2 (.int .u64 (n64 qat_)) rfl
  have c_R3 := blk_cell R.out 3 (.int .u64 (n64 qretry)) rfl
  have c_R4 := blk_cell R.out 4 (.int .i64 qk) rfl
  have c_R5 := blk_cell R.out 5 (.int .u64 (n64 qp1)) rfl
  have c_R6 := blk_cell R.out 6 (.int .u64 (n64 qp2)) rfl
  have c_R7 := blk_cell R.out 7 (.int .u64 (n64 qp3)) rfl
  have c_R8 := blk_cell R.out 8 (.int .u64 (n64 qp4)) rfl
  have c_R9 := blk_cell R.out 9 (.int .u64 (n64 ql1)) rfl
  have c_R10 := blk_cell R.out 10 (.int .u64 (n64 ql2)) rfl
  have c_R11 := blk_cell R.out 11 (.int .u64 (n64 ql3)) rfl
  have f_R := heap_frozen R.out
  go_wp2_with fail
  clear c_R0 c_R1 c_R2 c_R3 c_R4 c_R5 c_R6 c_R7 c_R8 c_R9 c_R10 c_R11 f_R
  obtain ⟨w8, hnew⟩ : ∃ W, W = (w7.alloc (.cells #[.int .i64 qaop, .int .i64 qcode, .int .u64 (n64 qat_), .int .u64 (n64 qretry), .int .i64 qk, .int .u64 (n64 qp1), .int .u64 (n64 qp2), .int .u64 (n64 qp3), .int .u64 (n64 qp4), .int .u64 (n64 ql1), .int .u64 (n64 ql2), .int .u64 (n64 ql3)] 36)) := ⟨_, rfl⟩
  have n_X : Hid (w8.heap[w.heap.size]? = some (.cells #[.int .i64 4, .int .i64 op, .string ⟨key.toArray⟩, .int .i64 kind, .int .u64 (n64 gap), .int .u64 (n64 slack), .int .u64 (n64 limit), .int .u64 (n64 span), .int .u64 (n64 units), .int .i64 aop, .int .i64 code, .int .u64 (n64 at_), .int .u64 (n64 retry), .int .i64 k, .int .u64 (n64 p1), .int .u64 (n64 p2), .int .u64 (n64 p3), .int .u64 (n64 p4), .int .u64 (n64 l1), .int .u64 (n64 l2), .int .u64 (n64 l3), .slice Ab b.length cb] 39 (0, 0))) := by rw [hnew]; exact (alloc_heap X.out _)
  have n_R : Hid (w8.heap[w5.heap.size]? = some (.cells #[.int .i64 qaop, .int .i64 qcode, .int .u64 (n64 qat_), .int .u64 (n64 qretry), .int .i64 qk, .int .u64 (n64 qp1), .int .u64 (n64 qp2), .int .u64 (n64 qp3), .int .u64 (n64 qp4), .int .u64 (n64 ql1), .int .u64 (n64 ql2), .int .u64 (n64 ql3)] 36 (0, 0))) := by rw [hnew]; exact (alloc_heap R.out _)
  have S : Hid (w8.heap[w7.heap.size]? = some (.cells #[.int .i64 qaop, .int .i64 qcode, .int .u64 (n64 qat_), .int .u64 (n64 qretry), .int .i64 qk, .int .u64 (n64 qp1), .int .u64 (n64 qp2), .int .u64 (n64 qp3), .int .u64 (n64 qp4), .int .u64 (n64 ql1), .int .u64 (n64 ql2), .int .u64 (n64 ql3)] 36 (0, 0))) := by rw [hnew]; exact heap_here _ _ _ rfl
  have n_BL : Hid (Below w.heap.size w w8) := by rw [hnew]; exact below_alloc (BL.out) (Nat.le_refl _)
  have n_HE : Hid (ErrsAt w8 p) := by rw [hnew]; exact errsAt_below (HE.out) ((Below.refl _ _).alloc (Nat.le_refl _) _)
  have n_HC : Hid (Cells w8 Ab (Bs b)) := by rw [hnew]; exact cells_below ((Below.refl _ _).alloc (Nat.le_refl _) _) (HC.out)
  rw [← hnew]
  clear hnew X R BL HE HC
  have X := n_X; clear n_X
  have R := n_R; clear n_R
  have BL := n_BL; clear n_BL
  have HE := n_HE; clear n_HE
  have HC := n_HC; clear n_HC
  have hq : ∀ V : World, (binOp .eql 36 (.agg #[.int .i64 qaop, .int .i64 qcode, .int .u64 (n64 qat_), .int .u64 (n64 qretry), .int .i64 qk, .int .u64 (n64 qp1), .int .u64 (n64 qp2), .int .u64 (n64 qp3), .int .u64 (n64 qp4), .int .u64 (n64 ql1), .int .u64 (n64 ql2), .int .u64 (n64 ql3)]) (.agg #[.int .i64 qaop, .int .i64 qcode, .int .u64 (n64 qat_), .int .u64 (n64 qretry), .int .i64 qk, .int .u64 (n64 qp1), .int .u64 (n64 qp2), .int .u64 (n64 qp3), .int .u64 (n64 qp4), .int .u64 (n64 ql1), .int .u64 (n64 ql2), .int .u64 (n64 ql3)])).run Tryd.prog V = .ok (.bool true) V := fun V => by have h := eql_ans ⟨qaop, ⟨qcode, qat_, qretry, ⟨qk, qp1, qp2, qp3, qp4⟩, ⟨ql1, ql2, ql3⟩⟩⟩ ⟨qaop, ⟨qcode, qat_, qretry, ⟨qk, qp1, qp2, qp3, qp4⟩, ⟨ql1, ql2, ql3⟩⟩⟩ V; rwa [beq_self_eq_true] at h
  have c_R0 := blk_cell R.out 0 (.int .i64 qaop) rfl
  have c_R1 := blk_cell R.out 1 (.int .i64 qcode) rfl
  have c_R2 := blk_cell R.out 2 (.int .u64 (n64 qat_)) rfl
  have c_R3 := blk_cell R.out 3 (.int .u64 (n64 qretry)) rfl
  have c_R4 := blk_cell R.out 4 (.int .i64 qk) rfl
  have c_R5 := blk_cell R.out 5 (.int .u64 (n64 qp1)) rfl
  have c_R6 := blk_cell R.out 6 (.int .u64 (n64 qp2)) rfl
  have c_R7 := blk_cell R.out 7 (.int .u64 (n64 qp3)) rfl
  have c_R8 := blk_cell R.out 8 (.int .u64 (n64 qp4)) rfl
  have c_R9 := blk_cell R.out 9 (.int .u64 (n64 ql1)) rfl
  have c_R10 := blk_cell R.out 10 (.int .u64 (n64 ql2)) rfl
  have c_R11 := blk_cell R.out 11 (.int .u64 (n64 ql3)) rfl
  have f_R := heap_frozen R.out
  have c_S0 := blk_cell S.out 0 (.int .i64 qaop) rfl
  have c_S1 := blk_cell S.out 1 (.int .i64 qcode) rfl
  have c_S2 := blk_cell S.out 2 (.int .u64 (n64 qat_)) rfl
  have c_S3 := blk_cell S.out 3 (.int .u64 (n64 qretry)) rfl
  have c_S4 := blk_cell S.out 4 (.int .i64 qk) rfl
  have c_S5 := blk_cell S.out 5 (.int .u64 (n64 qp1)) rfl
  have c_S6 := blk_cell S.out 6 (.int .u64 (n64 qp2)) rfl
  have c_S7 := blk_cell S.out 7 (.int .u64 (n64 qp3)) rfl
  have c_S8 := blk_cell S.out 8 (.int .u64 (n64 qp4)) rfl
  have c_S9 := blk_cell S.out 9 (.int .u64 (n64 ql1)) rfl
  have c_S10 := blk_cell S.out 10 (.int .u64 (n64 ql2)) rfl
  have c_S11 := blk_cell S.out 11 (.int .u64 (n64 ql3)) rfl
  have f_S := heap_frozen S.out
  refine (is_yes w8 p kk (kk : Int) rfl hle HE.out).mono ?_
  rintro e w9 ⟨rfl, rfl⟩
  go_wp2
  go_ret
  exact ⟨rfl, BL.out⟩

set_option maxRecDepth 100000 in
set_option maxHeartbeats 3200000 in
theorem plays_5 (op : Int) (key : List UInt8) (kind : Int) (gap slack limit span units : UInt64) (aop code : Int) (at_ retry : UInt64) (k : Int) (p1 p2 p3 p4 l1 l2 l3 : UInt64) (Ab : Option Addr) (cb : Nat) (b : List UInt8) (p : Nat → Addr) (w : World) (hp : ErrsAt w p) (hkl : key.length ≤ 140737488351232) (hbl : b.length ≤ 140737488351232) (hbc : b.length ≤ cb) (hcb : cb ≤ 9223372036854775807) (hA : Cells w Ab (Bs b)) :
    Calls Tryd.prog 10 #[.agg #[.int .i64 5, .int .i64 op, .string ⟨key.toArray⟩, .int .i64 kind, .int .u64 (n64 gap), .int .u64 (n64 slack), .int .u64 (n64 limit), .int .u64 (n64 span), .int .u64 (n64 units), .int .i64 aop, .int .i64 code, .int .u64 (n64 at_), .int .u64 (n64 retry), .int .i64 k, .int .u64 (n64 p1), .int .u64 (n64 p2), .int .u64 (n64 p3), .int .u64 (n64 p4), .int .u64 (n64 l1), .int .u64 (n64 l2), .int .u64 (n64 l3), .slice Ab b.length cb]] w fun e w' => e = .returned (.bool true) ∧ Below w.heap.size w w' := by
  have hb0 : Below w.heap.size w (w.alloc (.cells #[.int .i64 5, .int .i64 op, .string ⟨key.toArray⟩, .int .i64 kind, .int .u64 (n64 gap), .int .u64 (n64 slack), .int .u64 (n64 limit), .int .u64 (n64 span), .int .u64 (n64 units), .int .i64 aop, .int .i64 code, .int .u64 (n64 at_), .int .u64 (n64 retry), .int .i64 k, .int .u64 (n64 p1), .int .u64 (n64 p2), .int .u64 (n64 p3), .int .u64 (n64 p4), .int .u64 (n64 l1), .int .u64 (n64 l2), .int .u64 (n64 l3), .slice Ab b.length cb] 39)) := (Below.refl _ _).alloc (Nat.le_refl _) _
  have X : Hid ((w.alloc (.cells #[.int .i64 5, .int .i64 op, .string ⟨key.toArray⟩, .int .i64 kind, .int .u64 (n64 gap), .int .u64 (n64 slack), .int .u64 (n64 limit), .int .u64 (n64 span), .int .u64 (n64 units), .int .i64 aop, .int .i64 code, .int .u64 (n64 at_), .int .u64 (n64 retry), .int .i64 k, .int .u64 (n64 p1), .int .u64 (n64 p2), .int .u64 (n64 p3), .int .u64 (n64 p4), .int .u64 (n64 l1), .int .u64 (n64 l2), .int .u64 (n64 l3), .slice Ab b.length cb] 39)).heap[w.heap.size]? = some (.cells #[.int .i64 5, .int .i64 op, .string ⟨key.toArray⟩, .int .i64 kind, .int .u64 (n64 gap), .int .u64 (n64 slack), .int .u64 (n64 limit), .int .u64 (n64 span), .int .u64 (n64 units), .int .i64 aop, .int .i64 code, .int .u64 (n64 at_), .int .u64 (n64 retry), .int .i64 k, .int .u64 (n64 p1), .int .u64 (n64 p2), .int .u64 (n64 p3), .int .u64 (n64 p4), .int .u64 (n64 l1), .int .u64 (n64 l2), .int .u64 (n64 l3), .slice Ab b.length cb] 39 (0, 0))) := heap_here w _ w.heap.size rfl
  have BL : Hid (Below w.heap.size w (w.alloc (.cells #[.int .i64 5, .int .i64 op, .string ⟨key.toArray⟩, .int .i64 kind, .int .u64 (n64 gap), .int .u64 (n64 slack), .int .u64 (n64 limit), .int .u64 (n64 span), .int .u64 (n64 units), .int .i64 aop, .int .i64 code, .int .u64 (n64 at_), .int .u64 (n64 retry), .int .i64 k, .int .u64 (n64 p1), .int .u64 (n64 p2), .int .u64 (n64 p3), .int .u64 (n64 p4), .int .u64 (n64 l1), .int .u64 (n64 l2), .int .u64 (n64 l3), .slice Ab b.length cb] 39))) := hb0
  have HE : Hid (ErrsAt (w.alloc (.cells #[.int .i64 5, .int .i64 op, .string ⟨key.toArray⟩, .int .i64 kind, .int .u64 (n64 gap), .int .u64 (n64 slack), .int .u64 (n64 limit), .int .u64 (n64 span), .int .u64 (n64 units), .int .i64 aop, .int .i64 code, .int .u64 (n64 at_), .int .u64 (n64 retry), .int .i64 k, .int .u64 (n64 p1), .int .u64 (n64 p2), .int .u64 (n64 p3), .int .u64 (n64 p4), .int .u64 (n64 l1), .int .u64 (n64 l2), .int .u64 (n64 l3), .slice Ab b.length cb] 39)) p) := errsAt_below hp hb0
  have HC : Hid (Cells (w.alloc (.cells #[.int .i64 5, .int .i64 op, .string ⟨key.toArray⟩, .int .i64 kind, .int .u64 (n64 gap), .int .u64 (n64 slack), .int .u64 (n64 limit), .int .u64 (n64 span), .int .u64 (n64 units), .int .i64 aop, .int .i64 code, .int .u64 (n64 at_), .int .u64 (n64 retry), .int .i64 k, .int .u64 (n64 p1), .int .u64 (n64 p2), .int .u64 (n64 p3), .int .u64 (n64 p4), .int .u64 (n64 l1), .int .u64 (n64 l2), .int .u64 (n64 l3), .slice Ab b.length cb] 39)) Ab (Bs b)) := cells_below hb0 hA
  clear hp hA hb0
  go_enter Tryd.func10, Tryd.ntmps10
  have hroom : (Bs ([] : List UInt8)).length + b.length ≤ 140737488355328 := by simp [Bs]; omega
  have hbn : Below (w.heap.size + 1) (w.alloc (.cells #[.int .i64 5, .int .i64 op, .string ⟨key.toArray⟩, .int .i64 kind, .int .u64 (n64 gap), .int .u64 (n64 slack), .int .u64 (n64 limit), .int .u64 (n64 span), .int .u64 (n64 units), .int .i64 aop, .int .i64 code, .int .u64 (n64 at_), .int .u64 (n64 retry), .int .i64 k, .int .u64 (n64 p1), .int .u64 (n64 p2), .int .u64 (n64 p3), .int .u64 (n64 p4), .int .u64 (n64 l1), .int .u64 (n64 l2), .int .u64 (n64 l3), .slice Ab b.length cb] 39)) ((w.alloc (.cells #[.int .i64 5, .int .i64 op, .string ⟨key.toArray⟩, .int .i64 kind, .int .u64 (n64 gap), .int .u64 (n64 slack), .int .u64 (n64 limit), .int .u64 (n64 span), .int .u64 (n64 units), .int .i64 aop, .int .i64 code, .int .u64 (n64 at_), .int .u64 (n64 retry), .int .i64 k, .int .u64 (n64 p1), .int .u64 (n64 p2), .int .u64 (n64 p3), .int .u64 (n64 p4), .int .u64 (n64 l1), .int .u64 (n64 l2), .int .u64 (n64 l3), .slice Ab b.length cb] 39)).alloc (.cells #[] 5)) := (Below.refl _ _).alloc (by simp) _
  have HO3 := Go.Lib.hid (own_fresh (w := (w.alloc (.cells #[.int .i64 5, .int .i64 op, .string ⟨key.toArray⟩, .int .i64 kind, .int .u64 (n64 gap), .int .u64 (n64 slack), .int .u64 (n64 limit), .int .u64 (n64 span), .int .u64 (n64 units), .int .i64 aop, .int .i64 code, .int .u64 (n64 at_), .int .u64 (n64 retry), .int .i64 k, .int .u64 (n64 p1), .int .u64 (n64 p2), .int .u64 (n64 p3), .int .u64 (n64 p4), .int .u64 (n64 l1), .int .u64 (n64 l2), .int .u64 (n64 l3), .slice Ab b.length cb] 39)).alloc (.cells #[] 5)) (b := w.heap.size + 1) (g := w.heap.size + 1) (e := 5) (l := []) (heap_here (w.alloc (.cells #[.int .i64 5, .int .i64 op, .string ⟨key.toArray⟩, .int .i64 kind, .int .u64 (n64 gap), .int .u64 (n64 slack), .int .u64 (n64 limit), .int .u64 (n64 span), .int .u64 (n64 units), .int .i64 aop, .int .i64 code, .int .u64 (n64 at_), .int .u64 (n64 retry), .int .i64 k, .int .u64 (n64 p1), .int .u64 (n64 p2), .int .u64 (n64 p3), .int .u64 (n64 p4), .int .u64 (n64 l1), .int .u64 (n64 l2), .int .u64 (n64 l3), .slice Ab b.length cb] 39)) (.cells #[] 5) (w.heap.size + 1) (by simp)) (by simp) 0 rfl (by decide))
  have HB3 := Go.Lib.hid hbn
  have HC3 : Hid (Cells ((w.alloc (.cells #[.int .i64 5, .int .i64 op, .string ⟨key.toArray⟩, .int .i64 kind, .int .u64 (n64 gap), .int .u64 (n64 slack), .int .u64 (n64 limit), .int .u64 (n64 span), .int .u64 (n64 units), .int .i64 aop, .int .i64 code, .int .u64 (n64 at_), .int .u64 (n64 retry), .int .i64 k, .int .u64 (n64 p1), .int .u64 (n64 p2), .int .u64 (n64 p3), .int .u64 (n64 p4), .int .u64 (n64 l1), .int .u64 (n64 l2), .int .u64 (n64 l3), .slice Ab b.length cb] 39)).alloc (.cells #[] 5)) Ab (Bs b)) := cells_below ((Below.refl _ _).alloc (Nat.le_refl _) _) HC.out
  have hsz3 : w.heap.size + 1 ≤ ((w.alloc (.cells #[.int .i64 5, .int .i64 op, .string ⟨key.toArray⟩, .int .i64 kind, .int .u64 (n64 gap), .int .u64 (n64 slack), .int .u64 (n64 limit), .int .u64 (n64 span), .int .u64 (n64 units), .int .i64 aop, .int .i64 code, .int .u64 (n64 at_), .int .u64 (n64 retry), .int .i64 k, .int .u64 (n64 p1), .int .u64 (n64 p2), .int .u64 (n64 p3), .int .u64 (n64 p4), .int .u64 (n64 l1), .int .u64 (n64 l2), .int .u64 (n64 l3), .slice Ab b.length cb] 39)).alloc (.cells #[] 5)).heap.size := by simp
  clear hbn
  go_wp2_with (first
    | (at_builtin; (with_reducible refine wpList_append_all (s := .tmp 120) (x := .tmp 122) (t := 37) (e := 5) (z := .int .u8 0) (ht := Tryd.underlying37) (hinfo := info8) (base := w.heap.size + 1) (v := .slice (some ⟨w.heap.size + 1, 0, none⟩) 0 0) (vs := Bs []) (hown := HO3.out) (hbase := hsz3) (A := Ab) (c := cb) (l := b) (hA := HC3.out) (hroom := hroom) (hgd := rfl) (hz := ?_) (ho := ?_) (hs := ?_) (hx := ?_) (h := ?_)); rfl; rfl; rfl; rfl; intro v4 w4 hown4 hb4; have HO4 := Go.Lib.hid hown4; have HB4 := Go.Lib.hid hb4; clear hown4 hb4))
  obtain ⟨A4, c4, rfl, _, _, hc4⟩ := own_slice HO4.out
  have HSZ := Go.Lib.hid (show (w.alloc (.cells #[.int .i64 5, .int .i64 op, .string ⟨key.toArray⟩, .int .i64 kind, .int .u64 (n64 gap), .int .u64 (n64 slack), .int .u64 (n64 limit), .int .u64 (n64 span), .int .u64 (n64 units), .int .i64 aop, .int .i64 code, .int .u64 (n64 at_), .int .u64 (n64 retry), .int .i64 k, .int .u64 (n64 p1), .int .u64 (n64 p2), .int .u64 (n64 p3), .int .u64 (n64 p4), .int .u64 (n64 l1), .int .u64 (n64 l2), .int .u64 (n64 l3), .slice Ab b.length cb] 39)).heap.size = w.heap.size + 1 by simp)
  rw [show (Bs ([] : List UInt8) ++ Bs b) = Bs b by simp [Bs]] at hc4 ⊢
  rw [Bs_length]
  have hb24 : Below (w.alloc (.cells #[.int .i64 5, .int .i64 op, .string ⟨key.toArray⟩, .int .i64 kind, .int .u64 (n64 gap), .int .u64 (n64 slack), .int .u64 (n64 limit), .int .u64 (n64 span), .int .u64 (n64 units), .int .i64 aop, .int .i64 code, .int .u64 (n64 at_), .int .u64 (n64 retry), .int .i64 k, .int .u64 (n64 p1), .int .u64 (n64 p2), .int .u64 (n64 p3), .int .u64 (n64 p4), .int .u64 (n64 l1), .int .u64 (n64 l2), .int .u64 (n64 l3), .slice Ab b.length cb] 39)).heap.size (w.alloc (.cells #[.int .i64 5, .int .i64 op, .string ⟨key.toArray⟩, .int .i64 kind, .int .u64 (n64 gap), .int .u64 (n64 slack), .int .u64 (n64 limit), .int .u64 (n64 span), .int .u64 (n64 units), .int .i64 aop, .int .i64 code, .int .u64 (n64 at_), .int .u64 (n64 retry), .int .i64 k, .int .u64 (n64 p1), .int .u64 (n64 p2), .int .u64 (n64 p3), .int .u64 (n64 p4), .int .u64 (n64 l1), .int .u64 (n64 l2), .int .u64 (n64 l3), .slice Ab b.length cb] 39)) w4 := by rw [HSZ.out]; exact HB3.out.trans HB4.out
  have n_X := Go.Lib.hid (below_heap hb24 X.out)
  have n_BL : Hid (Below w.heap.size w w4) := below_then BL.out hb24
  have n_HE : Hid (ErrsAt w4 p) := errsAt_below HE.out hb24
  have n_HC : Hid (Cells w4 Ab (Bs b)) := cells_below hb24 HC.out
  clear X BL HE HC
  have X := n_X; clear n_X
  have BL := n_BL; clear n_BL
  have HE := n_HE; clear n_HE
  have HC := n_HC; clear n_HC
  have HC4 := Go.Lib.hid hc4
  clear hb24 HC3 HO3 HO4 HB3 HB4 hsz3 hc4 HSZ
  have hxw4 : w.heap.size < w4.heap.size := heap_lt X.out
  have hle := frameS_le b
  refine (frame_calls A4 c4 b p w4 (errsAt_e4 HE.out) (by omega) HC4.out).mono ?_
  rintro e w5 ⟨v1, rfl, ho1, hb⟩
  have n_X := Go.Lib.hid (below_heap hb X.out)
  have n_BL : Hid (Below w.heap.size w w5) := below_then BL.out hb
  have n_HE : Hid (ErrsAt w5 p) := errsAt_below HE.out hb
  have n_HC : Hid (Cells w5 Ab (Bs b)) := cells_below hb HC.out
  clear X BL HE HC
  have X := n_X; clear n_X
  have BL := n_BL; clear n_BL
  have HE := n_HE; clear n_HE
  have HC := n_HC; clear n_HC
  clear HC4 hb
  have HR : Hid (∀ V : World, Cells V Ab (Bs b) → Calls Tryd.prog 22 #[.slice Ab b.length cb] V fun e w' => GaveF V w' e (frameS b)) := fun V hV => rframe_calls Ab cb b V (by omega) hV
  generalize frameS b = d at *
  obtain ⟨L, kk⟩ := d
  simp only at ho1 hle HR ⊢
  obtain ⟨A1, c1, rfl, h1, h2, hc1⟩ := own_slice ho1
  rw [Bs_length] at h1 ⊢
  have hL : L.length ≤ 9223372036854775807 := by omega
  have HC1 := Go.Lib.hid hc1
  clear ho1 hc1 h1 h2
  have hxw5 : w.heap.size < w5.heap.size := heap_lt X.out
  have c_X0 := blk_cell X.out 0 (.int .i64 5) rfl
  have c_X1 := blk_cell X.out 1 (.int .i64 op) rfl
  have c_X2 := blk_cell X.out 2 (.string ⟨key.toArray⟩) rfl
  have c_X3 := blk_cell X.out 3 (.int .i64 kind) rfl
  have c_X4 := blk_cell X.out 4 (.int .u64 (n64 gap)) rfl
  have c_X5 := blk_cell X.out 5 (.int .u64 (n64 slack)) rfl
  have c_X6 := blk_cell X.out 6 (.int .u64 (n64 limit)) rfl
  have c_X7 := blk_cell X.out 7 (.int .u64 (n64 span)) rfl
  have c_X8 := blk_cell X.out 8 (.int .u64 (n64 units)) rfl
  have c_X9 := blk_cell X.out 9 (.int .i64 aop) rfl
  have c_X10 := blk_cell X.out 10 (.int .i64 code) rfl
  have c_X11 := blk_cell X.out 11 (.int .u64 (n64 at_)) rfl
  have c_X12 := blk_cell X.out 12 (.int .u64 (n64 retry)) rfl
  have c_X13 := blk_cell X.out 13 (.int .i64 k) rfl
  have c_X14 := blk_cell X.out 14 (.int .u64 (n64 p1)) rfl
  have c_X15 := blk_cell X.out 15 (.int .u64 (n64 p2)) rfl
  have c_X16 := blk_cell X.out 16 (.int .u64 (n64 p3)) rfl
  have c_X17 := blk_cell X.out 17 (.int .u64 (n64 p4)) rfl
  have c_X18 := blk_cell X.out 18 (.int .u64 (n64 l1)) rfl
  have c_X19 := blk_cell X.out 19 (.int .u64 (n64 l2)) rfl
  have c_X20 := blk_cell X.out 20 (.int .u64 (n64 l3)) rfl
  have c_X21 := blk_cell X.out 21 (.slice Ab b.length cb) rfl
  have f_X := heap_frozen X.out
  go_wp2_with fail
  refine (HR.out w5 HC.out).mono ?_
  rintro e w6 ⟨v2, rfl, ho2, hb⟩
  clear c_X0 c_X1 c_X2 c_X3 c_X4 c_X5 c_X6 c_X7 c_X8 c_X9 c_X10 c_X11 c_X12 c_X13 c_X14 c_X15 c_X16 c_X17 c_X18 c_X19 c_X20 c_X21 f_X
  have n_X := Go.Lib.hid (below_heap hb X.out)
  have n_BL : Hid (Below w.heap.size w w6) := below_then BL.out hb
  have n_HE : Hid (ErrsAt w6 p) := errsAt_below HE.out hb
  have n_HC : Hid (Cells w6 Ab (Bs b)) := cells_below hb HC.out
  have n_HC1 : Hid (Cells w6 A1 (Bs L)) := cells_below hb HC1.out
  clear X BL HE HC HC1
  have X := n_X; clear n_X
  have BL := n_BL; clear n_BL
  have HE := n_HE; clear n_HE
  have HC := n_HC; clear n_HC
  have HC1 := n_HC1; clear n_HC1
  obtain ⟨A2, c2, rfl, _, _, hc2⟩ := own_slice ho2
  rw [Bs_length]
  have HC2 := Go.Lib.hid hc2
  clear ho2 hc2 hb HR
  go_wp2_with fail
  refine (is_yes w6 p kk (kk : Int) rfl hle HE.out).mono ?_
  rintro e w7 ⟨rfl, rfl⟩
  go_wp2_with fail
  refine (same_refl A1 A2 c1 c2 L w7 hL HC1.out HC2.out).mono ?_
  rintro e w8 ⟨rfl, hb⟩
  have BL4 := Go.Lib.hid (below_then BL.out hb)
  clear hb
  go_wp2
  go_ret
  exact ⟨rfl, BL4.out⟩

set_option maxRecDepth 100000 in
set_option maxHeartbeats 3200000 in
theorem plays_none (kd : Int) (op : Int) (key : List UInt8) (kind : Int) (gap slack limit span units : UInt64) (aop code : Int) (at_ retry : UInt64) (k : Int) (p1 p2 p3 p4 l1 l2 l3 : UInt64) (Ab : Option Addr) (cb : Nat) (b : List UInt8) (p : Nat → Addr) (w : World) (hp : ErrsAt w p) (hkl : key.length ≤ 140737488351232) (hbl : b.length ≤ 140737488351232) (hbc : b.length ≤ cb) (hcb : cb ≤ 9223372036854775807) (hA : Cells w Ab (Bs b)) (hk : kd < 1 ∨ 5 < kd) :
    Calls Tryd.prog 10 #[.agg #[.int .i64 kd, .int .i64 op, .string ⟨key.toArray⟩, .int .i64 kind, .int .u64 (n64 gap), .int .u64 (n64 slack), .int .u64 (n64 limit), .int .u64 (n64 span), .int .u64 (n64 units), .int .i64 aop, .int .i64 code, .int .u64 (n64 at_), .int .u64 (n64 retry), .int .i64 k, .int .u64 (n64 p1), .int .u64 (n64 p2), .int .u64 (n64 p3), .int .u64 (n64 p4), .int .u64 (n64 l1), .int .u64 (n64 l2), .int .u64 (n64 l3), .slice Ab b.length cb]] w fun e w' => e = .returned (.bool true) ∧ Below w.heap.size w w' := by
  have hb0 : Below w.heap.size w (w.alloc (.cells #[.int .i64 kd, .int .i64 op, .string ⟨key.toArray⟩, .int .i64 kind, .int .u64 (n64 gap), .int .u64 (n64 slack), .int .u64 (n64 limit), .int .u64 (n64 span), .int .u64 (n64 units), .int .i64 aop, .int .i64 code, .int .u64 (n64 at_), .int .u64 (n64 retry), .int .i64 k, .int .u64 (n64 p1), .int .u64 (n64 p2), .int .u64 (n64 p3), .int .u64 (n64 p4), .int .u64 (n64 l1), .int .u64 (n64 l2), .int .u64 (n64 l3), .slice Ab b.length cb] 39)) := (Below.refl _ _).alloc (Nat.le_refl _) _
  have X : Hid ((w.alloc (.cells #[.int .i64 kd, .int .i64 op, .string ⟨key.toArray⟩, .int .i64 kind, .int .u64 (n64 gap), .int .u64 (n64 slack), .int .u64 (n64 limit), .int .u64 (n64 span), .int .u64 (n64 units), .int .i64 aop, .int .i64 code, .int .u64 (n64 at_), .int .u64 (n64 retry), .int .i64 k, .int .u64 (n64 p1), .int .u64 (n64 p2), .int .u64 (n64 p3), .int .u64 (n64 p4), .int .u64 (n64 l1), .int .u64 (n64 l2), .int .u64 (n64 l3), .slice Ab b.length cb] 39)).heap[w.heap.size]? = some (.cells #[.int .i64 kd, .int .i64 op, .string ⟨key.toArray⟩, .int .i64 kind, .int .u64 (n64 gap), .int .u64 (n64 slack), .int .u64 (n64 limit), .int .u64 (n64 span), .int .u64 (n64 units), .int .i64 aop, .int .i64 code, .int .u64 (n64 at_), .int .u64 (n64 retry), .int .i64 k, .int .u64 (n64 p1), .int .u64 (n64 p2), .int .u64 (n64 p3), .int .u64 (n64 p4), .int .u64 (n64 l1), .int .u64 (n64 l2), .int .u64 (n64 l3), .slice Ab b.length cb] 39 (0, 0))) := heap_here w _ w.heap.size rfl
  have BL : Hid (Below w.heap.size w (w.alloc (.cells #[.int .i64 kd, .int .i64 op, .string ⟨key.toArray⟩, .int .i64 kind, .int .u64 (n64 gap), .int .u64 (n64 slack), .int .u64 (n64 limit), .int .u64 (n64 span), .int .u64 (n64 units), .int .i64 aop, .int .i64 code, .int .u64 (n64 at_), .int .u64 (n64 retry), .int .i64 k, .int .u64 (n64 p1), .int .u64 (n64 p2), .int .u64 (n64 p3), .int .u64 (n64 p4), .int .u64 (n64 l1), .int .u64 (n64 l2), .int .u64 (n64 l3), .slice Ab b.length cb] 39))) := hb0
  have HE : Hid (ErrsAt (w.alloc (.cells #[.int .i64 kd, .int .i64 op, .string ⟨key.toArray⟩, .int .i64 kind, .int .u64 (n64 gap), .int .u64 (n64 slack), .int .u64 (n64 limit), .int .u64 (n64 span), .int .u64 (n64 units), .int .i64 aop, .int .i64 code, .int .u64 (n64 at_), .int .u64 (n64 retry), .int .i64 k, .int .u64 (n64 p1), .int .u64 (n64 p2), .int .u64 (n64 p3), .int .u64 (n64 p4), .int .u64 (n64 l1), .int .u64 (n64 l2), .int .u64 (n64 l3), .slice Ab b.length cb] 39)) p) := errsAt_below hp hb0
  have HC : Hid (Cells (w.alloc (.cells #[.int .i64 kd, .int .i64 op, .string ⟨key.toArray⟩, .int .i64 kind, .int .u64 (n64 gap), .int .u64 (n64 slack), .int .u64 (n64 limit), .int .u64 (n64 span), .int .u64 (n64 units), .int .i64 aop, .int .i64 code, .int .u64 (n64 at_), .int .u64 (n64 retry), .int .i64 k, .int .u64 (n64 p1), .int .u64 (n64 p2), .int .u64 (n64 p3), .int .u64 (n64 p4), .int .u64 (n64 l1), .int .u64 (n64 l2), .int .u64 (n64 l3), .slice Ab b.length cb] 39)) Ab (Bs b)) := cells_below hb0 hA
  clear hp hA hb0
  go_enter Tryd.func10, Tryd.ntmps10
  have b1 : (kd == 1) = false := beq_eq_false_iff_ne.2 (by omega)
  have b2 : (kd == 2) = false := beq_eq_false_iff_ne.2 (by omega)
  have b3 : (kd == 3) = false := beq_eq_false_iff_ne.2 (by omega)
  have b4 : (kd == 4) = false := beq_eq_false_iff_ne.2 (by omega)
  have b5 : (kd == 5) = false := beq_eq_false_iff_ne.2 (by omega)
  clear hk
  go_wp2
  go_ret
  exact ⟨rfl, BL.out⟩

def opQ (o : OpQ) (Ab : Option Addr) (cb : Nat) : List Value := .int .i64 o.kind :: ((reqA o.r).toList ++ (ansA o.a).toList ++ [.slice Ab o.b.length cb])
theorem plays_calls (o : OpQ) (Ab : Option Addr) (cb : Nat) (p : Nat → Addr) (w : World) (hp : ErrsAt w p) (hkl : o.r.key.length ≤ 140737488351232) (hbl : o.b.length ≤ 140737488351232) (hbc : o.b.length ≤ cb) (hcb : cb ≤ 9223372036854775807) (hA : Cells w Ab (Bs o.b)) :
    Calls Tryd.prog 10 #[.agg (opQ o Ab cb).toArray] w fun e w' => e = .returned (.bool true) ∧ Below w.heap.size w w' := by
  obtain ⟨kd, ⟨op, key, ⟨kind, gap, slack, limit, span⟩, units⟩, ⟨aop, ⟨code, at_, retry, ⟨k, p1, p2, p3, p4⟩, ⟨l1, l2, l3⟩⟩⟩, b⟩ := o
  by_cases h : kd < 1 ∨ 5 < kd
  · exact plays_none kd op key kind gap slack limit span units aop code at_ retry k p1 p2 p3 p4 l1 l2 l3 Ab cb b p w hp hkl hbl hbc hcb hA h
  · rcases (by omega : kd = 1 ∨ kd = 2 ∨ kd = 3 ∨ kd = 4 ∨ kd = 5) with rfl | rfl | rfl | rfl | rfl
    · exact plays_1 op key kind gap slack limit span units aop code at_ retry k p1 p2 p3 p4 l1 l2 l3 Ab cb b p w hp hkl hbl hbc hcb hA
    · exact plays_2 op key kind gap slack limit span units aop code at_ retry k p1 p2 p3 p4 l1 l2 l3 Ab cb b p w hp hkl hbl hbc hcb hA
    · exact plays_3 op key kind gap slack limit span units aop code at_ retry k p1 p2 p3 p4 l1 l2 l3 Ab cb b p w hp hkl hbl hbc hcb hA
    · exact plays_4 op key kind gap slack limit span units aop code at_ retry k p1 p2 p3 p4 l1 l2 l3 Ab cb b p w hp hkl hbl hbc hcb hA
    · exact plays_5 op key kind gap slack limit span units aop code at_ retry k p1 p2 p3 p4 l1 l2 l3 Ab cb b p w hp hkl hbl hbc hcb hA
end Go.Proofs.YtonfeppenhebjaaDoor
