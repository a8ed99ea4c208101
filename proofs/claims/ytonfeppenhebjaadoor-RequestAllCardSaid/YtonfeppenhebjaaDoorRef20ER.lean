/- Package turnstileref20: EncodeReply. (Printed by gen_ref20er.py of this session.) -/
import Derived.Test.YtonfeppenhebjaaDoorRef20DR
import Derived.Test.YtonfeppenhebjaaDoorRef20E
namespace Go.Proofs.YtonfeppenhebjaaDoor
open Go Go.RowKit
set_option linter.unusedVariables false
set_option linter.unusedSimpArgs false
attribute [local go_sem] IntKind.wrap_u64 c64_8 c8_64 c16_64 c32_64 c64_16 c64_32 or8 and8 n64_self n8_self beq_n64 beq_n8 bne_n8 bne_n64 beq_n64_0 bne_n64_0 wrap_b8

theorem neqlit_pol (kind : Int) (gap slack limit span : UInt64) (pb : Bool) (h : ((⟨kind, gap, slack, limit, span⟩ : Pol) == polZ) = pb) (W : World) :
    (binOp .neq 28 (.agg #[.int .i64 kind, .int .u64 (n64 gap), .int .u64 (n64 slack), .int .u64 (n64 limit), .int .u64 (n64 span)]) (.agg #[.int .i64 0, .int .u64 0, .int .u64 0, .int .u64 0, .int .u64 0])).run Tryd.prog W = .ok (.bool (!pb)) W := by
  rw [← h]; exact neq_pol ⟨kind, gap, slack, limit, span⟩ polZ W
theorem neqlit_lev (a b c : UInt64) (lb : Bool) (h : ((⟨a, b, c⟩ : Lev) == levZ) = lb) (W : World) :
    (binOp .neq 32 (.agg #[.int .u64 (n64 a), .int .u64 (n64 b), .int .u64 (n64 c)]) (.agg #[.int .u64 0, .int .u64 0, .int .u64 0])).run Tryd.prog W = .ok (.bool (!lb)) W := by
  rw [← h]; exact neq_lev ⟨a, b, c⟩ levZ W

set_option maxRecDepth 100000 in
set_option maxHeartbeats 1600000 in
theorem rencR_nopair (at_ retry : UInt64) (k : Int) (p1 p2 p3 p4 l1 l2 l3 : UInt64) (op code : Int) (w : World) (hpair : pairS op code = false) :
    Calls Tryd.prog 20 #[.agg #[.int .i64 op, .int .i64 code, .int .u64 (n64 at_), .int .u64 (n64 retry), .int .i64 k, .int .u64 (n64 p1), .int .u64 (n64 p2), .int .u64 (n64 p3), .int .u64 (n64 p4), .int .u64 (n64 l1), .int .u64 (n64 l2), .int .u64 (n64 l3)]] w fun e w' => GaveF w w' e ([], 1) := by
  obtain ⟨W0, hW0⟩ : ∃ W, W = w.alloc (.cells #[.int .i64 op, .int .i64 code, .int .u64 (n64 at_), .int .u64 (n64 retry), .int .i64 k, .int .u64 (n64 p1), .int .u64 (n64 p2), .int .u64 (n64 p3), .int .u64 (n64 p4), .int .u64 (n64 l1), .int .u64 (n64 l2), .int .u64 (n64 l3)] 36) := ⟨_, rfl⟩
  have BL : Hid (Below w.heap.size w W0) := by rw [hW0]; exact (Below.refl _ _).alloc (Nat.le_refl _) _
  have X : Hid (W0.heap[w.heap.size]? = some (.cells #[.int .i64 op, .int .i64 code, .int .u64 (n64 at_), .int .u64 (n64 retry), .int .i64 k, .int .u64 (n64 p1), .int .u64 (n64 p2), .int .u64 (n64 p3), .int .u64 (n64 p4), .int .u64 (n64 l1), .int .u64 (n64 l2), .int .u64 (n64 l3)] 36 (0, 0))) := by rw [hW0]; exact heap_here w _ w.heap.size rfl
  have HPP := Go.Lib.hid hpair
  clear hpair
  go_enter Tryd.func20, Tryd.ntmps20
  go_wp2_with fail
  rw [← hW0]
  clear hW0
  have c_X0 := blk_cell X.out 0 (.int .i64 op) rfl
  have c_X1 := blk_cell X.out 1 (.int .i64 code) rfl
  have c_X2 := blk_cell X.out 2 (.int .u64 (n64 at_)) rfl
  have c_X3 := blk_cell X.out 3 (.int .u64 (n64 retry)) rfl
  have c_X4 := blk_cell X.out 4 (.int .i64 k) rfl
  have c_X5 := blk_cell X.out 5 (.int .u64 (n64 p1)) rfl
  have c_X6 := blk_cell X.out 6 (.int .u64 (n64 p2)) rfl
  have c_X7 := blk_cell X.out 7 (.int .u64 (n64 p3)) rfl
  have c_X8 := blk_cell X.out 8 (.int .u64 (n64 p4)) rfl
  have c_X9 := blk_cell X.out 9 (.int .u64 (n64 l1)) rfl
  have c_X10 := blk_cell X.out 10 (.int .u64 (n64 l2)) rfl
  have c_X11 := blk_cell X.out 11 (.int .u64 (n64 l3)) rfl
  have f_X := heap_frozen X.out
  refine (paired_calls (op) (code) W0).mono ?_
  rintro e wx ⟨rfl, rfl⟩
  rw [HPP.out]
  go_wp2
  go_ret2
  exact ⟨_, rfl, own_nil _ _ _, BL.out⟩

set_option maxRecDepth 100000 in
set_option maxHeartbeats 1600000 in
theorem rencR_x_at (at_ retry : UInt64) (k : Int) (p1 p2 p3 p4 l1 l2 l3 : UInt64) (op code : Int) (w : World) (hpair : pairS op code = true) (hpl : plainA op code) (hat : (at_ == 0) = false) :
    Calls Tryd.prog 20 #[.agg #[.int .i64 op, .int .i64 code, .int .u64 (n64 at_), .int .u64 (n64 retry), .int .i64 k, .int .u64 (n64 p1), .int .u64 (n64 p2), .int .u64 (n64 p3), .int .u64 (n64 p4), .int .u64 (n64 l1), .int .u64 (n64 l2), .int .u64 (n64 l3)]] w fun e w' => GaveF w w' e ([], 1) := by
  obtain ⟨W0, hW0⟩ : ∃ W, W = w.alloc (.cells #[.int .i64 op, .int .i64 code, .int .u64 (n64 at_), .int .u64 (n64 retry), .int .i64 k, .int .u64 (n64 p1), .int .u64 (n64 p2), .int .u64 (n64 p3), .int .u64 (n64 p4), .int .u64 (n64 l1), .int .u64 (n64 l2), .int .u64 (n64 l3)] 36) := ⟨_, rfl⟩
  have BL : Hid (Below w.heap.size w W0) := by rw [hW0]; exact (Below.refl _ _).alloc (Nat.le_refl _) _
  have X : Hid (W0.heap[w.heap.size]? = some (.cells #[.int .i64 op, .int .i64 code, .int .u64 (n64 at_), .int .u64 (n64 retry), .int .i64 k, .int .u64 (n64 p1), .int .u64 (n64 p2), .int .u64 (n64 p3), .int .u64 (n64 p4), .int .u64 (n64 l1), .int .u64 (n64 l2), .int .u64 (n64 l3)] 36 (0, 0))) := by rw [hW0]; exact heap_here w _ w.heap.size rfl
  have HPP := Go.Lib.hid hpair
  clear hpair
  go_enter Tryd.func20, Tryd.ntmps20
  go_wp2_with fail
  rw [← hW0]
  clear hW0
  have c_X0 := blk_cell X.out 0 (.int .i64 op) rfl
  have c_X1 := blk_cell X.out 1 (.int .i64 code) rfl
  have c_X2 := blk_cell X.out 2 (.int .u64 (n64 at_)) rfl
  have c_X3 := blk_cell X.out 3 (.int .u64 (n64 retry)) rfl
  have c_X4 := blk_cell X.out 4 (.int .i64 k) rfl
  have c_X5 := blk_cell X.out 5 (.int .u64 (n64 p1)) rfl
  have c_X6 := blk_cell X.out 6 (.int .u64 (n64 p2)) rfl
  have c_X7 := blk_cell X.out 7 (.int .u64 (n64 p3)) rfl
  have c_X8 := blk_cell X.out 8 (.int .u64 (n64 p4)) rfl
  have c_X9 := blk_cell X.out 9 (.int .u64 (n64 l1)) rfl
  have c_X10 := blk_cell X.out 10 (.int .u64 (n64 l2)) rfl
  have c_X11 := blk_cell X.out 11 (.int .u64 (n64 l3)) rfl
  have f_X := heap_frozen X.out
  refine (paired_calls (op) (code) W0).mono ?_
  rintro e wx ⟨rfl, rfl⟩
  rw [HPP.out]
  go_wp2_with fail
  refine (has_x op code wx hpl).mono ?_
  rintro e wy ⟨rfl, rfl⟩
  have hat2 : (at_ != 0) = true := by rw [bne, hat]; rfl
  go_wp2
  go_ret2
  exact ⟨_, rfl, own_nil _ _ _, BL.out⟩

set_option maxRecDepth 100000 in
set_option maxHeartbeats 1600000 in
theorem rencR_x_ret (at_ retry : UInt64) (k : Int) (p1 p2 p3 p4 l1 l2 l3 : UInt64) (op code : Int) (w : World) (hpair : pairS op code = true) (hpl : plainA op code) (hat : (at_ == 0) = true) (hret : (retry == 0) = false) :
    Calls Tryd.prog 20 #[.agg #[.int .i64 op, .int .i64 code, .int .u64 (n64 at_), .int .u64 (n64 retry), .int .i64 k, .int .u64 (n64 p1), .int .u64 (n64 p2), .int .u64 (n64 p3), .int .u64 (n64 p4), .int .u64 (n64 l1), .int .u64 (n64 l2), .int .u64 (n64 l3)]] w fun e w' => GaveF w w' e ([], 1) := by
  obtain ⟨W0, hW0⟩ : ∃ W, W = w.alloc (.cells #[.int .i64 op, .int .i64 code, .int .u64 (n64 at_), .int .u64 (n64 retry), .int .i64 k, .int .u64 (n64 p1), .int .u64 (n64 p2), .int .u64 (n64 p3), .int .u64 (n64 p4), .int .u64 (n64 l1), .int .u64 (n64 l2), .int .u64 (n64 l3)] 36) := ⟨_, rfl⟩
  have BL : Hid (Below w.heap.size w W0) := by rw [hW0]; exact (Below.refl _ _).alloc (Nat.le_refl _) _
  have X : Hid (W0.heap[w.heap.size]? = some (.cells #[.int .i64 op, .int .i64 code, .int .u64 (n64 at_), .int .u64 (n64 retry), .int .i64 k, .int .u64 (n64 p1), .int .u64 (n64 p2), .int .u64 (n64 p3), .int .u64 (n64 p4), .int .u64 (n64 l1), .int .u64 (n64 l2), .int .u64 (n64 l3)] 36 (0, 0))) := by rw [hW0]; exact heap_here w _ w.heap.size rfl
  have HPP := Go.Lib.hid hpair
  clear hpair
  go_enter Tryd.func20, Tryd.ntmps20
  go_wp2_with fail
  rw [← hW0]
  clear hW0
  have c_X0 := blk_cell X.out 0 (.int .i64 op) rfl
  have c_X1 := blk_cell X.out 1 (.int .i64 code) rfl
  have c_X2 := blk_cell X.out 2 (.int .u64 (n64 at_)) rfl
  have c_X3 := blk_cell X.out 3 (.int .u64 (n64 retry)) rfl
  have c_X4 := blk_cell X.out 4 (.int .i64 k) rfl
  have c_X5 := blk_cell X.out 5 (.int .u64 (n64 p1)) rfl
  have c_X6 := blk_cell X.out 6 (.int .u64 (n64 p2)) rfl
  have c_X7 := blk_cell X.out 7 (.int .u64 (n64 p3)) rfl
  have c_X8 := blk_cell X.out 8 (.int .u64 (n64 p4)) rfl
  have c_X9 := blk_cell X.out 9 (.int .u64 (n64 l1)) rfl
  have c_X10 := blk_cell X.out 10 (.int .u64 (n64 l2)) rfl
  have c_X11 := blk_cell X.out 11 (.int .u64 (n64 l3)) rfl
  have f_X := heap_frozen X.out
  refine (paired_calls (op) (code) W0).mono ?_
  rintro e wx ⟨rfl, rfl⟩
  rw [HPP.out]
  go_wp2_with fail
  refine (has_x op code wx hpl).mono ?_
  rintro e wy ⟨rfl, rfl⟩
  have hat2 : (at_ != 0) = false := by rw [bne, hat]; rfl
  have hret2 : (retry != 0) = true := by rw [bne, hret]; rfl
  go_wp2
  go_ret2
  exact ⟨_, rfl, own_nil _ _ _, BL.out⟩

set_option maxRecDepth 100000 in
set_option maxHeartbeats 1600000 in
theorem rencR_x_pol (at_ retry : UInt64) (k : Int) (p1 p2 p3 p4 l1 l2 l3 : UInt64) (op code : Int) (w : World) (hpair : pairS op code = true) (hpl : plainA op code) (hat : (at_ == 0) = true) (hret : (retry == 0) = true) (hpb : ((⟨k, p1, p2, p3, p4⟩ : Pol) == polZ) = false) :
    Calls Tryd.prog 20 #[.agg #[.int .i64 op, .int .i64 code, .int .u64 (n64 at_), .int .u64 (n64 retry), .int .i64 k, .int .u64 (n64 p1), .int .u64 (n64 p2), .int .u64 (n64 p3), .int .u64 (n64 p4), .int .u64 (n64 l1), .int .u64 (n64 l2), .int .u64 (n64 l3)]] w fun e w' => GaveF w w' e ([], 1) := by
  obtain ⟨W0, hW0⟩ : ∃ W, W = w.alloc (.cells #[.int .i64 op, .int .i64 code, .int .u64 (n64 at_), .int .u64 (n64 retry), .int .i64 k, .int .u64 (n64 p1), .int .u64 (n64 p2), .int .u64 (n64 p3), .int .u64 (n64 p4), .int .u64 (n64 l1), .int .u64 (n64 l2), .int .u64 (n64 l3)] 36) := ⟨_, rfl⟩
  have BL : Hid (Below w.heap.size w W0) := by rw [hW0]; exact (Below.refl _ _).alloc (Nat.le_refl _) _
  have X : Hid (W0.heap[w.heap.size]? = some (.cells #[.int .i64 op, .int .i64 code, .int .u64 (n64 at_), .int .u64 (n64 retry), .int .i64 k, .int .u64 (n64 p1), .int .u64 (n64 p2), .int .u64 (n64 p3), .int .u64 (n64 p4), .int .u64 (n64 l1), .int .u64 (n64 l2), .int .u64 (n64 l3)] 36 (0, 0))) := by rw [hW0]; exact heap_here w _ w.heap.size rfl
  have HPP := Go.Lib.hid hpair
  clear hpair
  go_enter Tryd.func20, Tryd.ntmps20
  go_wp2_with fail
  rw [← hW0]
  clear hW0
  have c_X0 := blk_cell X.out 0 (.int .i64 op) rfl
  have c_X1 := blk_cell X.out 1 (.int .i64 code) rfl
  have c_X2 := blk_cell X.out 2 (.int .u64 (n64 at_)) rfl
  have c_X3 := blk_cell X.out 3 (.int .u64 (n64 retry)) rfl
  have c_X4 := blk_cell X.out 4 (.int .i64 k) rfl
  have c_X5 := blk_cell X.out 5 (.int .u64 (n64 p1)) rfl
  have c_X6 := blk_cell X.out 6 (.int .u64 (n64 p2)) rfl
  have c_X7 := blk_cell X.out 7 (.int .u64 (n64 p3)) rfl
  have c_X8 := blk_cell X.out 8 (.int .u64 (n64 p4)) rfl
  have c_X9 := blk_cell X.out 9 (.int .u64 (n64 l1)) rfl
  have c_X10 := blk_cell X.out 10 (.int .u64 (n64 l2)) rfl
  have c_X11 := blk_cell X.out 11 (.int .u64 (n64 l3)) rfl
  have f_X := heap_frozen X.out
  refine (paired_calls (op) (code) W0).mono ?_
  rintro e wx ⟨rfl, rfl⟩
  rw [HPP.out]
  go_wp2_with fail
  refine (has_x op code wx hpl).mono ?_
  rintro e wy ⟨rfl, rfl⟩
  have hat2 : (at_ != 0) = false := by rw [bne, hat]; rfl
  have hret2 : (retry != 0) = false := by rw [bne, hret]; rfl
  have hq := neqlit_pol k p1 p2 p3 p4 false hpb
  have hpb' := Go.Lib.hid hpb
  clear hpb
  go_wp2
  go_ret2
  exact ⟨_, rfl, own_nil _ _ _, BL.out⟩

set_option maxRecDepth 100000 in
set_option maxHeartbeats 1600000 in
theorem rencR_x_lev (at_ retry : UInt64) (k : Int) (p1 p2 p3 p4 l1 l2 l3 : UInt64) (op code : Int) (w : World) (hpair : pairS op code = true) (hpl : plainA op code) (hat : (at_ == 0) = true) (hret : (retry == 0) = true) (hpb : ((⟨k, p1, p2, p3, p4⟩ : Pol) == polZ) = true) (hlb : ((⟨l1, l2, l3⟩ : Lev) == levZ) = false) :
    Calls Tryd.prog 20 #[.agg #[.int .i64 op, .int .i64 code, .int .u64 (n64 at_), .int .u64 (n64 retry), .int .i64 k, .int .u64 (n64 p1), .int .u64 (n64 p2), .int .u64 (n64 p3), .int .u64 (n64 p4), .int .u64 (n64 l1), .int .u64 (n64 l2), .int .u64 (n64 l3)]] w fun e w' => GaveF w w' e ([], 1) := by
  obtain ⟨W0, hW0⟩ : ∃ W, W = w.alloc (.cells #[.int .i64 op, .int .i64 code, .int .u64 (n64 at_), .int .u64 (n64 retry), .int .i64 k, .int .u64 (n64 p1), .int .u64 (n64 p2), .int .u64 (n64 p3), .int .u64 (n64 p4), .int .u64 (n64 l1), .int .u64 (n64 l2), .int .u64 (n64 l3)] 36) := ⟨_, rfl⟩
  have BL : Hid (Below w.heap.size w W0) := by rw [hW0]; exact (Below.refl _ _).alloc (Nat.le_refl _) _
  have X : Hid (W0.heap[w.heap.size]? = some (.cells #[.int .i64 op, .int .i64 code, .int .u64 (n64 at_), .int .u64 (n64 retry), .int .i64 k, .int .u64 (n64 p1), .int .u64 (n64 p2), .int .u64 (n64 p3), .int .u64 (n64 p4), .int .u64 (n64 l1), .int .u64 (n64 l2), .int .u64 (n64 l3)] 36 (0, 0))) := by rw [hW0]; exact heap_here w _ w.heap.size rfl
  have HPP := Go.Lib.hid hpair
  clear hpair
  go_enter Tryd.func20, Tryd.ntmps20
  go_wp2_with fail
  rw [← hW0]
  clear hW0
  have c_X0 := blk_cell X.out 0 (.int .i64 op) rfl
  have c_X1 := blk_cell X.out 1 (.int .i64 code) rfl
  have c_X2 := blk_cell X.out 2 (.int .u64 (n64 at_)) rfl
  have c_X3 := blk_cell X.out 3 (.int .u64 (n64 retry)) rfl
  have c_X4 := blk_cell X.out 4 (.int .i64 k) rfl
  have c_X5 := blk_cell X.out 5 (.int .u64 (n64 p1)) rfl
  have c_X6 := blk_cell X.out 6 (.int .u64 (n64 p2)) rfl
  have c_X7 := blk_cell X.out 7 (.int .u64 (n64 p3)) rfl
  have c_X8 := blk_cell X.out 8 (.int .u64 (n64 p4)) rfl
  have c_X9 := blk_cell X.out 9 (.int .u64 (n64 l1)) rfl
  have c_X10 := blk_cell X.out 10 (.int .u64 (n64 l2)) rfl
  have c_X11 := blk_cell X.out 11 (.int .u64 (n64 l3)) rfl
  have f_X := heap_frozen X.out
  refine (paired_calls (op) (code) W0).mono ?_
  rintro e wx ⟨rfl, rfl⟩
  rw [HPP.out]
  go_wp2_with fail
  refine (has_x op code wx hpl).mono ?_
  rintro e wy ⟨rfl, rfl⟩
  have hat2 : (at_ != 0) = false := by rw [bne, hat]; rfl
  have hret2 : (retry != 0) = false := by rw [bne, hret]; rfl
  have hq := neqlit_pol k p1 p2 p3 p4 true hpb
  have hpb' := Go.Lib.hid hpb
  clear hpb
  have hq2 := neqlit_lev l1 l2 l3 false hlb
  have hlb' := Go.Lib.hid hlb
  clear hlb
  go_wp2
  go_ret2
  exact ⟨_, rfl, own_nil _ _ _, BL.out⟩

set_option maxRecDepth 100000 in
set_option maxHeartbeats 1600000 in
theorem rencR_x_ok (at_ retry : UInt64) (k : Int) (p1 p2 p3 p4 l1 l2 l3 : UInt64) (op code : Int) (w : World) (hpair : pairS op code = true) (hpl : plainA op code) (hat : (at_ == 0) = true) (hret : (retry == 0) = true) (hpb : ((⟨k, p1, p2, p3, p4⟩ : Pol) == polZ) = true) (hlb : ((⟨l1, l2, l3⟩ : Lev) == levZ) = true) :
    Calls Tryd.prog 20 #[.agg #[.int .i64 op, .int .i64 code, .int .u64 (n64 at_), .int .u64 (n64 retry), .int .i64 k, .int .u64 (n64 p1), .int .u64 (n64 p2), .int .u64 (n64 p3), .int .u64 (n64 p4), .int .u64 (n64 l1), .int .u64 (n64 l2), .int .u64 (n64 l3)]] w fun e w' => GaveF w w' e ([b8 op, b8 code], 0) := by
  obtain ⟨W0, hW0⟩ : ∃ W, W = w.alloc (.cells #[.int .i64 op, .int .i64 code, .int .u64 (n64 at_), .int .u64 (n64 retry), .int .i64 k, .int .u64 (n64 p1), .int .u64 (n64 p2), .int .u64 (n64 p3), .int .u64 (n64 p4), .int .u64 (n64 l1), .int .u64 (n64 l2), .int .u64 (n64 l3)] 36) := ⟨_, rfl⟩
  have BL : Hid (Below w.heap.size w W0) := by rw [hW0]; exact (Below.refl _ _).alloc (Nat.le_refl _) _
  have X : Hid (W0.heap[w.heap.size]? = some (.cells #[.int .i64 op, .int .i64 code, .int .u64 (n64 at_), .int .u64 (n64 retry), .int .i64 k, .int .u64 (n64 p1), .int .u64 (n64 p2), .int .u64 (n64 p3), .int .u64 (n64 p4), .int .u64 (n64 l1), .int .u64 (n64 l2), .int .u64 (n64 l3)] 36 (0, 0))) := by rw [hW0]; exact heap_here w _ w.heap.size rfl
  have HPP := Go.Lib.hid hpair
  clear hpair
  go_enter Tryd.func20, Tryd.ntmps20
  go_wp2_with fail
  rw [← hW0]
  clear hW0
  have c_X0 := blk_cell X.out 0 (.int .i64 op) rfl
  have c_X1 := blk_cell X.out 1 (.int .i64 code) rfl
  have c_X2 := blk_cell X.out 2 (.int .u64 (n64 at_)) rfl
  have c_X3 := blk_cell X.out 3 (.int .u64 (n64 retry)) rfl
  have c_X4 := blk_cell X.out 4 (.int .i64 k) rfl
  have c_X5 := blk_cell X.out 5 (.int .u64 (n64 p1)) rfl
  have c_X6 := blk_cell X.out 6 (.int .u64 (n64 p2)) rfl
  have c_X7 := blk_cell X.out 7 (.int .u64 (n64 p3)) rfl
  have c_X8 := blk_cell X.out 8 (.int .u64 (n64 p4)) rfl
  have c_X9 := blk_cell X.out 9 (.int .u64 (n64 l1)) rfl
  have c_X10 := blk_cell X.out 10 (.int .u64 (n64 l2)) rfl
  have c_X11 := blk_cell X.out 11 (.int .u64 (n64 l3)) rfl
  have f_X := heap_frozen X.out
  refine (paired_calls (op) (code) W0).mono ?_
  rintro e wx ⟨rfl, rfl⟩
  rw [HPP.out]
  go_wp2_with fail
  refine (has_x op code wx hpl).mono ?_
  rintro e wy ⟨rfl, rfl⟩
  have hat2 : (at_ != 0) = false := by rw [bne, hat]; rfl
  have hret2 : (retry != 0) = false := by rw [bne, hret]; rfl
  have hq := neqlit_pol k p1 p2 p3 p4 true hpb
  have hpb' := Go.Lib.hid hpb
  clear hpb
  have hq2 := neqlit_lev l1 l2 l3 true hlb
  have hlb' := Go.Lib.hid hlb
  clear hlb
  go_wp2_with fail
  refine (told_calls ⟨k, p1, p2, p3, p4⟩ wy).mono ?_
  rintro e w1 ⟨rfl, hb1⟩
  clear c_X0 c_X1 c_X2 c_X3 c_X4 c_X5 c_X6 c_X7 c_X8 c_X9 c_X10 c_X11 f_X
  have n_X := Go.Lib.hid (below_heap hb1 X.out)
  have n_BL : Hid (Below w.heap.size w w1) := below_then BL.out hb1
  clear X BL
  have X := n_X; clear n_X
  have BL := n_BL; clear n_BL
  clear hb1
  generalize sayS ⟨k, p1, p2, p3, p4⟩ = sb at *
  have hn1 : w.heap.size < w1.heap.size := heap_lt X.out
  have hbb : Below w1.heap.size w1 (w1.alloc (.cells #[.int .u8 (n8 (b8 op)), .int .u8 (n8 (b8 code))] 5)) := (Below.refl _ _).alloc (Nat.le_refl _) _
  have O : Hid (Own (w1.alloc (.cells #[.int .u8 (n8 (b8 op)), .int .u8 (n8 (b8 code))] 5)) w1.heap.size 5 (.slice (some ⟨w1.heap.size, 0, none⟩) 2 2) (Bs [b8 op, b8 code])) := own_block [b8 op, b8 code] (Nat.le_refl _) (heap_here w1 _ _ rfl) (by simp)
  have hz : w1.heap.size ≤ (w1.alloc (.cells #[.int .u8 (n8 (b8 op)), .int .u8 (n8 (b8 code))] 5)).heap.size := hbb.size
  have X1 := X.out
  have n_X := Go.Lib.hid (below_heap hbb X.out)
  have n_BL := Go.Lib.hid (below_then BL.out hbb)
  clear X BL hbb
  have X := n_X; clear n_X
  have BL := n_BL; clear n_BL
  have X0 := blk_cell X.out 0 (.int .i64 op) rfl
  have c_X0 := blk_cell X1 0 (.int .i64 op) rfl
  have c_X1 := blk_cell X1 1 (.int .i64 code) rfl
  clear X0
  go_wp2
  go_ret2
  refine ⟨_, rfl, own_mono (b := w1.heap.size) ?_ (by omega), BL.out⟩
  have ho := O.out
  simpa using ho

set_option maxRecDepth 100000 in
set_option maxHeartbeats 1600000 in
theorem rencR_20_ret (at_ retry : UInt64) (k : Int) (p1 p2 p3 p4 l1 l2 l3 : UInt64) (w : World) (hpair : pairS 2 0 = true) (hret : (retry == 0) = false) :
    Calls Tryd.prog 20 #[.agg #[.int .i64 2, .int .i64 0, .int .u64 (n64 at_), .int .u64 (n64 retry), .int .i64 k, .int .u64 (n64 p1), .int .u64 (n64 p2), .int .u64 (n64 p3), .int .u64 (n64 p4), .int .u64 (n64 l1), .int .u64 (n64 l2), .int .u64 (n64 l3)]] w fun e w' => GaveF w w' e ([], 1) := by
  obtain ⟨W0, hW0⟩ : ∃ W, W = w.alloc (.cells #[.int .i64 2, .int .i64 0, .int .u64 (n64 at_), .int .u64 (n64 retry), .int .i64 k, .int .u64 (n64 p1), .int .u64 (n64 p2), .int .u64 (n64 p3), .int .u64 (n64 p4), .int .u64 (n64 l1), .int .u64 (n64 l2), .int .u64 (n64 l3)] 36) := ⟨_, rfl⟩
  have BL : Hid (Below w.heap.size w W0) := by rw [hW0]; exact (Below.refl _ _).alloc (Nat.le_refl _) _
  have X : Hid (W0.heap[w.heap.size]? = some (.cells #[.int .i64 2, .int .i64 0, .int .u64 (n64 at_), .int .u64 (n64 retry), .int .i64 k, .int .u64 (n64 p1), .int .u64 (n64 p2), .int .u64 (n64 p3), .int .u64 (n64 p4), .int .u64 (n64 l1), .int .u64 (n64 l2), .int .u64 (n64 l3)] 36 (0, 0))) := by rw [hW0]; exact heap_here w _ w.heap.size rfl
  have HPP := Go.Lib.hid hpair
  clear hpair
  go_enter Tryd.func20, Tryd.ntmps20
  go_wp2_with fail
  rw [← hW0]
  clear hW0
  have c_X0 := blk_cell X.out 0 (.int .i64 2) rfl
  have c_X1 := blk_cell X.out 1 (.int .i64 0) rfl
  have c_X2 := blk_cell X.out 2 (.int .u64 (n64 at_)) rfl
  have c_X3 := blk_cell X.out 3 (.int .u64 (n64 retry)) rfl
  have c_X4 := blk_cell X.out 4 (.int .i64 k) rfl
  have c_X5 := blk_cell X.out 5 (.int .u64 (n64 p1)) rfl
  have c_X6 := blk_cell X.out 6 (.int .u64 (n64 p2)) rfl
  have c_X7 := blk_cell X.out 7 (.int .u64 (n64 p3)) rfl
  have c_X8 := blk_cell X.out 8 (.int .u64 (n64 p4)) rfl
  have c_X9 := blk_cell X.out 9 (.int .u64 (n64 l1)) rfl
  have c_X10 := blk_cell X.out 10 (.int .u64 (n64 l2)) rfl
  have c_X11 := blk_cell X.out 11 (.int .u64 (n64 l3)) rfl
  have f_X := heap_frozen X.out
  refine (paired_calls (2) (0) W0).mono ?_
  rintro e wx ⟨rfl, rfl⟩
  rw [HPP.out]
  go_wp2_with fail
  refine (has_20 wx).mono ?_
  rintro e wy ⟨rfl, rfl⟩
  have hret2 : (retry != 0) = true := by rw [bne, hret]; rfl
  go_wp2
  go_ret2
  exact ⟨_, rfl, own_nil _ _ _, BL.out⟩

set_option maxRecDepth 100000 in
set_option maxHeartbeats 1600000 in
theorem rencR_20_pol (at_ retry : UInt64) (k : Int) (p1 p2 p3 p4 l1 l2 l3 : UInt64) (w : World) (hpair : pairS 2 0 = true) (hret : (retry == 0) = true) (hpb : ((⟨k, p1, p2, p3, p4⟩ : Pol) == polZ) = false) :
    Calls Tryd.prog 20 #[.agg #[.int .i64 2, .int .i64 0, .int .u64 (n64 at_), .int .u64 (n64 retry), .int .i64 k, .int .u64 (n64 p1), .int .u64 (n64 p2), .int .u64 (n64 p3), .int .u64 (n64 p4), .int .u64 (n64 l1), .int .u64 (n64 l2), .int .u64 (n64 l3)]] w fun e w' => GaveF w w' e ([], 1) := by
  obtain ⟨W0, hW0⟩ : ∃ W, W = w.alloc (.cells #[.int .i64 2, .int .i64 0, .int .u64 (n64 at_), .int .u64 (n64 retry), .int .i64 k, .int .u64 (n64 p1), .int .u64 (n64 p2), .int .u64 (n64 p3), .int .u64 (n64 p4), .int .u64 (n64 l1), .int .u64 (n64 l2), .int .u64 (n64 l3)] 36) := ⟨_, rfl⟩
  have BL : Hid (Below w.heap.size w W0) := by rw [hW0]; exact (Below.refl _ _).alloc (Nat.le_refl _) _
  have X : Hid (W0.heap[w.heap.size]? = some (.cells #[.int .i64 2, .int .i64 0, .int .u64 (n64 at_), .int .u64 (n64 retry), .int .i64 k, .int .u64 (n64 p1), .int .u64 (n64 p2), .int .u64 (n64 p3), .int .u64 (n64 p4), .int .u64 (n64 l1), .int .u64 (n64 l2), .int .u64 (n64 l3)] 36 (0, 0))) := by rw [hW0]; exact heap_here w _ w.heap.size rfl
  have HPP := Go.Lib.hid hpair
  clear hpair
  go_enter Tryd.func20, Tryd.ntmps20
  go_wp2_with fail
  rw [← hW0]
  clear hW0
  have c_X0 := blk_cell X.out 0 (.int .i64 2) rfl
  have c_X1 := blk_cell X.out 1 (.int .i64 0) rfl
  have c_X2 := blk_cell X.out 2 (.int .u64 (n64 at_)) rfl
  have c_X3 := blk_cell X.out 3 (.int .u64 (n64 retry)) rfl
  have c_X4 := blk_cell X.out 4 (.int .i64 k) rfl
  have c_X5 := blk_cell X.out 5 (.int .u64 (n64 p1)) rfl
  have c_X6 := blk_cell X.out 6 (.int .u64 (n64 p2)) rfl
  have c_X7 := blk_cell X.out 7 (.int .u64 (n64 p3)) rfl
  have c_X8 := blk_cell X.out 8 (.int .u64 (n64 p4)) rfl
  have c_X9 := blk_cell X.out 9 (.int .u64 (n64 l1)) rfl
  have c_X10 := blk_cell X.out 10 (.int .u64 (n64 l2)) rfl
  have c_X11 := blk_cell X.out 11 (.int .u64 (n64 l3)) rfl
  have f_X := heap_frozen X.out
  refine (paired_calls (2) (0) W0).mono ?_
  rintro e wx ⟨rfl, rfl⟩
  rw [HPP.out]
  go_wp2_with fail
  refine (has_20 wx).mono ?_
  rintro e wy ⟨rfl, rfl⟩
  have hret2 : (retry != 0) = false := by rw [bne, hret]; rfl
  have hq := neqlit_pol k p1 p2 p3 p4 false hpb
  have hpb' := Go.Lib.hid hpb
  clear hpb
  go_wp2
  go_ret2
  exact ⟨_, rfl, own_nil _ _ _, BL.out⟩

set_option maxRecDepth 100000 in
set_option maxHeartbeats 1600000 in
theorem rencR_20_lev (at_ retry : UInt64) (k : Int) (p1 p2 p3 p4 l1 l2 l3 : UInt64) (w : World) (hpair : pairS 2 0 = true) (hret : (retry == 0) = true) (hpb : ((⟨k, p1, p2, p3, p4⟩ : Pol) == polZ) = true) (hlb : ((⟨l1, l2, l3⟩ : Lev) == levZ) = false) :
    Calls Tryd.prog 20 #[.agg #[.int .i64 2, .int .i64 0, .int .u64 (n64 at_), .int .u64 (n64 retry), .int .i64 k, .int .u64 (n64 p1), .int .u64 (n64 p2), .int .u64 (n64 p3), .int .u64 (n64 p4), .int .u64 (n64 l1), .int .u64 (n64 l2), .int .u64 (n64 l3)]] w fun e w' => GaveF w w' e ([], 1) := by
  obtain ⟨W0, hW0⟩ : ∃ W, W = w.alloc (.cells #[.int .i64 2, .int .i64 0, .int .u64 (n64 at_), .int .u64 (n64 retry), .int .i64 k, .int .u64 (n64 p1), .int .u64 (n64 p2), .int .u64 (n64 p3), .int .u64 (n64 p4), .int .u64 (n64 l1), .int .u64 (n64 l2), .int .u64 (n64 l3)] 36) := ⟨_, rfl⟩
  have BL : Hid (Below w.heap.size w W0) := by rw [hW0]; exact (Below.refl _ _).alloc (Nat.le_refl _) _
  have X : Hid (W0.heap[w.heap.size]? = some (.cells #[.int .i64 2, .int .i64 0, .int .u64 (n64 at_), .int .u64 (n64 retry), .int .i64 k, .int .u64 (n64 p1), .int .u64 (n64 p2), .int .u64 (n64 p3), .int .u64 (n64 p4), .int .u64 (n64 l1), .int .u64 (n64 l2), .int .u64 (n64 l3)] 36 (0, 0))) := by rw [hW0]; exact heap_here w _ w.heap.size rfl
  have HPP := Go.Lib.hid hpair
  clear hpair
  go_enter Tryd.func20, Tryd.ntmps20
  go_wp2_with fail
  rw [← hW0]
  clear hW0
  have c_X0 := blk_cell X.out 0 (.int .i64 2) rfl
  have c_X1 := blk_cell X.out 1 (.int .i64 0) rfl
  have c_X2 := blk_cell X.out 2 (.int .u64 (n64 at_)) rfl
  have c_X3 := blk_cell X.out 3 (.int .u64 (n64 retry)) rfl
  have c_X4 := blk_cell X.out 4 (.int .i64 k) rfl
  have c_X5 := blk_cell X.out 5 (.int .u64 (n64 p1)) rfl
  have c_X6 := blk_cell X.out 6 (.int .u64 (n64 p2)) rfl
  have c_X7 := blk_cell X.out 7 (.int .u64 (n64 p3)) rfl
  have c_X8 := blk_cell X.out 8 (.int .u64 (n64 p4)) rfl
  have c_X9 := blk_cell X.out 9 (.int .u64 (n64 l1)) rfl
  have c_X10 := blk_cell X.out 10 (.int .u64 (n64 l2)) rfl
  have c_X11 := blk_cell X.out 11 (.int .u64 (n64 l3)) rfl
  have f_X := heap_frozen X.out
  refine (paired_calls (2) (0) W0).mono ?_
  rintro e wx ⟨rfl, rfl⟩
  rw [HPP.out]
  go_wp2_with fail
  refine (has_20 wx).mono ?_
  rintro e wy ⟨rfl, rfl⟩
  have hret2 : (retry != 0) = false := by rw [bne, hret]; rfl
  have hq := neqlit_pol k p1 p2 p3 p4 true hpb
  have hpb' := Go.Lib.hid hpb
  clear hpb
  have hq2 := neqlit_lev l1 l2 l3 false hlb
  have hlb' := Go.Lib.hid hlb
  clear hlb
  go_wp2
  go_ret2
  exact ⟨_, rfl, own_nil _ _ _, BL.out⟩

set_option maxRecDepth 100000 in
set_option maxHeartbeats 1600000 in
theorem rencR_20_ok (at_ retry : UInt64) (k : Int) (p1 p2 p3 p4 l1 l2 l3 : UInt64) (w : World) (hpair : pairS 2 0 = true) (hret : (retry == 0) = true) (hpb : ((⟨k, p1, p2, p3, p4⟩ : Pol) == polZ) = true) (hlb : ((⟨l1, l2, l3⟩ : Lev) == levZ) = true) :
    Calls Tryd.prog 20 #[.agg #[.int .i64 2, .int .i64 0, .int .u64 (n64 at_), .int .u64 (n64 retry), .int .i64 k, .int .u64 (n64 p1), .int .u64 (n64 p2), .int .u64 (n64 p3), .int .u64 (n64 p4), .int .u64 (n64 l1), .int .u64 (n64 l2), .int .u64 (n64 l3)]] w fun e w' => GaveF w w' e ([b8 2, b8 0] ++ leS at_ 8, 0) := by
  obtain ⟨W0, hW0⟩ : ∃ W, W = w.alloc (.cells #[.int .i64 2, .int .i64 0, .int .u64 (n64 at_), .int .u64 (n64 retry), .int .i64 k, .int .u64 (n64 p1), .int .u64 (n64 p2), .int .u64 (n64 p3), .int .u64 (n64 p4), .int .u64 (n64 l1), .int .u64 (n64 l2), .int .u64 (n64 l3)] 36) := ⟨_, rfl⟩
  have BL : Hid (Below w.heap.size w W0) := by rw [hW0]; exact (Below.refl _ _).alloc (Nat.le_refl _) _
  have X : Hid (W0.heap[w.heap.size]? = some (.cells #[.int .i64 2, .int .i64 0, .int .u64 (n64 at_), .int .u64 (n64 retry), .int .i64 k, .int .u64 (n64 p1), .int .u64 (n64 p2), .int .u64 (n64 p3), .int .u64 (n64 p4), .int .u64 (n64 l1), .int .u64 (n64 l2), .int .u64 (n64 l3)] 36 (0, 0))) := by rw [hW0]; exact heap_here w _ w.heap.size rfl
  have HPP := Go.Lib.hid hpair
  clear hpair
  go_enter Tryd.func20, Tryd.ntmps20
  go_wp2_with fail
  rw [← hW0]
  clear hW0
  have c_X0 := blk_cell X.out 0 (.int .i64 2) rfl
  have c_X1 := blk_cell X.out 1 (.int .i64 0) rfl
  have c_X2 := blk_cell X.out 2 (.int .u64 (n64 at_)) rfl
  have c_X3 := blk_cell X.out 3 (.int .u64 (n64 retry)) rfl
  have c_X4 := blk_cell X.out 4 (.int .i64 k) rfl
  have c_X5 := blk_cell X.out 5 (.int .u64 (n64 p1)) rfl
  have c_X6 := blk_cell X.out 6 (.int .u64 (n64 p2)) rfl
  have c_X7 := blk_cell X.out 7 (.int .u64 (n64 p3)) rfl
  have c_X8 := blk_cell X.out 8 (.int .u64 (n64 p4)) rfl
  have c_X9 := blk_cell X.out 9 (.int .u64 (n64 l1)) rfl
  have c_X10 := blk_cell X.out 10 (.int .u64 (n64 l2)) rfl
  have c_X11 := blk_cell X.out 11 (.int .u64 (n64 l3)) rfl
  have f_X := heap_frozen X.out
  refine (paired_calls (2) (0) W0).mono ?_
  rintro e wx ⟨rfl, rfl⟩
  rw [HPP.out]
  go_wp2_with fail
  refine (has_20 wx).mono ?_
  rintro e wy ⟨rfl, rfl⟩
  have hret2 : (retry != 0) = false := by rw [bne, hret]; rfl
  have hq := neqlit_pol k p1 p2 p3 p4 true hpb
  have hpb' := Go.Lib.hid hpb
  clear hpb
  have hq2 := neqlit_lev l1 l2 l3 true hlb
  have hlb' := Go.Lib.hid hlb
  clear hlb
  go_wp2_with fail
  refine (told_calls ⟨k, p1, p2, p3, p4⟩ wy).mono ?_
  rintro e w1 ⟨rfl, hb1⟩
  clear c_X0 c_X1 c_X2 c_X3 c_X4 c_X5 c_X6 c_X7 c_X8 c_X9 c_X10 c_X11 f_X
  have n_X := Go.Lib.hid (below_heap hb1 X.out)
  have n_BL : Hid (Below w.heap.size w w1) := below_then BL.out hb1
  clear X BL
  have X := n_X; clear n_X
  have BL := n_BL; clear n_BL
  clear hb1
  generalize sayS ⟨k, p1, p2, p3, p4⟩ = sb at *
  have hn1 : w.heap.size < w1.heap.size := heap_lt X.out
  have c_X0 := blk_cell X.out 0 (.int .i64 2) rfl
  have c_X1 := blk_cell X.out 1 (.int .i64 0) rfl
  have c_X2 := blk_cell X.out 2 (.int .u64 (n64 at_)) rfl
  have c_X3 := blk_cell X.out 3 (.int .u64 (n64 retry)) rfl
  have c_X4 := blk_cell X.out 4 (.int .i64 k) rfl
  have c_X5 := blk_cell X.out 5 (.int .u64 (n64 p1)) rfl
  have c_X6 := blk_cell X.out 6 (.int .u64 (n64 p2)) rfl
  have c_X7 := blk_cell X.out 7 (.int .u64 (n64 p3)) rfl
  have c_X8 := blk_cell X.out 8 (.int .u64 (n64 p4)) rfl
  have c_X9 := blk_cell X.out 9 (.int .u64 (n64 l1)) rfl
  have c_X10 := blk_cell X.out 10 (.int .u64 (n64 l2)) rfl
  have c_X11 := blk_cell X.out 11 (.int .u64 (n64 l3)) rfl
  have f_X := heap_frozen X.out
  go_wp2_with fail
  have hbb : Below w1.heap.size w1 (w1.alloc (.cells #[.int .u8 2, .int .u8 0] 5)) := (Below.refl _ _).alloc (Nat.le_refl _) _
  have O : Hid (Own (w1.alloc (.cells #[.int .u8 2, .int .u8 0] 5)) w1.heap.size 5 (.slice (some ⟨w1.heap.size, 0, none⟩) 2 2) (Bs [b8 2, b8 0])) := own_block [b8 2, b8 0] (Nat.le_refl _) (heap_here w1 _ _ rfl) (by simp)
  have hz : w1.heap.size ≤ (w1.alloc (.cells #[.int .u8 2, .int .u8 0] 5)).heap.size := hbb.size
  clear c_X0 c_X1 c_X2 c_X3 c_X4 c_X5 c_X6 c_X7 c_X8 c_X9 c_X10 c_X11 f_X
  have n_X := Go.Lib.hid (below_heap hbb X.out)
  have n_BL := Go.Lib.hid (below_then BL.out hbb)
  clear X BL hbb
  have X := n_X; clear n_X
  have BL := n_BL; clear n_BL
  refine (put11_calls w1.heap.size (.slice (some ⟨w1.heap.size, 0, none⟩) 2 2) ([b8 2, b8 0]) at_ 8 8 (by decide) (w1.alloc (.cells #[.int .u8 2, .int .u8 0] 5)) hz (by simp [leS_length, polB_length]) (by decide) O.out).mono ?_
  rintro e u2 ⟨v2, rfl, h1, h2, h3⟩
  have n_O := Go.Lib.hid h1
  have n_BL := Go.Lib.hid (BL.out.trans (h2.mono (by omega : w.heap.size ≤ w1.heap.size)))
  have n_X := Go.Lib.hid (h3 _ _ _ _ X.out (by decide))
  have n_z : w1.heap.size ≤ u2.heap.size := Nat.le_trans hz h2.size
  clear h1 h2 h3 O BL X hz
  have O := n_O; clear n_O
  have BL := n_BL; clear n_BL
  have X := n_X; clear n_X
  have hz := n_z; clear n_z
  have c_X0 := blk_cell X.out 0 (.int .i64 2) rfl
  have c_X1 := blk_cell X.out 1 (.int .i64 0) rfl
  have c_X2 := blk_cell X.out 2 (.int .u64 (n64 at_)) rfl
  have c_X3 := blk_cell X.out 3 (.int .u64 (n64 retry)) rfl
  have c_X4 := blk_cell X.out 4 (.int .i64 k) rfl
  have c_X5 := blk_cell X.out 5 (.int .u64 (n64 p1)) rfl
  have c_X6 := blk_cell X.out 6 (.int .u64 (n64 p2)) rfl
  have c_X7 := blk_cell X.out 7 (.int .u64 (n64 p3)) rfl
  have c_X8 := blk_cell X.out 8 (.int .u64 (n64 p4)) rfl
  have c_X9 := blk_cell X.out 9 (.int .u64 (n64 l1)) rfl
  have c_X10 := blk_cell X.out 10 (.int .u64 (n64 l2)) rfl
  have c_X11 := blk_cell X.out 11 (.int .u64 (n64 l3)) rfl
  have f_X := heap_frozen X.out
  go_wp2
  go_ret2
  refine ⟨_, rfl, own_mono (b := w1.heap.size) ?_ (by omega), BL.out⟩
  have ho := O.out
  simpa using ho

set_option maxRecDepth 100000 in
set_option maxHeartbeats 1600000 in
theorem rencR_21_pol (at_ retry : UInt64) (k : Int) (p1 p2 p3 p4 l1 l2 l3 : UInt64) (w : World) (hpair : pairS 2 1 = true) (hpb : ((⟨k, p1, p2, p3, p4⟩ : Pol) == polZ) = false) :
    Calls Tryd.prog 20 #[.agg #[.int .i64 2, .int .i64 1, .int .u64 (n64 at_), .int .u64 (n64 retry), .int .i64 k, .int .u64 (n64 p1), .int .u64 (n64 p2), .int .u64 (n64 p3), .int .u64 (n64 p4), .int .u64 (n64 l1), .int .u64 (n64 l2), .int .u64 (n64 l3)]] w fun e w' => GaveF w w' e ([], 1) := by
  obtain ⟨W0, hW0⟩ : ∃ W, W = w.alloc (.cells #[.int .i64 2, .int .i64 1, .int .u64 (n64 at_), .int .u64 (n64 retry), .int .i64 k, .int .u64 (n64 p1), .int .u64 (n64 p2), .int .u64 (n64 p3), .int .u64 (n64 p4), .int .u64 (n64 l1), .int .u64 (n64 l2), .int .u64 (n64 l3)] 36) := ⟨_, rfl⟩
  have BL : Hid (Below w.heap.size w W0) := by rw [hW0]; exact (Below.refl _ _).alloc (Nat.le_refl _) _
  have X : Hid (W0.heap[w.heap.size]? = some (.cells #[.int .i64 2, .int .i64 1, .int .u64 (n64 at_), .int .u64 (n64 retry), .int .i64 k, .int .u64 (n64 p1), .int .u64 (n64 p2), .int .u64 (n64 p3), .int .u64 (n64 p4), .int .u64 (n64 l1), .int .u64 (n64 l2), .int .u64 (n64 l3)] 36 (0, 0))) := by rw [hW0]; exact heap_here w _ w.heap.size rfl
  have HPP := Go.Lib.hid hpair
  clear hpair
  go_enter Tryd.func20, Tryd.ntmps20
  go_wp2_with fail
  rw [← hW0]
  clear hW0
  have c_X0 := blk_cell X.out 0 (.int .i64 2) rfl
  have c_X1 := blk_cell X.out 1 (.int .i64 1) rfl
  have c_X2 := blk_cell X.out 2 (.int .u64 (n64 at_)) rfl
  have c_X3 := blk_cell X.out 3 (.int .u64 (n64 retry)) rfl
  have c_X4 := blk_cell X.out 4 (.int .i64 k) rfl
  have c_X5 := blk_cell X.out 5 (.int .u64 (n64 p1)) rfl
  have c_X6 := blk_cell X.out 6 (.int .u64 (n64 p2)) rfl
  have c_X7 := blk_cell X.out 7 (.int .u64 (n64 p3)) rfl
  have c_X8 := blk_cell X.out 8 (.int .u64 (n64 p4)) rfl
  have c_X9 := blk_cell X.out 9 (.int .u64 (n64 l1)) rfl
  have c_X10 := blk_cell X.out 10 (.int .u64 (n64 l2)) rfl
  have c_X11 := blk_cell X.out 11 (.int .u64 (n64 l3)) rfl
  have f_X := heap_frozen X.out
  refine (paired_calls (2) (1) W0).mono ?_
  rintro e wx ⟨rfl, rfl⟩
  rw [HPP.out]
  go_wp2_with fail
  refine (has_21 wx).mono ?_
  rintro e wy ⟨rfl, rfl⟩
  have hq := neqlit_pol k p1 p2 p3 p4 false hpb
  have hpb' := Go.Lib.hid hpb
  clear hpb
  go_wp2
  go_ret2
  exact ⟨_, rfl, own_nil _ _ _, BL.out⟩

set_option maxRecDepth 100000 in
set_option maxHeartbeats 1600000 in
theorem rencR_21_lev (at_ retry : UInt64) (k : Int) (p1 p2 p3 p4 l1 l2 l3 : UInt64) (w : World) (hpair : pairS 2 1 = true) (hpb : ((⟨k, p1, p2, p3, p4⟩ : Pol) == polZ) = true) (hlb : ((⟨l1, l2, l3⟩ : Lev) == levZ) = false) :
    Calls Tryd.prog 20 #[.agg #[.int .i64 2, .int .i64 1, .int .u64 (n64 at_), .int .u64 (n64 retry), .int .i64 k, .int .u64 (n64 p1), .int .u64 (n64 p2), .int .u64 (n64 p3), .int .u64 (n64 p4), .int .u64 (n64 l1), .int .u64 (n64 l2), .int .u64 (n64 l3)]] w fun e w' => GaveF w w' e ([], 1) := by
  obtain ⟨W0, hW0⟩ : ∃ W, W = w.alloc (.cells #[.int .i64 2, .int .i64 1, .int .u64 (n64 at_), .int .u64 (n64 retry), .int .i64 k, .int .u64 (n64 p1), .int .u64 (n64 p2), .int .u64 (n64 p3), .int .u64 (n64 p4), .int .u64 (n64 l1), .int .u64 (n64 l2), .int .u64 (n64 l3)] 36) := ⟨_, rfl⟩
  have BL : Hid (Below w.heap.size w W0) := by rw [hW0]; exact (Below.refl _ _).alloc (Nat.le_refl _) _
  have X : Hid (W0.heap[w.heap.size]? = some (.cells #[.int .i64 2, .int .i64 1, .int .u64 (n64 at_), .int .u64 (n64 retry), .int .i64 k, .int .u64 (n64 p1), .int .u64 (n64 p2), .int .u64 (n64 p3), .int .u64 (n64 p4), .int .u64 (n64 l1), .int .u64 (n64 l2), .int .u64 (n64 l3)] 36 (0, 0))) := by rw [hW0]; exact heap_here w _ w.heap.size rfl
  have HPP := Go.Lib.hid hpair
  clear hpair
  go_enter Tryd.func20, Tryd.ntmps20
  go_wp2_with fail
  rw [← hW0]
  clear hW0
  have c_X0 := blk_cell X.out 0 (.int .i64 2) rfl
  have c_X1 := blk_cell X.out 1 (.int .i64 1) rfl
  have c_X2 := blk_cell X.out 2 (.int .u64 (n64 at_)) rfl
  have c_X3 := blk_cell X.out 3 (.int .u64 (n64 retry)) rfl
  have c_X4 := blk_cell X.out 4 (.int .i64 k) rfl
  have c_X5 := blk_cell X.out 5 (.int .u64 (n64 p1)) rfl
  have c_X6 := blk_cell X.out 6 (.int .u64 (n64 p2)) rfl
  have c_X7 := blk_cell X.out 7 (.int .u64 (n64 p3)) rfl
  have c_X8 := blk_cell X.out 8 (.int .u64 (n64 p4)) rfl
  have c_X9 := blk_cell X.out 9 (.int .u64 (n64 l1)) rfl
  have c_X10 := blk_cell X.out 10 (.int .u64 (n64 l2)) rfl
  have c_X11 := blk_cell X.out 11 (.int .u64 (n64 l3)) rfl
  have f_X := heap_frozen X.out
  refine (paired_calls (2) (1) W0).mono ?_
  rintro e wx ⟨rfl, rfl⟩
  rw [HPP.out]
  go_wp2_with fail
  refine (has_21 wx).mono ?_
  rintro e wy ⟨rfl, rfl⟩
  have hq := neqlit_pol k p1 p2 p3 p4 true hpb
  have hpb' := Go.Lib.hid hpb
  clear hpb
  have hq2 := neqlit_lev l1 l2 l3 false hlb
  have hlb' := Go.Lib.hid hlb
  clear hlb
  go_wp2
  go_ret2
  exact ⟨_, rfl, own_nil _ _ _, BL.out⟩

set_option maxRecDepth 100000 in
set_option maxHeartbeats 1600000 in
theorem rencR_21_ok (at_ retry : UInt64) (k : Int) (p1 p2 p3 p4 l1 l2 l3 : UInt64) (w : World) (hpair : pairS 2 1 = true) (hpb : ((⟨k, p1, p2, p3, p4⟩ : Pol) == polZ) = true) (hlb : ((⟨l1, l2, l3⟩ : Lev) == levZ) = true) :
    Calls Tryd.prog 20 #[.agg #[.int .i64 2, .int .i64 1, .int .u64 (n64 at_), .int .u64 (n64 retry), .int .i64 k, .int .u64 (n64 p1), .int .u64 (n64 p2), .int .u64 (n64 p3), .int .u64 (n64 p4), .int .u64 (n64 l1), .int .u64 (n64 l2), .int .u64 (n64 l3)]] w fun e w' => GaveF w w' e ([b8 2, b8 1] ++ leS at_ 8 ++ leS retry 8, 0) := by
  obtain ⟨W0, hW0⟩ : ∃ W, W = w.alloc (.cells #[.int .i64 2, .int .i64 1, .int .u64 (n64 at_), .int .u64 (n64 retry), .int .i64 k, .int .u64 (n64 p1), .int .u64 (n64 p2), .int .u64 (n64 p3), .int .u64 (n64 p4), .int .u64 (n64 l1), .int .u64 (n64 l2), .int .u64 (n64 l3)] 36) := ⟨_, rfl⟩
  have BL : Hid (Below w.heap.size w W0) := by rw [hW0]; exact (Below.refl _ _).alloc (Nat.le_refl _) _
  have X : Hid (W0.heap[w.heap.size]? = some (.cells #[.int .i64 2, .int .i64 1, .int .u64 (n64 at_), .int .u64 (n64 retry), .int .i64 k, .int .u64 (n64 p1), .int .u64 (n64 p2), .int .u64 (n64 p3), .int .u64 (n64 p4), .int .u64 (n64 l1), .int .u64 (n64 l2), .int .u64 (n64 l3)] 36 (0, 0))) := by rw [hW0]; exact heap_here w _ w.heap.size rfl
  have HPP := Go.Lib.hid hpair
  clear hpair
  go_enter Tryd.func20, Tryd.ntmps20
  go_wp2_with fail
  rw [← hW0]
  clear hW0
  have c_X0 := blk_cell X.out 0 (.int .i64 2) rfl
  have c_X1 := blk_cell X.out 1 (.int .i64 1) rfl
  have c_X2 := blk_cell X.out 2 (.int .u64 (n64 at_)) rfl
  have c_X3 := blk_cell X.out 3 (.int .u64 (n64 retry)) rfl
  have c_X4 := blk_cell X.out 4 (.int .i64 k) rfl
  have c_X5 := blk_cell X.out 5 (.int .u64 (n64 p1)) rfl
  have c_X6 := blk_cell X.out 6 (.int .u64 (n64 p2)) rfl
  have c_X7 := blk_cell X.out 7 (.int .u64 (n64 p3)) rfl
  have c_X8 := blk_cell X.out 8 (.int .u64 (n64 p4)) rfl
  have c_X9 := blk_cell X.out 9 (.int .u64 (n64 l1)) rfl
  have c_X10 := blk_cell X.out 10 (.int .u64 (n64 l2)) rfl
  have c_X11 := blk_cell X.out 11 (.int .u64 (n64 l3)) rfl
  have f_X := heap_frozen X.out
  refine (paired_calls (2) (1) W0).mono ?_
  rintro e wx ⟨rfl, rfl⟩
  rw [HPP.out]
  go_wp2_with fail
  refine (has_21 wx).mono ?_
  rintro e wy ⟨rfl, rfl⟩
  have hq := neqlit_pol k p1 p2 p3 p4 true hpb
  have hpb' := Go.Lib.hid hpb
  clear hpb
  have hq2 := neqlit_lev l1 l2 l3 true hlb
  have hlb' := Go.Lib.hid hlb
  clear hlb
  go_wp2_with fail
  refine (told_calls ⟨k, p1, p2, p3, p4⟩ wy).mono ?_
  rintro e w1 ⟨rfl, hb1⟩
  clear c_X0 c_X1 c_X2 c_X3 c_X4 c_X5 c_X6 c_X7 c_X8 c_X9 c_X10 c_X11 f_X
  have n_X := Go.Lib.hid (below_heap hb1 X.out)
  have n_BL : Hid (Below w.heap.size w w1) := below_then BL.out hb1
  clear X BL
  have X := n_X; clear n_X
  have BL := n_BL; clear n_BL
  clear hb1
  generalize sayS ⟨k, p1, p2, p3, p4⟩ = sb at *
  have hn1 : w.heap.size < w1.heap.size := heap_lt X.out
  have c_X0 := blk_cell X.out 0 (.int .i64 2) rfl
  have c_X1 := blk_cell X.out 1 (.int .i64 1) rfl
  have c_X2 := blk_cell X.out 2 (.int .u64 (n64 at_)) rfl
  have c_X3 := blk_cell X.out 3 (.int .u64 (n64 retry)) rfl
  have c_X4 := blk_cell X.out 4 (.int .i64 k) rfl
  have c_X5 := blk_cell X.out 5 (.int .u64 (n64 p1)) rfl
  have c_X6 := blk_cell X.out 6 (.int .u64 (n64 p2)) rfl
  have c_X7 := blk_cell X.out 7 (.int .u64 (n64 p3)) rfl
  have c_X8 := blk_cell X.out 8 (.int .u64 (n64 p4)) rfl
  have c_X9 := blk_cell X.out 9 (.int .u64 (n64 l1)) rfl
  have c_X10 := blk_cell X.out 10 (.int .u64 (n64 l2)) rfl
  have c_X11 := blk_cell X.out 11 (.int .u64 (n64 l3)) rfl
  have f_X := heap_frozen X.out
  go_wp2_with fail
  have hbb : Below w1.heap.size w1 (w1.alloc (.cells #[.int .u8 2, .int .u8 1] 5)) := (Below.refl _ _).alloc (Nat.le_refl _) _
  have O : Hid (Own (w1.alloc (.cells #[.int .u8 2, .int .u8 1] 5)) w1.heap.size 5 (.slice (some ⟨w1.heap.size, 0, none⟩) 2 2) (Bs [b8 2, b8 1])) := own_block [b8 2, b8 1] (Nat.le_refl _) (heap_here w1 _ _ rfl) (by simp)
  have hz : w1.heap.size ≤ (w1.alloc (.cells #[.int .u8 2, .int .u8 1] 5)).heap.size := hbb.size
  clear c_X0 c_X1 c_X2 c_X3 c_X4 c_X5 c_X6 c_X7 c_X8 c_X9 c_X10 c_X11 f_X
  have n_X := Go.Lib.hid (below_heap hbb X.out)
  have n_BL := Go.Lib.hid (below_then BL.out hbb)
  clear X BL hbb
  have X := n_X; clear n_X
  have BL := n_BL; clear n_BL
  refine (put11_calls w1.heap.size (.slice (some ⟨w1.heap.size, 0, none⟩) 2 2) ([b8 2, b8 1]) at_ 8 8 (by decide) (w1.alloc (.cells #[.int .u8 2, .int .u8 1] 5)) hz (by simp [leS_length, polB_length]) (by decide) O.out).mono ?_
  rintro e u2 ⟨v2, rfl, h1, h2, h3⟩
  have n_O := Go.Lib.hid h1
  have n_BL := Go.Lib.hid (BL.out.trans (h2.mono (by omega : w.heap.size ≤ w1.heap.size)))
  have n_X := Go.Lib.hid (h3 _ _ _ _ X.out (by decide))
  have n_z : w1.heap.size ≤ u2.heap.size := Nat.le_trans hz h2.size
  clear h1 h2 h3 O BL X hz
  have O := n_O; clear n_O
  have BL := n_BL; clear n_BL
  have X := n_X; clear n_X
  have hz := n_z; clear n_z
  have c_X0 := blk_cell X.out 0 (.int .i64 2) rfl
  have c_X1 := blk_cell X.out 1 (.int .i64 1) rfl
  have c_X2 := blk_cell X.out 2 (.int .u64 (n64 at_)) rfl
  have c_X3 := blk_cell X.out 3 (.int .u64 (n64 retry)) rfl
  have c_X4 := blk_cell X.out 4 (.int .i64 k) rfl
  have c_X5 := blk_cell X.out 5 (.int .u64 (n64 p1)) rfl
  have c_X6 := blk_cell X.out 6 (.int .u64 (n64 p2)) rfl
  have c_X7 := blk_cell X.out 7 (.int .u64 (n64 p3)) rfl
  have c_X8 := blk_cell X.out 8 (.int .u64 (n64 p4)) rfl
  have c_X9 := blk_cell X.out 9 (.int .u64 (n64 l1)) rfl
  have c_X10 := blk_cell X.out 10 (.int .u64 (n64 l2)) rfl
  have c_X11 := blk_cell X.out 11 (.int .u64 (n64 l3)) rfl
  have f_X := heap_frozen X.out
  go_wp2_with fail
  clear c_X0 c_X1 c_X2 c_X3 c_X4 c_X5 c_X6 c_X7 c_X8 c_X9 c_X10 c_X11 f_X
  refine (put11_calls w1.heap.size (v2) ([b8 2, b8 1] ++ leS at_ 8) retry 8 8 (by decide) u2 hz (by simp [leS_length, polB_length]) (by decide) O.out).mono ?_
  rintro e u3 ⟨v3, rfl, h1, h2, h3⟩
  have n_O := Go.Lib.hid h1
  have n_BL := Go.Lib.hid (BL.out.trans (h2.mono (by omega : w.heap.size ≤ w1.heap.size)))
  have n_X := Go.Lib.hid (h3 _ _ _ _ X.out (by decide))
  have n_z : w1.heap.size ≤ u3.heap.size := Nat.le_trans hz h2.size
  clear h1 h2 h3 O BL X hz
  have O := n_O; clear n_O
  have BL := n_BL; clear n_BL
  have X := n_X; clear n_X
  have hz := n_z; clear n_z
  have c_X0 := blk_cell X.out 0 (.int .i64 2) rfl
  have c_X1 := blk_cell X.out 1 (.int .i64 1) rfl
  have c_X2 := blk_cell X.out 2 (.int .u64 (n64 at_)) rfl
  have c_X3 := blk_cell X.out 3 (.int .u64 (n64 retry)) rfl
  have c_X4 := blk_cell X.out 4 (.int .i64 k) rfl
  have c_X5 := blk_cell X.out 5 (.int .u64 (n64 p1)) rfl
  have c_X6 := blk_cell X.out 6 (.int .u64 (n64 p2)) rfl
  have c_X7 := blk_cell X.out 7 (.int .u64 (n64 p3)) rfl
  have c_X8 := blk_cell X.out 8 (.int .u64 (n64 p4)) rfl
  have c_X9 := blk_cell X.out 9 (.int .u64 (n64 l1)) rfl
  have c_X10 := blk_cell X.out 10 (.int .u64 (n64 l2)) rfl
  have c_X11 := blk_cell X.out 11 (.int .u64 (n64 l3)) rfl
  have f_X := heap_frozen X.out
  go_wp2
  go_ret2
  refine ⟨_, rfl, own_mono (b := w1.heap.size) ?_ (by omega), BL.out⟩
  have ho := O.out
  simpa using ho

set_option maxRecDepth 100000 in
set_option maxHeartbeats 1600000 in
theorem rencR_30_ret (at_ retry : UInt64) (k : Int) (p1 p2 p3 p4 l1 l2 l3 : UInt64) (w : World) (hpair : pairS 3 0 = true) (hret : (retry == 0) = false) :
    Calls Tryd.prog 20 #[.agg #[.int .i64 3, .int .i64 0, .int .u64 (n64 at_), .int .u64 (n64 retry), .int .i64 k, .int .u64 (n64 p1), .int .u64 (n64 p2), .int .u64 (n64 p3), .int .u64 (n64 p4), .int .u64 (n64 l1), .int .u64 (n64 l2), .int .u64 (n64 l3)]] w fun e w' => GaveF w w' e ([], 1) := by
  obtain ⟨W0, hW0⟩ : ∃ W, W = w.alloc (.cells #[.int .i64 3, .int .i64 0, .int .u64 (n64 at_), .int .u64 (n64 retry), .int .i64 k, .int .u64 (n64 p1), .int .u64 (n64 p2), .int .u64 (n64 p3), .int .u64 (n64 p4), .int .u64 (n64 l1), .int .u64 (n64 l2), .int .u64 (n64 l3)] 36) := ⟨_, rfl⟩
  have BL : Hid (Below w.heap.size w W0) := by rw [hW0]; exact (Below.refl _ _).alloc (Nat.le_refl _) _
  have X : Hid (W0.heap[w.heap.size]? = some (.cells #[.int .i64 3, .int .i64 0, .int .u64 (n64 at_), .int .u64 (n64 retry), .int .i64 k, .int .u64 (n64 p1), .int .u64 (n64 p2), .int .u64 (n64 p3), .int .u64 (n64 p4), .int .u64 (n64 l1), .int .u64 (n64 l2), .int .u64 (n64 l3)] 36 (0, 0))) := by rw [hW0]; exact heap_here w _ w.heap.size rfl
  have HPP := Go.Lib.hid hpair
  clear hpair
  go_enter Tryd.func20, Tryd.ntmps20
  go_wp2_with fail
  rw [← hW0]
  clear hW0
  have c_X0 := blk_cell X.out 0 (.int .i64 3) rfl
  have c_X1 := blk_cell X.out 1 (.int .i64 0) rfl
  have c_X2 := blk_cell X.out 2 (.int .u64 (n64 at_)) rfl
  have c_X3 := blk_cell X.out 3 (.int .u64 (n64 retry)) rfl
  have c_X4 := blk_cell X.out 4 (.int .i64 k) rfl
  have c_X5 := blk_cell X.out 5 (.int .u64 (n64 p1)) rfl
  have c_X6 := blk_cell X.out 6 (.int .u64 (n64 p2)) rfl
  have c_X7 := blk_cell X.out 7 (.int .u64 (n64 p3)) rfl
  have c_X8 := blk_cell X.out 8 (.int .u64 (n64 p4)) rfl
  have c_X9 := blk_cell X.out 9 (.int .u64 (n64 l1)) rfl
  have c_X10 := blk_cell X.out 10 (.int .u64 (n64 l2)) rfl
  have c_X11 := blk_cell X.out 11 (.int .u64 (n64 l3)) rfl
  have f_X := heap_frozen X.out
  refine (paired_calls (3) (0) W0).mono ?_
  rintro e wx ⟨rfl, rfl⟩
  rw [HPP.out]
  go_wp2_with fail
  refine (has_30 wx).mono ?_
  rintro e wy ⟨rfl, rfl⟩
  have hret2 : (retry != 0) = true := by rw [bne, hret]; rfl
  go_wp2
  go_ret2
  exact ⟨_, rfl, own_nil _ _ _, BL.out⟩

set_option maxRecDepth 100000 in
set_option maxHeartbeats 1600000 in
theorem rencR_30_say (at_ retry : UInt64) (k : Int) (p1 p2 p3 p4 l1 l2 l3 : UInt64) (w : World) (hpair : pairS 3 0 = true) (hret : (retry == 0) = true) (hsay : sayS ⟨k, p1, p2, p3, p4⟩ = false) :
    Calls Tryd.prog 20 #[.agg #[.int .i64 3, .int .i64 0, .int .u64 (n64 at_), .int .u64 (n64 retry), .int .i64 k, .int .u64 (n64 p1), .int .u64 (n64 p2), .int .u64 (n64 p3), .int .u64 (n64 p4), .int .u64 (n64 l1), .int .u64 (n64 l2), .int .u64 (n64 l3)]] w fun e w' => GaveF w w' e ([], 1) := by
  obtain ⟨W0, hW0⟩ : ∃ W, W = w.alloc (.cells #[.int .i64 3, .int .i64 0, .int .u64 (n64 at_), .int .u64 (n64 retry), .int .i64 k, .int .u64 (n64 p1), .int .u64 (n64 p2), .int .u64 (n64 p3), .int .u64 (n64 p4), .int .u64 (n64 l1), .int .u64 (n64 l2), .int .u64 (n64 l3)] 36) := ⟨_, rfl⟩
  have BL : Hid (Below w.heap.size w W0) := by rw [hW0]; exact (Below.refl _ _).alloc (Nat.le_refl _) _
  have X : Hid (W0.heap[w.heap.size]? = some (.cells #[.int .i64 3, .int .i64 0, .int .u64 (n64 at_), .int .u64 (n64 retry), .int .i64 k, .int .u64 (n64 p1), .int .u64 (n64 p2), .int .u64 (n64 p3), .int .u64 (n64 p4), .int .u64 (n64 l1), .int .u64 (n64 l2), .int .u64 (n64 l3)] 36 (0, 0))) := by rw [hW0]; exact heap_here w _ w.heap.size rfl
  have HPP := Go.Lib.hid hpair
  clear hpair
  go_enter Tryd.func20, Tryd.ntmps20
  go_wp2_with fail
  rw [← hW0]
  clear hW0
  have c_X0 := blk_cell X.out 0 (.int .i64 3) rfl
  have c_X1 := blk_cell X.out 1 (.int .i64 0) rfl
  have c_X2 := blk_cell X.out 2 (.int .u64 (n64 at_)) rfl
  have c_X3 := blk_cell X.out 3 (.int .u64 (n64 retry)) rfl
  have c_X4 := blk_cell X.out 4 (.int .i64 k) rfl
  have c_X5 := blk_cell X.out 5 (.int .u64 (n64 p1)) rfl
  have c_X6 := blk_cell X.out 6 (.int .u64 (n64 p2)) rfl
  have c_X7 := blk_cell X.out 7 (.int .u64 (n64 p3)) rfl
  have c_X8 := blk_cell X.out 8 (.int .u64 (n64 p4)) rfl
  have c_X9 := blk_cell X.out 9 (.int .u64 (n64 l1)) rfl
  have c_X10 := blk_cell X.out 10 (.int .u64 (n64 l2)) rfl
  have c_X11 := blk_cell X.out 11 (.int .u64 (n64 l3)) rfl
  have f_X := heap_frozen X.out
  refine (paired_calls (3) (0) W0).mono ?_
  rintro e wx ⟨rfl, rfl⟩
  rw [HPP.out]
  go_wp2_with fail
  refine (has_30 wx).mono ?_
  rintro e wy ⟨rfl, rfl⟩
  have hret2 : (retry != 0) = false := by rw [bne, hret]; rfl
  go_wp2_with fail
  refine (told_calls ⟨k, p1, p2, p3, p4⟩ wy).mono ?_
  rintro e w1 ⟨rfl, hb1⟩
  clear c_X0 c_X1 c_X2 c_X3 c_X4 c_X5 c_X6 c_X7 c_X8 c_X9 c_X10 c_X11 f_X
  have n_X := Go.Lib.hid (below_heap hb1 X.out)
  have n_BL : Hid (Below w.heap.size w w1) := below_then BL.out hb1
  clear X BL
  have X := n_X; clear n_X
  have BL := n_BL; clear n_BL
  clear hb1
  rw [hsay]
  have c_X0 := blk_cell X.out 0 (.int .i64 3) rfl
  have c_X1 := blk_cell X.out 1 (.int .i64 0) rfl
  have c_X2 := blk_cell X.out 2 (.int .u64 (n64 at_)) rfl
  have c_X3 := blk_cell X.out 3 (.int .u64 (n64 retry)) rfl
  have c_X4 := blk_cell X.out 4 (.int .i64 k) rfl
  have c_X5 := blk_cell X.out 5 (.int .u64 (n64 p1)) rfl
  have c_X6 := blk_cell X.out 6 (.int .u64 (n64 p2)) rfl
  have c_X7 := blk_cell X.out 7 (.int .u64 (n64 p3)) rfl
  have c_X8 := blk_cell X.out 8 (.int .u64 (n64 p4)) rfl
  have c_X9 := blk_cell X.out 9 (.int .u64 (n64 l1)) rfl
  have c_X10 := blk_cell X.out 10 (.int .u64 (n64 l2)) rfl
  have c_X11 := blk_cell X.out 11 (.int .u64 (n64 l3)) rfl
  have f_X := heap_frozen X.out
  go_wp2
  go_ret2
  exact ⟨_, rfl, own_nil _ _ _, BL.out⟩

set_option maxRecDepth 100000 in
set_option maxHeartbeats 1600000 in
theorem rencR_30_ok (at_ retry : UInt64) (k : Int) (p1 p2 p3 p4 l1 l2 l3 : UInt64) (w : World) (hpair : pairS 3 0 = true) (hret : (retry == 0) = true) (hsay : sayS ⟨k, p1, p2, p3, p4⟩ = true) :
    Calls Tryd.prog 20 #[.agg #[.int .i64 3, .int .i64 0, .int .u64 (n64 at_), .int .u64 (n64 retry), .int .i64 k, .int .u64 (n64 p1), .int .u64 (n64 p2), .int .u64 (n64 p3), .int .u64 (n64 p4), .int .u64 (n64 l1), .int .u64 (n64 l2), .int .u64 (n64 l3)]] w fun e w' => GaveF w w' e ([b8 3, b8 0] ++ leS at_ 8 ++ polB ⟨k, p1, p2, p3, p4⟩ ++ leS l1 8 ++ leS l2 8 ++ leS l3 8, 0) := by
  obtain ⟨W0, hW0⟩ : ∃ W, W = w.alloc (.cells #[.int .i64 3, .int .i64 0, .int .u64 (n64 at_), .int .u64 (n64 retry), .int .i64 k, .int .u64 (n64 p1), .int .u64 (n64 p2), .int .u64 (n64 p3), .int .u64 (n64 p4), .int .u64 (n64 l1), .int .u64 (n64 l2), .int .u64 (n64 l3)] 36) := ⟨_, rfl⟩
  have BL : Hid (Below w.heap.size w W0) := by rw [hW0]; exact (Below.refl _ _).alloc (Nat.le_refl _) _
  have X : Hid (W0.heap[w.heap.size]? = some (.cells #[.int .i64 3, .int .i64 0, .int .u64 (n64 at_), .int .u64 (n64 retry), .int .i64 k, .int .u64 (n64 p1), .int .u64 (n64 p2), .int .u64 (n64 p3), .int .u64 (n64 p4), .int .u64 (n64 l1), .int .u64 (n64 l2), .int .u64 (n64 l3)] 36 (0, 0))) := by rw [hW0]; exact heap_here w _ w.heap.size rfl
  have HPP := Go.Lib.hid hpair
  clear hpair
  go_enter Tryd.func20, Tryd.ntmps20
  go_wp2_with fail
  rw [← hW0]
  clear hW0
  have c_X0 := blk_cell X.out 0 (.int .i64 3) rfl
  have c_X1 := blk_cell X.out 1 (.int .i64 0) rfl
  have c_X2 := blk_cell X.out 2 (.int .u64 (n64 at_)) rfl
  have c_X3 := blk_cell X.out 3 (.int .u64 (n64 retry)) rfl
  have c_X4 := blk_cell X.out 4 (.int .i64 k) rfl
  have c_X5 := blk_cell X.out 5 (.int .u64 (n64 p1)) rfl
  have c_X6 := blk_cell X.out 6 (.int .u64 (n64 p2)) rfl
  have c_X7 := blk_cell X.out 7 (.int .u64 (n64 p3)) rfl
  have c_X8 := blk_cell X.out 8 (.int .u64 (n64 p4)) rfl
  have c_X9 := blk_cell X.out 9 (.int .u64 (n64 l1)) rfl
  have c_X10 := blk_cell X.out 10 (.int .u64 (n64 l2)) rfl
  have c_X11 := blk_cell X.out 11 (.int .u64 (n64 l3)) rfl
  have f_X := heap_frozen X.out
  refine (paired_calls (3) (0) W0).mono ?_
  rintro e wx ⟨rfl, rfl⟩
  rw [HPP.out]
  go_wp2_with fail
  refine (has_30 wx).mono ?_
  rintro e wy ⟨rfl, rfl⟩
  have hret2 : (retry != 0) = false := by rw [bne, hret]; rfl
  go_wp2_with fail
  refine (told_calls ⟨k, p1, p2, p3, p4⟩ wy).mono ?_
  rintro e w1 ⟨rfl, hb1⟩
  clear c_X0 c_X1 c_X2 c_X3 c_X4 c_X5 c_X6 c_X7 c_X8 c_X9 c_X10 c_X11 f_X
  have n_X := Go.Lib.hid (below_heap hb1 X.out)
  have n_BL : Hid (Below w.heap.size w w1) := below_then BL.out hb1
  clear X BL
  have X := n_X; clear n_X
  have BL := n_BL; clear n_BL
  clear hb1
  rw [hsay]
  have hn1 : w.heap.size < w1.heap.size := heap_lt X.out
  have c_X0 := blk_cell X.out 0 (.int .i64 3) rfl
  have c_X1 := blk_cell X.out 1 (.int .i64 0) rfl
  have c_X2 := blk_cell X.out 2 (.int .u64 (n64 at_)) rfl
  have c_X3 := blk_cell X.out 3 (.int .u64 (n64 retry)) rfl
  have c_X4 := blk_cell X.out 4 (.int .i64 k) rfl
  have c_X5 := blk_cell X.out 5 (.int .u64 (n64 p1)) rfl
  have c_X6 := blk_cell X.out 6 (.int .u64 (n64 p2)) rfl
  have c_X7 := blk_cell X.out 7 (.int .u64 (n64 p3)) rfl
  have c_X8 := blk_cell X.out 8 (.int .u64 (n64 p4)) rfl
  have c_X9 := blk_cell X.out 9 (.int .u64 (n64 l1)) rfl
  have c_X10 := blk_cell X.out 10 (.int .u64 (n64 l2)) rfl
  have c_X11 := blk_cell X.out 11 (.int .u64 (n64 l3)) rfl
  have f_X := heap_frozen X.out
  go_wp2_with fail
  have hbb : Below w1.heap.size w1 (w1.alloc (.cells #[.int .u8 3, .int .u8 0] 5)) := (Below.refl _ _).alloc (Nat.le_refl _) _
  have O : Hid (Own (w1.alloc (.cells #[.int .u8 3, .int .u8 0] 5)) w1.heap.size 5 (.slice (some ⟨w1.heap.size, 0, none⟩) 2 2) (Bs [b8 3, b8 0])) := own_block [b8 3, b8 0] (Nat.le_refl _) (heap_here w1 _ _ rfl) (by simp)
  have hz : w1.heap.size ≤ (w1.alloc (.cells #[.int .u8 3, .int .u8 0] 5)).heap.size := hbb.size
  clear c_X0 c_X1 c_X2 c_X3 c_X4 c_X5 c_X6 c_X7 c_X8 c_X9 c_X10 c_X11 f_X
  have n_X := Go.Lib.hid (below_heap hbb X.out)
  have n_BL := Go.Lib.hid (below_then BL.out hbb)
  clear X BL hbb
  have X := n_X; clear n_X
  have BL := n_BL; clear n_BL
  refine (put11_calls w1.heap.size (.slice (some ⟨w1.heap.size, 0, none⟩) 2 2) ([b8 3, b8 0]) at_ 8 8 (by decide) (w1.alloc (.cells #[.int .u8 3, .int .u8 0] 5)) hz (by simp [leS_length, polB_length]) (by decide) O.out).mono ?_
  rintro e u2 ⟨v2, rfl, h1, h2, h3⟩
  have n_O := Go.Lib.hid h1
  have n_BL := Go.Lib.hid (BL.out.trans (h2.mono (by omega : w.heap.size ≤ w1.heap.size)))
  have n_X := Go.Lib.hid (h3 _ _ _ _ X.out (by decide))
  have n_z : w1.heap.size ≤ u2.heap.size := Nat.le_trans hz h2.size
  clear h1 h2 h3 O BL X hz
  have O := n_O; clear n_O
  have BL := n_BL; clear n_BL
  have X := n_X; clear n_X
  have hz := n_z; clear n_z
  have c_X0 := blk_cell X.out 0 (.int .i64 3) rfl
  have c_X1 := blk_cell X.out 1 (.int .i64 0) rfl
  have c_X2 := blk_cell X.out 2 (.int .u64 (n64 at_)) rfl
  have c_X3 := blk_cell X.out 3 (.int .u64 (n64 retry)) rfl
  have c_X4 := blk_cell X.out 4 (.int .i64 k) rfl
  have c_X5 := blk_cell X.out 5 (.int .u64 (n64 p1)) rfl
  have c_X6 := blk_cell X.out 6 (.int .u64 (n64 p2)) rfl
  have c_X7 := blk_cell X.out 7 (.int .u64 (n64 p3)) rfl
  have c_X8 := blk_cell X.out 8 (.int .u64 (n64 p4)) rfl
  have c_X9 := blk_cell X.out 9 (.int .u64 (n64 l1)) rfl
  have c_X10 := blk_cell X.out 10 (.int .u64 (n64 l2)) rfl
  have c_X11 := blk_cell X.out 11 (.int .u64 (n64 l3)) rfl
  have f_X := heap_frozen X.out
  go_wp2_with fail
  clear c_X0 c_X1 c_X2 c_X3 c_X4 c_X5 c_X6 c_X7 c_X8 c_X9 c_X10 c_X11 f_X
  refine (putPolicy11_calls w1.heap.size (v2) ([b8 3, b8 0] ++ leS at_ 8) ⟨k, p1, p2, p3, p4⟩ u2 (sayS_kind hsay) hz (by simp [leS_length, polB_length]) O.out).mono ?_
  rintro e u3 ⟨v3, rfl, h1, h2, h3⟩
  have n_O := Go.Lib.hid h1
  have n_BL := Go.Lib.hid (BL.out.trans (h2.mono (by omega : w.heap.size ≤ w1.heap.size)))
  have n_X := Go.Lib.hid (h3 _ _ _ _ X.out (by decide))
  have n_z : w1.heap.size ≤ u3.heap.size := Nat.le_trans hz h2.size
  clear h1 h2 h3 O BL X hz
  have O := n_O; clear n_O
  have BL := n_BL; clear n_BL
  have X := n_X; clear n_X
  have hz := n_z; clear n_z
  have c_X0 := blk_cell X.out 0 (.int .i64 3) rfl
  have c_X1 := blk_cell X.out 1 (.int .i64 0) rfl
  have c_X2 := blk_cell X.out 2 (.int .u64 (n64 at_)) rfl
  have c_X3 := blk_cell X.out 3 (.int .u64 (n64 retry)) rfl
  have c_X4 := blk_cell X.out 4 (.int .i64 k) rfl
  have c_X5 := blk_cell X.out 5 (.int .u64 (n64 p1)) rfl
  have c_X6 := blk_cell X.out 6 (.int .u64 (n64 p2)) rfl
  have c_X7 := blk_cell X.out 7 (.int .u64 (n64 p3)) rfl
  have c_X8 := blk_cell X.out 8 (.int .u64 (n64 p4)) rfl
  have c_X9 := blk_cell X.out 9 (.int .u64 (n64 l1)) rfl
  have c_X10 := blk_cell X.out 10 (.int .u64 (n64 l2)) rfl
  have c_X11 := blk_cell X.out 11 (.int .u64 (n64 l3)) rfl
  have f_X := heap_frozen X.out
  go_wp2_with fail
  clear c_X0 c_X1 c_X2 c_X3 c_X4 c_X5 c_X6 c_X7 c_X8 c_X9 c_X10 c_X11 f_X
  refine (put11_calls w1.heap.size (v3) ([b8 3, b8 0] ++ leS at_ 8 ++ polB ⟨k, p1, p2, p3, p4⟩) l1 8 8 (by decide) u3 hz (by simp [leS_length, polB_length]) (by decide) O.out).mono ?_
  rintro e u4 ⟨v4, rfl, h1, h2, h3⟩
  have n_O := Go.Lib.hid h1
  have n_BL := Go.Lib.hid (BL.out.trans (h2.mono (by omega : w.heap.size ≤ w1.heap.size)))
  have n_X := Go.Lib.hid (h3 _ _ _ _ X.out (by decide))
  have n_z : w1.heap.size ≤ u4.heap.size := Nat.le_trans hz h2.size
  clear h1 h2 h3 O BL X hz
  have O := n_O; clear n_O
  have BL := n_BL; clear n_BL
  have X := n_X; clear n_X
  have hz := n_z; clear n_z
  have c_X0 := blk_cell X.out 0 (.int .i64 3) rfl
  have c_X1 := blk_cell X.out 1 (.int .i64 0) rfl
  have c_X2 := blk_cell X.out 2 (.int .u64 (n64 at_)) rfl
  have c_X3 := blk_cell X.out 3 (.int .u64 (n64 retry)) rfl
  have c_X4 := blk_cell X.out 4 (.int .i64 k) rfl
  have c_X5 := blk_cell X.out 5 (.int .u64 (n64 p1)) rfl
  have c_X6 := blk_cell X.out 6 (.int .u64 (n64 p2)) rfl
  have c_X7 := blk_cell X.out 7 (.int .u64 (n64 p3)) rfl
  have c_X8 := blk_cell X.out 8 (.int .u64 (n64 p4)) rfl
  have c_X9 := blk_cell X.out 9 (.int .u64 (n64 l1)) rfl
  have c_X10 := blk_cell X.out 10 (.int .u64 (n64 l2)) rfl
  have c_X11 := blk_cell X.out 11 (.int .u64 (n64 l3)) rfl
  have f_X := heap_frozen X.out
  go_wp2_with fail
  clear c_X0 c_X1 c_X2 c_X3 c_X4 c_X5 c_X6 c_X7 c_X8 c_X9 c_X10 c_X11 f_X
  refine (put11_calls w1.heap.size (v4) ([b8 3, b8 0] ++ leS at_ 8 ++ polB ⟨k, p1, p2, p3, p4⟩ ++ leS l1 8) l2 8 8 (by decide) u4 hz (by simp [leS_length, polB_length]) (by decide) O.out).mono ?_
  rintro e u5 ⟨v5, rfl, h1, h2, h3⟩
  have n_O := Go.Lib.hid h1
  have n_BL := Go.Lib.hid (BL.out.trans (h2.mono (by omega : w.heap.size ≤ w1.heap.size)))
  have n_X := Go.Lib.hid (h3 _ _ _ _ X.out (by decide))
  have n_z : w1.heap.size ≤ u5.heap.size := Nat.le_trans hz h2.size
  clear h1 h2 h3 O BL X hz
  have O := n_O; clear n_O
  have BL := n_BL; clear n_BL
  have X := n_X; clear n_X
  have hz := n_z; clear n_z
  have c_X0 := blk_cell X.out 0 (.int .i64 3) rfl
  have c_X1 := blk_cell X.out 1 (.int .i64 0) rfl
  have c_X2 := blk_cell X.out 2 (.int .u64 (n64 at_)) rfl
  have c_X3 := blk_cell X.out 3 (.int .u64 (n64 retry)) rfl
  have c_X4 := blk_cell X.out 4 (.int .i64 k) rfl
  have c_X5 := blk_cell X.out 5 (.int .u64 (n64 p1)) rfl
  have c_X6 := blk_cell X.out 6 (.int .u64 (n64 p2)) rfl
  have c_X7 := blk_cell X.out 7 (.int .u64 (n64 p3)) rfl
  have c_X8 := blk_cell X.out 8 (.int .u64 (n64 p4)) rfl
  have c_X9 := blk_cell X.out 9 (.int .u64 (n64 l1)) rfl
  have c_X10 := blk_cell X.out 10 (.int .u64 (n64 l2)) rfl
  have c_X11 := blk_cell X.out 11 (.int .u64 (n64 l3)) rfl
  have f_X := heap_frozen X.out
  go_wp2_with fail
  clear c_X0 c_X1 c_X2 c_X3 c_X4 c_X5 c_X6 c_X7 c_X8 c_X9 c_X10 c_X11 f_X
  refine (put11_calls w1.heap.size (v5) ([b8 3, b8 0] ++ leS at_ 8 ++ polB ⟨k, p1, p2, p3, p4⟩ ++ leS l1 8 ++ leS l2 8) l3 8 8 (by decide) u5 hz (by simp [leS_length, polB_length]) (by decide) O.out).mono ?_
  rintro e u6 ⟨v6, rfl, h1, h2, h3⟩
  have n_O := Go.Lib.hid h1
  have n_BL := Go.Lib.hid (BL.out.trans (h2.mono (by omega : w.heap.size ≤ w1.heap.size)))
  have n_X := Go.Lib.hid (h3 _ _ _ _ X.out (by decide))
  have n_z : w1.heap.size ≤ u6.heap.size := Nat.le_trans hz h2.size
  clear h1 h2 h3 O BL X hz
  have O := n_O; clear n_O
  have BL := n_BL; clear n_BL
  have X := n_X; clear n_X
  have hz := n_z; clear n_z
  have c_X0 := blk_cell X.out 0 (.int .i64 3) rfl
  have c_X1 := blk_cell X.out 1 (.int .i64 0) rfl
  have c_X2 := blk_cell X.out 2 (.int .u64 (n64 at_)) rfl
  have c_X3 := blk_cell X.out 3 (.int .u64 (n64 retry)) rfl
  have c_X4 := blk_cell X.out 4 (.int .i64 k) rfl
  have c_X5 := blk_cell X.out 5 (.int .u64 (n64 p1)) rfl
  have c_X6 := blk_cell X.out 6 (.int .u64 (n64 p2)) rfl
  have c_X7 := blk_cell X.out 7 (.int .u64 (n64 p3)) rfl
  have c_X8 := blk_cell X.out 8 (.int .u64 (n64 p4)) rfl
  have c_X9 := blk_cell X.out 9 (.int .u64 (n64 l1)) rfl
  have c_X10 := blk_cell X.out 10 (.int .u64 (n64 l2)) rfl
  have c_X11 := blk_cell X.out 11 (.int .u64 (n64 l3)) rfl
  have f_X := heap_frozen X.out
  go_wp2
  go_ret2
  refine ⟨_, rfl, own_mono (b := w1.heap.size) ?_ (by omega), BL.out⟩
  have ho := O.out
  simpa using ho

theorem encRs_pairless (a : Ans) (h : pairS a.op a.rep.code = false) : encR a = ([], 1) := by unfold encR sayA; rw [if_neg (by simp [h])]
theorem encRs_ne (a : Ans) (h : keptS a ≠ a.rep) : encR a = ([], 1) := by unfold encR sayA; rw [if_neg (by simp [h])]
theorem encRs_ok (a : Ans) (h1 : pairS a.op a.rep.code = true) (h2 : keptS a = a.rep) (h3 : (if a.op = 3 ∧ a.rep.code = 0 then sayS a.rep.pol else true) = true) : encR a = (encRBody a, 0) := by
  unfold encR sayA
  rw [if_pos]
  rw [h1, h2, h3]
  simp
theorem rencR_calls (a : Ans) (w : World) : Calls Tryd.prog 20 #[.agg (ansA a)] w fun e w' => GaveF w w' e (encR a) := by
  obtain ⟨op, ⟨code, at_, retry, ⟨k, p1, p2, p3, p4⟩, ⟨l1, l2, l3⟩⟩⟩ := a
  simp only [ansA]
  cases hp : pairS op code
  · rw [encRs_pairless _ hp]
    exact rencR_nopair at_ retry k p1 p2 p3 p4 l1 l2 l3 op code w hp
  by_cases h21 : op = 2 ∧ code = 1
  · obtain ⟨rfl, rfl⟩ := h21
    have hk : keptS ⟨2, ⟨1, at_, retry, ⟨k, p1, p2, p3, p4⟩, ⟨l1, l2, l3⟩⟩⟩ = ⟨1, at_, retry, polZ, levZ⟩ := by simp [keptS]
    cases hpb : ((⟨k, p1, p2, p3, p4⟩ : Pol) == polZ)
    · rw [encRs_ne _ (by rw [hk]; intro h; simp only [Rep.mk.injEq] at h; exact (beq_eq_false_iff_ne.1 hpb) h.2.2.2.1.symm)]
      exact rencR_21_pol at_ retry k p1 p2 p3 p4 l1 l2 l3 w hp hpb
    cases hlb : ((⟨l1, l2, l3⟩ : Lev) == levZ)
    · rw [encRs_ne _ (by rw [hk]; intro h; simp only [Rep.mk.injEq] at h; exact (beq_eq_false_iff_ne.1 hlb) h.2.2.2.2.symm)]
      exact rencR_21_lev at_ retry k p1 p2 p3 p4 l1 l2 l3 w hp hpb hlb
    rw [encRs_ok _ hp (by rw [hk]; simp [beq_iff_eq.1 hpb, beq_iff_eq.1 hlb]) (by simp)]
    exact rencR_21_ok at_ retry k p1 p2 p3 p4 l1 l2 l3 w hp hpb hlb
  by_cases h20 : op = 2 ∧ code = 0
  · obtain ⟨rfl, rfl⟩ := h20
    have hk : keptS ⟨2, ⟨0, at_, retry, ⟨k, p1, p2, p3, p4⟩, ⟨l1, l2, l3⟩⟩⟩ = ⟨0, at_, 0, polZ, levZ⟩ := by simp [keptS]
    cases hret : (retry == 0)
    · rw [encRs_ne _ (by rw [hk]; intro h; simp only [Rep.mk.injEq] at h; exact (beq_eq_false_iff_ne.1 hret) h.2.2.1.symm)]
      exact rencR_20_ret at_ retry k p1 p2 p3 p4 l1 l2 l3 w hp hret
    cases hpb : ((⟨k, p1, p2, p3, p4⟩ : Pol) == polZ)
    · rw [encRs_ne _ (by rw [hk]; intro h; simp only [Rep.mk.injEq] at h; exact (beq_eq_false_iff_ne.1 hpb) h.2.2.2.1.symm)]
      exact rencR_20_pol at_ retry k p1 p2 p3 p4 l1 l2 l3 w hp hret hpb
    cases hlb : ((⟨l1, l2, l3⟩ : Lev) == levZ)
    · rw [encRs_ne _ (by rw [hk]; intro h; simp only [Rep.mk.injEq] at h; exact (beq_eq_false_iff_ne.1 hlb) h.2.2.2.2.symm)]
      exact rencR_20_lev at_ retry k p1 p2 p3 p4 l1 l2 l3 w hp hret hpb hlb
    rw [encRs_ok _ hp (by rw [hk]; simp [beq_iff_eq.1 hret, beq_iff_eq.1 hpb, beq_iff_eq.1 hlb]) (by simp)]
    exact rencR_20_ok at_ retry k p1 p2 p3 p4 l1 l2 l3 w hp hret hpb hlb
  by_cases h30 : op = 3 ∧ code = 0
  · obtain ⟨rfl, rfl⟩ := h30
    have hk : keptS ⟨3, ⟨0, at_, retry, ⟨k, p1, p2, p3, p4⟩, ⟨l1, l2, l3⟩⟩⟩ = ⟨0, at_, 0, ⟨k, p1, p2, p3, p4⟩, ⟨l1, l2, l3⟩⟩ := by simp [keptS]
    cases hret : (retry == 0)
    · rw [encRs_ne _ (by rw [hk]; intro h; simp only [Rep.mk.injEq] at h; exact (beq_eq_false_iff_ne.1 hret) h.2.2.1.symm)]
      exact rencR_30_ret at_ retry k p1 p2 p3 p4 l1 l2 l3 w hp hret
    cases hsay : sayS ⟨k, p1, p2, p3, p4⟩
    · rw [show encR ⟨3, ⟨0, at_, retry, ⟨k, p1, p2, p3, p4⟩, ⟨l1, l2, l3⟩⟩⟩ = ([], 1) by unfold encR sayA; rw [if_neg (by simp [hsay])]]
      exact rencR_30_say at_ retry k p1 p2 p3 p4 l1 l2 l3 w hp hret hsay
    rw [encRs_ok _ hp (by rw [hk]; simp [beq_iff_eq.1 hret]) (by simp [hsay])]
    have := rencR_30_ok at_ retry k p1 p2 p3 p4 l1 l2 l3 w hp hret hsay
    simpa [encRBody] using this
  have hk : keptS ⟨op, ⟨code, at_, retry, ⟨k, p1, p2, p3, p4⟩, ⟨l1, l2, l3⟩⟩⟩ = ⟨code, 0, 0, polZ, levZ⟩ := by unfold keptS; rw [if_neg h21, if_neg h20, if_neg h30]
  have hpl : plainA op code := ⟨h20, h21, h30⟩
  cases hat : (at_ == 0)
  · rw [encRs_ne _ (by rw [hk]; intro h; simp only [Rep.mk.injEq] at h; exact (beq_eq_false_iff_ne.1 hat) h.2.1.symm)]
    exact rencR_x_at at_ retry k p1 p2 p3 p4 l1 l2 l3 op code w hp hpl hat
  cases hret : (retry == 0)
  · rw [encRs_ne _ (by rw [hk]; intro h; simp only [Rep.mk.injEq] at h; exact (beq_eq_false_iff_ne.1 hret) h.2.2.1.symm)]
    exact rencR_x_ret at_ retry k p1 p2 p3 p4 l1 l2 l3 op code w hp hpl hat hret
  cases hpb : ((⟨k, p1, p2, p3, p4⟩ : Pol) == polZ)
  · rw [encRs_ne _ (by rw [hk]; intro h; simp only [Rep.mk.injEq] at h; exact (beq_eq_false_iff_ne.1 hpb) h.2.2.2.1.symm)]
    exact rencR_x_pol at_ retry k p1 p2 p3 p4 l1 l2 l3 op code w hp hpl hat hret hpb
  cases hlb : ((⟨l1, l2, l3⟩ : Lev) == levZ)
  · rw [encRs_ne _ (by rw [hk]; intro h; simp only [Rep.mk.injEq] at h; exact (beq_eq_false_iff_ne.1 hlb) h.2.2.2.2.symm)]
    exact rencR_x_lev at_ retry k p1 p2 p3 p4 l1 l2 l3 op code w hp hpl hat hret hpb hlb
  rw [encRs_ok _ hp (by rw [hk]; simp [beq_iff_eq.1 hat, beq_iff_eq.1 hret, beq_iff_eq.1 hpb, beq_iff_eq.1 hlb]) (by rw [if_neg h30])]
  rw [show encRBody ⟨op, ⟨code, at_, retry, ⟨k, p1, p2, p3, p4⟩, ⟨l1, l2, l3⟩⟩⟩ = [b8 op, b8 code] by unfold encRBody; rw [if_neg h21, if_neg h20, if_neg h30]]
  exact rencR_x_ok at_ retry k p1 p2 p3 p4 l1 l2 l3 op code w hp hpl hat hret hpb hlb
end Go.Proofs.YtonfeppenhebjaaDoor
