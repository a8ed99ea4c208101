/- Package turnstileref20: has, DecodeReply. (Printed by gen_ref20dr.py of this session.) -/
import Derived.Test.YtonfeppenhebjaaDoorRef20Dec
import Derived.Test.YtonfeppenhebjaaDoorReqDR
namespace Go.Proofs.YtonfeppenhebjaaDoor
open Go Go.RowKit
set_option linter.unusedVariables false
set_option linter.unusedSimpArgs false
attribute [local go_sem] IntKind.wrap_u64 c64_8 c8_64 c16_64 c32_64 c64_16 c64_32 or8 and8 n64_self n8_self beq_n64 beq_n8 bne_n8 bne_n64 beq_n64_0 bne_n64_0 wrap_b8

/-- what the reference's DecodeReply gives -/
def GaveAF (w w' : World) (e : Ending) (r : Ans × Nat) : Prop := e = .returned (.tuple #[.agg (ansA r.1), .int .i64 (r.2 : Int)]) ∧ Below w.heap.size w w'
set_option maxRecDepth 100000 in
set_option maxHeartbeats 800000 in
theorem has_21 (w : World) : Calls Tryd.prog 47 #[.int .i64 2, .int .i64 1] w fun e w' => e = .returned (.tuple #[.bool true, .bool true, .bool false]) ∧ w' = w := by
  go_enter Tryd.func47, Tryd.ntmps47
  go_wp2
  go_ret3
  exact ⟨rfl, rfl⟩
set_option maxRecDepth 100000 in
set_option maxHeartbeats 800000 in
theorem has_20 (w : World) : Calls Tryd.prog 47 #[.int .i64 2, .int .i64 0] w fun e w' => e = .returned (.tuple #[.bool true, .bool false, .bool false]) ∧ w' = w := by
  go_enter Tryd.func47, Tryd.ntmps47
  go_wp2
  go_ret3
  exact ⟨rfl, rfl⟩
set_option maxRecDepth 100000 in
set_option maxHeartbeats 800000 in
theorem has_30 (w : World) : Calls Tryd.prog 47 #[.int .i64 3, .int .i64 0] w fun e w' => e = .returned (.tuple #[.bool true, .bool false, .bool true]) ∧ w' = w := by
  go_enter Tryd.func47, Tryd.ntmps47
  go_wp2
  go_ret3
  exact ⟨rfl, rfl⟩
set_option maxRecDepth 100000 in
set_option maxHeartbeats 800000 in
theorem has_x2 (code : Int) (w : World) (b0 : (code == 0) = false) (b1 : (code == 1) = false) : Calls Tryd.prog 47 #[.int .i64 2, .int .i64 code] w fun e w' => e = .returned (.tuple #[.bool false, .bool false, .bool false]) ∧ w' = w := by
  go_enter Tryd.func47, Tryd.ntmps47
  go_wp2
  go_ret3
  exact ⟨rfl, rfl⟩
set_option maxRecDepth 100000 in
set_option maxHeartbeats 800000 in
theorem has_x3 (code : Int) (w : World) (b0 : (code == 0) = false) : Calls Tryd.prog 47 #[.int .i64 3, .int .i64 code] w fun e w' => e = .returned (.tuple #[.bool false, .bool false, .bool false]) ∧ w' = w := by
  go_enter Tryd.func47, Tryd.ntmps47
  go_wp2
  go_ret3
  exact ⟨rfl, rfl⟩
set_option maxRecDepth 100000 in
set_option maxHeartbeats 800000 in
theorem has_xx (op code : Int) (w : World) (b2 : (op == 2) = false) (b3 : (op == 3) = false) : Calls Tryd.prog 47 #[.int .i64 op, .int .i64 code] w fun e w' => e = .returned (.tuple #[.bool false, .bool false, .bool false]) ∧ w' = w := by
  go_enter Tryd.func47, Tryd.ntmps47
  go_wp2
  go_ret3
  exact ⟨rfl, rfl⟩
/-- no row of an op and a code has more than the code -/
def plainA (op code : Int) : Prop := ¬ (op = 2 ∧ code = 0) ∧ ¬ (op = 2 ∧ code = 1) ∧ ¬ (op = 3 ∧ code = 0)
theorem has_x (op code : Int) (w : World) (h : plainA op code) : Calls Tryd.prog 47 #[.int .i64 op, .int .i64 code] w fun e w' => e = .returned (.tuple #[.bool false, .bool false, .bool false]) ∧ w' = w := by
  obtain ⟨h1, h2, h3⟩ := h
  by_cases k2 : op = 2
  · subst k2
    exact has_x2 code w (beq_eq_false_iff_ne.2 (fun e => h1 ⟨rfl, e⟩)) (beq_eq_false_iff_ne.2 (fun e => h2 ⟨rfl, e⟩))
  · by_cases k3 : op = 3
    · subst k3
      exact has_x3 code w (beq_eq_false_iff_ne.2 (fun e => h3 ⟨rfl, e⟩))
    · exact has_xx op code w (beq_eq_false_iff_ne.2 k2) (beq_eq_false_iff_ne.2 k3)

set_option maxRecDepth 100000 in
set_option maxHeartbeats 3200000 in
theorem rdecR_fault (A : Option Addr) (c : Nat) (b : List UInt8) (w : World) (hl : b.length ≤ c) (hc : c ≤ 9223372036854775807) (hA : Cells w A (Bs b)) (hf : (fixedS b 0 1).2.2 ≠ 0) :
    Calls Tryd.prog 21 #[.slice A b.length c] w fun e w' => GaveAF w w' e (decR b) := by
  have HT : Hid (decR b = decRQ b.length (fixedS b 0 1)) := rfl
  generalize decR b = dd at *
  have hwi := fixed1_int b 0
  obtain ⟨W0, hW0⟩ : ∃ W, W = (w.alloc (.cells #[.int .i64 0, .int .i64 0, .int .u64 0, .int .u64 0, .int .i64 0, .int .u64 0, .int .u64 0, .int .u64 0, .int .u64 0, .int .u64 0, .int .u64 0, .int .u64 0] 36)).alloc (.cells #[.slice A b.length c, .int .i64 0, .bool false] 88) := ⟨_, rfl⟩
  have hb0 : Below w.heap.size w W0 := by rw [hW0]; exact ((Below.refl _ _).alloc (Nat.le_refl _) _).alloc (by simp) _
  have HRC : Hid (Rc W0 ((w.heap.size + 1)) b.length b 0) := rc_new (by rw [hW0]; exact heap_here _ _ _ (by simp)) hl hc (cells_below hb0 hA) (fun h0 ad ha => by have := cells_lt hA h0 ad ha; omega)
  have BL : Hid (Below w.heap.size w W0) := hb0
  have Z : Hid (W0.heap[w.heap.size]? = some (.cells #[.int .i64 0, .int .i64 0, .int .u64 0, .int .u64 0, .int .i64 0, .int .u64 0, .int .u64 0, .int .u64 0, .int .u64 0, .int .u64 0, .int .u64 0, .int .u64 0] 36 (0, 0))) := by rw [hW0]; exact alloc_heap (heap_here w _ w.heap.size rfl) _
  clear hA hb0
  have HF := Go.Lib.hid hf
  clear hf
  go_enter Tryd.func21, Tryd.ntmps21
  go_wp2_with fail
  rw [← hW0]
  clear hW0
  refine (number11_calls W0 ((w.heap.size + 1)) b.length b 0 1 1 (by decide) (by decide) (by decide) HRC.out).mono ?_
  rintro e w1 ⟨rfl, h1, h2⟩
  have n_Z := Go.Lib.hid (keep_heap (keep_only h2) Z.out (by omega))
  have n_BL : Hid (Below w.heap.size w w1) := (BL.out).trans (h2.below (by omega))
  clear Z BL
  have Z := n_Z; clear n_Z
  have BL := n_BL; clear n_BL
  clear HRC
  have HRC := Go.Lib.hid h1
  clear h1 h2
  generalize fixedS b 0 1 = q at *
  obtain ⟨u, r1, f1⟩ := q
  have hf := HF.out
  clear HF
  simp only at HRC HT hwi hf ⊢
  have hnw : w.heap.size < w1.heap.size := heap_lt Z.out
  have hgw : (w.heap.size + 1) < w1.heap.size := rc_lt HRC.out
  cases f1 with
  | zero => exact absurd rfl hf
  | succ m =>
    clear hf
    have hm := rc_fault HRC.out
    subst hm
    have hT : dd = (ansZ, 2) := by rw [HT.out]; rfl
    clear HT
    subst hT
    have s2 := rc_short1 HRC.out
    generalize hbu : u.toUInt8 = b0 at *
    have Hb0 := Go.Lib.hid hbu
    clear hbu
    have hb00 : 0 ≤ n8 b0 := by unfold n8; omega
    have hb01 : n8 b0 < 256 := by unfold n8; have := b0.toNat_lt; omega
    have c_Z0 := blk_cell Z.out 0 (.int .i64 0) rfl
    have c_Z1 := blk_cell Z.out 1 (.int .i64 0) rfl
    have c_Z2 := blk_cell Z.out 2 (.int .u64 0) rfl
    have c_Z3 := blk_cell Z.out 3 (.int .u64 0) rfl
    have c_Z4 := blk_cell Z.out 4 (.int .i64 0) rfl
    have c_Z5 := blk_cell Z.out 5 (.int .u64 0) rfl
    have c_Z6 := blk_cell Z.out 6 (.int .u64 0) rfl
    have c_Z7 := blk_cell Z.out 7 (.int .u64 0) rfl
    have c_Z8 := blk_cell Z.out 8 (.int .u64 0) rfl
    have c_Z9 := blk_cell Z.out 9 (.int .u64 0) rfl
    have c_Z10 := blk_cell Z.out 10 (.int .u64 0) rfl
    have c_Z11 := blk_cell Z.out 11 (.int .u64 0) rfl
    have f_Z := heap_frozen Z.out
    go_wp2
    refine bodyPost_ret (v := .tuple #[.agg #[.int .i64 0, .int .i64 0, .int .u64 0, .int .u64 0, .int .i64 0, .int .u64 0, .int .u64 0, .int .u64 0, .int .u64 0, .int .u64 0, .int .u64 0, .int .u64 0], .int .i64 2]) (by simp [results, Tryd.results21, go_sem, c_Z0, c_Z1, c_Z2, c_Z3, c_Z4, c_Z5, c_Z6, c_Z7, c_Z8, c_Z9, c_Z10, c_Z11]) rfl ?_
    exact ⟨rfl, set12_below BL.out (Nat.le_refl _) _ _ _ _ _ _ _ _ _ _ _ _⟩

set_option maxRecDepth 100000 in
set_option maxHeartbeats 3200000 in
theorem rdecR_hi (A : Option Addr) (c : Nat) (b : List UInt8) (w : World) (hl : b.length ≤ c) (hc : c ≤ 9223372036854775807) (hA : Cells w A (Bs b)) (hf : (fixedS b 0 1).2.2 = 0 ∧ 5 < (fixedS b 0 1).1.toUInt8.toNat) :
    Calls Tryd.prog 21 #[.slice A b.length c] w fun e w' => GaveAF w w' e (decR b) := by
  have HT : Hid (decR b = decRQ b.length (fixedS b 0 1)) := rfl
  generalize decR b = dd at *
  have hwi := fixed1_int b 0
  obtain ⟨W0, hW0⟩ : ∃ W, W = (w.alloc (.cells #[.int .i64 0, .int .i64 0, .int .u64 0, .int .u64 0, .int .i64 0, .int .u64 0, .int .u64 0, .int .u64 0, .int .u64 0, .int .u64 0, .int .u64 0, .int .u64 0] 36)).alloc (.cells #[.slice A b.length c, .int .i64 0, .bool false] 88) := ⟨_, rfl⟩
  have hb0 : Below w.heap.size w W0 := by rw [hW0]; exact ((Below.refl _ _).alloc (Nat.le_refl _) _).alloc (by simp) _
  have HRC : Hid (Rc W0 ((w.heap.size + 1)) b.length b 0) := rc_new (by rw [hW0]; exact heap_here _ _ _ (by simp)) hl hc (cells_below hb0 hA) (fun h0 ad ha => by have := cells_lt hA h0 ad ha; omega)
  have BL : Hid (Below w.heap.size w W0) := hb0
  have Z : Hid (W0.heap[w.heap.size]? = some (.cells #[.int .i64 0, .int .i64 0, .int .u64 0, .int .u64 0, .int .i64 0, .int .u64 0, .int .u64 0, .int .u64 0, .int .u64 0, .int .u64 0, .int .u64 0, .int .u64 0] 36 (0, 0))) := by rw [hW0]; exact alloc_heap (heap_here w _ w.heap.size rfl) _
  clear hA hb0
  have HF := Go.Lib.hid hf
  clear hf
  go_enter Tryd.func21, Tryd.ntmps21
  go_wp2_with fail
  rw [← hW0]
  clear hW0
  refine (number11_calls W0 ((w.heap.size + 1)) b.length b 0 1 1 (by decide) (by decide) (by decide) HRC.out).mono ?_
  rintro e w1 ⟨rfl, h1, h2⟩
  have n_Z := Go.Lib.hid (keep_heap (keep_only h2) Z.out (by omega))
  have n_BL : Hid (Below w.heap.size w w1) := (BL.out).trans (h2.below (by omega))
  clear Z BL
  have Z := n_Z; clear n_Z
  have BL := n_BL; clear n_BL
  clear HRC
  have HRC := Go.Lib.hid h1
  clear h1 h2
  generalize fixedS b 0 1 = q at *
  obtain ⟨u, r1, f1⟩ := q
  have hf := HF.out
  clear HF
  simp only at HRC HT hwi hf ⊢
  have hnw : w.heap.size < w1.heap.size := heap_lt Z.out
  have hgw : (w.heap.size + 1) < w1.heap.size := rc_lt HRC.out
  obtain rfl : f1 = 0 := hf.1
  have hop := hf.2
  have HOP0 := Go.Lib.hid hop
  clear hop hf
  generalize hbu : u.toUInt8 = b0 at *
  have Hb0 := Go.Lib.hid hbu
  clear hbu
  have hb00 : 0 ≤ n8 b0 := by unfold n8; omega
  have hb01 : n8 b0 < 256 := by unfold n8; have := b0.toNat_lt; omega
  have hT : dd = (ansZ, 3) := by
    rw [HT.out]
    unfold decRQ
    rw [if_neg (by simp)]
    simp only [Hb0.out]
    rw [if_pos HOP0.out]
  clear HT
  subst hT
  have s2 := rc_short0 HRC.out
  have d2 : decide ((5 : Int) < n8 b0) = true := decide_eq_true (by have := HOP0.out; unfold n8; omega)
  have c_Z0 := blk_cell Z.out 0 (.int .i64 0) rfl
  have c_Z1 := blk_cell Z.out 1 (.int .i64 0) rfl
  have c_Z2 := blk_cell Z.out 2 (.int .u64 0) rfl
  have c_Z3 := blk_cell Z.out 3 (.int .u64 0) rfl
  have c_Z4 := blk_cell Z.out 4 (.int .i64 0) rfl
  have c_Z5 := blk_cell Z.out 5 (.int .u64 0) rfl
  have c_Z6 := blk_cell Z.out 6 (.int .u64 0) rfl
  have c_Z7 := blk_cell Z.out 7 (.int .u64 0) rfl
  have c_Z8 := blk_cell Z.out 8 (.int .u64 0) rfl
  have c_Z9 := blk_cell Z.out 9 (.int .u64 0) rfl
  have c_Z10 := blk_cell Z.out 10 (.int .u64 0) rfl
  have c_Z11 := blk_cell Z.out 11 (.int .u64 0) rfl
  have f_Z := heap_frozen Z.out
  go_wp2
  refine bodyPost_ret (v := .tuple #[.agg #[.int .i64 0, .int .i64 0, .int .u64 0, .int .u64 0, .int .i64 0, .int .u64 0, .int .u64 0, .int .u64 0, .int .u64 0, .int .u64 0, .int .u64 0, .int .u64 0], .int .i64 3]) (by simp [results, Tryd.results21, go_sem, c_Z0, c_Z1, c_Z2, c_Z3, c_Z4, c_Z5, c_Z6, c_Z7, c_Z8, c_Z9, c_Z10, c_Z11]) rfl ?_
  exact ⟨rfl, set12_below BL.out (Nat.le_refl _) _ _ _ _ _ _ _ _ _ _ _ _⟩

set_option maxRecDepth 100000 in
set_option maxHeartbeats 3200000 in
theorem rdecR_fault2 (A : Option Addr) (c : Nat) (b : List UInt8) (w : World) (hl : b.length ≤ c) (hc : c ≤ 9223372036854775807) (hA : Cells w A (Bs b)) (hf : (fixedS b 0 1).2.2 = 0 ∧ ¬ 5 < (fixedS b 0 1).1.toUInt8.toNat ∧ (fixedS (fixedS b 0 1).2.1 0 1).2.2 ≠ 0) :
    Calls Tryd.prog 21 #[.slice A b.length c] w fun e w' => GaveAF w w' e (decR b) := by
  have HT : Hid (decR b = decRQ b.length (fixedS b 0 1)) := rfl
  generalize decR b = dd at *
  have hwi := fixed1_int b 0
  obtain ⟨W0, hW0⟩ : ∃ W, W = (w.alloc (.cells #[.int .i64 0, .int .i64 0, .int .u64 0, .int .u64 0, .int .i64 0, .int .u64 0, .int .u64 0, .int .u64 0, .int .u64 0, .int .u64 0, .int .u64 0, .int .u64 0] 36)).alloc (.cells #[.slice A b.length c, .int .i64 0, .bool false] 88) := ⟨_, rfl⟩
  have hb0 : Below w.heap.size w W0 := by rw [hW0]; exact ((Below.refl _ _).alloc (Nat.le_refl _) _).alloc (by simp) _
  have HRC : Hid (Rc W0 ((w.heap.size + 1)) b.length b 0) := rc_new (by rw [hW0]; exact heap_here _ _ _ (by simp)) hl hc (cells_below hb0 hA) (fun h0 ad ha => by have := cells_lt hA h0 ad ha; omega)
  have BL : Hid (Below w.heap.size w W0) := hb0
  have Z : Hid (W0.heap[w.heap.size]? = some (.cells #[.int .i64 0, .int .i64 0, .int .u64 0, .int .u64 0, .int .i64 0, .int .u64 0, .int .u64 0, .int .u64 0, .int .u64 0, .int .u64 0, .int .u64 0, .int .u64 0] 36 (0, 0))) := by rw [hW0]; exact alloc_heap (heap_here w _ w.heap.size rfl) _
  clear hA hb0
  have HF := Go.Lib.hid hf
  clear hf
  go_enter Tryd.func21, Tryd.ntmps21
  go_wp2_with fail
  rw [← hW0]
  clear hW0
  refine (number11_calls W0 ((w.heap.size + 1)) b.length b 0 1 1 (by decide) (by decide) (by decide) HRC.out).mono ?_
  rintro e w1 ⟨rfl, h1, h2⟩
  have n_Z := Go.Lib.hid (keep_heap (keep_only h2) Z.out (by omega))
  have n_BL : Hid (Below w.heap.size w w1) := (BL.out).trans (h2.below (by omega))
  clear Z BL
  have Z := n_Z; clear n_Z
  have BL := n_BL; clear n_BL
  clear HRC
  have HRC := Go.Lib.hid h1
  clear h1 h2
  generalize fixedS b 0 1 = q at *
  obtain ⟨u, r1, f1⟩ := q
  have hf := HF.out
  clear HF
  simp only at HRC HT hwi hf ⊢
  have hnw : w.heap.size < w1.heap.size := heap_lt Z.out
  have hgw : (w.heap.size + 1) < w1.heap.size := rc_lt HRC.out
  obtain rfl : f1 = 0 := hf.1
  have hop := hf.2.1
  have hf2 := hf.2.2
  clear hf
  have HT2 : Hid (dd = decR2 b.length u.toUInt8.toNat (fixedS r1 0 1)) := by
    show dd = _
    rw [HT.out]
    unfold decRQ
    rw [if_neg (by simp), if_neg hop]
  clear HT
  have HOP0 := Go.Lib.hid hop
  have HF2 := Go.Lib.hid hf2
  clear hop hf2
  generalize hbu : u.toUInt8 = b0 at *
  have Hb0 := Go.Lib.hid hbu
  clear hbu
  have hb00 : 0 ≤ n8 b0 := by unfold n8; omega
  have hb01 : n8 b0 < 256 := by unfold n8; have := b0.toNat_lt; omega
  clear Hb0
  have s2 := rc_short0 HRC.out
  have hwc := fixed1_int r1 0
  have d2 : decide ((5 : Int) < n8 b0) = false := decide_eq_false (by have := HOP0.out; unfold n8; omega)
  go_wp2_with fail
  clear s2
  refine (number11_calls w1 ((w.heap.size + 1)) b.length r1 0 1 1 (by decide) (by decide) (by decide) HRC.out).mono ?_
  rintro e w2 ⟨rfl, h1, h2⟩
  have n_Z := Go.Lib.hid (keep_heap (keep_only h2) Z.out (by omega))
  have n_BL : Hid (Below w.heap.size w w2) := (BL.out).trans (h2.below (by omega))
  clear Z BL
  have Z := n_Z; clear n_Z
  have BL := n_BL; clear n_BL
  clear HRC
  have HRC := Go.Lib.hid h1
  clear h1 h2
  generalize fixedS r1 0 1 = q at *
  obtain ⟨v, r2, f2⟩ := q
  have hf2 := HF2.out
  clear HF2
  simp only at HRC HT2 hwc hf2 ⊢
  have hnw2 : w.heap.size < w2.heap.size := heap_lt Z.out
  have hgw2 : (w.heap.size + 1) < w2.heap.size := rc_lt HRC.out
  cases f2 with
  | zero => exact absurd rfl hf2
  | succ m =>
    clear hf2
    have hm := rc_fault HRC.out
    subst hm
    have hT : dd = (ansZ, 2) := by rw [HT2.out]; rfl
    clear HT2
    subst hT
    have s2 := rc_short1 HRC.out
    generalize hbu : v.toUInt8 = c0 at *
    have Hc0 := Go.Lib.hid hbu
    clear hbu
    have hc00 : 0 ≤ n8 c0 := by unfold n8; omega
    have hc01 : n8 c0 < 256 := by unfold n8; have := c0.toNat_lt; omega
    have c_Z0 := blk_cell Z.out 0 (.int .i64 0) rfl
    have c_Z1 := blk_cell Z.out 1 (.int .i64 0) rfl
    have c_Z2 := blk_cell Z.out 2 (.int .u64 0) rfl
    have c_Z3 := blk_cell Z.out 3 (.int .u64 0) rfl
    have c_Z4 := blk_cell Z.out 4 (.int .i64 0) rfl
    have c_Z5 := blk_cell Z.out 5 (.int .u64 0) rfl
    have c_Z6 := blk_cell Z.out 6 (.int .u64 0) rfl
    have c_Z7 := blk_cell Z.out 7 (.int .u64 0) rfl
    have c_Z8 := blk_cell Z.out 8 (.int .u64 0) rfl
    have c_Z9 := blk_cell Z.out 9 (.int .u64 0) rfl
    have c_Z10 := blk_cell Z.out 10 (.int .u64 0) rfl
    have c_Z11 := blk_cell Z.out 11 (.int .u64 0) rfl
    have f_Z := heap_frozen Z.out
    go_wp2
    refine bodyPost_ret (v := .tuple #[.agg #[.int .i64 0, .int .i64 0, .int .u64 0, .int .u64 0, .int .i64 0, .int .u64 0, .int .u64 0, .int .u64 0, .int .u64 0, .int .u64 0, .int .u64 0, .int .u64 0], .int .i64 2]) (by simp [results, Tryd.results21, go_sem, c_Z0, c_Z1, c_Z2, c_Z3, c_Z4, c_Z5, c_Z6, c_Z7, c_Z8, c_Z9, c_Z10, c_Z11]) rfl ?_
    exact ⟨rfl, set12_below BL.out (Nat.le_refl _) _ _ _ _ _ _ _ _ _ _ _ _⟩

set_option maxRecDepth 100000 in
set_option maxHeartbeats 3200000 in
theorem rdecR_nopair (A : Option Addr) (c : Nat) (b : List UInt8) (w : World) (hl : b.length ≤ c) (hc : c ≤ 9223372036854775807) (hA : Cells w A (Bs b)) (hf : (fixedS b 0 1).2.2 = 0 ∧ ¬ 5 < (fixedS b 0 1).1.toUInt8.toNat ∧ (fixedS (fixedS b 0 1).2.1 0 1).2.2 = 0 ∧ pairS (n8 (fixedS b 0 1).1.toUInt8) (n8 (fixedS (fixedS b 0 1).2.1 0 1).1.toUInt8) = false) :
    Calls Tryd.prog 21 #[.slice A b.length c] w fun e w' => GaveAF w w' e (decR b) := by
  have HT : Hid (decR b = decRQ b.length (fixedS b 0 1)) := rfl
  generalize decR b = dd at *
  have hwi := fixed1_int b 0
  obtain ⟨W0, hW0⟩ : ∃ W, W = (w.alloc (.cells #[.int .i64 0, .int .i64 0, .int .u64 0, .int .u64 0, .int .i64 0, .int .u64 0, .int .u64 0, .int .u64 0, .int .u64 0, .int .u64 0, .int .u64 0, .int .u64 0] 36)).alloc (.cells #[.slice A b.length c, .int .i64 0, .bool false] 88) := ⟨_, rfl⟩
  have hb0 : Below w.heap.size w W0 := by rw [hW0]; exact ((Below.refl _ _).alloc (Nat.le_refl _) _).alloc (by simp) _
  have HRC : Hid (Rc W0 ((w.heap.size + 1)) b.length b 0) := rc_new (by rw [hW0]; exact heap_here _ _ _ (by simp)) hl hc (cells_below hb0 hA) (fun h0 ad ha => by have := cells_lt hA h0 ad ha; omega)
  have BL : Hid (Below w.heap.size w W0) := hb0
  have Z : Hid (W0.heap[w.heap.size]? = some (.cells #[.int .i64 0, .int .i64 0, .int .u64 0, .int .u64 0, .int .i64 0, .int .u64 0, .int .u64 0, .int .u64 0, .int .u64 0, .int .u64 0, .int .u64 0, .int .u64 0] 36 (0, 0))) := by rw [hW0]; exact alloc_heap (heap_here w _ w.heap.size rfl) _
  clear hA hb0
  have HF := Go.Lib.hid hf
  clear hf
  go_enter Tryd.func21, Tryd.ntmps21
  go_wp2_with fail
  rw [← hW0]
  clear hW0
  refine (number11_calls W0 ((w.heap.size + 1)) b.length b 0 1 1 (by decide) (by decide) (by decide) HRC.out).mono ?_
  rintro e w1 ⟨rfl, h1, h2⟩
  have n_Z := Go.Lib.hid (keep_heap (keep_only h2) Z.out (by omega))
  have n_BL : Hid (Below w.heap.size w w1) := (BL.out).trans (h2.below (by omega))
  clear Z BL
  have Z := n_Z; clear n_Z
  have BL := n_BL; clear n_BL
  clear HRC
  have HRC := Go.Lib.hid h1
  clear h1 h2
  generalize fixedS b 0 1 = q at *
  obtain ⟨u, r1, f1⟩ := q
  have hf := HF.out
  clear HF
  simp only at HRC HT hwi hf ⊢
  have hnw : w.heap.size < w1.heap.size := heap_lt Z.out
  have hgw : (w.heap.size + 1) < w1.heap.size := rc_lt HRC.out
  obtain rfl : f1 = 0 := hf.1
  have hop := hf.2.1
  have hf2 := hf.2.2
  clear hf
  have HT2 : Hid (dd = decR2 b.length u.toUInt8.toNat (fixedS r1 0 1)) := by
    show dd = _
    rw [HT.out]
    unfold decRQ
    rw [if_neg (by simp), if_neg hop]
  clear HT
  have HOP0 := Go.Lib.hid hop
  have HF2 := Go.Lib.hid hf2
  clear hop hf2
  generalize hbu : u.toUInt8 = b0 at *
  have Hb0 := Go.Lib.hid hbu
  clear hbu
  have hb00 : 0 ≤ n8 b0 := by unfold n8; omega
  have hb01 : n8 b0 < 256 := by unfold n8; have := b0.toNat_lt; omega
  clear Hb0
  have s2 := rc_short0 HRC.out
  have hwc := fixed1_int r1 0
  have d2 : decide ((5 : Int) < n8 b0) = false := decide_eq_false (by have := HOP0.out; unfold n8; omega)
  go_wp2_with fail
  clear s2
  refine (number11_calls w1 ((w.heap.size + 1)) b.length r1 0 1 1 (by decide) (by decide) (by decide) HRC.out).mono ?_
  rintro e w2 ⟨rfl, h1, h2⟩
  have n_Z := Go.Lib.hid (keep_heap (keep_only h2) Z.out (by omega))
  have n_BL : Hid (Below w.heap.size w w2) := (BL.out).trans (h2.below (by omega))
  clear Z BL
  have Z := n_Z; clear n_Z
  have BL := n_BL; clear n_BL
  clear HRC
  have HRC := Go.Lib.hid h1
  clear h1 h2
  generalize fixedS r1 0 1 = q at *
  obtain ⟨v, r2, f2⟩ := q
  have hf2 := HF2.out
  clear HF2
  simp only at HRC HT2 hwc hf2 ⊢
  have hnw2 : w.heap.size < w2.heap.size := heap_lt Z.out
  have hgw2 : (w.heap.size + 1) < w2.heap.size := rc_lt HRC.out
  obtain rfl : f2 = 0 := hf2.1
  have hpr := hf2.2
  clear hf2
  have hx : dd = if pairS (n8 b0) (n8 v.toUInt8) = false then (ansZ, 3) else decRC b.length b0.toNat v.toUInt8.toNat r2 0 := by
    rw [HT2.out]
    unfold decR2
    rw [if_neg (by simp)]
    rfl
  have HT3 := Go.Lib.hid hx
  have HPR := Go.Lib.hid hpr
  clear HT2 hx hpr
  generalize hbu : v.toUInt8 = c0 at *
  have Hc0 := Go.Lib.hid hbu
  clear hbu
  have hc00 : 0 ≤ n8 c0 := by unfold n8; omega
  have hc01 : n8 c0 < 256 := by unfold n8; have := c0.toNat_lt; omega
  clear Hc0
  have s2 := rc_short0 HRC.out
  go_wp2_with fail
  refine (paired_calls (n8 b0) (n8 c0) w2).mono ?_
  rintro e wx ⟨rfl, rfl⟩
  have hpr := HPR.out
  have hT := HT3.out
  rw [hpr] at hT ⊢
  rw [if_pos rfl] at hT
  clear HT3 HPR
  subst hT
  have c_Z0 := blk_cell Z.out 0 (.int .i64 0) rfl
  have c_Z1 := blk_cell Z.out 1 (.int .i64 0) rfl
  have c_Z2 := blk_cell Z.out 2 (.int .u64 0) rfl
  have c_Z3 := blk_cell Z.out 3 (.int .u64 0) rfl
  have c_Z4 := blk_cell Z.out 4 (.int .i64 0) rfl
  have c_Z5 := blk_cell Z.out 5 (.int .u64 0) rfl
  have c_Z6 := blk_cell Z.out 6 (.int .u64 0) rfl
  have c_Z7 := blk_cell Z.out 7 (.int .u64 0) rfl
  have c_Z8 := blk_cell Z.out 8 (.int .u64 0) rfl
  have c_Z9 := blk_cell Z.out 9 (.int .u64 0) rfl
  have c_Z10 := blk_cell Z.out 10 (.int .u64 0) rfl
  have c_Z11 := blk_cell Z.out 11 (.int .u64 0) rfl
  have f_Z := heap_frozen Z.out
  go_wp2
  refine bodyPost_ret (v := .tuple #[.agg #[.int .i64 0, .int .i64 0, .int .u64 0, .int .u64 0, .int .i64 0, .int .u64 0, .int .u64 0, .int .u64 0, .int .u64 0, .int .u64 0, .int .u64 0, .int .u64 0], .int .i64 3]) (by simp [results, Tryd.results21, go_sem, c_Z0, c_Z1, c_Z2, c_Z3, c_Z4, c_Z5, c_Z6, c_Z7, c_Z8, c_Z9, c_Z10, c_Z11]) rfl ?_
  exact ⟨rfl, set12_below BL.out (Nat.le_refl _) _ _ _ _ _ _ _ _ _ _ _ _⟩

set_option maxRecDepth 100000 in
set_option maxHeartbeats 3200000 in
theorem rdecR_21 (A : Option Addr) (c : Nat) (b : List UInt8) (w : World) (hl : b.length ≤ c) (hc : c ≤ 9223372036854775807) (hA : Cells w A (Bs b)) (hf : (fixedS b 0 1).2.2 = 0 ∧ ¬ 5 < (fixedS b 0 1).1.toUInt8.toNat ∧ (fixedS (fixedS b 0 1).2.1 0 1).2.2 = 0 ∧ pairS (n8 (fixedS b 0 1).1.toUInt8) (n8 (fixedS (fixedS b 0 1).2.1 0 1).1.toUInt8) = true ∧ (fixedS b 0 1).1.toUInt8 = 2 ∧ (fixedS (fixedS b 0 1).2.1 0 1).1.toUInt8 = 1) :
    Calls Tryd.prog 21 #[.slice A b.length c] w fun e w' => GaveAF w w' e (decR b) := by
  have HT : Hid (decR b = decRQ b.length (fixedS b 0 1)) := rfl
  generalize decR b = dd at *
  have hwi := fixed1_int b 0
  obtain ⟨W0, hW0⟩ : ∃ W, W = (w.alloc (.cells #[.int .i64 0, .int .i64 0, .int .u64 0, .int .u64 0, .int .i64 0, .int .u64 0, .int .u64 0, .int .u64 0, .int .u64 0, .int .u64 0, .int .u64 0, .int .u64 0] 36)).alloc (.cells #[.slice A b.length c, .int .i64 0, .bool false] 88) := ⟨_, rfl⟩
  have hb0 : Below w.heap.size w W0 := by rw [hW0]; exact ((Below.refl _ _).alloc (Nat.le_refl _) _).alloc (by simp) _
  have HRC : Hid (Rc W0 ((w.heap.size + 1)) b.length b 0) := rc_new (by rw [hW0]; exact heap_here _ _ _ (by simp)) hl hc (cells_below hb0 hA) (fun h0 ad ha => by have := cells_lt hA h0 ad ha; omega)
  have BL : Hid (Below w.heap.size w W0) := hb0
  have Z : Hid (W0.heap[w.heap.size]? = some (.cells #[.int .i64 0, .int .i64 0, .int .u64 0, .int .u64 0, .int .i64 0, .int .u64 0, .int .u64 0, .int .u64 0, .int .u64 0, .int .u64 0, .int .u64 0, .int .u64 0] 36 (0, 0))) := by rw [hW0]; exact alloc_heap (heap_here w _ w.heap.size rfl) _
  clear hA hb0
  have HF := Go.Lib.hid hf
  clear hf
  go_enter Tryd.func21, Tryd.ntmps21
  go_wp2_with fail
  rw [← hW0]
  clear hW0
  refine (number11_calls W0 ((w.heap.size + 1)) b.length b 0 1 1 (by decide) (by decide) (by decide) HRC.out).mono ?_
  rintro e w1 ⟨rfl, h1, h2⟩
  have n_Z := Go.Lib.hid (keep_heap (keep_only h2) Z.out (by omega))
  have n_BL : Hid (Below w.heap.size w w1) := (BL.out).trans (h2.below (by omega))
  clear Z BL
  have Z := n_Z; clear n_Z
  have BL := n_BL; clear n_BL
  clear HRC
  have HRC := Go.Lib.hid h1
  clear h1 h2
  generalize fixedS b 0 1 = q at *
  obtain ⟨u, r1, f1⟩ := q
  have hf := HF.out
  clear HF
  simp only at HRC HT hwi hf ⊢
  have hnw : w.heap.size < w1.heap.size := heap_lt Z.out
  have hgw : (w.heap.size + 1) < w1.heap.size := rc_lt HRC.out
  obtain rfl : f1 = 0 := hf.1
  have hop := hf.2.1
  have hf2 := hf.2.2
  clear hf
  have HT2 : Hid (dd = decR2 b.length u.toUInt8.toNat (fixedS r1 0 1)) := by
    show dd = _
    rw [HT.out]
    unfold decRQ
    rw [if_neg (by simp), if_neg hop]
  clear HT
  have HOP0 := Go.Lib.hid hop
  have HF2 := Go.Lib.hid hf2
  clear hop hf2
  generalize hbu : u.toUInt8 = b0 at *
  have Hb0 := Go.Lib.hid hbu
  clear hbu
  have hb00 : 0 ≤ n8 b0 := by unfold n8; omega
  have hb01 : n8 b0 < 256 := by unfold n8; have := b0.toNat_lt; omega
  clear Hb0
  have s2 := rc_short0 HRC.out
  have hwc := fixed1_int r1 0
  have d2 : decide ((5 : Int) < n8 b0) = false := decide_eq_false (by have := HOP0.out; unfold n8; omega)
  go_wp2_with fail
  clear s2
  refine (number11_calls w1 ((w.heap.size + 1)) b.length r1 0 1 1 (by decide) (by decide) (by decide) HRC.out).mono ?_
  rintro e w2 ⟨rfl, h1, h2⟩
  have n_Z := Go.Lib.hid (keep_heap (keep_only h2) Z.out (by omega))
  have n_BL : Hid (Below w.heap.size w w2) := (BL.out).trans (h2.below (by omega))
  clear Z BL
  have Z := n_Z; clear n_Z
  have BL := n_BL; clear n_BL
  clear HRC
  have HRC := Go.Lib.hid h1
  clear h1 h2
  generalize fixedS r1 0 1 = q at *
  obtain ⟨v, r2, f2⟩ := q
  have hf2 := HF2.out
  clear HF2
  simp only at HRC HT2 hwc hf2 ⊢
  have hnw2 : w.heap.size < w2.heap.size := heap_lt Z.out
  have hgw2 : (w.heap.size + 1) < w2.heap.size := rc_lt HRC.out
  obtain rfl : f2 = 0 := hf2.1
  have hpr := hf2.2
  clear hf2
  have hx : dd = if pairS (n8 b0) (n8 v.toUInt8) = false then (ansZ, 3) else decRC b.length b0.toNat v.toUInt8.toNat r2 0 := by
    rw [HT2.out]
    unfold decR2
    rw [if_neg (by simp)]
    rfl
  have HT3 := Go.Lib.hid hx
  have HPR := Go.Lib.hid hpr
  clear HT2 hx hpr
  generalize hbu : v.toUInt8 = c0 at *
  have Hc0 := Go.Lib.hid hbu
  clear hbu
  have hc00 : 0 ≤ n8 c0 := by unfold n8; omega
  have hc01 : n8 c0 < 256 := by unfold n8; have := c0.toNat_lt; omega
  clear Hc0
  have s2 := rc_short0 HRC.out
  go_wp2_with fail
  refine (paired_calls (n8 b0) (n8 c0) w2).mono ?_
  rintro e wx ⟨rfl, rfl⟩
  have hb0l : b0 = 2 := HPR.out.2.1
  have hc0l : c0 = 1 := HPR.out.2.2
  have hpr := HPR.out.1
  have hT := HT3.out
  rw [hpr] at hT ⊢
  rw [if_neg (by decide)] at hT
  clear HPR HT3 hpr
  subst hb0l hc0l
  rw [show n8 2 = (2 : Int) from rfl] at hwi
  rw [show n8 1 = (1 : Int) from rfl] at hwc
  try rw [show n8 2 = (2 : Int) from rfl]
  try rw [show n8 1 = (1 : Int) from rfl]
  have HT4 := Go.Lib.hid hT
  clear hT
  go_wp2_with fail
  clear s2
  obtain ⟨w3, hnew⟩ : ∃ W, W = (wx.alloc (.cells #[.int .i64 2, .int .i64 1, .int .u64 0, .int .u64 0, .int .i64 0, .int .u64 0, .int .u64 0, .int .u64 0, .int .u64 0, .int .u64 0, .int .u64 0, .int .u64 0] 36)) := ⟨_, rfl⟩
  have n_Z : Hid (w3.heap[w.heap.size]? = some (.cells #[.int .i64 0, .int .i64 0, .int .u64 0, .int .u64 0, .int .i64 0, .int .u64 0, .int .u64 0, .int .u64 0, .int .u64 0, .int .u64 0, .int .u64 0, .int .u64 0] 36 (0, 0))) := by rw [hnew]; exact (alloc_heap Z.out _)
  have X : Hid (w3.heap[wx.heap.size]? = some (.cells #[.int .i64 2, .int .i64 1, .int .u64 0, .int .u64 0, .int .i64 0, .int .u64 0, .int .u64 0, .int .u64 0, .int .u64 0, .int .u64 0, .int .u64 0, .int .u64 0] 36 (0, 0))) := by rw [hnew]; exact heap_here _ _ _ rfl
  have n_BL : Hid (Below w.heap.size w w3) := by rw [hnew]; exact below_alloc (BL.out) (Nat.le_refl _)
  have n_HRC : Hid (Rc w3 (w.heap.size + 1) b.length r2 0) := by rw [hnew]; exact rc_alloc (HRC.out) _
  rw [← hnew]
  clear hnew Z BL HRC
  have Z := n_Z; clear n_Z
  have BL := n_BL; clear n_BL
  have HRC := n_HRC; clear n_HRC
  refine (has_21 w3).mono ?_
  rintro e wy ⟨rfl, rfl⟩
  have hnx3 : wx.heap.size < wy.heap.size := heap_lt X.out
  go_wp2_with fail
  refine (number11_calls wy ((w.heap.size + 1)) b.length r2 0 8 8 (by decide) (by decide) (by decide) HRC.out).mono ?_
  rintro e w4a ⟨rfl, h1, h2⟩
  have n_Z := Go.Lib.hid (keep_heap (keep_only h2) Z.out (by omega))
  have n_X := Go.Lib.hid (keep_heap (keep_only h2) X.out (by omega))
  have n_BL : Hid (Below w.heap.size w w4a) := (BL.out).trans (h2.below (by omega))
  clear Z X BL
  have Z := n_Z; clear n_Z
  have X := n_X; clear n_X
  have BL := n_BL; clear n_BL
  clear HRC
  have HRC := Go.Lib.hid h1
  clear h1 h2
  have HTN : Hid (dd = ansOr ⟨2, ⟨1, (fixedS r2 0 8).1, (fixedS (fixedS r2 0 8).2.1 (fixedS r2 0 8).2.2 8).1, polZ, levZ⟩⟩ (endE (fixedS (fixedS r2 0 8).2.1 (fixedS r2 0 8).2.2 8).2.1 (fixedS (fixedS r2 0 8).2.1 (fixedS r2 0 8).2.2 8).2.2 b.length)) := HT4.out
  clear HT4
  generalize fixedS r2 0 8 = qq at *
  obtain ⟨aa, r3, f3⟩ := qq
  simp only at HRC HTN ⊢
  have HTE := HTN
  clear HTN
  have hn_w4 : wx.heap.size < w4a.heap.size := heap_lt X.out
  have hm_w4 : w.heap.size < w4a.heap.size := heap_lt Z.out
  have c_X0 := blk_cell X.out 0 (.int .i64 2) rfl
  have c_X1 := blk_cell X.out 1 (.int .i64 1) rfl
  have c_X2 := blk_cell X.out 2 (.int .u64 0) rfl
  have c_X3 := blk_cell X.out 3 (.int .u64 0) rfl
  have c_X4 := blk_cell X.out 4 (.int .i64 0) rfl
  have c_X5 := blk_cell X.out 5 (.int .u64 0) rfl
  have c_X6 := blk_cell X.out 6 (.int .u64 0) rfl
  have c_X7 := blk_cell X.out 7 (.int .u64 0) rfl
  have c_X8 := blk_cell X.out 8 (.int .u64 0) rfl
  have c_X9 := blk_cell X.out 9 (.int .u64 0) rfl
  have c_X10 := blk_cell X.out 10 (.int .u64 0) rfl
  have c_X11 := blk_cell X.out 11 (.int .u64 0) rfl
  have f_X := heap_frozen X.out
  go_wp2_with fail
  clear c_X0 c_X1 c_X2 c_X3 c_X4 c_X5 c_X6 c_X7 c_X8 c_X9 c_X10 c_X11 f_X
  obtain ⟨w4, hnew⟩ : ∃ W, W = (w4a.setCell ⟨wx.heap.size, 2, none⟩ (.int .u64 (n64 aa))) := ⟨_, rfl⟩
  have n_Z : Hid (w4.heap[w.heap.size]? = some (.cells #[.int .i64 0, .int .i64 0, .int .u64 0, .int .u64 0, .int .i64 0, .int .u64 0, .int .u64 0, .int .u64 0, .int .u64 0, .int .u64 0, .int .u64 0, .int .u64 0] 36 (0, 0))) := by rw [hnew]; exact (set_other Z.out (by omega) _ _)
  have n_X : Hid (w4.heap[wx.heap.size]? = some (.cells #[.int .i64 2, .int .i64 1, .int .u64 (n64 aa), .int .u64 0, .int .i64 0, .int .u64 0, .int .u64 0, .int .u64 0, .int .u64 0, .int .u64 0, .int .u64 0, .int .u64 0] 36 (0, 0))) := by rw [hnew]; exact (set_heap X.out _ _)
  have n_BL : Hid (Below w.heap.size w w4) := by rw [hnew]; exact below_set (BL.out) (by omega)
  have n_HRC : Hid (Rc w4 (w.heap.size + 1) b.length r3 f3) := by rw [hnew]; exact rc_set (HRC.out) (X.out) (by decide) rfl _ _
  rw [← hnew]
  clear hnew Z X BL HRC
  have Z := n_Z; clear n_Z
  have X := n_X; clear n_X
  have BL := n_BL; clear n_BL
  have HRC := n_HRC; clear n_HRC
  refine (number11_calls w4 ((w.heap.size + 1)) b.length r3 f3 8 8 (by decide) (by decide) (by decide) HRC.out).mono ?_
  rintro e w5a ⟨rfl, h1, h2⟩
  have n_Z := Go.Lib.hid (keep_heap (keep_only h2) Z.out (by omega))
  have n_X := Go.Lib.hid (keep_heap (keep_only h2) X.out (by omega))
  have n_BL : Hid (Below w.heap.size w w5a) := (BL.out).trans (h2.below (by omega))
  clear Z X BL
  have Z := n_Z; clear n_Z
  have X := n_X; clear n_X
  have BL := n_BL; clear n_BL
  clear HRC
  have HRC := Go.Lib.hid h1
  clear h1 h2
  have HTN := HTE
  clear HTE
  generalize fixedS r3 f3 8 = qq at *
  obtain ⟨bb, r4, f4⟩ := qq
  simp only at HRC HTN ⊢
  have HTE := HTN
  clear HTN
  have hn_w5 : wx.heap.size < w5a.heap.size := heap_lt X.out
  have hm_w5 : w.heap.size < w5a.heap.size := heap_lt Z.out
  have c_X0 := blk_cell X.out 0 (.int .i64 2) rfl
  have c_X1 := blk_cell X.out 1 (.int .i64 1) rfl
  have c_X2 := blk_cell X.out 2 (.int .u64 (n64 aa)) rfl
  have c_X3 := blk_cell X.out 3 (.int .u64 0) rfl
  have c_X4 := blk_cell X.out 4 (.int .i64 0) rfl
  have c_X5 := blk_cell X.out 5 (.int .u64 0) rfl
  have c_X6 := blk_cell X.out 6 (.int .u64 0) rfl
  have c_X7 := blk_cell X.out 7 (.int .u64 0) rfl
  have c_X8 := blk_cell X.out 8 (.int .u64 0) rfl
  have c_X9 := blk_cell X.out 9 (.int .u64 0) rfl
  have c_X10 := blk_cell X.out 10 (.int .u64 0) rfl
  have c_X11 := blk_cell X.out 11 (.int .u64 0) rfl
  have f_X := heap_frozen X.out
  go_wp2_with fail
  clear c_X0 c_X1 c_X2 c_X3 c_X4 c_X5 c_X6 c_X7 c_X8 c_X9 c_X10 c_X11 f_X
  obtain ⟨w5, hnew⟩ : ∃ W, W = (w5a.setCell ⟨wx.heap.size, 3, none⟩ (.int .u64 (n64 bb))) := ⟨_, rfl⟩
  have n_Z : Hid (w5.heap[w.heap.size]? = some (.cells #[.int .i64 0, .int .i64 0, .int .u64 0, .int .u64 0, .int .i64 0, .int .u64 0, .int .u64 0, .int .u64 0, .int .u64 0, .int .u64 0, .int .u64 0, .int .u64 0] 36 (0, 0))) := by rw [hnew]; exact (set_other Z.out (by omega) _ _)
  have n_X : Hid (w5.heap[wx.heap.size]? = some (.cells #[.int .i64 2, .int .i64 1, .int .u64 (n64 aa), .int .u64 (n64 bb), .int .i64 0, .int .u64 0, .int .u64 0, .int .u64 0, .int .u64 0, .int .u64 0, .int .u64 0, .int .u64 0] 36 (0, 0))) := by rw [hnew]; exact (set_heap X.out _ _)
  have n_BL : Hid (Below w.heap.size w w5) := by rw [hnew]; exact below_set (BL.out) (by omega)
  have n_HRC : Hid (Rc w5 (w.heap.size + 1) b.length r4 f4) := by rw [hnew]; exact rc_set (HRC.out) (X.out) (by decide) rfl _ _
  rw [← hnew]
  clear hnew Z X BL HRC
  have Z := n_Z; clear n_Z
  have X := n_X; clear n_X
  have BL := n_BL; clear n_BL
  have HRC := n_HRC; clear n_HRC
  refine (ended_calls ((w.heap.size + 1)) b.length r4 f4 w5 HRC.out).mono ?_
  rintro e w6 ⟨rfl, nd, hnd⟩
  have hdr : Below w5.heap.size w5 w6 := by rw [hnd]; exact below_drewN _ _ _
  clear hnd
  have n_Z := Go.Lib.hid (below_heap hdr Z.out)
  have n_X := Go.Lib.hid (below_heap hdr X.out)
  have n_BL : Hid (Below w.heap.size w w6) := below_then BL.out hdr
  clear Z X BL
  have Z := n_Z; clear n_Z
  have X := n_X; clear n_X
  have BL := n_BL; clear n_BL
  clear hdr HRC
  have hTE := HTE.out
  clear HTE
  have hnz : w.heap.size < w6.heap.size := heap_lt Z.out
  generalize endE r4 f4 b.length = kk at *
  cases kk with
  | zero =>
    have hT : dd = (⟨2, ⟨1, aa, bb, polZ, levZ⟩⟩, 0) := hTE
    clear hTE
    subst hT
    have c_Z0 := blk_cell Z.out 0 (.int .i64 0) rfl
    have c_Z1 := blk_cell Z.out 1 (.int .i64 0) rfl
    have c_Z2 := blk_cell Z.out 2 (.int .u64 0) rfl
    have c_Z3 := blk_cell Z.out 3 (.int .u64 0) rfl
    have c_Z4 := blk_cell Z.out 4 (.int .i64 0) rfl
    have c_Z5 := blk_cell Z.out 5 (.int .u64 0) rfl
    have c_Z6 := blk_cell Z.out 6 (.int .u64 0) rfl
    have c_Z7 := blk_cell Z.out 7 (.int .u64 0) rfl
    have c_Z8 := blk_cell Z.out 8 (.int .u64 0) rfl
    have c_Z9 := blk_cell Z.out 9 (.int .u64 0) rfl
    have c_Z10 := blk_cell Z.out 10 (.int .u64 0) rfl
    have c_Z11 := blk_cell Z.out 11 (.int .u64 0) rfl
    have f_Z := heap_frozen Z.out
    have c_X0 := blk_cell X.out 0 (.int .i64 2) rfl
    have c_X1 := blk_cell X.out 1 (.int .i64 1) rfl
    have c_X2 := blk_cell X.out 2 (.int .u64 (n64 aa)) rfl
    have c_X3 := blk_cell X.out 3 (.int .u64 (n64 bb)) rfl
    have c_X4 := blk_cell X.out 4 (.int .i64 0) rfl
    have c_X5 := blk_cell X.out 5 (.int .u64 0) rfl
    have c_X6 := blk_cell X.out 6 (.int .u64 0) rfl
    have c_X7 := blk_cell X.out 7 (.int .u64 0) rfl
    have c_X8 := blk_cell X.out 8 (.int .u64 0) rfl
    have c_X9 := blk_cell X.out 9 (.int .u64 0) rfl
    have c_X10 := blk_cell X.out 10 (.int .u64 0) rfl
    have c_X11 := blk_cell X.out 11 (.int .u64 0) rfl
    have f_X := heap_frozen X.out
    go_wp2
    refine bodyPost_ret (v := .tuple #[.agg #[.int .i64 2, .int .i64 1, .int .u64 (n64 aa), .int .u64 (n64 bb), .int .i64 0, .int .u64 0, .int .u64 0, .int .u64 0, .int .u64 0, .int .u64 0, .int .u64 0, .int .u64 0], .int .i64 0]) (by simp [results, Tryd.results21, go_sem, c_Z0, c_Z1, c_Z2, c_Z3, c_Z4, c_Z5, c_Z6, c_Z7, c_Z8, c_Z9, c_Z10, c_Z11]) rfl ?_
    exact ⟨rfl, set12_below BL.out (Nat.le_refl _) _ _ _ _ _ _ _ _ _ _ _ _⟩
  | succ m =>
    have hT : dd = (ansZ, m + 1) := hTE
    clear hTE
    subst hT
    have hm1 : (((m + 1 : Nat) : Int) != 0) = true := by rw [bne_iff_ne]; omega
    have hm2 : (((m + 1 : Nat) : Int) == 0) = false := by rw [beq_eq_false_iff_ne]; omega
    obtain ⟨er, her⟩ : ∃ er : Int, er = ((m + 1 : Nat) : Int) := ⟨_, rfl⟩
    rw [← her] at hm1 hm2 ⊢
    have HER := Go.Lib.hid her
    clear her
    have c_Z0 := blk_cell Z.out 0 (.int .i64 0) rfl
    have c_Z1 := blk_cell Z.out 1 (.int .i64 0) rfl
    have c_Z2 := blk_cell Z.out 2 (.int .u64 0) rfl
    have c_Z3 := blk_cell Z.out 3 (.int .u64 0) rfl
    have c_Z4 := blk_cell Z.out 4 (.int .i64 0) rfl
    have c_Z5 := blk_cell Z.out 5 (.int .u64 0) rfl
    have c_Z6 := blk_cell Z.out 6 (.int .u64 0) rfl
    have c_Z7 := blk_cell Z.out 7 (.int .u64 0) rfl
    have c_Z8 := blk_cell Z.out 8 (.int .u64 0) rfl
    have c_Z9 := blk_cell Z.out 9 (.int .u64 0) rfl
    have c_Z10 := blk_cell Z.out 10 (.int .u64 0) rfl
    have c_Z11 := blk_cell Z.out 11 (.int .u64 0) rfl
    have f_Z := heap_frozen Z.out
    go_wp2
    refine bodyPost_ret (v := .tuple #[.agg #[.int .i64 0, .int .i64 0, .int .u64 0, .int .u64 0, .int .i64 0, .int .u64 0, .int .u64 0, .int .u64 0, .int .u64 0, .int .u64 0, .int .u64 0, .int .u64 0], .int .i64 er]) (by simp [results, Tryd.results21, go_sem, c_Z0, c_Z1, c_Z2, c_Z3, c_Z4, c_Z5, c_Z6, c_Z7, c_Z8, c_Z9, c_Z10, c_Z11]) rfl ?_
    exact ⟨by rw [HER.out]; rfl, set12_below BL.out (Nat.le_refl _) _ _ _ _ _ _ _ _ _ _ _ _⟩

set_option maxRecDepth 100000 in
set_option maxHeartbeats 3200000 in
theorem rdecR_20 (A : Option Addr) (c : Nat) (b : List UInt8) (w : World) (hl : b.length ≤ c) (hc : c ≤ 9223372036854775807) (hA : Cells w A (Bs b)) (hf : (fixedS b 0 1).2.2 = 0 ∧ ¬ 5 < (fixedS b 0 1).1.toUInt8.toNat ∧ (fixedS (fixedS b 0 1).2.1 0 1).2.2 = 0 ∧ pairS (n8 (fixedS b 0 1).1.toUInt8) (n8 (fixedS (fixedS b 0 1).2.1 0 1).1.toUInt8) = true ∧ (fixedS b 0 1).1.toUInt8 = 2 ∧ (fixedS (fixedS b 0 1).2.1 0 1).1.toUInt8 = 0) :
    Calls Tryd.prog 21 #[.slice A b.length c] w fun e w' => GaveAF w w' e (decR b) := by
  have HT : Hid (decR b = decRQ b.length (fixedS b 0 1)) := rfl
  generalize decR b = dd at *
  have hwi := fixed1_int b 0
  obtain ⟨W0, hW0⟩ : ∃ W, W = (w.alloc (.cells #[.int .i64 0, .int .i64 0, .int .u64 0, .int .u64 0, .int .i64 0, .int .u64 0, .int .u64 0, .int .u64 0, .int .u64 0, .int .u64 0, .int .u64 0, .int .u64 0] 36)).alloc (.cells #[.slice A b.length c, .int .i64 0, .bool false] 88) := ⟨_, rfl⟩
  have hb0 : Below w.heap.size w W0 := by rw [hW0]; exact ((Below.refl _ _).alloc (Nat.le_refl _) _).alloc (by simp) _
  have HRC : Hid (Rc W0 ((w.heap.size + 1)) b.length b 0) := rc_new (by rw [hW0]; exact heap_here _ _ _ (by simp)) hl hc (cells_below hb0 hA) (fun h0 ad ha => by have := cells_lt hA h0 ad ha; omega)
  have BL : Hid (Below w.heap.size w W0) := hb0
  have Z : Hid (W0.heap[w.heap.size]? = some (.cells #[.int .i64 0, .int .i64 0, .int .u64 0, .int .u64 0, .int .i64 0, .int .u64 0, .int .u64 0, .int .u64 0, .int .u64 0, .int .u64 0, .int .u64 0, .int .u64 0] 36 (0, 0))) := by rw [hW0]; exact alloc_heap (heap_here w _ w.heap.size rfl) _
  clear hA hb0
  have HF := Go.Lib.hid hf
  clear hf
  go_enter Tryd.func21, Tryd.ntmps21
  go_wp2_with fail
  rw [← hW0]
  clear hW0
  refine (number11_calls W0 ((w.heap.size + 1)) b.length b 0 1 1 (by decide) (by decide) (by decide) HRC.out).mono ?_
  rintro e w1 ⟨rfl, h1, h2⟩
  have n_Z := Go.Lib.hid (keep_heap (keep_only h2) Z.out (by omega))
  have n_BL : Hid (Below w.heap.size w w1) := (BL.out).trans (h2.below (by omega))
  clear Z BL
  have Z := n_Z; clear n_Z
  have BL := n_BL; clear n_BL
  clear HRC
  have HRC := Go.Lib.hid h1
  clear h1 h2
  generalize fixedS b 0 1 = q at *
  obtain ⟨u, r1, f1⟩ := q
  have hf := HF.out
  clear HF
  simp only at HRC HT hwi hf ⊢
  have hnw : w.heap.size < w1.heap.size := heap_lt Z.out
  have hgw : (w.heap.size + 1) < w1.heap.size := rc_lt HRC.out
  obtain rfl : f1 = 0 := hf.1
  have hop := hf.2.1
  have hf2 := hf.2.2
  clear hf
  have HT2 : Hid (dd = decR2 b.length u.toUInt8.toNat (fixedS r1 0 1)) := by
    show dd = _
    rw [HT.out]
    unfold decRQ
    rw [if_neg (by simp), if_neg hop]
  clear HT
  have HOP0 := Go.Lib.hid hop
  have HF2 := Go.Lib.hid hf2
  clear hop hf2
  generalize hbu : u.toUInt8 = b0 at *
  have Hb0 := Go.Lib.hid hbu
  clear hbu
  have hb00 : 0 ≤ n8 b0 := by unfold n8; omega
  have hb01 : n8 b0 < 256 := by unfold n8; have := b0.toNat_lt; omega
  clear Hb0
  have s2 := rc_short0 HRC.out
  have hwc := fixed1_int r1 0
  have d2 : decide ((5 : Int) < n8 b0) = false := decide_eq_false (by have := HOP0.out; unfold n8; omega)
  go_wp2_with fail
  clear s2
  refine (number11_calls w1 ((w.heap.size + 1)) b.length r1 0 1 1 (by decide) (by decide) (by decide) HRC.out).mono ?_
  rintro e w2 ⟨rfl, h1, h2⟩
  have n_Z := Go.Lib.hid (keep_heap (keep_only h2) Z.out (by omega))
  have n_BL : Hid (Below w.heap.size w w2) := (BL.out).trans (h2.below (by omega))
  clear Z BL
  have Z := n_Z; clear n_Z
  have BL := n_BL; clear n_BL
  clear HRC
  have HRC := Go.Lib.hid h1
  clear h1 h2
  generalize fixedS r1 0 1 = q at *
  obtain ⟨v, r2, f2⟩ := q
  have hf2 := HF2.out
  clear HF2
  simp only at HRC HT2 hwc hf2 ⊢
  have hnw2 : w.heap.size < w2.heap.size := heap_lt Z.out
  have hgw2 : (w.heap.size + 1) < w2.heap.size := rc_lt HRC.out
  obtain rfl : f2 = 0 := hf2.1
  have hpr := hf2.2
  clear hf2
  have hx : dd = if pairS (n8 b0) (n8 v.toUInt8) = false then (ansZ, 3) else decRC b.length b0.toNat v.toUInt8.toNat r2 0 := by
    rw [HT2.out]
    unfold decR2
    rw [if_neg (by simp)]
    rfl
  have HT3 := Go.Lib.hid hx
  have HPR := Go.Lib.hid hpr
  clear HT2 hx hpr
  generalize hbu : v.toUInt8 = c0 at *
  have Hc0 := Go.Lib.hid hbu
  clear hbu
  have hc00 : 0 ≤ n8 c0 := by unfold n8; omega
  have hc01 : n8 c0 < 256 := by unfold n8; have := c0.toNat_lt; omega
  clear Hc0
  have s2 := rc_short0 HRC.out
  go_wp2_with fail
  refine (paired_calls (n8 b0) (n8 c0) w2).mono ?_
  rintro e wx ⟨rfl, rfl⟩
  have hb0l : b0 = 2 := HPR.out.2.1
  have hc0l : c0 = 0 := HPR.out.2.2
  have hpr := HPR.out.1
  have hT := HT3.out
  rw [hpr] at hT ⊢
  rw [if_neg (by decide)] at hT
  clear HPR HT3 hpr
  subst hb0l hc0l
  rw [show n8 2 = (2 : Int) from rfl] at hwi
  rw [show n8 0 = (0 : Int) from rfl] at hwc
  try rw [show n8 2 = (2 : Int) from rfl]
  try rw [show n8 0 = (0 : Int) from rfl]
  have HT4 := Go.Lib.hid hT
  clear hT
  go_wp2_with fail
  clear s2
  obtain ⟨w3, hnew⟩ : ∃ W, W = (wx.alloc (.cells #[.int .i64 2, .int .i64 0, .int .u64 0, .int .u64 0, .int .i64 0, .int .u64 0, .int .u64 0, .int .u64 0, .int .u64 0, .int .u64 0, .int .u64 0, .int .u64 0] 36)) := ⟨_, rfl⟩
  have n_Z : Hid (w3.heap[w.heap.size]? = some (.cells #[.int .i64 0, .int .i64 0, .int .u64 0, .int .u64 0, .int .i64 0, .int .u64 0, .int .u64 0, .int .u64 0, .int .u64 0, .int .u64 0, .int .u64 0, .int .u64 0] 36 (0, 0))) := by rw [hnew]; exact (alloc_heap Z.out _)
  have X : Hid (w3.heap[wx.heap.size]? = some (.cells #[.int .i64 2, .int .i64 0, .int .u64 0, .int .u64 0, .int .i64 0, .int .u64 0, .int .u64 0, .int .u64 0, .int .u64 0, .int .u64 0, .int .u64 0, .int .u64 0] 36 (0, 0))) := by rw [hnew]; exact heap_here _ _ _ rfl
  have n_BL : Hid (Below w.heap.size w w3) := by rw [hnew]; exact below_alloc (BL.out) (Nat.le_refl _)
  have n_HRC : Hid (Rc w3 (w.heap.size + 1) b.length r2 0) := by rw [hnew]; exact rc_alloc (HRC.out) _
  rw [← hnew]
  clear hnew Z BL HRC
  have Z := n_Z; clear n_Z
  have BL := n_BL; clear n_BL
  have HRC := n_HRC; clear n_HRC
  refine (has_20 w3).mono ?_
  rintro e wy ⟨rfl, rfl⟩
  have hnx3 : wx.heap.size < wy.heap.size := heap_lt X.out
  go_wp2_with fail
  refine (number11_calls wy ((w.heap.size + 1)) b.length r2 0 8 8 (by decide) (by decide) (by decide) HRC.out).mono ?_
  rintro e w4a ⟨rfl, h1, h2⟩
  have n_Z := Go.Lib.hid (keep_heap (keep_only h2) Z.out (by omega))
  have n_X := Go.Lib.hid (keep_heap (keep_only h2) X.out (by omega))
  have n_BL : Hid (Below w.heap.size w w4a) := (BL.out).trans (h2.below (by omega))
  clear Z X BL
  have Z := n_Z; clear n_Z
  have X := n_X; clear n_X
  have BL := n_BL; clear n_BL
  clear HRC
  have HRC := Go.Lib.hid h1
  clear h1 h2
  have HTN : Hid (dd = ansOr ⟨2, ⟨0, (fixedS r2 0 8).1, 0, polZ, levZ⟩⟩ (endE (fixedS r2 0 8).2.1 (fixedS r2 0 8).2.2 b.length)) := HT4.out
  clear HT4
  generalize fixedS r2 0 8 = qq at *
  obtain ⟨aa, r3, f3⟩ := qq
  simp only at HRC HTN ⊢
  have HTE := HTN
  clear HTN
  have hn_w4 : wx.heap.size < w4a.heap.size := heap_lt X.out
  have hm_w4 : w.heap.size < w4a.heap.size := heap_lt Z.out
  have c_X0 := blk_cell X.out 0 (.int .i64 2) rfl
  have c_X1 := blk_cell X.out 1 (.int .i64 0) rfl
  have c_X2 := blk_cell X.out 2 (.int .u64 0) rfl
  have c_X3 := blk_cell X.out 3 (.int .u64 0) rfl
  have c_X4 := blk_cell X.out 4 (.int .i64 0) rfl
  have c_X5 := blk_cell X.out 5 (.int .u64 0) rfl
  have c_X6 := blk_cell X.out 6 (.int .u64 0) rfl
  have c_X7 := blk_cell X.out 7 (.int .u64 0) rfl
  have c_X8 := blk_cell X.out 8 (.int .u64 0) rfl
  have c_X9 := blk_cell X.out 9 (.int .u64 0) rfl
  have c_X10 := blk_cell X.out 10 (.int .u64 0) rfl
  have c_X11 := blk_cell X.out 11 (.int .u64 0) rfl
  have f_X := heap_frozen X.out
  go_wp2_with fail
  clear c_X0 c_X1 c_X2 c_X3 c_X4 c_X5 c_X6 c_X7 c_X8 c_X9 c_X10 c_X11 f_X
  obtain ⟨w4, hnew⟩ : ∃ W, W = (w4a.setCell ⟨wx.heap.size, 2, none⟩ (.int .u64 (n64 aa))) := ⟨_, rfl⟩
  have n_Z : Hid (w4.heap[w.heap.size]? = some (.cells #[.int .i64 0, .int .i64 0, .int .u64 0, .int .u64 0, .int .i64 0, .int .u64 0, .int .u64 0, .int .u64 0, .int .u64 0, .int .u64 0, .int .u64 0, .int .u64 0] 36 (0, 0))) := by rw [hnew]; exact (set_other Z.out (by omega) _ _)
  have n_X : Hid (w4.heap[wx.heap.size]? = some (.cells #[.int .i64 2, .int .i64 0, .int .u64 (n64 aa), .int .u64 0, .int .i64 0, .int .u64 0, .int .u64 0, .int .u64 0, .int .u64 0, .int .u64 0, .int .u64 0, .int .u64 0] 36 (0, 0))) := by rw [hnew]; exact (set_heap X.out _ _)
  have n_BL : Hid (Below w.heap.size w w4) := by rw [hnew]; exact below_set (BL.out) (by omega)
  have n_HRC : Hid (Rc w4 (w.heap.size + 1) b.length r3 f3) := by rw [hnew]; exact rc_set (HRC.out) (X.out) (by decide) rfl _ _
  rw [← hnew]
  clear hnew Z X BL HRC
  have Z := n_Z; clear n_Z
  have X := n_X; clear n_X
  have BL := n_BL; clear n_BL
  have HRC := n_HRC; clear n_HRC
  refine (ended_calls ((w.heap.size + 1)) b.length r3 f3 w4 HRC.out).mono ?_
  rintro e w5 ⟨rfl, nd, hnd⟩
  have hdr : Below w4.heap.size w4 w5 := by rw [hnd]; exact below_drewN _ _ _
  clear hnd
  have n_Z := Go.Lib.hid (below_heap hdr Z.out)
  have n_X := Go.Lib.hid (below_heap hdr X.out)
  have n_BL : Hid (Below w.heap.size w w5) := below_then BL.out hdr
  clear Z X BL
  have Z := n_Z; clear n_Z
  have X := n_X; clear n_X
  have BL := n_BL; clear n_BL
  clear hdr HRC
  have hTE := HTE.out
  clear HTE
  have hnz : w.heap.size < w5.heap.size := heap_lt Z.out
  generalize endE r3 f3 b.length = kk at *
  cases kk with
  | zero =>
    have hT : dd = (⟨2, ⟨0, aa, 0, polZ, levZ⟩⟩, 0) := hTE
    clear hTE
    subst hT
    have c_Z0 := blk_cell Z.out 0 (.int .i64 0) rfl
    have c_Z1 := blk_cell Z.out 1 (.int .i64 0) rfl
    have c_Z2 := blk_cell Z.out 2 (.int .u64 0) rfl
    have c_Z3 := blk_cell Z.out 3 (.int .u64 0) rfl
    have c_Z4 := blk_cell Z.out 4 (.int .i64 0) rfl
    have c_Z5 := blk_cell Z.out 5 (.int .u64 0) rfl
    have c_Z6 := blk_cell Z.out 6 (.int .u64 0) rfl
    have c_Z7 := blk_cell Z.out 7 (.int .u64 0) rfl
    have c_Z8 := blk_cell Z.out 8 (.int .u64 0) rfl
    have c_Z9 := blk_cell Z.out 9 (.int .u64 0) rfl
    have c_Z10 := blk_cell Z.out 10 (.int .u64 0) rfl
    have c_Z11 := blk_cell Z.out 11 (.int .u64 0) rfl
    have f_Z := heap_frozen Z.out
    have c_X0 := blk_cell X.out 0 (.int .i64 2) rfl
    have c_X1 := blk_cell X.out 1 (.int .i64 0) rfl
    have c_X2 := blk_cell X.out 2 (.int .u64 (n64 aa)) rfl
    have c_X3 := blk_cell X.out 3 (.int .u64 0) rfl
    have c_X4 := blk_cell X.out 4 (.int .i64 0) rfl
    have c_X5 := blk_cell X.out 5 (.int .u64 0) rfl
    have c_X6 := blk_cell X.out 6 (.int .u64 0) rfl
    have c_X7 := blk_cell X.out 7 (.int .u64 0) rfl
    have c_X8 := blk_cell X.out 8 (.int .u64 0) rfl
    have c_X9 := blk_cell X.out 9 (.int .u64 0) rfl
    have c_X10 := blk_cell X.out 10 (.int .u64 0) rfl
    have c_X11 := blk_cell X.out 11 (.int .u64 0) rfl
    have f_X := heap_frozen X.out
    go_wp2
    refine bodyPost_ret (v := .tuple #[.agg #[.int .i64 2, .int .i64 0, .int .u64 (n64 aa), .int .u64 0, .int .i64 0, .int .u64 0, .int .u64 0, .int .u64 0, .int .u64 0, .int .u64 0, .int .u64 0, .int .u64 0], .int .i64 0]) (by simp [results, Tryd.results21, go_sem, c_Z0, c_Z1, c_Z2, c_Z3, c_Z4, c_Z5, c_Z6, c_Z7, c_Z8, c_Z9, c_Z10, c_Z11]) rfl ?_
    exact ⟨rfl, set12_below BL.out (Nat.le_refl _) _ _ _ _ _ _ _ _ _ _ _ _⟩
  | succ m =>
    have hT : dd = (ansZ, m + 1) := hTE
    clear hTE
    subst hT
    have hm1 : (((m + 1 : Nat) : Int) != 0) = true := by rw [bne_iff_ne]; omega
    have hm2 : (((m + 1 : Nat) : Int) == 0) = false := by rw [beq_eq_false_iff_ne]; omega
    obtain ⟨er, her⟩ : ∃ er : Int, er = ((m + 1 : Nat) : Int) := ⟨_, rfl⟩
    rw [← her] at hm1 hm2 ⊢
    have HER := Go.Lib.hid her
    clear her
    have c_Z0 := blk_cell Z.out 0 (.int .i64 0) rfl
    have c_Z1 := blk_cell Z.out 1 (.int .i64 0) rfl
    have c_Z2 := blk_cell Z.out 2 (.int .u64 0) rfl
    have c_Z3 := blk_cell Z.out 3 (.int .u64 0) rfl
    have c_Z4 := blk_cell Z.out 4 (.int .i64 0) rfl
    have c_Z5 := blk_cell Z.out 5 (.int .u64 0) rfl
    have c_Z6 := blk_cell Z.out 6 (.int .u64 0) rfl
    have c_Z7 := blk_cell Z.out 7 (.int .u64 0) rfl
    have c_Z8 := blk_cell Z.out 8 (.int .u64 0) rfl
    have c_Z9 := blk_cell Z.out 9 (.int .u64 0) rfl
    have c_Z10 := blk_cell Z.out 10 (.int .u64 0) rfl
    have c_Z11 := blk_cell Z.out 11 (.int .u64 0) rfl
    have f_Z := heap_frozen Z.out
    go_wp2
    refine bodyPost_ret (v := .tuple #[.agg #[.int .i64 0, .int .i64 0, .int .u64 0, .int .u64 0, .int .i64 0, .int .u64 0, .int .u64 0, .int .u64 0, .int .u64 0, .int .u64 0, .int .u64 0, .int .u64 0], .int .i64 er]) (by simp [results, Tryd.results21, go_sem, c_Z0, c_Z1, c_Z2, c_Z3, c_Z4, c_Z5, c_Z6, c_Z7, c_Z8, c_Z9, c_Z10, c_Z11]) rfl ?_
    exact ⟨by rw [HER.out]; rfl, set12_below BL.out (Nat.le_refl _) _ _ _ _ _ _ _ _ _ _ _ _⟩

set_option maxRecDepth 100000 in
set_option maxHeartbeats 3200000 in
theorem rdecR_30 (A : Option Addr) (c : Nat) (b : List UInt8) (w : World) (hl : b.length ≤ c) (hc : c ≤ 9223372036854775807) (hA : Cells w A (Bs b)) (hf : (fixedS b 0 1).2.2 = 0 ∧ ¬ 5 < (fixedS b 0 1).1.toUInt8.toNat ∧ (fixedS (fixedS b 0 1).2.1 0 1).2.2 = 0 ∧ pairS (n8 (fixedS b 0 1).1.toUInt8) (n8 (fixedS (fixedS b 0 1).2.1 0 1).1.toUInt8) = true ∧ (fixedS b 0 1).1.toUInt8 = 3 ∧ (fixedS (fixedS b 0 1).2.1 0 1).1.toUInt8 = 0) :
    Calls Tryd.prog 21 #[.slice A b.length c] w fun e w' => GaveAF w w' e (decR b) := by
  have HT : Hid (decR b = decRQ b.length (fixedS b 0 1)) := rfl
  generalize decR b = dd at *
  have hwi := fixed1_int b 0
  obtain ⟨W0, hW0⟩ : ∃ W, W = (w.alloc (.cells #[.int .i64 0, .int .i64 0, .int .u64 0, .int .u64 0, .int .i64 0, .int .u64 0, .int .u64 0, .int .u64 0, .int .u64 0, .int .u64 0, .int .u64 0, .int .u64 0] 36)).alloc (.cells #[.slice A b.length c, .int .i64 0, .bool false] 88) := ⟨_, rfl⟩
  have hb0 : Below w.heap.size w W0 := by rw [hW0]; exact ((Below.refl _ _).alloc (Nat.le_refl _) _).alloc (by simp) _
  have HRC : Hid (Rc W0 ((w.heap.size + 1)) b.length b 0) := rc_new (by rw [hW0]; exact heap_here _ _ _ (by simp)) hl hc (cells_below hb0 hA) (fun h0 ad ha => by have := cells_lt hA h0 ad ha; omega)
  have BL : Hid (Below w.heap.size w W0) := hb0
  have Z : Hid (W0.heap[w.heap.size]? = some (.cells #[.int .i64 0, .int .i64 0, .int .u64 0, .int .u64 0, .int .i64 0, .int .u64 0, .int .u64 0, .int .u64 0, .int .u64 0, .int .u64 0, .int .u64 0, .int .u64 0] 36 (0, 0))) := by rw [hW0]; exact alloc_heap (heap_here w _ w.heap.size rfl) _
  clear hA hb0
  have HF := Go.Lib.hid hf
  clear hf
  go_enter Tryd.func21, Tryd.ntmps21
  go_wp2_with fail
  rw [← hW0]
  clear hW0
  refine (number11_calls W0 ((w.heap.size + 1)) b.length b 0 1 1 (by decide) (by decide) (by decide) HRC.out).mono ?_
  rintro e w1 ⟨rfl, h1, h2⟩
  have n_Z := Go.Lib.hid (keep_heap (keep_only h2) Z.out (by omega))
  have n_BL : Hid (Below w.heap.size w w1) := (BL.out).trans (h2.below (by omega))
  clear Z BL
  have Z := n_Z; clear n_Z
  have BL := n_BL; clear n_BL
  clear HRC
  have HRC := Go.Lib.hid h1
  clear h1 h2
  generalize fixedS b 0 1 = q at *
  obtain ⟨u, r1, f1⟩ := q
  have hf := HF.out
  clear HF
  simp only at HRC HT hwi hf ⊢
  have hnw : w.heap.size < w1.heap.size := heap_lt Z.out
  have hgw : (w.heap.size + 1) < w1.heap.size := rc_lt HRC.out
  obtain rfl : f1 = 0 := hf.1
  have hop := hf.2.1
  have hf2 := hf.2.2
  clear hf
  have HT2 : Hid (dd = decR2 b.length u.toUInt8.toNat (fixedS r1 0 1)) := by
    show dd = _
    rw [HT.out]
    unfold decRQ
    rw [if_neg (by simp), if_neg hop]
  clear HT
  have HOP0 := Go.Lib.hid hop
  have HF2 := Go.Lib.hid hf2
  clear hop hf2
  generalize hbu : u.toUInt8 = b0 at *
  have Hb0 := Go.Lib.hid hbu
  clear hbu
  have hb00 : 0 ≤ n8 b0 := by unfold n8; omega
  have hb01 : n8 b0 < 256 := by unfold n8; have := b0.toNat_lt; omega
  clear Hb0
  have s2 := rc_short0 HRC.out
  have hwc := fixed1_int r1 0
  have d2 : decide ((5 : Int) < n8 b0) = false := decide_eq_false (by have := HOP0.out; unfold n8; omega)
  go_wp2_with fail
  clear s2
  refine (number11_calls w1 ((w.heap.size + 1)) b.length r1 0 1 1 (by decide) (by decide) (by decide) HRC.out).mono ?_
  rintro e w2 ⟨rfl, h1, h2⟩
  have n_Z := Go.Lib.hid (keep_heap (keep_only h2) Z.out (by omega))
  have n_BL : Hid (Below w.heap.size w w2) := (BL.out).trans (h2.below (by omega))
  clear Z BL
  have Z := n_Z; clear n_Z
  have BL := n_BL; clear n_BL
  clear HRC
  have HRC := Go.Lib.hid h1
  clear h1 h2
  generalize fixedS r1 0 1 = q at *
  obtain ⟨v, r2, f2⟩ := q
  have hf2 := HF2.out
  clear HF2
  simp only at HRC HT2 hwc hf2 ⊢
  have hnw2 : w.heap.size < w2.heap.size := heap_lt Z.out
  have hgw2 : (w.heap.size + 1) < w2.heap.size := rc_lt HRC.out
  obtain rfl : f2 = 0 := hf2.1
  have hpr := hf2.2
  clear hf2
  have hx : dd = if pairS (n8 b0) (n8 v.toUInt8) = false then (ansZ, 3) else decRC b.length b0.toNat v.toUInt8.toNat r2 0 := by
    rw [HT2.out]
    unfold decR2
    rw [if_neg (by simp)]
    rfl
  have HT3 := Go.Lib.hid hx
  have HPR := Go.Lib.hid hpr
  clear HT2 hx hpr
  generalize hbu : v.toUInt8 = c0 at *
  have Hc0 := Go.Lib.hid hbu
  clear hbu
  have hc00 : 0 ≤ n8 c0 := by unfold n8; omega
  have hc01 : n8 c0 < 256 := by unfold n8; have := c0.toNat_lt; omega
  clear Hc0
  have s2 := rc_short0 HRC.out
  go_wp2_with fail
  refine (paired_calls (n8 b0) (n8 c0) w2).mono ?_
  rintro e wx ⟨rfl, rfl⟩
  have hb0l : b0 = 3 := HPR.out.2.1
  have hc0l : c0 = 0 := HPR.out.2.2
  have hpr := HPR.out.1
  have hT := HT3.out
  rw [hpr] at hT ⊢
  rw [if_neg (by decide)] at hT
  clear HPR HT3 hpr
  subst hb0l hc0l
  rw [show n8 3 = (3 : Int) from rfl] at hwi
  rw [show n8 0 = (0 : Int) from rfl] at hwc
  try rw [show n8 3 = (3 : Int) from rfl]
  try rw [show n8 0 = (0 : Int) from rfl]
  have HT4 := Go.Lib.hid hT
  clear hT
  go_wp2_with fail
  clear s2
  obtain ⟨w3, hnew⟩ : ∃ W, W = (wx.alloc (.cells #[.int .i64 3, .int .i64 0, .int .u64 0, .int .u64 0, .int .i64 0, .int .u64 0, .int .u64 0, .int .u64 0, .int .u64 0, .int .u64 0, .int .u64 0, .int .u64 0] 36)) := ⟨_, rfl⟩
  have n_Z : Hid (w3.heap[w.heap.size]? = some (.cells #[.int .i64 0, .int .i64 0, .int .u64 0, .int .u64 0, .int .i64 0, .int .u64 0, .int .u64 0, .int .u64 0, .int .u64 0, .int .u64 0, .int .u64 0, .int .u64 0] 36 (0, 0))) := by rw [hnew]; exact (alloc_heap Z.out _)
  have X : Hid (w3.heap[wx.heap.size]? = some (.cells #[.int .i64 3, .int .i64 0, .int .u64 0, .int .u64 0, .int .i64 0, .int .u64 0, .int .u64 0, .int .u64 0, .int .u64 0, .int .u64 0, .int .u64 0, .int .u64 0] 36 (0, 0))) := by rw [hnew]; exact heap_here _ _ _ rfl
  have n_BL : Hid (Below w.heap.size w w3) := by rw [hnew]; exact below_alloc (BL.out) (Nat.le_refl _)
  have n_HRC : Hid (Rc w3 (w.heap.size + 1) b.length r2 0) := by rw [hnew]; exact rc_alloc (HRC.out) _
  rw [← hnew]
  clear hnew Z BL HRC
  have Z := n_Z; clear n_Z
  have BL := n_BL; clear n_BL
  have HRC := n_HRC; clear n_HRC
  refine (has_30 w3).mono ?_
  rintro e wy ⟨rfl, rfl⟩
  have hnx3 : wx.heap.size < wy.heap.size := heap_lt X.out
  go_wp2_with fail
  refine (number11_calls wy ((w.heap.size + 1)) b.length r2 0 8 8 (by decide) (by decide) (by decide) HRC.out).mono ?_
  rintro e w4a ⟨rfl, h1, h2⟩
  have n_Z := Go.Lib.hid (keep_heap (keep_only h2) Z.out (by omega))
  have n_X := Go.Lib.hid (keep_heap (keep_only h2) X.out (by omega))
  have n_BL : Hid (Below w.heap.size w w4a) := (BL.out).trans (h2.below (by omega))
  clear Z X BL
  have Z := n_Z; clear n_Z
  have X := n_X; clear n_X
  have BL := n_BL; clear n_BL
  clear HRC
  have HRC := Go.Lib.hid h1
  clear h1 h2
  have HTN : Hid (dd = decR3 b.length (fixedS r2 0 8) (takePolS (fixedS r2 0 8).2.1 (fixedS r2 0 8).2.2)) := HT4.out
  clear HT4
  generalize fixedS r2 0 8 = qq at *
  obtain ⟨aa, r3, f3⟩ := qq
  simp only at HRC HTN ⊢
  have HTE := HTN
  clear HTN
  have hn_w4 : wx.heap.size < w4a.heap.size := heap_lt X.out
  have hm_w4 : w.heap.size < w4a.heap.size := heap_lt Z.out
  have c_X0 := blk_cell X.out 0 (.int .i64 3) rfl
  have c_X1 := blk_cell X.out 1 (.int .i64 0) rfl
  have c_X2 := blk_cell X.out 2 (.int .u64 0) rfl
  have c_X3 := blk_cell X.out 3 (.int .u64 0) rfl
  have c_X4 := blk_cell X.out 4 (.int .i64 0) rfl
  have c_X5 := blk_cell X.out 5 (.int .u64 0) rfl
  have c_X6 := blk_cell X.out 6 (.int .u64 0) rfl
  have c_X7 := blk_cell X.out 7 (.int .u64 0) rfl
  have c_X8 := blk_cell X.out 8 (.int .u64 0) rfl
  have c_X9 := blk_cell X.out 9 (.int .u64 0) rfl
  have c_X10 := blk_cell X.out 10 (.int .u64 0) rfl
  have c_X11 := blk_cell X.out 11 (.int .u64 0) rfl
  have f_X := heap_frozen X.out
  go_wp2_with fail
  clear c_X0 c_X1 c_X2 c_X3 c_X4 c_X5 c_X6 c_X7 c_X8 c_X9 c_X10 c_X11 f_X
  obtain ⟨w4, hnew⟩ : ∃ W, W = (w4a.setCell ⟨wx.heap.size, 2, none⟩ (.int .u64 (n64 aa))) := ⟨_, rfl⟩
  have n_Z : Hid (w4.heap[w.heap.size]? = some (.cells #[.int .i64 0, .int .i64 0, .int .u64 0, .int .u64 0, .int .i64 0, .int .u64 0, .int .u64 0, .int .u64 0, .int .u64 0, .int .u64 0, .int .u64 0, .int .u64 0] 36 (0, 0))) := by rw [hnew]; exact (set_other Z.out (by omega) _ _)
  have n_X : Hid (w4.heap[wx.heap.size]? = some (.cells #[.int .i64 3, .int .i64 0, .int .u64 (n64 aa), .int .u64 0, .int .i64 0, .int .u64 0, .int .u64 0, .int .u64 0, .int .u64 0, .int .u64 0, .int .u64 0, .int .u64 0] 36 (0, 0))) := by rw [hnew]; exact (set_heap X.out _ _)
  have n_BL : Hid (Below w.heap.size w w4) := by rw [hnew]; exact below_set (BL.out) (by omega)
  have n_HRC : Hid (Rc w4 (w.heap.size + 1) b.length r3 f3) := by rw [hnew]; exact rc_set (HRC.out) (X.out) (by decide) rfl _ _
  rw [← hnew]
  clear hnew Z X BL HRC
  have Z := n_Z; clear n_Z
  have X := n_X; clear n_X
  have BL := n_BL; clear n_BL
  have HRC := n_HRC; clear n_HRC
  refine (rpolicy_calls ((w.heap.size + 1)) b.length r3 f3 w4 HRC.out).mono ?_
  rintro e w5 ⟨rfl, h1, h2⟩
  have n_Z := Go.Lib.hid (keep_heap h2 Z.out (by omega))
  have n_X := Go.Lib.hid (keep_heap h2 X.out (by omega))
  have n_BL : Hid (Below w.heap.size w w5) := (BL.out).trans (keep_below h2 (by omega) (BL.out).size)
  clear Z X BL
  have Z := n_Z; clear n_Z
  have X := n_X; clear n_X
  have BL := n_BL; clear n_BL
  clear HRC
  have HRC := Go.Lib.hid h1
  clear h1 h2
  generalize takePolS r3 f3 = pq at *
  obtain ⟨pol, kk, r4, f4⟩ := pq
  simp only [polA] at HRC HTE ⊢
  have hnx5 : wx.heap.size < w5.heap.size := heap_lt X.out
  have hnz5 : w.heap.size < w5.heap.size := heap_lt Z.out
  cases kk with
  | succ m =>
    have hT : dd = (ansZ, m + 1) := HTE.out
    clear HTE
    subst hT
    rw [show polOr (pol, m + 1, r4, f4) = polZ from rfl]
    have hm1 : (((m + 1 : Nat) : Int) != 0) = true := by rw [bne_iff_ne]; omega
    have hm2 : (((m + 1 : Nat) : Int) == 0) = false := by rw [beq_eq_false_iff_ne]; omega
    obtain ⟨er, her⟩ : ∃ er : Int, er = ((m + 1 : Nat) : Int) := ⟨_, rfl⟩
    rw [← her] at hm1 hm2 ⊢
    have HER := Go.Lib.hid her
    clear her
    have c_Z0 := blk_cell Z.out 0 (.int .i64 0) rfl
    have c_Z1 := blk_cell Z.out 1 (.int .i64 0) rfl
    have c_Z2 := blk_cell Z.out 2 (.int .u64 0) rfl
    have c_Z3 := blk_cell Z.out 3 (.int .u64 0) rfl
    have c_Z4 := blk_cell Z.out 4 (.int .i64 0) rfl
    have c_Z5 := blk_cell Z.out 5 (.int .u64 0) rfl
    have c_Z6 := blk_cell Z.out 6 (.int .u64 0) rfl
    have c_Z7 := blk_cell Z.out 7 (.int .u64 0) rfl
    have c_Z8 := blk_cell Z.out 8 (.int .u64 0) rfl
    have c_Z9 := blk_cell Z.out 9 (.int .u64 0) rfl
    have c_Z10 := blk_cell Z.out 10 (.int .u64 0) rfl
    have c_Z11 := blk_cell Z.out 11 (.int .u64 0) rfl
    have f_Z := heap_frozen Z.out
    go_wp2
    refine bodyPost_ret (v := .tuple #[.agg #[.int .i64 0, .int .i64 0, .int .u64 0, .int .u64 0, .int .i64 0, .int .u64 0, .int .u64 0, .int .u64 0, .int .u64 0, .int .u64 0, .int .u64 0, .int .u64 0], .int .i64 er]) (by simp [results, Tryd.results21, go_sem, hnz5, hnx5, c_Z0, c_Z1, c_Z2, c_Z3, c_Z4, c_Z5, c_Z6, c_Z7, c_Z8, c_Z9, c_Z10, c_Z11]) rfl ?_
    exact ⟨by rw [HER.out]; rfl, below_alloc (set12_below BL.out (Nat.le_refl _) _ _ _ _ _ _ _ _ _ _ _ _) (Nat.le_refl _)⟩
  | zero =>
    have HTN0 : Hid (dd = ansOr ⟨3, ⟨0, aa, 0, pol, ⟨(fixedS r4 f4 8).1, (fixedS (fixedS r4 f4 8).2.1 (fixedS r4 f4 8).2.2 8).1, (fixedS (fixedS (fixedS r4 f4 8).2.1 (fixedS r4 f4 8).2.2 8).2.1 (fixedS (fixedS r4 f4 8).2.1 (fixedS r4 f4 8).2.2 8).2.2 8).1⟩⟩⟩ (endE (fixedS (fixedS (fixedS r4 f4 8).2.1 (fixedS r4 f4 8).2.2 8).2.1 (fixedS (fixedS r4 f4 8).2.1 (fixedS r4 f4 8).2.2 8).2.2 8).2.1 (fixedS (fixedS (fixedS r4 f4 8).2.1 (fixedS r4 f4 8).2.2 8).2.1 (fixedS (fixedS r4 f4 8).2.1 (fixedS r4 f4 8).2.2 8).2.2 8).2.2 b.length)) := HTE.out
    clear HTE
    rw [show polOr (pol, 0, r4, f4) = pol from rfl]
    have c_X0 := blk_cell X.out 0 (.int .i64 3) rfl
    have c_X1 := blk_cell X.out 1 (.int .i64 0) rfl
    have c_X2 := blk_cell X.out 2 (.int .u64 (n64 aa)) rfl
    have c_X3 := blk_cell X.out 3 (.int .u64 0) rfl
    have c_X4 := blk_cell X.out 4 (.int .i64 0) rfl
    have c_X5 := blk_cell X.out 5 (.int .u64 0) rfl
    have c_X6 := blk_cell X.out 6 (.int .u64 0) rfl
    have c_X7 := blk_cell X.out 7 (.int .u64 0) rfl
    have c_X8 := blk_cell X.out 8 (.int .u64 0) rfl
    have c_X9 := blk_cell X.out 9 (.int .u64 0) rfl
    have c_X10 := blk_cell X.out 10 (.int .u64 0) rfl
    have c_X11 := blk_cell X.out 11 (.int .u64 0) rfl
    have f_X := heap_frozen X.out
    go_wp2_with fail
    clear c_X0 c_X1 c_X2 c_X3 c_X4 c_X5 c_X6 c_X7 c_X8 c_X9 c_X10 c_X11 f_X
    obtain ⟨w6, hnew⟩ : ∃ W, W = ((((((w5.setCell ⟨wx.heap.size, 4, none⟩ (.int .i64 pol.kind)).setCell ⟨wx.heap.size, 5, none⟩ (.int .u64 (n64 pol.gap))).setCell ⟨wx.heap.size, 6, none⟩ (.int .u64 (n64 pol.slack))).setCell ⟨wx.heap.size, 7, none⟩ (.int .u64 (n64 pol.limit))).setCell ⟨wx.heap.size, 8, none⟩ (.int .u64 (n64 pol.span))).alloc (.cells #[.int .i64 pol.kind, .int .u64 (n64 pol.gap), .int .u64 (n64 pol.slack), .int .u64 (n64 pol.limit), .int .u64 (n64 pol.span)] 28)) := ⟨_, rfl⟩
    have n_Z : Hid (w6.heap[w.heap.size]? = some (.cells #[.int .i64 0, .int .i64 0, .int .u64 0, .int .u64 0, .int .i64 0, .int .u64 0, .int .u64 0, .int .u64 0, .int .u64 0, .int .u64 0, .int .u64 0, .int .u64 0] 36 (0, 0))) := by rw [hnew]; exact (alloc_heap (set_other (set_other (set_other (set_other (set_other Z.out (by omega) _ _) (by omega) _ _) (by omega) _ _) (by omega) _ _) (by omega) _ _) _)
    have n_X : Hid (w6.heap[wx.heap.size]? = some (.cells #[.int .i64 3, .int .i64 0, .int .u64 (n64 aa), .int .u64 0, .int .i64 pol.kind, .int .u64 (n64 pol.gap), .int .u64 (n64 pol.slack), .int .u64 (n64 pol.limit), .int .u64 (n64 pol.span), .int .u64 0, .int .u64 0, .int .u64 0] 36 (0, 0))) := by rw [hnew]; exact (alloc_heap (set_heap (set_heap (set_heap (set_heap (set_heap X.out _ _) _ _) _ _) _ _) _ _) _)
    have P : Hid (w6.heap[w5.heap.size]? = some (.cells #[.int .i64 pol.kind, .int .u64 (n64 pol.gap), .int .u64 (n64 pol.slack), .int .u64 (n64 pol.limit), .int .u64 (n64 pol.span)] 28 (0, 0))) := by rw [hnew]; exact heap_here _ _ _ (by simp [World.setCell])
    have n_BL : Hid (Below w.heap.size w w6) := by rw [hnew]; exact below_alloc (below_set (below_set (below_set (below_set (below_set (BL.out) (by omega)) (by omega)) (by omega)) (by omega)) (by omega)) (Nat.le_refl _)
    have n_HRC : Hid (Rc w6 (w.heap.size + 1) b.length r4 f4) := by rw [hnew]; exact rc_alloc (rc_set (rc_set (rc_set (rc_set (rc_set (HRC.out) (X.out) (by decide) rfl _ _) ((set_heap X.out _ _)) (by decide) rfl _ _) ((set_heap (set_heap X.out _ _) _ _)) (by decide) rfl _ _) ((set_heap (set_heap (set_heap X.out _ _) _ _) _ _)) (by decide) rfl _ _) ((set_heap (set_heap (set_heap (set_heap X.out _ _) _ _) _ _) _ _)) (by decide) rfl _ _) _
    rw [← hnew]
    clear hnew Z X BL HRC
    have Z := n_Z; clear n_Z
    have X := n_X; clear n_X
    have BL := n_BL; clear n_BL
    have HRC := n_HRC; clear n_HRC
    clear P
    refine (number11_calls w6 ((w.heap.size + 1)) b.length r4 f4 8 8 (by decide) (by decide) (by decide) HRC.out).mono ?_
    rintro e w7a ⟨rfl, h1, h2⟩
    have n_Z := Go.Lib.hid (keep_heap (keep_only h2) Z.out (by omega))
    have n_X := Go.Lib.hid (keep_heap (keep_only h2) X.out (by omega))
    have n_BL : Hid (Below w.heap.size w w7a) := (BL.out).trans (h2.below (by omega))
    clear Z X BL
    have Z := n_Z; clear n_Z
    have X := n_X; clear n_X
    have BL := n_BL; clear n_BL
    clear HRC
    have HRC := Go.Lib.hid h1
    clear h1 h2
    have HTN := HTN0
    clear HTN0
    generalize fixedS r4 f4 8 = qq at *
    obtain ⟨xx, r5, f5⟩ := qq
    simp only at HRC HTN ⊢
    have HTE := HTN
    clear HTN
    have hn_w7 : wx.heap.size < w7a.heap.size := heap_lt X.out
    have hm_w7 : w.heap.size < w7a.heap.size := heap_lt Z.out
    have c_X0 := blk_cell X.out 0 (.int .i64 3) rfl
    have c_X1 := blk_cell X.out 1 (.int .i64 0) rfl
    have c_X2 := blk_cell X.out 2 (.int .u64 (n64 aa)) rfl
    have c_X3 := blk_cell X.out 3 (.int .u64 0) rfl
    have c_X4 := blk_cell X.out 4 (.int .i64 pol.kind) rfl
    have c_X5 := blk_cell X.out 5 (.int .u64 (n64 pol.gap)) rfl
    have c_X6 := blk_cell X.out 6 (.int .u64 (n64 pol.slack)) rfl
    have c_X7 := blk_cell X.out 7 (.int .u64 (n64 pol.limit)) rfl
    have c_X8 := blk_cell X.out 8 (.int .u64 (n64 pol.span)) rfl
    have c_X9 := blk_cell X.out 9 (.int .u64 0) rfl
    have c_X10 := blk_cell X.out 10 (.int .u64 0) rfl
    have c_X11 := blk_cell X.out 11 (.int .u64 0) rfl
    have f_X := heap_frozen X.out
    go_wp2_with fail
    clear c_X0 c_X1 c_X2 c_X3 c_X4 c_X5 c_X6 c_X7 c_X8 c_X9 c_X10 c_X11 f_X
    obtain ⟨w7, hnew⟩ : ∃ W, W = (w7a.setCell ⟨wx.heap.size, 9, none⟩ (.int .u64 (n64 xx))) := ⟨_, rfl⟩
    have n_Z : Hid (w7.heap[w.heap.size]? = some (.cells #[.int .i64 0, .int .i64 0, .int .u64 0, .int .u64 0, .int .i64 0, .int .u64 0, .int .u64 0, .int .u64 0, .int .u64 0, .int .u64 0, .int .u64 0, .int .u64 0] 36 (0, 0))) := by rw [hnew]; exact (set_other Z.out (by omega) _ _)
    have n_X : Hid (w7.heap[wx.heap.size]? = some (.cells #[.int .i64 3, .int .i64 0, .int .u64 (n64 aa), .int .u64 0, .int .i64 pol.kind, .int .u64 (n64 pol.gap), .int .u64 (n64 pol.slack), .int .u64 (n64 pol.limit), .int .u64 (n64 pol.span), .int .u64 (n64 xx), .int .u64 0, .int .u64 0] 36 (0, 0))) := by rw [hnew]; exact (set_heap X.out _ _)
    have n_BL : Hid (Below w.heap.size w w7) := by rw [hnew]; exact below_set (BL.out) (by omega)
    have n_HRC : Hid (Rc w7 (w.heap.size + 1) b.length r5 f5) := by rw [hnew]; exact rc_set (HRC.out) (X.out) (by decide) rfl _ _
    rw [← hnew]
    clear hnew Z X BL HRC
    have Z := n_Z; clear n_Z
    have X := n_X; clear n_X
    have BL := n_BL; clear n_BL
    have HRC := n_HRC; clear n_HRC
    refine (number11_calls w7 ((w.heap.size + 1)) b.length r5 f5 8 8 (by decide) (by decide) (by decide) HRC.out).mono ?_
    rintro e w8a ⟨rfl, h1, h2⟩
    have n_Z := Go.Lib.hid (keep_heap (keep_only h2) Z.out (by omega))
    have n_X := Go.Lib.hid (keep_heap (keep_only h2) X.out (by omega))
    have n_BL : Hid (Below w.heap.size w w8a) := (BL.out).trans (h2.below (by omega))
    clear Z X BL
    have Z := n_Z; clear n_Z
    have X := n_X; clear n_X
    have BL := n_BL; clear n_BL
    clear HRC
    have HRC := Go.Lib.hid h1
    clear h1 h2
    have HTN := HTE
    clear HTE
    generalize fixedS r5 f5 8 = qq at *
    obtain ⟨yy, r6, f6⟩ := qq
    simp only at HRC HTN ⊢
    have HTE := HTN
    clear HTN
    have hn_w8 : wx.heap.size < w8a.heap.size := heap_lt X.out
    have hm_w8 : w.heap.size < w8a.heap.size := heap_lt Z.out
    have c_X0 := blk_cell X.out 0 (.int .i64 3) rfl
    have c_X1 := blk_cell X.out 1 (.int .i64 0) rfl
    have c_X2 := blk_cell X.out 2 (.int .u64 (n64 aa)) rfl
    have c_X3 := blk_cell X.out 3 (.int .u64 0) rfl
    have c_X4 := blk_cell X.out 4 (.int .i64 pol.kind) rfl
    have c_X5 := blk_cell X.out 5 (.int .u64 (n64 pol.gap)) rfl
    have c_X6 := blk_cell X.out 6 (.int .u64 (n64 pol.slack)) rfl
    have c_X7 := blk_cell X.out 7 (.int .u64 (n64 pol.limit)) rfl
    have c_X8 := blk_cell X.out 8 (.int .u64 (n64 pol.span)) rfl
    have c_X9 := blk_cell X.out 9 (.int .u64 (n64 xx)) rfl
    have c_X10 := blk_cell X.out 10 (.int .u64 0) rfl
    have c_X11 := blk_cell X.out 11 (.int .u64 0) rfl
    have f_X := heap_frozen X.out
    go_wp2_with fail
    clear c_X0 c_X1 c_X2 c_X3 c_X4 c_X5 c_X6 c_X7 c_X8 c_X9 c_X10 c_X11 f_X
    obtain ⟨w8, hnew⟩ : ∃ W, W = (w8a.setCell ⟨wx.heap.size, 10, none⟩ (.int .u64 (n64 yy))) := ⟨_, rfl⟩
    have n_Z : Hid (w8.heap[w.heap.size]? = some (.cells #[.int .i64 0, .int .i64 0, .int .u64 0, .int .u64 0, .int .i64 0, .int .u64 0, .int .u64 0, .int .u64 0, .int .u64 0, .int .u64 0, .int .u64 0, .int .u64 0] 36 (0, 0))) := by rw [hnew]; exact (set_other Z.out (by omega) _ _)
    have n_X : Hid (w8.heap[wx.heap.size]? = some (.cells #[.int .i64 3, .int .i64 0, .int .u64 (n64 aa), .int .u64 0, .int .i64 pol.kind, .int .u64 (n64 pol.gap), .int .u64 (n64 pol.slack), .int .u64 (n64 pol.limit), .int .u64 (n64 pol.span), .int .u64 (n64 xx), .int .u64 (n64 yy), .int .u64 0] 36 (0, 0))) := by rw [hnew]; exact (set_heap X.out _ _)
    have n_BL : Hid (Below w.heap.size w w8) := by rw [hnew]; exact below_set (BL.out) (by omega)
    have n_HRC : Hid (Rc w8 (w.heap.size + 1) b.length r6 f6) := by rw [hnew]; exact rc_set (HRC.out) (X.out) (by decide) rfl _ _
    rw [← hnew]
    clear hnew Z X BL HRC
    have Z := n_Z; clear n_Z
    have X := n_X; clear n_X
    have BL := n_BL; clear n_BL
    have HRC := n_HRC; clear n_HRC
    refine (number11_calls w8 ((w.heap.size + 1)) b.length r6 f6 8 8 (by decide) (by decide) (by decide) HRC.out).mono ?_
    rintro e w9a ⟨rfl, h1, h2⟩
    have n_Z := Go.Lib.hid (keep_heap (keep_only h2) Z.out (by omega))
    have n_X := Go.Lib.hid (keep_heap (keep_only h2) X.out (by omega))
    have n_BL : Hid (Below w.heap.size w w9a) := (BL.out).trans (h2.below (by omega))
    clear Z X BL
    have Z := n_Z; clear n_Z
    have X := n_X; clear n_X
    have BL := n_BL; clear n_BL
    clear HRC
    have HRC := Go.Lib.hid h1
    clear h1 h2
    have HTN := HTE
    clear HTE
    generalize fixedS r6 f6 8 = qq at *
    obtain ⟨zz, r7, f7⟩ := qq
    simp only at HRC HTN ⊢
    have HTE := HTN
    clear HTN
    have hn_w9 : wx.heap.size < w9a.heap.size := heap_lt X.out
    have hm_w9 : w.heap.size < w9a.heap.size := heap_lt Z.out
    have c_X0 := blk_cell X.out 0 (.int .i64 3) rfl
    have c_X1 := blk_cell X.out 1 (.int .i64 0) rfl
    have c_X2 := blk_cell X.out 2 (.int .u64 (n64 aa)) rfl
    have c_X3 := blk_cell X.out 3 (.int .u64 0) rfl
    have c_X4 := blk_cell X.out 4 (.int .i64 pol.kind) rfl
    have c_X5 := blk_cell X.out 5 (.int .u64 (n64 pol.gap)) rfl
    have c_X6 := blk_cell X.out 6 (.int .u64 (n64 pol.slack)) rfl
    have c_X7 := blk_cell X.out 7 (.int .u64 (n64 pol.limit)) rfl
    have c_X8 := blk_cell X.out 8 (.int .u64 (n64 pol.span)) rfl
    have c_X9 := blk_cell X.out 9 (.int .u64 (n64 xx)) rfl
    have c_X10 := blk_cell X.out 10 (.int .u64 (n64 yy)) rfl
    have c_X11 := blk_cell X.out 11 (.int .u64 0) rfl
    have f_X := heap_frozen X.out
    go_wp2_with fail
    clear c_X0 c_X1 c_X2 c_X3 c_X4 c_X5 c_X6 c_X7 c_X8 c_X9 c_X10 c_X11 f_X
    obtain ⟨w9, hnew⟩ : ∃ W, W = (w9a.setCell ⟨wx.heap.size, 11, none⟩ (.int .u64 (n64 zz))) := ⟨_, rfl⟩
    have n_Z : Hid (w9.heap[w.heap.size]? = some (.cells #[.int .i64 0, .int .i64 0, .int .u64 0, .int .u64 0, .int .i64 0, .int .u64 0, .int .u64 0, .int .u64 0, .int .u64 0, .int .u64 0, .int .u64 0, .int .u64 0] 36 (0, 0))) := by rw [hnew]; exact (set_other Z.out (by omega) _ _)
    have n_X : Hid (w9.heap[wx.heap.size]? = some (.cells #[.int .i64 3, .int .i64 0, .int .u64 (n64 aa), .int .u64 0, .int .i64 pol.kind, .int .u64 (n64 pol.gap), .int .u64 (n64 pol.slack), .int .u64 (n64 pol.limit), .int .u64 (n64 pol.span), .int .u64 (n64 xx), .int .u64 (n64 yy), .int .u64 (n64 zz)] 36 (0, 0))) := by rw [hnew]; exact (set_heap X.out _ _)
    have n_BL : Hid (Below w.heap.size w w9) := by rw [hnew]; exact below_set (BL.out) (by omega)
    have n_HRC : Hid (Rc w9 (w.heap.size + 1) b.length r7 f7) := by rw [hnew]; exact rc_set (HRC.out) (X.out) (by decide) rfl _ _
    rw [← hnew]
    clear hnew Z X BL HRC
    have Z := n_Z; clear n_Z
    have X := n_X; clear n_X
    have BL := n_BL; clear n_BL
    have HRC := n_HRC; clear n_HRC
    refine (ended_calls ((w.heap.size + 1)) b.length r7 f7 w9 HRC.out).mono ?_
    rintro e w10 ⟨rfl, nd, hnd⟩
    have hdr : Below w9.heap.size w9 w10 := by rw [hnd]; exact below_drewN _ _ _
    clear hnd
    have n_Z := Go.Lib.hid (below_heap hdr Z.out)
    have n_X := Go.Lib.hid (below_heap hdr X.out)
    have n_BL : Hid (Below w.heap.size w w10) := below_then BL.out hdr
    clear Z X BL
    have Z := n_Z; clear n_Z
    have X := n_X; clear n_X
    have BL := n_BL; clear n_BL
    clear hdr HRC
    have hTE := HTE.out
    clear HTE
    have hnz : w.heap.size < w10.heap.size := heap_lt Z.out
    generalize endE r7 f7 b.length = kk at *
    cases kk with
    | zero =>
      have hT : dd = (⟨3, ⟨0, aa, 0, pol, ⟨xx, yy, zz⟩⟩⟩, 0) := hTE
      clear hTE
      subst hT
      have c_Z0 := blk_cell Z.out 0 (.int .i64 0) rfl
      have c_Z1 := blk_cell Z.out 1 (.int .i64 0) rfl
      have c_Z2 := blk_cell Z.out 2 (.int .u64 0) rfl
      have c_Z3 := blk_cell Z.out 3 (.int .u64 0) rfl
      have c_Z4 := blk_cell Z.out 4 (.int .i64 0) rfl
      have c_Z5 := blk_cell Z.out 5 (.int .u64 0) rfl
      have c_Z6 := blk_cell Z.out 6 (.int .u64 0) rfl
      have c_Z7 := blk_cell Z.out 7 (.int .u64 0) rfl
      have c_Z8 := blk_cell Z.out 8 (.int .u64 0) rfl
      have c_Z9 := blk_cell Z.out 9 (.int .u64 0) rfl
      have c_Z10 := blk_cell Z.out 10 (.int .u64 0) rfl
      have c_Z11 := blk_cell Z.out 11 (.int .u64 0) rfl
      have f_Z := heap_frozen Z.out
      have c_X0 := blk_cell X.out 0 (.int .i64 3) rfl
      have c_X1 := blk_cell X.out 1 (.int .i64 0) rfl
      have c_X2 := blk_cell X.out 2 (.int .u64 (n64 aa)) rfl
      have c_X3 := blk_cell X.out 3 (.int .u64 0) rfl
      have c_X4 := blk_cell X.out 4 (.int .i64 pol.kind) rfl
      have c_X5 := blk_cell X.out 5 (.int .u64 (n64 pol.gap)) rfl
      have c_X6 := blk_cell X.out 6 (.int .u64 (n64 pol.slack)) rfl
      have c_X7 := blk_cell X.out 7 (.int .u64 (n64 pol.limit)) rfl
      have c_X8 := blk_cell X.out 8 (.int .u64 (n64 pol.span)) rfl
      have c_X9 := blk_cell X.out 9 (.int .u64 (n64 xx)) rfl
      have c_X10 := blk_cell X.out 10 (.int .u64 (n64 yy)) rfl
      have c_X11 := blk_cell X.out 11 (.int .u64 (n64 zz)) rfl
      have f_X := heap_frozen X.out
      go_wp2
      refine bodyPost_ret (v := .tuple #[.agg #[.int .i64 3, .int .i64 0, .int .u64 (n64 aa), .int .u64 0, .int .i64 pol.kind, .int .u64 (n64 pol.gap), .int .u64 (n64 pol.slack), .int .u64 (n64 pol.limit), .int .u64 (n64 pol.span), .int .u64 (n64 xx), .int .u64 (n64 yy), .int .u64 (n64 zz)], .int .i64 0]) (by simp [results, Tryd.results21, go_sem, c_Z0, c_Z1, c_Z2, c_Z3, c_Z4, c_Z5, c_Z6, c_Z7, c_Z8, c_Z9, c_Z10, c_Z11]) rfl ?_
      exact ⟨rfl, set12_below BL.out (Nat.le_refl _) _ _ _ _ _ _ _ _ _ _ _ _⟩
    | succ m =>
      have hT : dd = (ansZ, m + 1) := hTE
      clear hTE
      subst hT
      have hm1 : (((m + 1 : Nat) : Int) != 0) = true := by rw [bne_iff_ne]; omega
      have hm2 : (((m + 1 : Nat) : Int) == 0) = false := by rw [beq_eq_false_iff_ne]; omega
      obtain ⟨er, her⟩ : ∃ er : Int, er = ((m + 1 : Nat) : Int) := ⟨_, rfl⟩
      rw [← her] at hm1 hm2 ⊢
      have HER := Go.Lib.hid her
      clear her
      have c_Z0 := blk_cell Z.out 0 (.int .i64 0) rfl
      have c_Z1 := blk_cell Z.out 1 (.int .i64 0) rfl
      have c_Z2 := blk_cell Z.out 2 (.int .u64 0) rfl
      have c_Z3 := blk_cell Z.out 3 (.int .u64 0) rfl
      have c_Z4 := blk_cell Z.out 4 (.int .i64 0) rfl
      have c_Z5 := blk_cell Z.out 5 (.int .u64 0) rfl
      have c_Z6 := blk_cell Z.out 6 (.int .u64 0) rfl
      have c_Z7 := blk_cell Z.out 7 (.int .u64 0) rfl
      have c_Z8 := blk_cell Z.out 8 (.int .u64 0) rfl
      have c_Z9 := blk_cell Z.out 9 (.int .u64 0) rfl
      have c_Z10 := blk_cell Z.out 10 (.int .u64 0) rfl
      have c_Z11 := blk_cell Z.out 11 (.int .u64 0) rfl
      have f_Z := heap_frozen Z.out
      go_wp2
      refine bodyPost_ret (v := .tuple #[.agg #[.int .i64 0, .int .i64 0, .int .u64 0, .int .u64 0, .int .i64 0, .int .u64 0, .int .u64 0, .int .u64 0, .int .u64 0, .int .u64 0, .int .u64 0, .int .u64 0], .int .i64 er]) (by simp [results, Tryd.results21, go_sem, c_Z0, c_Z1, c_Z2, c_Z3, c_Z4, c_Z5, c_Z6, c_Z7, c_Z8, c_Z9, c_Z10, c_Z11]) rfl ?_
      exact ⟨by rw [HER.out]; rfl, set12_below BL.out (Nat.le_refl _) _ _ _ _ _ _ _ _ _ _ _ _⟩

set_option maxRecDepth 100000 in
set_option maxHeartbeats 3200000 in
theorem rdecR_x (A : Option Addr) (c : Nat) (b : List UInt8) (w : World) (hl : b.length ≤ c) (hc : c ≤ 9223372036854775807) (hA : Cells w A (Bs b)) (hf : (fixedS b 0 1).2.2 = 0 ∧ ¬ 5 < (fixedS b 0 1).1.toUInt8.toNat ∧ (fixedS (fixedS b 0 1).2.1 0 1).2.2 = 0 ∧ pairS (n8 (fixedS b 0 1).1.toUInt8) (n8 (fixedS (fixedS b 0 1).2.1 0 1).1.toUInt8) = true ∧ plainA (n8 (fixedS b 0 1).1.toUInt8) (n8 (fixedS (fixedS b 0 1).2.1 0 1).1.toUInt8)) :
    Calls Tryd.prog 21 #[.slice A b.length c] w fun e w' => GaveAF w w' e (decR b) := by
  have HT : Hid (decR b = decRQ b.length (fixedS b 0 1)) := rfl
  generalize decR b = dd at *
  have hwi := fixed1_int b 0
  obtain ⟨W0, hW0⟩ : ∃ W, W = (w.alloc (.cells #[.int .i64 0, .int .i64 0, .int .u64 0, .int .u64 0, .int .i64 0, .int .u64 0, .int .u64 0, .int .u64 0, .int .u64 0, .int .u64 0, .int .u64 0, .int .u64 0] 36)).alloc (.cells #[.slice A b.length c, .int .i64 0, .bool false] 88) := ⟨_, rfl⟩
  have hb0 : Below w.heap.size w W0 := by rw [hW0]; exact ((Below.refl _ _).alloc (Nat.le_refl _) _).alloc (by simp) _
  have HRC : Hid (Rc W0 ((w.heap.size + 1)) b.length b 0) := rc_new (by rw [hW0]; exact heap_here _ _ _ (by simp)) hl hc (cells_below hb0 hA) (fun h0 ad ha => by have := cells_lt hA h0 ad ha; omega)
  have BL : Hid (Below w.heap.size w W0) := hb0
  have Z : Hid (W0.heap[w.heap.size]? = some (.cells #[.int .i64 0, .int .i64 0, .int .u64 0, .int .u64 0, .int .i64 0, .int .u64 0, .int .u64 0, .int .u64 0, .int .u64 0, .int .u64 0, .int .u64 0, .int .u64 0] 36 (0, 0))) := by rw [hW0]; exact alloc_heap (heap_here w _ w.heap.size rfl) _
  clear hA hb0
  have HF := Go.Lib.hid hf
  clear hf
  go_enter Tryd.func21, Tryd.ntmps21
  go_wp2_with fail
  rw [← hW0]
  clear hW0
  refine (number11_calls W0 ((w.heap.size + 1)) b.length b 0 1 1 (by decide) (by decide) (by decide) HRC.out).mono ?_
  rintro e w1 ⟨rfl, h1, h2⟩
  have n_Z := Go.Lib.hid (keep_heap (keep_only h2) Z.out (by omega))
  have n_BL : Hid (Below w.heap.size w w1) := (BL.out).trans (h2.below (by omega))
  clear Z BL
  have Z := n_Z; clear n_Z
  have BL := n_BL; clear n_BL
  clear HRC
  have HRC := Go.Lib.hid h1
  clear h1 h2
  generalize fixedS b 0 1 = q at *
  obtain ⟨u, r1, f1⟩ := q
  have hf := HF.out
  clear HF
  simp only at HRC HT hwi hf ⊢
  have hnw : w.heap.size < w1.heap.size := heap_lt Z.out
  have hgw : (w.heap.size + 1) < w1.heap.size := rc_lt HRC.out
  obtain rfl : f1 = 0 := hf.1
  have hop := hf.2.1
  have hf2 := hf.2.2
  clear hf
  have HT2 : Hid (dd = decR2 b.length u.toUInt8.toNat (fixedS r1 0 1)) := by
    show dd = _
    rw [HT.out]
    unfold decRQ
    rw [if_neg (by simp), if_neg hop]
  clear HT
  have HOP0 := Go.Lib.hid hop
  have HF2 := Go.Lib.hid hf2
  clear hop hf2
  generalize hbu : u.toUInt8 = b0 at *
  have Hb0 := Go.Lib.hid hbu
  clear hbu
  have hb00 : 0 ≤ n8 b0 := by unfold n8; omega
  have hb01 : n8 b0 < 256 := by unfold n8; have := b0.toNat_lt; omega
  clear Hb0
  have s2 := rc_short0 HRC.out
  have hwc := fixed1_int r1 0
  have d2 : decide ((5 : Int) < n8 b0) = false := decide_eq_false (by have := HOP0.out; unfold n8; omega)
  go_wp2_with fail
  clear s2
  refine (number11_calls w1 ((w.heap.size + 1)) b.length r1 0 1 1 (by decide) (by decide) (by decide) HRC.out).mono ?_
  rintro e w2 ⟨rfl, h1, h2⟩
  have n_Z := Go.Lib.hid (keep_heap (keep_only h2) Z.out (by omega))
  have n_BL : Hid (Below w.heap.size w w2) := (BL.out).trans (h2.below (by omega))
  clear Z BL
  have Z := n_Z; clear n_Z
  have BL := n_BL; clear n_BL
  clear HRC
  have HRC := Go.Lib.hid h1
  clear h1 h2
  generalize fixedS r1 0 1 = q at *
  obtain ⟨v, r2, f2⟩ := q
  have hf2 := HF2.out
  clear HF2
  simp only at HRC HT2 hwc hf2 ⊢
  have hnw2 : w.heap.size < w2.heap.size := heap_lt Z.out
  have hgw2 : (w.heap.size + 1) < w2.heap.size := rc_lt HRC.out
  obtain rfl : f2 = 0 := hf2.1
  have hpr := hf2.2
  clear hf2
  have hx : dd = if pairS (n8 b0) (n8 v.toUInt8) = false then (ansZ, 3) else decRC b.length b0.toNat v.toUInt8.toNat r2 0 := by
    rw [HT2.out]
    unfold decR2
    rw [if_neg (by simp)]
    rfl
  have HT3 := Go.Lib.hid hx
  have HPR := Go.Lib.hid hpr
  clear HT2 hx hpr
  generalize hbu : v.toUInt8 = c0 at *
  have Hc0 := Go.Lib.hid hbu
  clear hbu
  have hc00 : 0 ≤ n8 c0 := by unfold n8; omega
  have hc01 : n8 c0 < 256 := by unfold n8; have := c0.toNat_lt; omega
  clear Hc0
  have s2 := rc_short0 HRC.out
  go_wp2_with fail
  refine (paired_calls (n8 b0) (n8 c0) w2).mono ?_
  rintro e wx ⟨rfl, rfl⟩
  have hpr := HPR.out.1
  have hpl := HPR.out.2
  have hT := HT3.out
  rw [hpr] at hT ⊢
  rw [if_neg (by decide)] at hT
  have hT2 : dd = ansOr ⟨n8 b0, ⟨n8 c0, 0, 0, polZ, levZ⟩⟩ (endE r2 0 b.length) := by
    rw [hT]
    unfold decRC
    obtain ⟨p1, p2, p3⟩ := hpl
    rw [if_neg (fun h => p2 ⟨by unfold n8; omega, by unfold n8; omega⟩), if_neg (fun h => p1 ⟨by unfold n8; omega, by unfold n8; omega⟩), if_neg (fun h => p3 ⟨by unfold n8; omega, by unfold n8; omega⟩)]
    rfl
  have HTE := Go.Lib.hid hT2
  have HPL := Go.Lib.hid hpl
  clear HT3 HPR hT hT2 hpr hpl
  go_wp2_with fail
  clear s2
  obtain ⟨w3, hnew⟩ : ∃ W, W = (wx.alloc (.cells #[.int .i64 (n8 b0), .int .i64 (n8 c0), .int .u64 0, .int .u64 0, .int .i64 0, .int .u64 0, .int .u64 0, .int .u64 0, .int .u64 0, .int .u64 0, .int .u64 0, .int .u64 0] 36)) := ⟨_, rfl⟩
  have n_Z : Hid (w3.heap[w.heap.size]? = some (.cells #[.int .i64 0, .int .i64 0, .int .u64 0, .int .u64 0, .int .i64 0, .int .u64 0, .int .u64 0, .int .u64 0, .int .u64 0, .int .u64 0, .int .u64 0, .int .u64 0] 36 (0, 0))) := by rw [hnew]; exact (alloc_heap Z.out _)
  have X : Hid (w3.heap[wx.heap.size]? = some (.cells #[.int .i64 (n8 b0), .int .i64 (n8 c0), .int .u64 0, .int .u64 0, .int .i64 0, .int .u64 0, .int .u64 0, .int .u64 0, .int .u64 0, .int .u64 0, .int .u64 0, .int .u64 0] 36 (0, 0))) := by rw [hnew]; exact heap_here _ _ _ rfl
  have n_BL : Hid (Below w.heap.size w w3) := by rw [hnew]; exact below_alloc (BL.out) (Nat.le_refl _)
  have n_HRC : Hid (Rc w3 (w.heap.size + 1) b.length r2 0) := by rw [hnew]; exact rc_alloc (HRC.out) _
  rw [← hnew]
  clear hnew Z BL HRC
  have Z := n_Z; clear n_Z
  have BL := n_BL; clear n_BL
  have HRC := n_HRC; clear n_HRC
  refine (has_x (n8 b0) (n8 c0) w3 HPL.out).mono ?_
  rintro e wy ⟨rfl, rfl⟩
  have hnx3 : wx.heap.size < wy.heap.size := heap_lt X.out
  go_wp2_with fail
  refine (ended_calls ((w.heap.size + 1)) b.length r2 0 wy HRC.out).mono ?_
  rintro e w5 ⟨rfl, nd, hnd⟩
  have hdr : Below wy.heap.size wy w5 := by rw [hnd]; exact below_drewN _ _ _
  clear hnd
  have n_Z := Go.Lib.hid (below_heap hdr Z.out)
  have n_X := Go.Lib.hid (below_heap hdr X.out)
  have n_BL : Hid (Below w.heap.size w w5) := below_then BL.out hdr
  clear Z X BL
  have Z := n_Z; clear n_Z
  have X := n_X; clear n_X
  have BL := n_BL; clear n_BL
  clear hdr HRC
  have hTE := HTE.out
  clear HTE
  have hnz : w.heap.size < w5.heap.size := heap_lt Z.out
  generalize endE r2 0 b.length = kk at *
  cases kk with
  | zero =>
    have hT : dd = (⟨n8 b0, ⟨n8 c0, 0, 0, polZ, levZ⟩⟩, 0) := hTE
    clear hTE
    subst hT
    have c_Z0 := blk_cell Z.out 0 (.int .i64 0) rfl
    have c_Z1 := blk_cell Z.out 1 (.int .i64 0) rfl
    have c_Z2 := blk_cell Z.out 2 (.int .u64 0) rfl
    have c_Z3 := blk_cell Z.out 3 (.int .u64 0) rfl
    have c_Z4 := blk_cell Z.out 4 (.int .i64 0) rfl
    have c_Z5 := blk_cell Z.out 5 (.int .u64 0) rfl
    have c_Z6 := blk_cell Z.out 6 (.int .u64 0) rfl
    have c_Z7 := blk_cell Z.out 7 (.int .u64 0) rfl
    have c_Z8 := blk_cell Z.out 8 (.int .u64 0) rfl
    have c_Z9 := blk_cell Z.out 9 (.int .u64 0) rfl
    have c_Z10 := blk_cell Z.out 10 (.int .u64 0) rfl
    have c_Z11 := blk_cell Z.out 11 (.int .u64 0) rfl
    have f_Z := heap_frozen Z.out
    have c_X0 := blk_cell X.out 0 (.int .i64 (n8 b0)) rfl
    have c_X1 := blk_cell X.out 1 (.int .i64 (n8 c0)) rfl
    have c_X2 := blk_cell X.out 2 (.int .u64 0) rfl
    have c_X3 := blk_cell X.out 3 (.int .u64 0) rfl
    have c_X4 := blk_cell X.out 4 (.int .i64 0) rfl
    have c_X5 := blk_cell X.out 5 (.int .u64 0) rfl
    have c_X6 := blk_cell X.out 6 (.int .u64 0) rfl
    have c_X7 := blk_cell X.out 7 (.int .u64 0) rfl
    have c_X8 := blk_cell X.out 8 (.int .u64 0) rfl
    have c_X9 := blk_cell X.out 9 (.int .u64 0) rfl
    have c_X10 := blk_cell X.out 10 (.int .u64 0) rfl
    have c_X11 := blk_cell X.out 11 (.int .u64 0) rfl
    have f_X := heap_frozen X.out
    go_wp2
    refine bodyPost_ret (v := .tuple #[.agg #[.int .i64 (n8 b0), .int .i64 (n8 c0), .int .u64 0, .int .u64 0, .int .i64 0, .int .u64 0, .int .u64 0, .int .u64 0, .int .u64 0, .int .u64 0, .int .u64 0, .int .u64 0], .int .i64 0]) (by simp [results, Tryd.results21, go_sem, c_Z0, c_Z1, c_Z2, c_Z3, c_Z4, c_Z5, c_Z6, c_Z7, c_Z8, c_Z9, c_Z10, c_Z11]) rfl ?_
    exact ⟨rfl, set12_below BL.out (Nat.le_refl _) _ _ _ _ _ _ _ _ _ _ _ _⟩
  | succ m =>
    have hT : dd = (ansZ, m + 1) := hTE
    clear hTE
    subst hT
    have hm1 : (((m + 1 : Nat) : Int) != 0) = true := by rw [bne_iff_ne]; omega
    have hm2 : (((m + 1 : Nat) : Int) == 0) = false := by rw [beq_eq_false_iff_ne]; omega
    obtain ⟨er, her⟩ : ∃ er : Int, er = ((m + 1 : Nat) : Int) := ⟨_, rfl⟩
    rw [← her] at hm1 hm2 ⊢
    have HER := Go.Lib.hid her
    clear her
    have c_Z0 := blk_cell Z.out 0 (.int .i64 0) rfl
    have c_Z1 := blk_cell Z.out 1 (.int .i64 0) rfl
    have c_Z2 := blk_cell Z.out 2 (.int .u64 0) rfl
    have c_Z3 := blk_cell Z.out 3 (.int .u64 0) rfl
    have c_Z4 := blk_cell Z.out 4 (.int .i64 0) rfl
    have c_Z5 := blk_cell Z.out 5 (.int .u64 0) rfl
    have c_Z6 := blk_cell Z.out 6 (.int .u64 0) rfl
    have c_Z7 := blk_cell Z.out 7 (.int .u64 0) rfl
    have c_Z8 := blk_cell Z.out 8 (.int .u64 0) rfl
    have c_Z9 := blk_cell Z.out 9 (.int .u64 0) rfl
    have c_Z10 := blk_cell Z.out 10 (.int .u64 0) rfl
    have c_Z11 := blk_cell Z.out 11 (.int .u64 0) rfl
    have f_Z := heap_frozen Z.out
    go_wp2
    refine bodyPost_ret (v := .tuple #[.agg #[.int .i64 0, .int .i64 0, .int .u64 0, .int .u64 0, .int .i64 0, .int .u64 0, .int .u64 0, .int .u64 0, .int .u64 0, .int .u64 0, .int .u64 0, .int .u64 0], .int .i64 er]) (by simp [results, Tryd.results21, go_sem, c_Z0, c_Z1, c_Z2, c_Z3, c_Z4, c_Z5, c_Z6, c_Z7, c_Z8, c_Z9, c_Z10, c_Z11]) rfl ?_
    exact ⟨by rw [HER.out]; rfl, set12_below BL.out (Nat.le_refl _) _ _ _ _ _ _ _ _ _ _ _ _⟩

theorem rdecR_calls (A : Option Addr) (c : Nat) (b : List UInt8) (w : World) (hl : b.length ≤ c) (hc : c ≤ 9223372036854775807) (hA : Cells w A (Bs b)) :
    Calls Tryd.prog 21 #[.slice A b.length c] w fun e w' => GaveAF w w' e (decR b) := by
  by_cases hf : (fixedS b 0 1).2.2 = 0
  case neg => exact rdecR_fault A c b w hl hc hA hf
  by_cases h5 : 5 < (fixedS b 0 1).1.toUInt8.toNat
  · exact rdecR_hi A c b w hl hc hA ⟨hf, h5⟩
  by_cases hf2 : (fixedS (fixedS b 0 1).2.1 0 1).2.2 = 0
  case neg => exact rdecR_fault2 A c b w hl hc hA ⟨hf, h5, hf2⟩
  cases hp : pairS (n8 (fixedS b 0 1).1.toUInt8) (n8 (fixedS (fixedS b 0 1).2.1 0 1).1.toUInt8)
  · exact rdecR_nopair A c b w hl hc hA ⟨hf, h5, hf2, hp⟩
  have inj : ∀ (x : UInt8) (n : Nat) (y : UInt8), y.toNat = n → n8 x = (n : Int) → x = y := fun x n y hy hx => UInt8.toNat_inj.1 (by unfold n8 at hx; omega)
  by_cases h20 : n8 (fixedS b 0 1).1.toUInt8 = 2 ∧ n8 (fixedS (fixedS b 0 1).2.1 0 1).1.toUInt8 = 0
  · exact rdecR_20 A c b w hl hc hA ⟨hf, h5, hf2, hp, inj _ 2 2 rfl h20.1, inj _ 0 0 rfl h20.2⟩
  by_cases h21 : n8 (fixedS b 0 1).1.toUInt8 = 2 ∧ n8 (fixedS (fixedS b 0 1).2.1 0 1).1.toUInt8 = 1
  · exact rdecR_21 A c b w hl hc hA ⟨hf, h5, hf2, hp, inj _ 2 2 rfl h21.1, inj _ 1 1 rfl h21.2⟩
  by_cases h30 : n8 (fixedS b 0 1).1.toUInt8 = 3 ∧ n8 (fixedS (fixedS b 0 1).2.1 0 1).1.toUInt8 = 0
  · exact rdecR_30 A c b w hl hc hA ⟨hf, h5, hf2, hp, inj _ 3 3 rfl h30.1, inj _ 0 0 rfl h30.2⟩
  · exact rdecR_x A c b w hl hc hA ⟨hf, h5, hf2, hp, h20, h21, h30⟩
end Go.Proofs.YtonfeppenhebjaaDoor
