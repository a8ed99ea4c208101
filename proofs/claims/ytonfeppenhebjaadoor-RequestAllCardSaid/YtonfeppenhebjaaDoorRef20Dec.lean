/- Package turnstileref20: Decode. (Printed by gen_ref20dec.py of this session.) -/
import Derived.Test.YtonfeppenhebjaaDoorRef20D
namespace Go.Proofs.YtonfeppenhebjaaDoor
open Go Go.RowKit
set_option linter.unusedVariables false
set_option linter.unusedSimpArgs false
attribute [local go_sem] IntKind.wrap_u64 c64_8 c8_64 c16_64 c32_64 c64_16 c64_32 or8 and8 n64_self n8_self beq_n64 beq_n8 bne_n8 bne_n64 beq_n64_0 bne_n64_0 wrap_b8

/-- what the reference's Decode gives -/
def GaveRF (w w' : World) (e : Ending) (r : Req × Nat) : Prop := e = .returned (.tuple #[.agg (reqA r.1), .int .i64 (r.2 : Int)]) ∧ Below w.heap.size w w'
theorem rc_new {w : World} {g : Nat} {A : Option Addr} {c : Nat} {b : List UInt8} (hh : w.heap[g]? = some (.cells #[.slice A b.length c, .int .i64 0, .bool false] 88 (0, 0))) (h1 : b.length ≤ c) (h2 : c ≤ 9223372036854775807) (hA : Cells w A (Bs b)) (hb : 0 < b.length → ∀ ad, A = some ad → ad.block ≠ g) : Rc w g b.length b 0 :=
  ⟨A, c, b, 0, rfl, ⟨hh, h1, h2, hA, hb, Nat.zero_le _⟩, fun _ => by simp, by omega⟩
/-- the fields behind the key: a fault of the key's goes through -/
theorem decOp_f (n op : Nat) (s r2 : List UInt8) (f2 : Nat) (h : f2 ≤ 1) : decOp n op (s, r2, f2) =
    if op = 1 then (if (takePolS r2 f2).2.1 ≠ 0 then (reqZ, (takePolS r2 f2).2.1) else reqOr ⟨1, s, (takePolS r2 f2).1, 0⟩ (endE (takePolS r2 f2).2.2.1 (takePolS r2 f2).2.2.2 n))
    else if op = 2 then reqOr ⟨2, s, polZ, (fixedS r2 f2 8).1⟩ (endE (fixedS r2 f2 8).2.1 (fixedS r2 f2 8).2.2 n)
    else reqOr ⟨(op : Int), s, polZ, 0⟩ (endE r2 f2 n) := by
  rcases (by omega : f2 = 0 ∨ f2 = 1) with rfl | rfl
  · unfold decOp
    rw [if_neg (by simp)]
  · have e1 : takePolS r2 1 = (polZ, 2, r2, 1) := rfl
    have e2 : fixedS r2 1 8 = (0, r2, 1) := rfl
    have e3 : endE r2 1 n = 2 := rfl
    rw [e1, e2, e3]
    unfold decOp
    rw [if_pos (by simp)]
    split
    · rfl
    · split <;> rfl
theorem below_set {B n o : Nat} {a W : World} {v : Value} (h : Below B a W) (hn : B ≤ n) : Below B a (W.setCell ⟨n, o, none⟩ v) := h.setCell hn v
theorem below_alloc {B : Nat} {a W : World} {o : Obj} (h : Below B a W) (hb : B ≤ a.heap.size) : Below B a (W.alloc o) := h.alloc (Nat.le_trans hb h.size) o
theorem rc_le {w : World} {g L f : Nat} {rest : List UInt8} (h : Rc w g L rest f) : f ≤ 1 := by
  obtain ⟨A, c, b, a, h1, h2, h3, h4⟩ := h
  exact h4

set_option maxRecDepth 100000 in
set_option maxHeartbeats 3200000 in
theorem rdec_fault (A : Option Addr) (c : Nat) (b : List UInt8) (w : World) (hl : b.length ≤ c) (hc : c ≤ 9223372036854775807) (hA : Cells w A (Bs b)) (hf : (fixedS b 0 1).2.2 ≠ 0) :
    Calls Tryd.prog 19 #[.slice A b.length c] w fun e w' => GaveRF w w' e (decS b) := by
  have HT : Hid (decS b = decQ b.length (fixedS b 0 1)) := rfl
  generalize decS b = dd at *
  have hwi := fixed1_int b 0
  obtain ⟨W0, hW0⟩ : ∃ W, W = (w.alloc (.cells #[.int .i64 0, .string ⟨#[]⟩, .int .i64 0, .int .u64 0, .int .u64 0, .int .u64 0, .int .u64 0, .int .u64 0] 30)).alloc (.cells #[.slice A b.length c, .int .i64 0, .bool false] 88) := ⟨_, rfl⟩
  have hb0 : Below w.heap.size w W0 := by rw [hW0]; exact ((Below.refl _ _).alloc (Nat.le_refl _) _).alloc (by simp) _
  have HRC : Hid (Rc W0 ((w.heap.size + 1)) b.length b 0) := rc_new (by rw [hW0]; exact heap_here _ _ _ (by simp)) hl hc (cells_below hb0 hA) (fun h0 ad ha => by have := cells_lt hA h0 ad ha; omega)
  have BL : Hid (Below w.heap.size w W0) := hb0
  have Z : Hid (W0.heap[w.heap.size]? = some (.cells #[.int .i64 0, .string ⟨#[]⟩, .int .i64 0, .int .u64 0, .int .u64 0, .int .u64 0, .int .u64 0, .int .u64 0] 30 (0, 0))) := by rw [hW0]; exact alloc_heap (heap_here w _ w.heap.size rfl) _
  clear hA hb0
  go_enter Tryd.func19, Tryd.ntmps19
  go_wp2_with fail
  rw [← hW0]
  clear hW0
  refine (number11_calls W0 ((w.heap.size + 1)) b.length b 0 1 1 (by decide) (by decide) (by decide) HRC.out).mono ?_
  rintro e w1 ⟨rfl, h1, h2⟩
  have n_Z := Go.Lib.hid (keep_heap (keep_only h2) Z.out (by omega))
  have n_BL : Hid (Below w.heap.size w w1) := (BL.out).trans (h2.below (by omega))
  clear Z BL
  have Z := n_Z; clear n_Z
  have BL := n_BL; clear n_BL
  clear HRC
  have HRC := Go.Lib.hid h1
  clear h1 h2
  have HF := Go.Lib.hid hf
  clear hf
  generalize fixedS b 0 1 = q at *
  obtain ⟨u, r1, f1⟩ := q
  have hf := HF.out
  clear HF
  simp only at HRC HT hwi hf ⊢
  cases f1 with
  | zero => exact absurd rfl hf
  | succ m =>
    clear hf
    have hm := rc_fault HRC.out
    subst hm
    have hT : dd = (reqZ, 2) := by rw [HT.out]; rfl
    clear HT
    subst hT
    have s2 := rc_short1 HRC.out
    generalize hbu : u.toUInt8 = b0 at *
    have HBU := Go.Lib.hid hbu
    clear hbu
    have hb0 : 0 ≤ n8 b0 := by unfold n8; omega
    have hb1 : n8 b0 < 256 := by unfold n8; have := b0.toNat_lt; omega
    have hnw : w.heap.size < w1.heap.size := heap_lt Z.out
    have hgw : (w.heap.size + 1) < w1.heap.size := rc_lt HRC.out
    have c_Z0 := blk_cell Z.out 0 (.int .i64 0) rfl
    have c_Z1 := blk_cell Z.out 1 (.string ⟨#[]⟩) rfl
    have c_Z2 := blk_cell Z.out 2 (.int .i64 0) rfl
    have c_Z3 := blk_cell Z.out 3 (.int .u64 0) rfl
    have c_Z4 := blk_cell Z.out 4 (.int .u64 0) rfl
    have c_Z5 := blk_cell Z.out 5 (.int .u64 0) rfl
    have c_Z6 := blk_cell Z.out 6 (.int .u64 0) rfl
    have c_Z7 := blk_cell Z.out 7 (.int .u64 0) rfl
    have f_Z := heap_frozen Z.out
    go_wp2
    refine bodyPost_ret (v := .tuple #[.agg #[.int .i64 0, .string ⟨#[]⟩, .int .i64 0, .int .u64 0, .int .u64 0, .int .u64 0, .int .u64 0, .int .u64 0], .int .i64 2]) (by simp [results, Tryd.results19, go_sem, c_Z0, c_Z1, c_Z2, c_Z3, c_Z4, c_Z5, c_Z6, c_Z7]) rfl ?_
    exact ⟨rfl, set8_below BL.out (Nat.le_refl _) _ _ _ _ _ _ _ _⟩

set_option maxRecDepth 100000 in
set_option maxHeartbeats 3200000 in
theorem rdec_lo (A : Option Addr) (c : Nat) (b : List UInt8) (w : World) (hl : b.length ≤ c) (hc : c ≤ 9223372036854775807) (hA : Cells w A (Bs b)) (hf : (fixedS b 0 1).2.2 = 0 ∧ (fixedS b 0 1).1.toUInt8.toNat < 1) :
    Calls Tryd.prog 19 #[.slice A b.length c] w fun e w' => GaveRF w w' e (decS b) := by
  have HT : Hid (decS b = decQ b.length (fixedS b 0 1)) := rfl
  generalize decS b = dd at *
  have hwi := fixed1_int b 0
  obtain ⟨W0, hW0⟩ : ∃ W, W = (w.alloc (.cells #[.int .i64 0, .string ⟨#[]⟩, .int .i64 0, .int .u64 0, .int .u64 0, .int .u64 0, .int .u64 0, .int .u64 0] 30)).alloc (.cells #[.slice A b.length c, .int .i64 0, .bool false] 88) := ⟨_, rfl⟩
  have hb0 : Below w.heap.size w W0 := by rw [hW0]; exact ((Below.refl _ _).alloc (Nat.le_refl _) _).alloc (by simp) _
  have HRC : Hid (Rc W0 ((w.heap.size + 1)) b.length b 0) := rc_new (by rw [hW0]; exact heap_here _ _ _ (by simp)) hl hc (cells_below hb0 hA) (fun h0 ad ha => by have := cells_lt hA h0 ad ha; omega)
  have BL : Hid (Below w.heap.size w W0) := hb0
  have Z : Hid (W0.heap[w.heap.size]? = some (.cells #[.int .i64 0, .string ⟨#[]⟩, .int .i64 0, .int .u64 0, .int .u64 0, .int .u64 0, .int .u64 0, .int .u64 0] 30 (0, 0))) := by rw [hW0]; exact alloc_heap (heap_here w _ w.heap.size rfl) _
  clear hA hb0
  go_enter Tryd.func19, Tryd.ntmps19
  go_wp2_with fail
  rw [← hW0]
  clear hW0
  refine (number11_calls W0 ((w.heap.size + 1)) b.length b 0 1 1 (by decide) (by decide) (by decide) HRC.out).mono ?_
  rintro e w1 ⟨rfl, h1, h2⟩
  have n_Z := Go.Lib.hid (keep_heap (keep_only h2) Z.out (by omega))
  have n_BL : Hid (Below w.heap.size w w1) := (BL.out).trans (h2.below (by omega))
  clear Z BL
  have Z := n_Z; clear n_Z
  have BL := n_BL; clear n_BL
  clear HRC
  have HRC := Go.Lib.hid h1
  clear h1 h2
  have HF := Go.Lib.hid hf
  clear hf
  generalize fixedS b 0 1 = q at *
  obtain ⟨u, r1, f1⟩ := q
  have hf := HF.out
  clear HF
  simp only at HRC HT hwi hf ⊢
  obtain rfl : f1 = 0 := hf.1
  have hop := hf.2
  have HOP0 := Go.Lib.hid hop
  clear hop hf
  generalize hbu : u.toUInt8 = b0 at *
  have HBU := Go.Lib.hid hbu
  clear hbu
  have hb0 : 0 ≤ n8 b0 := by unfold n8; omega
  have hb1 : n8 b0 < 256 := by unfold n8; have := b0.toNat_lt; omega
  have hnw : w.heap.size < w1.heap.size := heap_lt Z.out
  have hgw : (w.heap.size + 1) < w1.heap.size := rc_lt HRC.out
  have hT : dd = (reqZ, 3) := by
    rw [HT.out]
    unfold decQ
    rw [if_neg (by simp)]
    simp only [HBU.out]
    rw [if_pos (by have := HOP0.out; omega)]
  clear HT
  subst hT
  have s2 := rc_short0 HRC.out
  have d1 : decide (n8 b0 < 1) = true := decide_eq_true (by have := HOP0.out; unfold n8; omega)
  have c_Z0 := blk_cell Z.out 0 (.int .i64 0) rfl
  have c_Z1 := blk_cell Z.out 1 (.string ⟨#[]⟩) rfl
  have c_Z2 := blk_cell Z.out 2 (.int .i64 0) rfl
  have c_Z3 := blk_cell Z.out 3 (.int .u64 0) rfl
  have c_Z4 := blk_cell Z.out 4 (.int .u64 0) rfl
  have c_Z5 := blk_cell Z.out 5 (.int .u64 0) rfl
  have c_Z6 := blk_cell Z.out 6 (.int .u64 0) rfl
  have c_Z7 := blk_cell Z.out 7 (.int .u64 0) rfl
  have f_Z := heap_frozen Z.out
  go_wp2
  refine bodyPost_ret (v := .tuple #[.agg #[.int .i64 0, .string ⟨#[]⟩, .int .i64 0, .int .u64 0, .int .u64 0, .int .u64 0, .int .u64 0, .int .u64 0], .int .i64 3]) (by simp [results, Tryd.results19, go_sem, c_Z0, c_Z1, c_Z2, c_Z3, c_Z4, c_Z5, c_Z6, c_Z7]) rfl ?_
  exact ⟨rfl, set8_below BL.out (Nat.le_refl _) _ _ _ _ _ _ _ _⟩

set_option maxRecDepth 100000 in
set_option maxHeartbeats 3200000 in
theorem rdec_hi (A : Option Addr) (c : Nat) (b : List UInt8) (w : World) (hl : b.length ≤ c) (hc : c ≤ 9223372036854775807) (hA : Cells w A (Bs b)) (hf : (fixedS b 0 1).2.2 = 0 ∧ 5 < (fixedS b 0 1).1.toUInt8.toNat) :
    Calls Tryd.prog 19 #[.slice A b.length c] w fun e w' => GaveRF w w' e (decS b) := by
  have HT : Hid (decS b = decQ b.length (fixedS b 0 1)) := rfl
  generalize decS b = dd at *
  have hwi := fixed1_int b 0
  obtain ⟨W0, hW0⟩ : ∃ W, W = (w.alloc (.cells #[.int .i64 0, .string ⟨#[]⟩, .int .i64 0, .int .u64 0, .int .u64 0, .int .u64 0, .int .u64 0, .int .u64 0] 30)).alloc (.cells #[.slice A b.length c, .int .i64 0, .bool false] 88) := ⟨_, rfl⟩
  have hb0 : Below w.heap.size w W0 := by rw [hW0]; exact ((Below.refl _ _).alloc (Nat.le_refl _) _).alloc (by simp) _
  have HRC : Hid (Rc W0 ((w.heap.size + 1)) b.length b 0) := rc_new (by rw [hW0]; exact heap_here _ _ _ (by simp)) hl hc (cells_below hb0 hA) (fun h0 ad ha => by have := cells_lt hA h0 ad ha; omega)
  have BL : Hid (Below w.heap.size w W0) := hb0
  have Z : Hid (W0.heap[w.heap.size]? = some (.cells #[.int .i64 0, .string ⟨#[]⟩, .int .i64 0, .int .u64 0, .int .u64 0, .int .u64 0, .int .u64 0, .int .u64 0] 30 (0, 0))) := by rw [hW0]; exact alloc_heap (heap_here w _ w.heap.size rfl) _
  clear hA hb0
  go_enter Tryd.func19, Tryd.ntmps19
  go_wp2_with fail
  rw [← hW0]
  clear hW0
  refine (number11_calls W0 ((w.heap.size + 1)) b.length b 0 1 1 (by decide) (by decide) (by decide) HRC.out).mono ?_
  rintro e w1 ⟨rfl, h1, h2⟩
  have n_Z := Go.Lib.hid (keep_heap (keep_only h2) Z.out (by omega))
  have n_BL : Hid (Below w.heap.size w w1) := (BL.out).trans (h2.below (by omega))
  clear Z BL
  have Z := n_Z; clear n_Z
  have BL := n_BL; clear n_BL
  clear HRC
  have HRC := Go.Lib.hid h1
  clear h1 h2
  have HF := Go.Lib.hid hf
  clear hf
  generalize fixedS b 0 1 = q at *
  obtain ⟨u, r1, f1⟩ := q
  have hf := HF.out
  clear HF
  simp only at HRC HT hwi hf ⊢
  obtain rfl : f1 = 0 := hf.1
  have hop := hf.2
  have HOP0 := Go.Lib.hid hop
  clear hop hf
  generalize hbu : u.toUInt8 = b0 at *
  have HBU := Go.Lib.hid hbu
  clear hbu
  have hb0 : 0 ≤ n8 b0 := by unfold n8; omega
  have hb1 : n8 b0 < 256 := by unfold n8; have := b0.toNat_lt; omega
  have hnw : w.heap.size < w1.heap.size := heap_lt Z.out
  have hgw : (w.heap.size + 1) < w1.heap.size := rc_lt HRC.out
  have hT : dd = (reqZ, 3) := by
    rw [HT.out]
    unfold decQ
    rw [if_neg (by simp)]
    simp only [HBU.out]
    rw [if_pos (by have := HOP0.out; omega)]
  clear HT
  subst hT
  have s2 := rc_short0 HRC.out
  have d1 : decide (n8 b0 < 1) = false := decide_eq_false (by have := HOP0.out; unfold n8; omega)
  have d2 : decide ((5 : Int) < n8 b0) = true := decide_eq_true (by have := HOP0.out; unfold n8; omega)
  have c_Z0 := blk_cell Z.out 0 (.int .i64 0) rfl
  have c_Z1 := blk_cell Z.out 1 (.string ⟨#[]⟩) rfl
  have c_Z2 := blk_cell Z.out 2 (.int .i64 0) rfl
  have c_Z3 := blk_cell Z.out 3 (.int .u64 0) rfl
  have c_Z4 := blk_cell Z.out 4 (.int .u64 0) rfl
  have c_Z5 := blk_cell Z.out 5 (.int .u64 0) rfl
  have c_Z6 := blk_cell Z.out 6 (.int .u64 0) rfl
  have c_Z7 := blk_cell Z.out 7 (.int .u64 0) rfl
  have f_Z := heap_frozen Z.out
  go_wp2
  refine bodyPost_ret (v := .tuple #[.agg #[.int .i64 0, .string ⟨#[]⟩, .int .i64 0, .int .u64 0, .int .u64 0, .int .u64 0, .int .u64 0, .int .u64 0], .int .i64 3]) (by simp [results, Tryd.results19, go_sem, c_Z0, c_Z1, c_Z2, c_Z3, c_Z4, c_Z5, c_Z6, c_Z7]) rfl ?_
  exact ⟨rfl, set8_below BL.out (Nat.le_refl _) _ _ _ _ _ _ _ _⟩

set_option maxRecDepth 100000 in
set_option maxHeartbeats 3200000 in
theorem rdec_1 (A : Option Addr) (c : Nat) (b : List UInt8) (w : World) (hl : b.length ≤ c) (hc : c ≤ 9223372036854775807) (hA : Cells w A (Bs b)) (hf : (fixedS b 0 1).2.2 = 0 ∧ (fixedS b 0 1).1.toUInt8 = 1) :
    Calls Tryd.prog 19 #[.slice A b.length c] w fun e w' => GaveRF w w' e (decS b) := by
  have HT : Hid (decS b = decQ b.length (fixedS b 0 1)) := rfl
  generalize decS b = dd at *
  have hwi := fixed1_int b 0
  obtain ⟨W0, hW0⟩ : ∃ W, W = (w.alloc (.cells #[.int .i64 0, .string ⟨#[]⟩, .int .i64 0, .int .u64 0, .int .u64 0, .int .u64 0, .int .u64 0, .int .u64 0] 30)).alloc (.cells #[.slice A b.length c, .int .i64 0, .bool false] 88) := ⟨_, rfl⟩
  have hb0 : Below w.heap.size w W0 := by rw [hW0]; exact ((Below.refl _ _).alloc (Nat.le_refl _) _).alloc (by simp) _
  have HRC : Hid (Rc W0 ((w.heap.size + 1)) b.length b 0) := rc_new (by rw [hW0]; exact heap_here _ _ _ (by simp)) hl hc (cells_below hb0 hA) (fun h0 ad ha => by have := cells_lt hA h0 ad ha; omega)
  have BL : Hid (Below w.heap.size w W0) := hb0
  have Z : Hid (W0.heap[w.heap.size]? = some (.cells #[.int .i64 0, .string ⟨#[]⟩, .int .i64 0, .int .u64 0, .int .u64 0, .int .u64 0, .int .u64 0, .int .u64 0] 30 (0, 0))) := by rw [hW0]; exact alloc_heap (heap_here w _ w.heap.size rfl) _
  clear hA hb0
  go_enter Tryd.func19, Tryd.ntmps19
  go_wp2_with fail
  rw [← hW0]
  clear hW0
  refine (number11_calls W0 ((w.heap.size + 1)) b.length b 0 1 1 (by decide) (by decide) (by decide) HRC.out).mono ?_
  rintro e w1 ⟨rfl, h1, h2⟩
  have n_Z := Go.Lib.hid (keep_heap (keep_only h2) Z.out (by omega))
  have n_BL : Hid (Below w.heap.size w w1) := (BL.out).trans (h2.below (by omega))
  clear Z BL
  have Z := n_Z; clear n_Z
  have BL := n_BL; clear n_BL
  clear HRC
  have HRC := Go.Lib.hid h1
  clear h1 h2
  have HF := Go.Lib.hid hf
  clear hf
  generalize fixedS b 0 1 = q at *
  obtain ⟨u, r1, f1⟩ := q
  have hf := HF.out
  clear HF
  simp only at HRC HT hwi hf ⊢
  obtain rfl : f1 = 0 := hf.1
  have hop := hf.2
  clear hf
  rw [hop, show n8 1 = (1 : Int) from rfl] at hwi
  have hnw : w.heap.size < w1.heap.size := heap_lt Z.out
  have hgw : (w.heap.size + 1) < w1.heap.size := rc_lt HRC.out
  have HT2 : Hid (dd = decOp b.length 1 (textS r1 0)) := by
    show dd = _
    rw [HT.out]
    unfold decQ
    rw [if_neg (by simp)]
    simp only [hop]
    rfl
  clear HT hop
  have s2 := rc_short0 HRC.out
  go_wp2_with fail
  clear s2
  obtain ⟨w2, hnew⟩ : ∃ W, W = (w1.alloc (.cells #[.int .i64 1, .string ⟨#[]⟩, .int .i64 0, .int .u64 0, .int .u64 0, .int .u64 0, .int .u64 0, .int .u64 0] 30)) := ⟨_, rfl⟩
  have n_Z : Hid (w2.heap[w.heap.size]? = some (.cells #[.int .i64 0, .string ⟨#[]⟩, .int .i64 0, .int .u64 0, .int .u64 0, .int .u64 0, .int .u64 0, .int .u64 0] 30 (0, 0))) := by rw [hnew]; exact (alloc_heap Z.out _)
  have X : Hid (w2.heap[w1.heap.size]? = some (.cells #[.int .i64 1, .string ⟨#[]⟩, .int .i64 0, .int .u64 0, .int .u64 0, .int .u64 0, .int .u64 0, .int .u64 0] 30 (0, 0))) := by rw [hnew]; exact heap_here _ _ _ rfl
  have n_BL : Hid (Below w.heap.size w w2) := by rw [hnew]; exact below_alloc (BL.out) (Nat.le_refl _)
  have n_HRC : Hid (Rc w2 (w.heap.size + 1) b.length r1 0) := by rw [hnew]; exact rc_alloc (HRC.out) _
  rw [← hnew]
  clear hnew Z BL HRC
  have Z := n_Z; clear n_Z
  have BL := n_BL; clear n_BL
  have HRC := n_HRC; clear n_HRC
  refine (text11_calls w2 ((w.heap.size + 1)) b.length r1 0 HRC.out).mono ?_
  rintro e w3 ⟨rfl, h1, h2⟩
  have n_Z := Go.Lib.hid (keep_heap (keep_only h2) Z.out (by omega))
  have n_X := Go.Lib.hid (keep_heap (keep_only h2) X.out (by omega))
  have n_BL : Hid (Below w.heap.size w w3) := (BL.out).trans (h2.below (by omega))
  clear Z X BL
  have Z := n_Z; clear n_Z
  have X := n_X; clear n_X
  have BL := n_BL; clear n_BL
  clear HRC
  have HRC := Go.Lib.hid h1
  clear h1 h2
  generalize textS r1 0 = tq at *
  obtain ⟨s, r2, f2⟩ := tq
  simp only at HRC HT2 ⊢
  have HT3 := Go.Lib.hid (HT2.out.trans (decOp_f b.length 1 s r2 f2 (rc_le HRC.out)))
  clear HT2
  have hnx : w1.heap.size < w3.heap.size := heap_lt X.out
  have hnz3 : w.heap.size < w3.heap.size := heap_lt Z.out
  have c_X0 := blk_cell X.out 0 (.int .i64 1) rfl
  have c_X1 := blk_cell X.out 1 (.string ⟨#[]⟩) rfl
  have c_X2 := blk_cell X.out 2 (.int .i64 0) rfl
  have c_X3 := blk_cell X.out 3 (.int .u64 0) rfl
  have c_X4 := blk_cell X.out 4 (.int .u64 0) rfl
  have c_X5 := blk_cell X.out 5 (.int .u64 0) rfl
  have c_X6 := blk_cell X.out 6 (.int .u64 0) rfl
  have c_X7 := blk_cell X.out 7 (.int .u64 0) rfl
  have f_X := heap_frozen X.out
  go_wp2_with fail
  clear c_X0 c_X1 c_X2 c_X3 c_X4 c_X5 c_X6 c_X7 f_X
  obtain ⟨w4, hnew⟩ : ∃ W, W = (w3.setCell ⟨w1.heap.size, 1, none⟩ (.string ⟨s.toArray⟩)) := ⟨_, rfl⟩
  have n_Z : Hid (w4.heap[w.heap.size]? = some (.cells #[.int .i64 0, .string ⟨#[]⟩, .int .i64 0, .int .u64 0, .int .u64 0, .int .u64 0, .int .u64 0, .int .u64 0] 30 (0, 0))) := by rw [hnew]; exact (set_other Z.out (by omega) _ _)
  have n_X : Hid (w4.heap[w1.heap.size]? = some (.cells #[.int .i64 1, .string ⟨s.toArray⟩, .int .i64 0, .int .u64 0, .int .u64 0, .int .u64 0, .int .u64 0, .int .u64 0] 30 (0, 0))) := by rw [hnew]; exact (set_heap X.out _ _)
  have n_BL : Hid (Below w.heap.size w w4) := by rw [hnew]; exact below_set (BL.out) (by omega)
  have n_HRC : Hid (Rc w4 (w.heap.size + 1) b.length r2 f2) := by rw [hnew]; exact rc_set (HRC.out) (X.out) (by decide) rfl _ _
  rw [← hnew]
  clear hnew Z X BL HRC
  have Z := n_Z; clear n_Z
  have X := n_X; clear n_X
  have BL := n_BL; clear n_BL
  have HRC := n_HRC; clear n_HRC
  refine (rpolicy_calls ((w.heap.size + 1)) b.length r2 f2 w4 HRC.out).mono ?_
  rintro e w5 ⟨rfl, h1, h2⟩
  have n_Z := Go.Lib.hid (keep_heap h2 Z.out (by omega))
  have n_X := Go.Lib.hid (keep_heap h2 X.out (by omega))
  have n_BL : Hid (Below w.heap.size w w5) := (BL.out).trans (keep_below h2 (by omega) (BL.out).size)
  clear Z X BL
  have Z := n_Z; clear n_Z
  have X := n_X; clear n_X
  have BL := n_BL; clear n_BL
  clear HRC
  have HRC := Go.Lib.hid h1
  clear h1 h2
  have HT4 : Hid (dd = if (takePolS r2 f2).2.1 ≠ 0 then (reqZ, (takePolS r2 f2).2.1) else reqOr ⟨1, s, (takePolS r2 f2).1, 0⟩ (endE (takePolS r2 f2).2.2.1 (takePolS r2 f2).2.2.2 b.length)) := HT3.out
  clear HT3
  generalize takePolS r2 f2 = pq at *
  obtain ⟨pol, kk, r3, f3⟩ := pq
  simp only [polA] at HRC HT4 ⊢
  have hnx5 : w1.heap.size < w5.heap.size := heap_lt X.out
  have hnz5 : w.heap.size < w5.heap.size := heap_lt Z.out
  cases kk with
  | succ m =>
    have hT := HT4.out
    rw [if_pos (by simp)] at hT
    clear HT4
    subst hT
    rw [show polOr (pol, m + 1, r3, f3) = polZ from rfl]
    have hm1 : (((m + 1 : Nat) : Int) != 0) = true := by rw [bne_iff_ne]; omega
    have hm2 : (((m + 1 : Nat) : Int) == 0) = false := by rw [beq_eq_false_iff_ne]; omega
    obtain ⟨er, her⟩ : ∃ er : Int, er = ((m + 1 : Nat) : Int) := ⟨_, rfl⟩
    rw [← her] at hm1 hm2 ⊢
    have HER := Go.Lib.hid her
    clear her
    have c_Z0 := blk_cell Z.out 0 (.int .i64 0) rfl
    have c_Z1 := blk_cell Z.out 1 (.string ⟨#[]⟩) rfl
    have c_Z2 := blk_cell Z.out 2 (.int .i64 0) rfl
    have c_Z3 := blk_cell Z.out 3 (.int .u64 0) rfl
    have c_Z4 := blk_cell Z.out 4 (.int .u64 0) rfl
    have c_Z5 := blk_cell Z.out 5 (.int .u64 0) rfl
    have c_Z6 := blk_cell Z.out 6 (.int .u64 0) rfl
    have c_Z7 := blk_cell Z.out 7 (.int .u64 0) rfl
    have f_Z := heap_frozen Z.out
    go_wp2
    refine bodyPost_ret (v := .tuple #[.agg #[.int .i64 0, .string ⟨#[]⟩, .int .i64 0, .int .u64 0, .int .u64 0, .int .u64 0, .int .u64 0, .int .u64 0], .int .i64 er]) (by simp [results, Tryd.results19, go_sem, hnz5, hnx5, c_Z0, c_Z1, c_Z2, c_Z3, c_Z4, c_Z5, c_Z6, c_Z7]) rfl ?_
    exact ⟨by rw [HER.out]; rfl, Below.alloc (set8_below BL.out (Nat.le_refl _) _ _ _ _ _ _ _ _) (by have := BL.out.size; simp [World.setCell]; omega) _⟩
  | zero =>
    have hT := HT4.out
    rw [if_neg (by simp)] at hT
    have HTE := Go.Lib.hid hT
    clear HT4 hT
    rw [show polOr (pol, 0, r3, f3) = pol from rfl]
    have c_X0 := blk_cell X.out 0 (.int .i64 1) rfl
    have c_X1 := blk_cell X.out 1 (.string ⟨s.toArray⟩) rfl
    have c_X2 := blk_cell X.out 2 (.int .i64 0) rfl
    have c_X3 := blk_cell X.out 3 (.int .u64 0) rfl
    have c_X4 := blk_cell X.out 4 (.int .u64 0) rfl
    have c_X5 := blk_cell X.out 5 (.int .u64 0) rfl
    have c_X6 := blk_cell X.out 6 (.int .u64 0) rfl
    have c_X7 := blk_cell X.out 7 (.int .u64 0) rfl
    have f_X := heap_frozen X.out
    go_wp2_with fail
    clear c_X0 c_X1 c_X2 c_X3 c_X4 c_X5 c_X6 c_X7 f_X
    obtain ⟨w6, hnew⟩ : ∃ W, W = ((((((w5.setCell ⟨w1.heap.size, 2, none⟩ (.int .i64 pol.kind)).setCell ⟨w1.heap.size, 3, none⟩ (.int .u64 (n64 pol.gap))).setCell ⟨w1.heap.size, 4, none⟩ (.int .u64 (n64 pol.slack))).setCell ⟨w1.heap.size, 5, none⟩ (.int .u64 (n64 pol.limit))).setCell ⟨w1.heap.size, 6, none⟩ (.int .u64 (n64 pol.span))).alloc (.cells #[.int .i64 pol.kind, .int .u64 (n64 pol.gap), .int .u64 (n64 pol.slack), .int .u64 (n64 pol.limit), .int .u64 (n64 pol.span)] 28)) := ⟨_, rfl⟩
    have n_Z : Hid (w6.heap[w.heap.size]? = some (.cells #[.int .i64 0, .string ⟨#[]⟩, .int .i64 0, .int .u64 0, .int .u64 0, .int .u64 0, .int .u64 0, .int .u64 0] 30 (0, 0))) := by rw [hnew]; exact (alloc_heap (set_other (set_other (set_other (set_other (set_other Z.out (by omega) _ _) (by omega) _ _) (by omega) _ _) (by omega) _ _) (by omega) _ _) _)
    have n_X : Hid (w6.heap[w1.heap.size]? = some (.cells #[.int .i64 1, .string ⟨s.toArray⟩, .int .i64 pol.kind, .int .u64 (n64 pol.gap), .int .u64 (n64 pol.slack), .int .u64 (n64 pol.limit), .int .u64 (n64 pol.span), .int .u64 0] 30 (0, 0))) := by rw [hnew]; exact (alloc_heap (set_heap (set_heap (set_heap (set_heap (set_heap X.out _ _) _ _) _ _) _ _) _ _) _)
    have P : Hid (w6.heap[w5.heap.size]? = some (.cells #[.int .i64 pol.kind, .int .u64 (n64 pol.gap), .int .u64 (n64 pol.slack), .int .u64 (n64 pol.limit), .int .u64 (n64 pol.span)] 28 (0, 0))) := by rw [hnew]; exact heap_here _ _ _ (by simp [World.setCell])
    have n_BL : Hid (Below w.heap.size w w6) := by rw [hnew]; exact below_alloc (below_set (below_set (below_set (below_set (below_set (BL.out) (by omega)) (by omega)) (by omega)) (by omega)) (by omega)) (Nat.le_refl _)
    have n_HRC : Hid (Rc w6 (w.heap.size + 1) b.length r3 f3) := by rw [hnew]; exact rc_alloc (rc_set (rc_set (rc_set (rc_set (rc_set (HRC.out) (X.out) (by decide) rfl _ _) ((set_heap X.out _ _)) (by decide) rfl _ _) ((set_heap (set_heap X.out _ _) _ _)) (by decide) rfl _ _) ((set_heap (set_heap (set_heap X.out _ _) _ _) _ _)) (by decide) rfl _ _) ((set_heap (set_heap (set_heap (set_heap X.out _ _) _ _) _ _) _ _)) (by decide) rfl _ _) _
    rw [← hnew]
    clear hnew Z X BL HRC
    have Z := n_Z; clear n_Z
    have X := n_X; clear n_X
    have BL := n_BL; clear n_BL
    have HRC := n_HRC; clear n_HRC
    refine (ended_calls ((w.heap.size + 1)) b.length r3 f3 w6 HRC.out).mono ?_
    rintro e w7 ⟨rfl, nd, hnd⟩
    have hdr : Below w6.heap.size w6 w7 := by rw [hnd]; exact below_drewN _ _ _
    clear hnd
    have n_Z := Go.Lib.hid (below_heap hdr Z.out)
    have n_X := Go.Lib.hid (below_heap hdr X.out)
    have n_P := Go.Lib.hid (below_heap hdr P.out)
    have n_BL : Hid (Below w.heap.size w w7) := below_then BL.out hdr
    have n_HRC : Hid (Rc w7 (w.heap.size + 1) b.length r3 f3) := rc_below HRC.out hdr
    clear Z X P BL HRC
    have Z := n_Z; clear n_Z
    have X := n_X; clear n_X
    have P := n_P; clear n_P
    have BL := n_BL; clear n_BL
    have HRC := n_HRC; clear n_HRC
    clear hdr HRC
    have hTE := HTE.out
    clear HTE
    have hnz : w.heap.size < w7.heap.size := heap_lt Z.out
    generalize endE r3 f3 b.length = kk at *
    cases kk with
    | zero =>
      have hT : dd = (⟨1, s, pol, 0⟩, 0) := hTE
      clear hTE
      subst hT
      have c_Z0 := blk_cell Z.out 0 (.int .i64 0) rfl
      have c_Z1 := blk_cell Z.out 1 (.string ⟨#[]⟩) rfl
      have c_Z2 := blk_cell Z.out 2 (.int .i64 0) rfl
      have c_Z3 := blk_cell Z.out 3 (.int .u64 0) rfl
      have c_Z4 := blk_cell Z.out 4 (.int .u64 0) rfl
      have c_Z5 := blk_cell Z.out 5 (.int .u64 0) rfl
      have c_Z6 := blk_cell Z.out 6 (.int .u64 0) rfl
      have c_Z7 := blk_cell Z.out 7 (.int .u64 0) rfl
      have f_Z := heap_frozen Z.out
      have c_X0 := blk_cell X.out 0 (.int .i64 1) rfl
      have c_X1 := blk_cell X.out 1 (.string ⟨s.toArray⟩) rfl
      have c_X2 := blk_cell X.out 2 (.int .i64 pol.kind) rfl
      have c_X3 := blk_cell X.out 3 (.int .u64 (n64 pol.gap)) rfl
      have c_X4 := blk_cell X.out 4 (.int .u64 (n64 pol.slack)) rfl
      have c_X5 := blk_cell X.out 5 (.int .u64 (n64 pol.limit)) rfl
      have c_X6 := blk_cell X.out 6 (.int .u64 (n64 pol.span)) rfl
      have c_X7 := blk_cell X.out 7 (.int .u64 0) rfl
      have f_X := heap_frozen X.out
      go_wp2
      refine bodyPost_ret (v := .tuple #[.agg #[.int .i64 1, .string ⟨s.toArray⟩, .int .i64 pol.kind, .int .u64 (n64 pol.gap), .int .u64 (n64 pol.slack), .int .u64 (n64 pol.limit), .int .u64 (n64 pol.span), .int .u64 0], .int .i64 0]) (by simp [results, Tryd.results19, go_sem, c_Z0, c_Z1, c_Z2, c_Z3, c_Z4, c_Z5, c_Z6, c_Z7]) rfl ?_
      exact ⟨rfl, set8_below BL.out (Nat.le_refl _) _ _ _ _ _ _ _ _⟩
    | succ m =>
      have hT : dd = (reqZ, m + 1) := hTE
      clear hTE
      subst hT
      have hm1 : (((m + 1 : Nat) : Int) != 0) = true := by rw [bne_iff_ne]; omega
      have hm2 : (((m + 1 : Nat) : Int) == 0) = false := by rw [beq_eq_false_iff_ne]; omega
      obtain ⟨er, her⟩ : ∃ er : Int, er = ((m + 1 : Nat) : Int) := ⟨_, rfl⟩
      rw [← her] at hm1 hm2 ⊢
      have HER := Go.Lib.hid her
      clear her
      have c_Z0 := blk_cell Z.out 0 (.int .i64 0) rfl
      have c_Z1 := blk_cell Z.out 1 (.string ⟨#[]⟩) rfl
      have c_Z2 := blk_cell Z.out 2 (.int .i64 0) rfl
      have c_Z3 := blk_cell Z.out 3 (.int .u64 0) rfl
      have c_Z4 := blk_cell Z.out 4 (.int .u64 0) rfl
      have c_Z5 := blk_cell Z.out 5 (.int .u64 0) rfl
      have c_Z6 := blk_cell Z.out 6 (.int .u64 0) rfl
      have c_Z7 := blk_cell Z.out 7 (.int .u64 0) rfl
      have f_Z := heap_frozen Z.out
      go_wp2
      refine bodyPost_ret (v := .tuple #[.agg #[.int .i64 0, .string ⟨#[]⟩, .int .i64 0, .int .u64 0, .int .u64 0, .int .u64 0, .int .u64 0, .int .u64 0], .int .i64 er]) (by simp [results, Tryd.results19, go_sem, c_Z0, c_Z1, c_Z2, c_Z3, c_Z4, c_Z5, c_Z6, c_Z7]) rfl ?_
      exact ⟨by rw [HER.out]; rfl, set8_below BL.out (Nat.le_refl _) _ _ _ _ _ _ _ _⟩

set_option maxRecDepth 100000 in
set_option maxHeartbeats 3200000 in
theorem rdec_2 (A : Option Addr) (c : Nat) (b : List UInt8) (w : World) (hl : b.length ≤ c) (hc : c ≤ 9223372036854775807) (hA : Cells w A (Bs b)) (hf : (fixedS b 0 1).2.2 = 0 ∧ (fixedS b 0 1).1.toUInt8 = 2) :
    Calls Tryd.prog 19 #[.slice A b.length c] w fun e w' => GaveRF w w' e (decS b) := by
  have HT : Hid (decS b = decQ b.length (fixedS b 0 1)) := rfl
  generalize decS b = dd at *
  have hwi := fixed1_int b 0
  obtain ⟨W0, hW0⟩ : ∃ W, W = (w.alloc (.cells #[.int .i64 0, .string ⟨#[]⟩, .int .i64 0, .int .u64 0, .int .u64 0, .int .u64 0, .int .u64 0, .int .u64 0] 30)).alloc (.cells #[.slice A b.length c, .int .i64 0, .bool false] 88) := ⟨_, rfl⟩
  have hb0 : Below w.heap.size w W0 := by rw [hW0]; exact ((Below.refl _ _).alloc (Nat.le_refl _) _).alloc (by simp) _
  have HRC : Hid (Rc W0 ((w.heap.size + 1)) b.length b 0) := rc_new (by rw [hW0]; exact heap_here _ _ _ (by simp)) hl hc (cells_below hb0 hA) (fun h0 ad ha => by have := cells_lt hA h0 ad ha; omega)
  have BL : Hid (Below w.heap.size w W0) := hb0
  have Z : Hid (W0.heap[w.heap.size]? = some (.cells #[.int .i64 0, .string ⟨#[]⟩, .int .i64 0, .int .u64 0, .int .u64 0, .int .u64 0, .int .u64 0, .int .u64 0] 30 (0, 0))) := by rw [hW0]; exact alloc_heap (heap_here w _ w.heap.size rfl) _
  clear hA hb0
  go_enter Tryd.func19, Tryd.ntmps19
  go_wp2_with fail
  rw [← hW0]
  clear hW0
  refine (number11_calls W0 ((w.heap.size + 1)) b.length b 0 1 1 (by decide) (by decide) (by decide) HRC.out).mono ?_
  rintro e w1 ⟨rfl, h1, h2⟩
  have n_Z := Go.Lib.hid (keep_heap (keep_only h2) Z.out (by omega))
  have n_BL : Hid (Below w.heap.size w w1) := (BL.out).trans (h2.below (by omega))
  clear Z BL
  have Z := n_Z; clear n_Z
  have BL := n_BL; clear n_BL
  clear HRC
  have HRC := Go.Lib.hid h1
  clear h1 h2
  have HF := Go.Lib.hid hf
  clear hf
  generalize fixedS b 0 1 = q at *
  obtain ⟨u, r1, f1⟩ := q
  have hf := HF.out
  clear HF
  simp only at HRC HT hwi hf ⊢
  obtain rfl : f1 = 0 := hf.1
  have hop := hf.2
  clear hf
  rw [hop, show n8 2 = (2 : Int) from rfl] at hwi
  have hnw : w.heap.size < w1.heap.size := heap_lt Z.out
  have hgw : (w.heap.size + 1) < w1.heap.size := rc_lt HRC.out
  have HT2 : Hid (dd = decOp b.length 2 (textS r1 0)) := by
    show dd = _
    rw [HT.out]
    unfold decQ
    rw [if_neg (by simp)]
    simp only [hop]
    rfl
  clear HT hop
  have s2 := rc_short0 HRC.out
  go_wp2_with fail
  clear s2
  obtain ⟨w2, hnew⟩ : ∃ W, W = (w1.alloc (.cells #[.int .i64 2, .string ⟨#[]⟩, .int .i64 0, .int .u64 0, .int .u64 0, .int .u64 0, .int .u64 0, .int .u64 0] 30)) := ⟨_, rfl⟩
  have n_Z : Hid (w2.heap[w.heap.size]? = some (.cells #[.int .i64 0, .string ⟨#[]⟩, .int .i64 0, .int .u64 0, .int .u64 0, .int .u64 0, .int .u64 0, .int .u64 0] 30 (0, 0))) := by rw [hnew]; exact (alloc_heap Z.out _)
  have X : Hid (w2.heap[w1.heap.size]? = some (.cells #[.int .i64 2, .string ⟨#[]⟩, .int .i64 0, .int .u64 0, .int .u64 0, .int .u64 0, .int .u64 0, .int .u64 0] 30 (0, 0))) := by rw [hnew]; exact heap_here _ _ _ rfl
  have n_BL : Hid (Below w.heap.size w w2) := by rw [hnew]; exact below_alloc (BL.out) (Nat.le_refl _)
  have n_HRC : Hid (Rc w2 (w.heap.size + 1) b.length r1 0) := by rw [hnew]; exact rc_alloc (HRC.out) _
  rw [← hnew]
  clear hnew Z BL HRC
  have Z := n_Z; clear n_Z
  have BL := n_BL; clear n_BL
  have HRC := n_HRC; clear n_HRC
  refine (text11_calls w2 ((w.heap.size + 1)) b.length r1 0 HRC.out).mono ?_
  rintro e w3 ⟨rfl, h1, h2⟩
  have n_Z := Go.Lib.hid (keep_heap (keep_only h2) Z.out (by omega))
  have n_X := Go.Lib.hid (keep_heap (keep_only h2) X.out (by omega))
  have n_BL : Hid (Below w.heap.size w w3) := (BL.out).trans (h2.below (by omega))
  clear Z X BL
  have Z := n_Z; clear n_Z
  have X := n_X; clear n_X
  have BL := n_BL; clear n_BL
  clear HRC
  have HRC := Go.Lib.hid h1
  clear h1 h2
  generalize textS r1 0 = tq at *
  obtain ⟨s, r2, f2⟩ := tq
  simp only at HRC HT2 ⊢
  have HT3 := Go.Lib.hid (HT2.out.trans (decOp_f b.length 2 s r2 f2 (rc_le HRC.out)))
  clear HT2
  have hnx : w1.heap.size < w3.heap.size := heap_lt X.out
  have hnz3 : w.heap.size < w3.heap.size := heap_lt Z.out
  have c_X0 := blk_cell X.out 0 (.int .i64 2) rfl
  have c_X1 := blk_cell X.out 1 (.string ⟨#[]⟩) rfl
  have c_X2 := blk_cell X.out 2 (.int .i64 0) rfl
  have c_X3 := blk_cell X.out 3 (.int .u64 0) rfl
  have c_X4 := blk_cell X.out 4 (.int .u64 0) rfl
  have c_X5 := blk_cell X.out 5 (.int .u64 0) rfl
  have c_X6 := blk_cell X.out 6 (.int .u64 0) rfl
  have c_X7 := blk_cell X.out 7 (.int .u64 0) rfl
  have f_X := heap_frozen X.out
  go_wp2_with fail
  clear c_X0 c_X1 c_X2 c_X3 c_X4 c_X5 c_X6 c_X7 f_X
  obtain ⟨w4, hnew⟩ : ∃ W, W = (w3.setCell ⟨w1.heap.size, 1, none⟩ (.string ⟨s.toArray⟩)) := ⟨_, rfl⟩
  have n_Z : Hid (w4.heap[w.heap.size]? = some (.cells #[.int .i64 0, .string ⟨#[]⟩, .int .i64 0, .int .u64 0, .int .u64 0, .int .u64 0, .int .u64 0, .int .u64 0] 30 (0, 0))) := by rw [hnew]; exact (set_other Z.out (by omega) _ _)
  have n_X : Hid (w4.heap[w1.heap.size]? = some (.cells #[.int .i64 2, .string ⟨s.toArray⟩, .int .i64 0, .int .u64 0, .int .u64 0, .int .u64 0, .int .u64 0, .int .u64 0] 30 (0, 0))) := by rw [hnew]; exact (set_heap X.out _ _)
  have n_BL : Hid (Below w.heap.size w w4) := by rw [hnew]; exact below_set (BL.out) (by omega)
  have n_HRC : Hid (Rc w4 (w.heap.size + 1) b.length r2 f2) := by rw [hnew]; exact rc_set (HRC.out) (X.out) (by decide) rfl _ _
  rw [← hnew]
  clear hnew Z X BL HRC
  have Z := n_Z; clear n_Z
  have X := n_X; clear n_X
  have BL := n_BL; clear n_BL
  have HRC := n_HRC; clear n_HRC
  refine (number11_calls w4 ((w.heap.size + 1)) b.length r2 f2 8 8 (by decide) (by decide) (by decide) HRC.out).mono ?_
  rintro e w5 ⟨rfl, h1, h2⟩
  have n_Z := Go.Lib.hid (keep_heap (keep_only h2) Z.out (by omega))
  have n_X := Go.Lib.hid (keep_heap (keep_only h2) X.out (by omega))
  have n_BL : Hid (Below w.heap.size w w5) := (BL.out).trans (h2.below (by omega))
  clear Z X BL
  have Z := n_Z; clear n_Z
  have X := n_X; clear n_X
  have BL := n_BL; clear n_BL
  clear HRC
  have HRC := Go.Lib.hid h1
  clear h1 h2
  have HTE0 : Hid (dd = reqOr ⟨2, s, polZ, (fixedS r2 f2 8).1⟩ (endE (fixedS r2 f2 8).2.1 (fixedS r2 f2 8).2.2 b.length)) := HT3.out
  clear HT3
  generalize fixedS r2 f2 8 = q2 at *
  obtain ⟨uu, r3, f3⟩ := q2
  simp only at HRC HTE0 ⊢
  have HTE := HTE0
  clear HTE0
  have hnx5 : w1.heap.size < w5.heap.size := heap_lt X.out
  have c_X0 := blk_cell X.out 0 (.int .i64 2) rfl
  have c_X1 := blk_cell X.out 1 (.string ⟨s.toArray⟩) rfl
  have c_X2 := blk_cell X.out 2 (.int .i64 0) rfl
  have c_X3 := blk_cell X.out 3 (.int .u64 0) rfl
  have c_X4 := blk_cell X.out 4 (.int .u64 0) rfl
  have c_X5 := blk_cell X.out 5 (.int .u64 0) rfl
  have c_X6 := blk_cell X.out 6 (.int .u64 0) rfl
  have c_X7 := blk_cell X.out 7 (.int .u64 0) rfl
  have f_X := heap_frozen X.out
  go_wp2_with fail
  clear c_X0 c_X1 c_X2 c_X3 c_X4 c_X5 c_X6 c_X7 f_X
  obtain ⟨w6, hnew⟩ : ∃ W, W = (w5.setCell ⟨w1.heap.size, 7, none⟩ (.int .u64 (n64 uu))) := ⟨_, rfl⟩
  have n_Z : Hid (w6.heap[w.heap.size]? = some (.cells #[.int .i64 0, .string ⟨#[]⟩, .int .i64 0, .int .u64 0, .int .u64 0, .int .u64 0, .int .u64 0, .int .u64 0] 30 (0, 0))) := by rw [hnew]; exact (set_other Z.out (by omega) _ _)
  have n_X : Hid (w6.heap[w1.heap.size]? = some (.cells #[.int .i64 2, .string ⟨s.toArray⟩, .int .i64 0, .int .u64 0, .int .u64 0, .int .u64 0, .int .u64 0, .int .u64 (n64 uu)] 30 (0, 0))) := by rw [hnew]; exact (set_heap X.out _ _)
  have n_BL : Hid (Below w.heap.size w w6) := by rw [hnew]; exact below_set (BL.out) (by omega)
  have n_HRC : Hid (Rc w6 (w.heap.size + 1) b.length r3 f3) := by rw [hnew]; exact rc_set (HRC.out) (X.out) (by decide) rfl _ _
  rw [← hnew]
  clear hnew Z X BL HRC
  have Z := n_Z; clear n_Z
  have X := n_X; clear n_X
  have BL := n_BL; clear n_BL
  have HRC := n_HRC; clear n_HRC
  refine (ended_calls ((w.heap.size + 1)) b.length r3 f3 w6 HRC.out).mono ?_
  rintro e w7 ⟨rfl, nd, hnd⟩
  have hdr : Below w6.heap.size w6 w7 := by rw [hnd]; exact below_drewN _ _ _
  clear hnd
  have n_Z := Go.Lib.hid (below_heap hdr Z.out)
  have n_X := Go.Lib.hid (below_heap hdr X.out)
  have n_BL : Hid (Below w.heap.size w w7) := below_then BL.out hdr
  have n_HRC : Hid (Rc w7 (w.heap.size + 1) b.length r3 f3) := rc_below HRC.out hdr
  clear Z X BL HRC
  have Z := n_Z; clear n_Z
  have X := n_X; clear n_X
  have BL := n_BL; clear n_BL
  have HRC := n_HRC; clear n_HRC
  clear hdr HRC
  have hTE := HTE.out
  clear HTE
  have hnz : w.heap.size < w7.heap.size := heap_lt Z.out
  generalize endE r3 f3 b.length = kk at *
  cases kk with
  | zero =>
    have hT : dd = (⟨2, s, polZ, uu⟩, 0) := hTE
    clear hTE
    subst hT
    have c_Z0 := blk_cell Z.out 0 (.int .i64 0) rfl
    have c_Z1 := blk_cell Z.out 1 (.string ⟨#[]⟩) rfl
    have c_Z2 := blk_cell Z.out 2 (.int .i64 0) rfl
    have c_Z3 := blk_cell Z.out 3 (.int .u64 0) rfl
    have c_Z4 := blk_cell Z.out 4 (.int .u64 0) rfl
    have c_Z5 := blk_cell Z.out 5 (.int .u64 0) rfl
    have c_Z6 := blk_cell Z.out 6 (.int .u64 0) rfl
    have c_Z7 := blk_cell Z.out 7 (.int .u64 0) rfl
    have f_Z := heap_frozen Z.out
    have c_X0 := blk_cell X.out 0 (.int .i64 2) rfl
    have c_X1 := blk_cell X.out 1 (.string ⟨s.toArray⟩) rfl
    have c_X2 := blk_cell X.out 2 (.int .i64 0) rfl
    have c_X3 := blk_cell X.out 3 (.int .u64 0) rfl
    have c_X4 := blk_cell X.out 4 (.int .u64 0) rfl
    have c_X5 := blk_cell X.out 5 (.int .u64 0) rfl
    have c_X6 := blk_cell X.out 6 (.int .u64 0) rfl
    have c_X7 := blk_cell X.out 7 (.int .u64 (n64 uu)) rfl
    have f_X := heap_frozen X.out
    go_wp2
    refine bodyPost_ret (v := .tuple #[.agg #[.int .i64 2, .string ⟨s.toArray⟩, .int .i64 0, .int .u64 0, .int .u64 0, .int .u64 0, .int .u64 0, .int .u64 (n64 uu)], .int .i64 0]) (by simp [results, Tryd.results19, go_sem, c_Z0, c_Z1, c_Z2, c_Z3, c_Z4, c_Z5, c_Z6, c_Z7]) rfl ?_
    exact ⟨rfl, set8_below BL.out (Nat.le_refl _) _ _ _ _ _ _ _ _⟩
  | succ m =>
    have hT : dd = (reqZ, m + 1) := hTE
    clear hTE
    subst hT
    have hm1 : (((m + 1 : Nat) : Int) != 0) = true := by rw [bne_iff_ne]; omega
    have hm2 : (((m + 1 : Nat) : Int) == 0) = false := by rw [beq_eq_false_iff_ne]; omega
    obtain ⟨er, her⟩ : ∃ er : Int, er = ((m + 1 : Nat) : Int) := ⟨_, rfl⟩
    rw [← her] at hm1 hm2 ⊢
    have HER := Go.Lib.hid her
    clear her
    have c_Z0 := blk_cell Z.out 0 (.int .i64 0) rfl
    have c_Z1 := blk_cell Z.out 1 (.string ⟨#[]⟩) rfl
    have c_Z2 := blk_cell Z.out 2 (.int .i64 0) rfl
    have c_Z3 := blk_cell Z.out 3 (.int .u64 0) rfl
    have c_Z4 := blk_cell Z.out 4 (.int .u64 0) rfl
    have c_Z5 := blk_cell Z.out 5 (.int .u64 0) rfl
    have c_Z6 := blk_cell Z.out 6 (.int .u64 0) rfl
    have c_Z7 := blk_cell Z.out 7 (.int .u64 0) rfl
    have f_Z := heap_frozen Z.out
    go_wp2
    refine bodyPost_ret (v := .tuple #[.agg #[.int .i64 0, .string ⟨#[]⟩, .int .i64 0, .int .u64 0, .int .u64 0, .int .u64 0, .int .u64 0, .int .u64 0], .int .i64 er]) (by simp [results, Tryd.results19, go_sem, c_Z0, c_Z1, c_Z2, c_Z3, c_Z4, c_Z5, c_Z6, c_Z7]) rfl ?_
    exact ⟨by rw [HER.out]; rfl, set8_below BL.out (Nat.le_refl _) _ _ _ _ _ _ _ _⟩

set_option maxRecDepth 100000 in
set_option maxHeartbeats 3200000 in
theorem rdec_3 (A : Option Addr) (c : Nat) (b : List UInt8) (w : World) (hl : b.length ≤ c) (hc : c ≤ 9223372036854775807) (hA : Cells w A (Bs b)) (hf : (fixedS b 0 1).2.2 = 0 ∧ (fixedS b 0 1).1.toUInt8 = 3) :
    Calls Tryd.prog 19 #[.slice A b.length c] w fun e w' => GaveRF w w' e (decS b) := by
  have HT : Hid (decS b = decQ b.length (fixedS b 0 1)) := rfl
  generalize decS b = dd at *
  have hwi := fixed1_int b 0
  obtain ⟨W0, hW0⟩ : ∃ W, W = (w.alloc (.cells #[.int .i64 0, .string ⟨#[]⟩, .int .i64 0, .int .u64 0, .int .u64 0, .int .u64 0, .int .u64 0, .int .u64 0] 30)).alloc (.cells #[.slice A b.length c, .int .i64 0, .bool false] 88) := ⟨_, rfl⟩
  have hb0 : Below w.heap.size w W0 := by rw [hW0]; exact ((Below.refl _ _).alloc (Nat.le_refl _) _).alloc (by simp) _
  have HRC : Hid (Rc W0 ((w.heap.size + 1)) b.length b 0) := rc_new (by rw [hW0]; exact heap_here _ _ _ (by simp)) hl hc (cells_below hb0 hA) (fun h0 ad ha => by have := cells_lt hA h0 ad ha; omega)
  have BL : Hid (Below w.heap.size w W0) := hb0
  have Z : Hid (W0.heap[w.heap.size]? = some (.cells #[.int .i64 0, .string ⟨#[]⟩, .int .i64 0, .int .u64 0, .int .u64 0, .int .u64 0, .int .u64 0, .int .u64 0] 30 (0, 0))) := by rw [hW0]; exact alloc_heap (heap_here w _ w.heap.size rfl) _
  clear hA hb0
  go_enter Tryd.func19, Tryd.ntmps19
  go_wp2_with fail
  rw [← hW0]
  clear hW0
  refine (number11_calls W0 ((w.heap.size + 1)) b.length b 0 1 1 (by decide) (by decide) (by decide) HRC.out).mono ?_
  rintro e w1 ⟨rfl, h1, h2⟩
  have n_Z := Go.Lib.hid (keep_heap (keep_only h2) Z.out (by omega))
  have n_BL : Hid (Below w.heap.size w w1) := (BL.out).trans (h2.below (by omega))
  clear Z BL
  have Z := n_Z; clear n_Z
  have BL := n_BL; clear n_BL
  clear HRC
  have HRC := Go.Lib.hid h1
  clear h1 h2
  have HF := Go.Lib.hid hf
  clear hf
  generalize fixedS b 0 1 = q at *
  obtain ⟨u, r1, f1⟩ := q
  have hf := HF.out
  clear HF
  simp only at HRC HT hwi hf ⊢
  obtain rfl : f1 = 0 := hf.1
  have hop := hf.2
  clear hf
  rw [hop, show n8 3 = (3 : Int) from rfl] at hwi
  have hnw : w.heap.size < w1.heap.size := heap_lt Z.out
  have hgw : (w.heap.size + 1) < w1.heap.size := rc_lt HRC.out
  have HT2 : Hid (dd = decOp b.length 3 (textS r1 0)) := by
    show dd = _
    rw [HT.out]
    unfold decQ
    rw [if_neg (by simp)]
    simp only [hop]
    rfl
  clear HT hop
  have s2 := rc_short0 HRC.out
  go_wp2_with fail
  clear s2
  obtain ⟨w2, hnew⟩ : ∃ W, W = (w1.alloc (.cells #[.int .i64 3, .string ⟨#[]⟩, .int .i64 0, .int .u64 0, .int .u64 0, .int .u64 0, .int .u64 0, .int .u64 0] 30)) := ⟨_, rfl⟩
  have n_Z : Hid (w2.heap[w.heap.size]? = some (.cells #[.int .i64 0, .string ⟨#[]⟩, .int .i64 0, .int .u64 0, .int .u64 0, .int .u64 0, .int .u64 0, .int .u64 0] 30 (0, 0))) := by rw [hnew]; exact (alloc_heap Z.out _)
  have X : Hid (w2.heap[w1.heap.size]? = some (.cells #[.int .i64 3, .string ⟨#[]⟩, .int .i64 0, .int .u64 0, .int .u64 0, .int .u64 0, .int .u64 0, .int .u64 0] 30 (0, 0))) := by rw [hnew]; exact heap_here _ _ _ rfl
  have n_BL : Hid (Below w.heap.size w w2) := by rw [hnew]; exact below_alloc (BL.out) (Nat.le_refl _)
  have n_HRC : Hid (Rc w2 (w.heap.size + 1) b.length r1 0) := by rw [hnew]; exact rc_alloc (HRC.out) _
  rw [← hnew]
  clear hnew Z BL HRC
  have Z := n_Z; clear n_Z
  have BL := n_BL; clear n_BL
  have HRC := n_HRC; clear n_HRC
  refine (text11_calls w2 ((w.heap.size + 1)) b.length r1 0 HRC.out).mono ?_
  rintro e w3 ⟨rfl, h1, h2⟩
  have n_Z := Go.Lib.hid (keep_heap (keep_only h2) Z.out (by omega))
  have n_X := Go.Lib.hid (keep_heap (keep_only h2) X.out (by omega))
  have n_BL : Hid (Below w.heap.size w w3) := (BL.out).trans (h2.below (by omega))
  clear Z X BL
  have Z := n_Z; clear n_Z
  have X := n_X; clear n_X
  have BL := n_BL; clear n_BL
  clear HRC
  have HRC := Go.Lib.hid h1
  clear h1 h2
  generalize textS r1 0 = tq at *
  obtain ⟨s, r2, f2⟩ := tq
  simp only at HRC HT2 ⊢
  have HT3 := Go.Lib.hid (HT2.out.trans (decOp_f b.length 3 s r2 f2 (rc_le HRC.out)))
  clear HT2
  have hnx : w1.heap.size < w3.heap.size := heap_lt X.out
  have hnz3 : w.heap.size < w3.heap.size := heap_lt Z.out
  have c_X0 := blk_cell X.out 0 (.int .i64 3) rfl
  have c_X1 := blk_cell X.out 1 (.string ⟨#[]⟩) rfl
  have c_X2 := blk_cell X.out 2 (.int .i64 0) rfl
  have c_X3 := blk_cell X.out 3 (.int .u64 0) rfl
  have c_X4 := blk_cell X.out 4 (.int .u64 0) rfl
  have c_X5 := blk_cell X.out 5 (.int .u64 0) rfl
  have c_X6 := blk_cell X.out 6 (.int .u64 0) rfl
  have c_X7 := blk_cell X.out 7 (.int .u64 0) rfl
  have f_X := heap_frozen X.out
  go_wp2_with fail
  clear c_X0 c_X1 c_X2 c_X3 c_X4 c_X5 c_X6 c_X7 f_X
  obtain ⟨w4, hnew⟩ : ∃ W, W = (w3.setCell ⟨w1.heap.size, 1, none⟩ (.string ⟨s.toArray⟩)) := ⟨_, rfl⟩
  have n_Z : Hid (w4.heap[w.heap.size]? = some (.cells #[.int .i64 0, .string ⟨#[]⟩, .int .i64 0, .int .u64 0, .int .u64 0, .int .u64 0, .int .u64 0, .int .u64 0] 30 (0, 0))) := by rw [hnew]; exact (set_other Z.out (by omega) _ _)
  have n_X : Hid (w4.heap[w1.heap.size]? = some (.cells #[.int .i64 3, .string ⟨s.toArray⟩, .int .i64 0, .int .u64 0, .int .u64 0, .int .u64 0, .int .u64 0, .int .u64 0] 30 (0, 0))) := by rw [hnew]; exact (set_heap X.out _ _)
  have n_BL : Hid (Below w.heap.size w w4) := by rw [hnew]; exact below_set (BL.out) (by omega)
  have n_HRC : Hid (Rc w4 (w.heap.size + 1) b.length r2 f2) := by rw [hnew]; exact rc_set (HRC.out) (X.out) (by decide) rfl _ _
  rw [← hnew]
  clear hnew Z X BL HRC
  have Z := n_Z; clear n_Z
  have X := n_X; clear n_X
  have BL := n_BL; clear n_BL
  have HRC := n_HRC; clear n_HRC
  have HTE : Hid (dd = reqOr ⟨3, s, polZ, 0⟩ (endE r2 f2 b.length)) := HT3.out
  clear HT3
  refine (ended_calls ((w.heap.size + 1)) b.length r2 f2 w4 HRC.out).mono ?_
  rintro e w5 ⟨rfl, nd, hnd⟩
  have hdr : Below w4.heap.size w4 w5 := by rw [hnd]; exact below_drewN _ _ _
  clear hnd
  have n_Z := Go.Lib.hid (below_heap hdr Z.out)
  have n_X := Go.Lib.hid (below_heap hdr X.out)
  have n_BL : Hid (Below w.heap.size w w5) := below_then BL.out hdr
  have n_HRC : Hid (Rc w5 (w.heap.size + 1) b.length r2 f2) := rc_below HRC.out hdr
  clear Z X BL HRC
  have Z := n_Z; clear n_Z
  have X := n_X; clear n_X
  have BL := n_BL; clear n_BL
  have HRC := n_HRC; clear n_HRC
  clear hdr HRC
  have hTE := HTE.out
  clear HTE
  have hnz : w.heap.size < w5.heap.size := heap_lt Z.out
  generalize endE r2 f2 b.length = kk at *
  cases kk with
  | zero =>
    have hT : dd = (⟨3, s, polZ, 0⟩, 0) := hTE
    clear hTE
    subst hT
    have c_Z0 := blk_cell Z.out 0 (.int .i64 0) rfl
    have c_Z1 := blk_cell Z.out 1 (.string ⟨#[]⟩) rfl
    have c_Z2 := blk_cell Z.out 2 (.int .i64 0) rfl
    have c_Z3 := blk_cell Z.out 3 (.int .u64 0) rfl
    have c_Z4 := blk_cell Z.out 4 (.int .u64 0) rfl
    have c_Z5 := blk_cell Z.out 5 (.int .u64 0) rfl
    have c_Z6 := blk_cell Z.out 6 (.int .u64 0) rfl
    have c_Z7 := blk_cell Z.out 7 (.int .u64 0) rfl
    have f_Z := heap_frozen Z.out
    have c_X0 := blk_cell X.out 0 (.int .i64 3) rfl
    have c_X1 := blk_cell X.out 1 (.string ⟨s.toArray⟩) rfl
    have c_X2 := blk_cell X.out 2 (.int .i64 0) rfl
    have c_X3 := blk_cell X.out 3 (.int .u64 0) rfl
    have c_X4 := blk_cell X.out 4 (.int .u64 0) rfl
    have c_X5 := blk_cell X.out 5 (.int .u64 0) rfl
    have c_X6 := blk_cell X.out 6 (.int .u64 0) rfl
    have c_X7 := blk_cell X.out 7 (.int .u64 0) rfl
    have f_X := heap_frozen X.out
    go_wp2
    refine bodyPost_ret (v := .tuple #[.agg #[.int .i64 3, .string ⟨s.toArray⟩, .int .i64 0, .int .u64 0, .int .u64 0, .int .u64 0, .int .u64 0, .int .u64 0], .int .i64 0]) (by simp [results, Tryd.results19, go_sem, c_Z0, c_Z1, c_Z2, c_Z3, c_Z4, c_Z5, c_Z6, c_Z7]) rfl ?_
    exact ⟨rfl, set8_below BL.out (Nat.le_refl _) _ _ _ _ _ _ _ _⟩
  | succ m =>
    have hT : dd = (reqZ, m + 1) := hTE
    clear hTE
    subst hT
    have hm1 : (((m + 1 : Nat) : Int) != 0) = true := by rw [bne_iff_ne]; omega
    have hm2 : (((m + 1 : Nat) : Int) == 0) = false := by rw [beq_eq_false_iff_ne]; omega
    obtain ⟨er, her⟩ : ∃ er : Int, er = ((m + 1 : Nat) : Int) := ⟨_, rfl⟩
    rw [← her] at hm1 hm2 ⊢
    have HER := Go.Lib.hid her
    clear her
    have c_Z0 := blk_cell Z.out 0 (.int .i64 0) rfl
    have c_Z1 := blk_cell Z.out 1 (.string ⟨#[]⟩) rfl
    have c_Z2 := blk_cell Z.out 2 (.int .i64 0) rfl
    have c_Z3 := blk_cell Z.out 3 (.int .u64 0) rfl
    have c_Z4 := blk_cell Z.out 4 (.int .u64 0) rfl
    have c_Z5 := blk_cell Z.out 5 (.int .u64 0) rfl
    have c_Z6 := blk_cell Z.out 6 (.int .u64 0) rfl
    have c_Z7 := blk_cell Z.out 7 (.int .u64 0) rfl
    have f_Z := heap_frozen Z.out
    go_wp2
    refine bodyPost_ret (v := .tuple #[.agg #[.int .i64 0, .string ⟨#[]⟩, .int .i64 0, .int .u64 0, .int .u64 0, .int .u64 0, .int .u64 0, .int .u64 0], .int .i64 er]) (by simp [results, Tryd.results19, go_sem, c_Z0, c_Z1, c_Z2, c_Z3, c_Z4, c_Z5, c_Z6, c_Z7]) rfl ?_
    exact ⟨by rw [HER.out]; rfl, set8_below BL.out (Nat.le_refl _) _ _ _ _ _ _ _ _⟩

set_option maxRecDepth 100000 in
set_option maxHeartbeats 3200000 in
theorem rdec_4 (A : Option Addr) (c : Nat) (b : List UInt8) (w : World) (hl : b.length ≤ c) (hc : c ≤ 9223372036854775807) (hA : Cells w A (Bs b)) (hf : (fixedS b 0 1).2.2 = 0 ∧ (fixedS b 0 1).1.toUInt8 = 4) :
    Calls Tryd.prog 19 #[.slice A b.length c] w fun e w' => GaveRF w w' e (decS b) := by
  have HT : Hid (decS b = decQ b.length (fixedS b 0 1)) := rfl
  generalize decS b = dd at *
  have hwi := fixed1_int b 0
  obtain ⟨W0, hW0⟩ : ∃ W, W = (w.alloc (.cells #[.int .i64 0, .string ⟨#[]⟩, .int .i64 0, .int .u64 0, .int .u64 0, .int .u64 0, .int .u64 0, .int .u64 0] 30)).alloc (.cells #[.slice A b.length c, .int .i64 0, .bool false] 88) := ⟨_, rfl⟩
  have hb0 : Below w.heap.size w W0 := by rw [hW0]; exact ((Below.refl _ _).alloc (Nat.le_refl _) _).alloc (by simp) _
  have HRC : Hid (Rc W0 ((w.heap.size + 1)) b.length b 0) := rc_new (by rw [hW0]; exact heap_here _ _ _ (by simp)) hl hc (cells_below hb0 hA) (fun h0 ad ha => by have := cells_lt hA h0 ad ha; omega)
  have BL : Hid (Below w.heap.size w W0) := hb0
  have Z : Hid (W0.heap[w.heap.size]? = some (.cells #[.int .i64 0, .string ⟨#[]⟩, .int .i64 0, .int .u64 0, .int .u64 0, .int .u64 0, .int .u64 0, .int .u64 0] 30 (0, 0))) := by rw [hW0]; exact alloc_heap (heap_here w _ w.heap.size rfl) _
  clear hA hb0
  go_enter Tryd.func19, Tryd.ntmps19
  go_wp2_with fail
  rw [← hW0]
  clear hW0
  refine (number11_calls W0 ((w.heap.size + 1)) b.length b 0 1 1 (by decide) (by decide) (by decide) HRC.out).mono ?_
  rintro e w1 ⟨rfl, h1, h2⟩
  have n_Z := Go.Lib.hid (keep_heap (keep_only h2) Z.out (by omega))
  have n_BL : Hid (Below w.heap.size w w1) := (BL.out).trans (h2.below (by omega))
  clear Z BL
  have Z := n_Z; clear n_Z
  have BL := n_BL; clear n_BL
  clear HRC
  have HRC := Go.Lib.hid h1
  clear h1 h2
  have HF := Go.Lib.hid hf
  clear hf
  generalize fixedS b 0 1 = q at *
  obtain ⟨u, r1, f1⟩ := q
  have hf := HF.out
  clear HF
  simp only at HRC HT hwi hf ⊢
  obtain rfl : f1 = 0 := hf.1
  have hop := hf.2
  clear hf
  rw [hop, show n8 4 = (4 : Int) from rfl] at hwi
  have hnw : w.heap.size < w1.heap.size := heap_lt Z.out
  have hgw : (w.heap.size + 1) < w1.heap.size := rc_lt HRC.out
  have HT2 : Hid (dd = decOp b.length 4 (textS r1 0)) := by
    show dd = _
    rw [HT.out]
    unfold decQ
    rw [if_neg (by simp)]
    simp only [hop]
    rfl
  clear HT hop
  have s2 := rc_short0 HRC.out
  go_wp2_with fail
  clear s2
  obtain ⟨w2, hnew⟩ : ∃ W, W = (w1.alloc (.cells #[.int .i64 4, .string ⟨#[]⟩, .int .i64 0, .int .u64 0, .int .u64 0, .int .u64 0, .int .u64 0, .int .u64 0] 30)) := ⟨_, rfl⟩
  have n_Z : Hid (w2.heap[w.heap.size]? = some (.cells #[.int .i64 0, .string ⟨#[]⟩, .int .i64 0, .int .u64 0, .int .u64 0, .int .u64 0, .int .u64 0, .int .u64 0] 30 (0, 0))) := by rw [hnew]; exact (alloc_heap Z.out _)
  have X : Hid (w2.heap[w1.heap.size]? = some (.cells #[.int .i64 4, .string ⟨#[]⟩, .int .i64 0, .int .u64 0, .int .u64 0, .int .u64 0, .int .u64 0, .int .u64 0] 30 (0, 0))) := by rw [hnew]; exact heap_here _ _ _ rfl
  have n_BL : Hid (Below w.heap.size w w2) := by rw [hnew]; exact below_alloc (BL.out) (Nat.le_refl _)
  have n_HRC : Hid (Rc w2 (w.heap.size + 1) b.length r1 0) := by rw [hnew]; exact rc_alloc (HRC.out) _
  rw [← hnew]
  clear hnew Z BL HRC
  have Z := n_Z; clear n_Z
  have BL := n_BL; clear n_BL
  have HRC := n_HRC; clear n_HRC
  refine (text11_calls w2 ((w.heap.size + 1)) b.length r1 0 HRC.out).mono ?_
  rintro e w3 ⟨rfl, h1, h2⟩
  have n_Z := Go.Lib.hid (keep_heap (keep_only h2) Z.out (by omega))
  have n_X := Go.Lib.hid (keep_heap (keep_only h2) X.out (by omega))
  have n_BL : Hid (Below w.heap.size w w3) := (BL.out).trans (h2.below (by omega))
  clear Z X BL
  have Z := n_Z; clear n_Z
  have X := n_X; clear n_X
  have BL := n_BL; clear n_BL
  clear HRC
  have HRC := Go.Lib.hid h1
  clear h1 h2
  generalize textS r1 0 = tq at *
  obtain ⟨s, r2, f2⟩ := tq
  simp only at HRC HT2 ⊢
  have HT3 := Go.Lib.hid (HT2.out.trans (decOp_f b.length 4 s r2 f2 (rc_le HRC.out)))
  clear HT2
  have hnx : w1.heap.size < w3.heap.size := heap_lt X.out
  have hnz3 : w.heap.size < w3.heap.size := heap_lt Z.out
  have c_X0 := blk_cell X.out 0 (.int .i64 4) rfl
  have c_X1 := blk_cell X.out 1 (.string ⟨#[]⟩) rfl
  have c_X2 := blk_cell X.out 2 (.int .i64 0) rfl
  have c_X3 := blk_cell X.out 3 (.int .u64 0) rfl
  have c_X4 := blk_cell X.out 4 (.int .u64 0) rfl
  have c_X5 := blk_cell X.out 5 (.int .u64 0) rfl
  have c_X6 := blk_cell X.out 6 (.int .u64 0) rfl
  have c_X7 := blk_cell X.out 7 (.int .u64 0) rfl
  have f_X := heap_frozen X.out
  go_wp2_with fail
  clear c_X0 c_X1 c_X2 c_X3 c_X4 c_X5 c_X6 c_X7 f_X
  obtain ⟨w4, hnew⟩ : ∃ W, W = (w3.setCell ⟨w1.heap.size, 1, none⟩ (.string ⟨s.toArray⟩)) := ⟨_, rfl⟩
  have n_Z : Hid (w4.heap[w.heap.size]? = some (.cells #[.int .i64 0, .string ⟨#[]⟩, .int .i64 0, .int .u64 0, .int .u64 0, .int .u64 0, .int .u64 0, .int .u64 0] 30 (0, 0))) := by rw [hnew]; exact (set_other Z.out (by omega) _ _)
  have n_X : Hid (w4.heap[w1.heap.size]? = some (.cells #[.int .i64 4, .string ⟨s.toArray⟩, .int .i64 0, .int .u64 0, .int .u64 0, .int .u64 0, .int .u64 0, .int .u64 0] 30 (0, 0))) := by rw [hnew]; exact (set_heap X.out _ _)
  have n_BL : Hid (Below w.heap.size w w4) := by rw [hnew]; exact below_set (BL.out) (by omega)
  have n_HRC : Hid (Rc w4 (w.heap.size + 1) b.length r2 f2) := by rw [hnew]; exact rc_set (HRC.out) (X.out) (by decide) rfl _ _
  rw [← hnew]
  clear hnew Z X BL HRC
  have Z := n_Z; clear n_Z
  have X := n_X; clear n_X
  have BL := n_BL; clear n_BL
  have HRC := n_HRC; clear n_HRC
  have HTE : Hid (dd = reqOr ⟨4, s, polZ, 0⟩ (endE r2 f2 b.length)) := HT3.out
  clear HT3
  refine (ended_calls ((w.heap.size + 1)) b.length r2 f2 w4 HRC.out).mono ?_
  rintro e w5 ⟨rfl, nd, hnd⟩
  have hdr : Below w4.heap.size w4 w5 := by rw [hnd]; exact below_drewN _ _ _
  clear hnd
  have n_Z := Go.Lib.hid (below_heap hdr Z.out)
  have n_X := Go.Lib.hid (below_heap hdr X.out)
  have n_BL : Hid (Below w.heap.size w w5) := below_then BL.out hdr
  have n_HRC : Hid (Rc w5 (w.heap.size + 1) b.length r2 f2) := rc_below HRC.out hdr
  clear Z X BL HRC
  have Z := n_Z; clear n_Z
  have X := n_X; clear n_X
  have BL := n_BL; clear n_BL
  have HRC := n_HRC; clear n_HRC
  clear hdr HRC
  have hTE := HTE.out
  clear HTE
  have hnz : w.heap.size < w5.heap.size := heap_lt Z.out
  generalize endE r2 f2 b.length = kk at *
  cases kk with
  | zero =>
    have hT : dd = (⟨4, s, polZ, 0⟩, 0) := hTE
    clear hTE
    subst hT
    have c_Z0 := blk_cell Z.out 0 (.int .i64 0) rfl
    have c_Z1 := blk_cell Z.out 1 (.string ⟨#[]⟩) rfl
    have c_Z2 := blk_cell Z.out 2 (.int .i64 0) rfl
    have c_Z3 := blk_cell Z.out 3 (.int .u64 0) rfl
    have c_Z4 := blk_cell Z.out 4 (.int .u64 0) rfl
    have c_Z5 := blk_cell Z.out 5 (.int .u64 0) rfl
    have c_Z6 := blk_cell Z.out 6 (.int .u64 0) rfl
    have c_Z7 := blk_cell Z.out 7 (.int .u64 0) rfl
    have f_Z := heap_frozen Z.out
    have c_X0 := blk_cell X.out 0 (.int .i64 4) rfl
    have c_X1 := blk_cell X.out 1 (.string ⟨s.toArray⟩) rfl
    have c_X2 := blk_cell X.out 2 (.int .i64 0) rfl
    have c_X3 := blk_cell X.out 3 (.int .u64 0) rfl
    have c_X4 := blk_cell X.out 4 (.int .u64 0) rfl
    have c_X5 := blk_cell X.out 5 (.int .u64 0) rfl
    have c_X6 := blk_cell X.out 6 (.int .u64 0) rfl
    have c_X7 := blk_cell X.out 7 (.int .u64 0) rfl
    have f_X := heap_frozen X.out
    go_wp2
    refine bodyPost_ret (v := .tuple #[.agg #[.int .i64 4, .string ⟨s.toArray⟩, .int .i64 0, .int .u64 0, .int .u64 0, .int .u64 0, .int .u64 0, .int .u64 0], .int .i64 0]) (by simp [results, Tryd.results19, go_sem, c_Z0, c_Z1, c_Z2, c_Z3, c_Z4, c_Z5, c_Z6, c_Z7]) rfl ?_
    exact ⟨rfl, set8_below BL.out (Nat.le_refl _) _ _ _ _ _ _ _ _⟩
  | succ m =>
    have hT : dd = (reqZ, m + 1) := hTE
    clear hTE
    subst hT
    have hm1 : (((m + 1 : Nat) : Int) != 0) = true := by rw [bne_iff_ne]; omega
    have hm2 : (((m + 1 : Nat) : Int) == 0) = false := by rw [beq_eq_false_iff_ne]; omega
    obtain ⟨er, her⟩ : ∃ er : Int, er = ((m + 1 : Nat) : Int) := ⟨_, rfl⟩
    rw [← her] at hm1 hm2 ⊢
    have HER := Go.Lib.hid her
    clear her
    have c_Z0 := blk_cell Z.out 0 (.int .i64 0) rfl
    have c_Z1 := blk_cell Z.out 1 (.string ⟨#[]⟩) rfl
    have c_Z2 := blk_cell Z.out 2 (.int .i64 0) rfl
    have c_Z3 := blk_cell Z.out 3 (.int .u64 0) rfl
    have c_Z4 := blk_cell Z.out 4 (.int .u64 0) rfl
    have c_Z5 := blk_cell Z.out 5 (.int .u64 0) rfl
    have c_Z6 := blk_cell Z.out 6 (.int .u64 0) rfl
    have c_Z7 := blk_cell Z.out 7 (.int .u64 0) rfl
    have f_Z := heap_frozen Z.out
    go_wp2
    refine bodyPost_ret (v := .tuple #[.agg #[.int .i64 0, .string ⟨#[]⟩, .int .i64 0, .int .u64 0, .int .u64 0, .int .u64 0, .int .u64 0, .int .u64 0], .int .i64 er]) (by simp [results, Tryd.results19, go_sem, c_Z0, c_Z1, c_Z2, c_Z3, c_Z4, c_Z5, c_Z6, c_Z7]) rfl ?_
    exact ⟨by rw [HER.out]; rfl, set8_below BL.out (Nat.le_refl _) _ _ _ _ _ _ _ _⟩

set_option maxRecDepth 100000 in
set_option maxHeartbeats 3200000 in
theorem rdec_5 (A : Option Addr) (c : Nat) (b : List UInt8) (w : World) (hl : b.length ≤ c) (hc : c ≤ 9223372036854775807) (hA : Cells w A (Bs b)) (hf : (fixedS b 0 1).2.2 = 0 ∧ (fixedS b 0 1).1.toUInt8 = 5) :
    Calls Tryd.prog 19 #[.slice A b.length c] w fun e w' => GaveRF w w' e (decS b) := by
  have HT : Hid (decS b = decQ b.length (fixedS b 0 1)) := rfl
  generalize decS b = dd at *
  have hwi := fixed1_int b 0
  obtain ⟨W0, hW0⟩ : ∃ W, W = (w.alloc (.cells #[.int .i64 0, .string ⟨#[]⟩, .int .i64 0, .int .u64 0, .int .u64 0, .int .u64 0, .int .u64 0, .int .u64 0] 30)).alloc (.cells #[.slice A b.length c, .int .i64 0, .bool false] 88) := ⟨_, rfl⟩
  have hb0 : Below w.heap.size w W0 := by rw [hW0]; exact ((Below.refl _ _).alloc (Nat.le_refl _) _).alloc (by simp) _
  have HRC : Hid (Rc W0 ((w.heap.size + 1)) b.length b 0) := rc_new (by rw [hW0]; exact heap_here _ _ _ (by simp)) hl hc (cells_below hb0 hA) (fun h0 ad ha => by have := cells_lt hA h0 ad ha; omega)
  have BL : Hid (Below w.heap.size w W0) := hb0
  have Z : Hid (W0.heap[w.heap.size]? = some (.cells #[.int .i64 0, .string ⟨#[]⟩, .int .i64 0, .int .u64 0, .int .u64 0, .int .u64 0, .int .u64 0, .int .u64 0] 30 (0, 0))) := by rw [hW0]; exact alloc_heap (heap_here w _ w.heap.size rfl) _
  clear hA hb0
  go_enter Tryd.func19, Tryd.ntmps19
  go_wp2_with fail
  rw [← hW0]
  clear hW0
  refine (number11_calls W0 ((w.heap.size + 1)) b.length b 0 1 1 (by decide) (by decide) (by decide) HRC.out).mono ?_
  rintro e w1 ⟨rfl, h1, h2⟩
  have n_Z := Go.Lib.hid (keep_heap (keep_only h2) Z.out (by omega))
  have n_BL : Hid (Below w.heap.size w w1) := (BL.out).trans (h2.below (by omega))
  clear Z BL
  have Z := n_Z; clear n_Z
  have BL := n_BL; clear n_BL
  clear HRC
  have HRC := Go.Lib.hid h1
  clear h1 h2
  have HF := Go.Lib.hid hf
  clear hf
  generalize fixedS b 0 1 = q at *
  obtain ⟨u, r1, f1⟩ := q
  have hf := HF.out
  clear HF
  simp only at HRC HT hwi hf ⊢
  obtain rfl : f1 = 0 := hf.1
  have hop := hf.2
  clear hf
  rw [hop, show n8 5 = (5 : Int) from rfl] at hwi
  have hnw : w.heap.size < w1.heap.size := heap_lt Z.out
  have hgw : (w.heap.size + 1) < w1.heap.size := rc_lt HRC.out
  have HT2 : Hid (dd = decOp b.length 5 ([], r1, 0)) := by
    show dd = _
    rw [HT.out]
    unfold decQ
    rw [if_neg (by simp)]
    simp only [hop]
    rfl
  clear HT hop
  have s2 := rc_short0 HRC.out
  go_wp2_with fail
  clear s2
  obtain ⟨w2, hnew⟩ : ∃ W, W = (w1.alloc (.cells #[.int .i64 5, .string ⟨#[]⟩, .int .i64 0, .int .u64 0, .int .u64 0, .int .u64 0, .int .u64 0, .int .u64 0] 30)) := ⟨_, rfl⟩
  have n_Z : Hid (w2.heap[w.heap.size]? = some (.cells #[.int .i64 0, .string ⟨#[]⟩, .int .i64 0, .int .u64 0, .int .u64 0, .int .u64 0, .int .u64 0, .int .u64 0] 30 (0, 0))) := by rw [hnew]; exact (alloc_heap Z.out _)
  have X : Hid (w2.heap[w1.heap.size]? = some (.cells #[.int .i64 5, .string ⟨#[]⟩, .int .i64 0, .int .u64 0, .int .u64 0, .int .u64 0, .int .u64 0, .int .u64 0] 30 (0, 0))) := by rw [hnew]; exact heap_here _ _ _ rfl
  have n_BL : Hid (Below w.heap.size w w2) := by rw [hnew]; exact below_alloc (BL.out) (Nat.le_refl _)
  have n_HRC : Hid (Rc w2 (w.heap.size + 1) b.length r1 0) := by rw [hnew]; exact rc_alloc (HRC.out) _
  rw [← hnew]
  clear hnew Z BL HRC
  have Z := n_Z; clear n_Z
  have BL := n_BL; clear n_BL
  have HRC := n_HRC; clear n_HRC
  have HTE : Hid (dd = reqOr ⟨5, [], polZ, 0⟩ (endE r1 0 b.length)) := HT2.out
  clear HT2
  refine (ended_calls ((w.heap.size + 1)) b.length r1 0 w2 HRC.out).mono ?_
  rintro e w3 ⟨rfl, nd, hnd⟩
  have hdr : Below w2.heap.size w2 w3 := by rw [hnd]; exact below_drewN _ _ _
  clear hnd
  have n_Z := Go.Lib.hid (below_heap hdr Z.out)
  have n_X := Go.Lib.hid (below_heap hdr X.out)
  have n_BL : Hid (Below w.heap.size w w3) := below_then BL.out hdr
  have n_HRC : Hid (Rc w3 (w.heap.size + 1) b.length r1 0) := rc_below HRC.out hdr
  clear Z X BL HRC
  have Z := n_Z; clear n_Z
  have X := n_X; clear n_X
  have BL := n_BL; clear n_BL
  have HRC := n_HRC; clear n_HRC
  clear hdr HRC
  have hTE := HTE.out
  clear HTE
  have hnz : w.heap.size < w3.heap.size := heap_lt Z.out
  generalize endE r1 0 b.length = kk at *
  cases kk with
  | zero =>
    have hT : dd = (⟨5, [], polZ, 0⟩, 0) := hTE
    clear hTE
    subst hT
    have c_Z0 := blk_cell Z.out 0 (.int .i64 0) rfl
    have c_Z1 := blk_cell Z.out 1 (.string ⟨#[]⟩) rfl
    have c_Z2 := blk_cell Z.out 2 (.int .i64 0) rfl
    have c_Z3 := blk_cell Z.out 3 (.int .u64 0) rfl
    have c_Z4 := blk_cell Z.out 4 (.int .u64 0) rfl
    have c_Z5 := blk_cell Z.out 5 (.int .u64 0) rfl
    have c_Z6 := blk_cell Z.out 6 (.int .u64 0) rfl
    have c_Z7 := blk_cell Z.out 7 (.int .u64 0) rfl
    have f_Z := heap_frozen Z.out
    have c_X0 := blk_cell X.out 0 (.int .i64 5) rfl
    have c_X1 := blk_cell X.out 1 (.string ⟨#[]⟩) rfl
    have c_X2 := blk_cell X.out 2 (.int .i64 0) rfl
    have c_X3 := blk_cell X.out 3 (.int .u64 0) rfl
    have c_X4 := blk_cell X.out 4 (.int .u64 0) rfl
    have c_X5 := blk_cell X.out 5 (.int .u64 0) rfl
    have c_X6 := blk_cell X.out 6 (.int .u64 0) rfl
    have c_X7 := blk_cell X.out 7 (.int .u64 0) rfl
    have f_X := heap_frozen X.out
    go_wp2
    refine bodyPost_ret (v := .tuple #[.agg #[.int .i64 5, .string ⟨#[]⟩, .int .i64 0, .int .u64 0, .int .u64 0, .int .u64 0, .int .u64 0, .int .u64 0], .int .i64 0]) (by simp [results, Tryd.results19, go_sem, c_Z0, c_Z1, c_Z2, c_Z3, c_Z4, c_Z5, c_Z6, c_Z7]) rfl ?_
    exact ⟨rfl, set8_below BL.out (Nat.le_refl _) _ _ _ _ _ _ _ _⟩
  | succ m =>
    have hT : dd = (reqZ, m + 1) := hTE
    clear hTE
    subst hT
    have hm1 : (((m + 1 : Nat) : Int) != 0) = true := by rw [bne_iff_ne]; omega
    have hm2 : (((m + 1 : Nat) : Int) == 0) = false := by rw [beq_eq_false_iff_ne]; omega
    obtain ⟨er, her⟩ : ∃ er : Int, er = ((m + 1 : Nat) : Int) := ⟨_, rfl⟩
    rw [← her] at hm1 hm2 ⊢
    have HER := Go.Lib.hid her
    clear her
    have c_Z0 := blk_cell Z.out 0 (.int .i64 0) rfl
    have c_Z1 := blk_cell Z.out 1 (.string ⟨#[]⟩) rfl
    have c_Z2 := blk_cell Z.out 2 (.int .i64 0) rfl
    have c_Z3 := blk_cell Z.out 3 (.int .u64 0) rfl
    have c_Z4 := blk_cell Z.out 4 (.int .u64 0) rfl
    have c_Z5 := blk_cell Z.out 5 (.int .u64 0) rfl
    have c_Z6 := blk_cell Z.out 6 (.int .u64 0) rfl
    have c_Z7 := blk_cell Z.out 7 (.int .u64 0) rfl
    have f_Z := heap_frozen Z.out
    go_wp2
    refine bodyPost_ret (v := .tuple #[.agg #[.int .i64 0, .string ⟨#[]⟩, .int .i64 0, .int .u64 0, .int .u64 0, .int .u64 0, .int .u64 0, .int .u64 0], .int .i64 er]) (by simp [results, Tryd.results19, go_sem, c_Z0, c_Z1, c_Z2, c_Z3, c_Z4, c_Z5, c_Z6, c_Z7]) rfl ?_
    exact ⟨by rw [HER.out]; rfl, set8_below BL.out (Nat.le_refl _) _ _ _ _ _ _ _ _⟩

theorem rdecode_calls (A : Option Addr) (c : Nat) (b : List UInt8) (w : World) (hl : b.length ≤ c) (hc : c ≤ 9223372036854775807) (hA : Cells w A (Bs b)) :
    Calls Tryd.prog 19 #[.slice A b.length c] w fun e w' => GaveRF w w' e (decS b) := by
  by_cases hf : (fixedS b 0 1).2.2 = 0
  · have hc' : ∀ x : UInt8, x.toNat < 1 ∨ 5 < x.toNat ∨ x = 1 ∨ x = 2 ∨ x = 3 ∨ x = 4 ∨ x = 5 := fun x => by
      have h : x.toNat < 1 ∨ 5 < x.toNat ∨ x.toNat = 1 ∨ x.toNat = 2 ∨ x.toNat = 3 ∨ x.toNat = 4 ∨ x.toNat = 5 := by omega
      rcases h with h | h | h | h | h | h | h
      · exact .inl h
      · exact .inr (.inl h)
      · exact .inr (.inr (.inl (UInt8.toNat_inj.1 h)))
      · exact .inr (.inr (.inr (.inl (UInt8.toNat_inj.1 h))))
      · exact .inr (.inr (.inr (.inr (.inl (UInt8.toNat_inj.1 h)))))
      · exact .inr (.inr (.inr (.inr (.inr (.inl (UInt8.toNat_inj.1 h))))))
      · exact .inr (.inr (.inr (.inr (.inr (.inr (UInt8.toNat_inj.1 h))))))
    rcases hc' (fixedS b 0 1).1.toUInt8 with h | h | h | h | h | h | h
    · exact rdec_lo A c b w hl hc hA ⟨hf, h⟩
    · exact rdec_hi A c b w hl hc hA ⟨hf, h⟩
    · exact rdec_1 A c b w hl hc hA ⟨hf, h⟩
    · exact rdec_2 A c b w hl hc hA ⟨hf, h⟩
    · exact rdec_3 A c b w hl hc hA ⟨hf, h⟩
    · exact rdec_4 A c b w hl hc hA ⟨hf, h⟩
    · exact rdec_5 A c b w hl hc hA ⟨hf, h⟩
  · exact rdec_fault A c b w hl hc hA hf
end Go.Proofs.YtonfeppenhebjaaDoor
