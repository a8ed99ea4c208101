/- Errors: two places that differ; '==' and '!=' of errors. -/
import Derived.Test.YtipjdkdonmoojaaDoorDPackR2
import Derived.LaidEql
namespace Go.Proofs.YtipjdkdonmoojaaDoor
open Go Go.RowKit
set_option linter.unusedVariables false
set_option linter.unusedSimpArgs false

/-- the two errors differ -/
def Apart (w : World) (a0 a1 : Addr) : Prop := a0 ≠ a1 ∧ (∃ c t, w.heap[a0.block]? = some (.cells c t (0, 0))) ∧ ∃ c t, w.heap[a1.block]? = some (.cells c t (0, 0))
theorem apart_below {w w1 : World} {a0 a1 : Addr} (h : Apart w a0 a1) (hb : Below w.heap.size w w1) : Apart w1 a0 a1 := by
  obtain ⟨h1, ⟨c0, t0, h2⟩, c1, t1, h3⟩ := h
  exact ⟨h1, ⟨c0, t0, below_heap hb h2⟩, c1, t1, below_heap hb h3⟩
theorem infoPtr : (Tryd.prog.info? 112).map (·.comparable) = some true := by kernel_rfl
theorem infoErr : (Tryd.prog.info? 127).map (·.size) = some 1 := by kernel_rfl
theorem eql_same (w : World) (a : Addr) : (binOp .eql 34 (.iface 112 (.pointer (some a))) (.iface 112 (.pointer (some a)))).run Tryd.prog w = .ok (.bool true) w := by
  obtain ⟨i, hi, hc⟩ := Option.map_eq_some_iff.1 infoPtr
  obtain ⟨j, hj, hs⟩ := Option.map_eq_some_iff.1 infoErr
  exact run_eql_iface_ptr_same w a Tryd.underlying34 Tryd.underlying112 hi hc hj
theorem eql_other {w : World} {a b : Addr} (h : Apart w a b) : (binOp .eql 34 (.iface 112 (.pointer (some a))) (.iface 112 (.pointer (some b)))).run Tryd.prog w = .ok (.bool false) w := by
  obtain ⟨i, hi, hc⟩ := Option.map_eq_some_iff.1 infoPtr
  obtain ⟨j, hj, hs⟩ := Option.map_eq_some_iff.1 infoErr
  obtain ⟨h1, ⟨c0, t0, h2⟩, c1, t1, h3⟩ := h
  exact run_eql_iface_ptr_other w Tryd.underlying34 Tryd.underlying112 hi hc hj (by rw [hs]; decide) h1 h2 h3

theorem neq_same (w : World) (a : Addr) : (binOp .neq 34 (.iface 112 (.pointer (some a))) (.iface 112 (.pointer (some a)))).run Tryd.prog w = .ok (.bool false) w := by
  obtain ⟨i, hi, hc⟩ := Option.map_eq_some_iff.1 infoPtr
  obtain ⟨j, hj, hs⟩ := Option.map_eq_some_iff.1 infoErr
  simp only [binOp]
  simp [Op.equal, Op.maxDepth, run_equalIn_iface_ptr_same w 9998 a Tryd.underlying34 Tryd.underlying112 hi hc hj]
theorem neq_other {w : World} {a b : Addr} (h : Apart w a b) : (binOp .neq 34 (.iface 112 (.pointer (some a))) (.iface 112 (.pointer (some b)))).run Tryd.prog w = .ok (.bool true) w := by
  obtain ⟨i, hi, hc⟩ := Option.map_eq_some_iff.1 infoPtr
  obtain ⟨j, hj, hs⟩ := Option.map_eq_some_iff.1 infoErr
  obtain ⟨h1, ⟨c0, t0, h2⟩, c1, t1, h3⟩ := h
  simp only [binOp]
  simp [Op.equal, Op.maxDepth, run_equalIn_iface_ptr_other w 9998 Tryd.underlying34 Tryd.underlying112 hi hc hj (by rw [hs]; decide) h1 h2 h3]
theorem apart_symm {w : World} {a b : Addr} (h : Apart w a b) : Apart w b a := ⟨fun e => h.1 e.symm, h.2.2, h.2.1⟩
end Go.Proofs.YtipjdkdonmoojaaDoor
