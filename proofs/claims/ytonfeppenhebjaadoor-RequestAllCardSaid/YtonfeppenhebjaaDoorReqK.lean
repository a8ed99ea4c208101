/- Package request: kept. (Printed by gen_reqk.py of this session.) -/
import Derived.Test.YtonfeppenhebjaaDoorReqEnd
import Derived.BigRegion
namespace Go.Proofs.YtonfeppenhebjaaDoor
open Go Go.RowKit
set_option linter.unusedVariables false
set_option linter.unusedSimpArgs false
attribute [local go_sem] IntKind.wrap_u64 c64_8 c8_64 c16_64 c32_64 c64_16 c64_32 or8 and8 n64_self n8_self beq_n64 beq_n8 bne_n8 bne_n64 beq_n64_0 bne_n64_0 wrap_b8

/-- what of a reply stands behind its code -/
def keptS (a : Ans) : Rep :=
  if a.op = 2 ∧ a.rep.code = 1 then ⟨a.rep.code, a.rep.at_, a.rep.retry, polZ, levZ⟩
  else if a.op = 2 ∧ a.rep.code = 0 then ⟨a.rep.code, a.rep.at_, 0, polZ, levZ⟩
  else if a.op = 3 ∧ a.rep.code = 0 then ⟨a.rep.code, a.rep.at_, 0, a.rep.pol, a.rep.lev⟩
  else ⟨a.rep.code, 0, 0, polZ, levZ⟩

set_option maxRecDepth 100000 in
set_option maxHeartbeats 1600000 in
theorem kept_21 (a r : UInt64) (k : Int) (p1 p2 p3 p4 l1 l2 l3 : UInt64) (w : World) :
    Calls Tryd.prog 35 #[.agg #[.int .i64 2, .int .i64 1, .int .u64 (n64 a), .int .u64 (n64 r), .int .i64 k, .int .u64 (n64 p1), .int .u64 (n64 p2), .int .u64 (n64 p3), .int .u64 (n64 p4), .int .u64 (n64 l1), .int .u64 (n64 l2), .int .u64 (n64 l3)]] w fun e w' => e = .returned (.agg #[.int .i64 1, .int .u64 (n64 a), .int .u64 (n64 r), .int .i64 0, .int .u64 0, .int .u64 0, .int .u64 0, .int .u64 0, .int .u64 0, .int .u64 0, .int .u64 0]) ∧ Below w.heap.size w w' := by
  go_enter Tryd.func35, Tryd.ntmps35
  go_wp2
  go_region
  all_goals
    go_wp2
    refine bodyPost_ret (v := .agg #[.int .i64 1, .int .u64 (n64 a), .int .u64 (n64 r), .int .i64 0, .int .u64 0, .int .u64 0, .int .u64 0, .int .u64 0, .int .u64 0, .int .u64 0, .int .u64 0]) (by simp [results, Tryd.results35, go_sem]) rfl ⟨rfl, ?_⟩
    first
      | exact ((((Below.refl _ _).alloc (Nat.le_refl _) _).alloc (by simp) _).alloc (by simp; omega) _)
      | exact ((((Below.refl _ _).alloc (Nat.le_refl _) _).alloc (by simp) _).alloc (by simp; omega) _).drew

set_option maxRecDepth 100000 in
set_option maxHeartbeats 1600000 in
theorem kept_20 (a r : UInt64) (k : Int) (p1 p2 p3 p4 l1 l2 l3 : UInt64) (w : World) :
    Calls Tryd.prog 35 #[.agg #[.int .i64 2, .int .i64 0, .int .u64 (n64 a), .int .u64 (n64 r), .int .i64 k, .int .u64 (n64 p1), .int .u64 (n64 p2), .int .u64 (n64 p3), .int .u64 (n64 p4), .int .u64 (n64 l1), .int .u64 (n64 l2), .int .u64 (n64 l3)]] w fun e w' => e = .returned (.agg #[.int .i64 0, .int .u64 (n64 a), .int .u64 0, .int .i64 0, .int .u64 0, .int .u64 0, .int .u64 0, .int .u64 0, .int .u64 0, .int .u64 0, .int .u64 0]) ∧ Below w.heap.size w w' := by
  go_enter Tryd.func35, Tryd.ntmps35
  go_wp2
  all_goals
    refine bodyPost_ret (v := .agg #[.int .i64 0, .int .u64 (n64 a), .int .u64 0, .int .i64 0, .int .u64 0, .int .u64 0, .int .u64 0, .int .u64 0, .int .u64 0, .int .u64 0, .int .u64 0]) (by simp [results, Tryd.results35, go_sem]) rfl ⟨rfl, ?_⟩
    first
      | exact ((((Below.refl _ _).alloc (Nat.le_refl _) _).alloc (by simp) _).alloc (by simp; omega) _)
      | exact ((((Below.refl _ _).alloc (Nat.le_refl _) _).alloc (by simp) _).alloc (by simp; omega) _).drew

set_option maxRecDepth 100000 in
set_option maxHeartbeats 1600000 in
theorem kept_30 (a r : UInt64) (k : Int) (p1 p2 p3 p4 l1 l2 l3 : UInt64) (w : World) :
    Calls Tryd.prog 35 #[.agg #[.int .i64 3, .int .i64 0, .int .u64 (n64 a), .int .u64 (n64 r), .int .i64 k, .int .u64 (n64 p1), .int .u64 (n64 p2), .int .u64 (n64 p3), .int .u64 (n64 p4), .int .u64 (n64 l1), .int .u64 (n64 l2), .int .u64 (n64 l3)]] w fun e w' => e = .returned (.agg #[.int .i64 0, .int .u64 (n64 a), .int .u64 0, .int .i64 k, .int .u64 (n64 p1), .int .u64 (n64 p2), .int .u64 (n64 p3), .int .u64 (n64 p4), .int .u64 (n64 l1), .int .u64 (n64 l2), .int .u64 (n64 l3)]) ∧ Below w.heap.size w w' := by
  go_enter Tryd.func35, Tryd.ntmps35
  go_wp2
  go_region
  all_goals
    go_wp2
    refine bodyPost_ret (v := .agg #[.int .i64 0, .int .u64 (n64 a), .int .u64 0, .int .i64 k, .int .u64 (n64 p1), .int .u64 (n64 p2), .int .u64 (n64 p3), .int .u64 (n64 p4), .int .u64 (n64 l1), .int .u64 (n64 l2), .int .u64 (n64 l3)]) (by simp [results, Tryd.results35, go_sem]) rfl ⟨rfl, ?_⟩
    first
      | exact ((((Below.refl _ _).alloc (Nat.le_refl _) _).alloc (by simp) _).alloc (by simp; omega) _)
      | exact ((((Below.refl _ _).alloc (Nat.le_refl _) _).alloc (by simp) _).alloc (by simp; omega) _).drew

set_option maxRecDepth 100000 in
set_option maxHeartbeats 1600000 in
theorem kept_2x (a r : UInt64) (k : Int) (p1 p2 p3 p4 l1 l2 l3 : UInt64) (code : Int) (w : World) (h0 : (code == 0) = false) (h1 : (code == 1) = false) :
    Calls Tryd.prog 35 #[.agg #[.int .i64 2, .int .i64 code, .int .u64 (n64 a), .int .u64 (n64 r), .int .i64 k, .int .u64 (n64 p1), .int .u64 (n64 p2), .int .u64 (n64 p3), .int .u64 (n64 p4), .int .u64 (n64 l1), .int .u64 (n64 l2), .int .u64 (n64 l3)]] w fun e w' => e = .returned (.agg #[.int .i64 code, .int .u64 0, .int .u64 0, .int .i64 0, .int .u64 0, .int .u64 0, .int .u64 0, .int .u64 0, .int .u64 0, .int .u64 0, .int .u64 0]) ∧ Below w.heap.size w w' := by
  go_enter Tryd.func35, Tryd.ntmps35
  go_wp2
  all_goals
    refine bodyPost_ret (v := .agg #[.int .i64 code, .int .u64 0, .int .u64 0, .int .i64 0, .int .u64 0, .int .u64 0, .int .u64 0, .int .u64 0, .int .u64 0, .int .u64 0, .int .u64 0]) (by simp [results, Tryd.results35, go_sem]) rfl ⟨rfl, ?_⟩
    first
      | exact ((((Below.refl _ _).alloc (Nat.le_refl _) _).alloc (by simp) _).alloc (by simp; omega) _)
      | exact ((((Below.refl _ _).alloc (Nat.le_refl _) _).alloc (by simp) _).alloc (by simp; omega) _).drew

set_option maxRecDepth 100000 in
set_option maxHeartbeats 1600000 in
theorem kept_3x (a r : UInt64) (k : Int) (p1 p2 p3 p4 l1 l2 l3 : UInt64) (code : Int) (w : World) (h0 : (code == 0) = false) :
    Calls Tryd.prog 35 #[.agg #[.int .i64 3, .int .i64 code, .int .u64 (n64 a), .int .u64 (n64 r), .int .i64 k, .int .u64 (n64 p1), .int .u64 (n64 p2), .int .u64 (n64 p3), .int .u64 (n64 p4), .int .u64 (n64 l1), .int .u64 (n64 l2), .int .u64 (n64 l3)]] w fun e w' => e = .returned (.agg #[.int .i64 code, .int .u64 0, .int .u64 0, .int .i64 0, .int .u64 0, .int .u64 0, .int .u64 0, .int .u64 0, .int .u64 0, .int .u64 0, .int .u64 0]) ∧ Below w.heap.size w w' := by
  go_enter Tryd.func35, Tryd.ntmps35
  go_wp2
  all_goals
    refine bodyPost_ret (v := .agg #[.int .i64 code, .int .u64 0, .int .u64 0, .int .i64 0, .int .u64 0, .int .u64 0, .int .u64 0, .int .u64 0, .int .u64 0, .int .u64 0, .int .u64 0]) (by simp [results, Tryd.results35, go_sem]) rfl ⟨rfl, ?_⟩
    first
      | exact ((((Below.refl _ _).alloc (Nat.le_refl _) _).alloc (by simp) _).alloc (by simp; omega) _)
      | exact ((((Below.refl _ _).alloc (Nat.le_refl _) _).alloc (by simp) _).alloc (by simp; omega) _).drew

set_option maxRecDepth 100000 in
set_option maxHeartbeats 1600000 in
theorem kept_x (a r : UInt64) (k : Int) (p1 p2 p3 p4 l1 l2 l3 : UInt64) (op code : Int) (w : World) (h2 : (op == 2) = false) (h3 : (op == 3) = false) :
    Calls Tryd.prog 35 #[.agg #[.int .i64 op, .int .i64 code, .int .u64 (n64 a), .int .u64 (n64 r), .int .i64 k, .int .u64 (n64 p1), .int .u64 (n64 p2), .int .u64 (n64 p3), .int .u64 (n64 p4), .int .u64 (n64 l1), .int .u64 (n64 l2), .int .u64 (n64 l3)]] w fun e w' => e = .returned (.agg #[.int .i64 code, .int .u64 0, .int .u64 0, .int .i64 0, .int .u64 0, .int .u64 0, .int .u64 0, .int .u64 0, .int .u64 0, .int .u64 0, .int .u64 0]) ∧ Below w.heap.size w w' := by
  go_enter Tryd.func35, Tryd.ntmps35
  go_wp2
  all_goals
    refine bodyPost_ret (v := .agg #[.int .i64 code, .int .u64 0, .int .u64 0, .int .i64 0, .int .u64 0, .int .u64 0, .int .u64 0, .int .u64 0, .int .u64 0, .int .u64 0, .int .u64 0]) (by simp [results, Tryd.results35, go_sem]) rfl ⟨rfl, ?_⟩
    first
      | exact ((((Below.refl _ _).alloc (Nat.le_refl _) _).alloc (by simp) _).alloc (by simp; omega) _)
      | exact ((((Below.refl _ _).alloc (Nat.le_refl _) _).alloc (by simp) _).alloc (by simp; omega) _).drew

theorem kept_calls (a : Ans) (w : World) : Calls Tryd.prog 35 #[.agg (ansA a)] w fun e w' => e = .returned (.agg (repA (keptS a))) ∧ Below w.heap.size w w' := by
  obtain ⟨op, ⟨code, at_, retry, ⟨k, p1, p2, p3, p4⟩, ⟨l1, l2, l3⟩⟩⟩ := a
  by_cases o2 : op = 2
  · subst o2
    by_cases c1 : code = 1
    · subst c1; exact kept_21 at_ retry k p1 p2 p3 p4 l1 l2 l3 w
    by_cases c0 : code = 0
    · subst c0; exact kept_20 at_ retry k p1 p2 p3 p4 l1 l2 l3 w
    · have hK : keptS ⟨2, ⟨code, at_, retry, ⟨k, p1, p2, p3, p4⟩, ⟨l1, l2, l3⟩⟩⟩ = ⟨code, 0, 0, polZ, levZ⟩ := by unfold keptS; rw [if_neg (by simp [c1]), if_neg (by simp [c0]), if_neg (by simp)]
      rw [hK]
      exact kept_2x at_ retry k p1 p2 p3 p4 l1 l2 l3 code w (beq_eq_false_iff_ne.2 c0) (beq_eq_false_iff_ne.2 c1)
  by_cases o3 : op = 3
  · subst o3
    by_cases c0 : code = 0
    · subst c0; exact kept_30 at_ retry k p1 p2 p3 p4 l1 l2 l3 w
    · have hK : keptS ⟨3, ⟨code, at_, retry, ⟨k, p1, p2, p3, p4⟩, ⟨l1, l2, l3⟩⟩⟩ = ⟨code, 0, 0, polZ, levZ⟩ := by unfold keptS; rw [if_neg (by simp), if_neg (by simp), if_neg (by simp [c0])]
      rw [hK]
      exact kept_3x at_ retry k p1 p2 p3 p4 l1 l2 l3 code w (beq_eq_false_iff_ne.2 c0)
  · have hK : keptS ⟨op, ⟨code, at_, retry, ⟨k, p1, p2, p3, p4⟩, ⟨l1, l2, l3⟩⟩⟩ = ⟨code, 0, 0, polZ, levZ⟩ := by unfold keptS; rw [if_neg (by simp [o2]), if_neg (by simp [o2]), if_neg (by simp [o3])]
    rw [hK]
    exact kept_x at_ retry k p1 p2 p3 p4 l1 l2 l3 op code w (beq_eq_false_iff_ne.2 o2) (beq_eq_false_iff_ne.2 o3)
end Go.Proofs.YtonfeppenhebjaaDoor
