/- The errors of package api against their numbers. (Printed by gen_errs.py of this session.) -/
import Derived.Test.YtipjdkdonmoojaaDoorDErrEq
namespace Go.Proofs.YtipjdkdonmoojaaDoor
open Go Go.RowKit
set_option linter.unusedVariables false
set_option linter.unusedSimpArgs false

/-- the error with number k; 0: nil -/
def errv (p : Nat → Addr) : Nat → Value
  | 0 => .nilIface
  | k + 1 => .iface 112 (.pointer (some (p (k + 1))))
/-- an error's variable -/
def errG : Nat → Nat
  | 1 => 0
  | 2 => 2
  | 3 => 3
  | 4 => 1
  | 5 => 4
  | 6 => 6
  | 7 => 7
  | 8 => 8
  | 9 => 9
  | 10 => 10
  | 11 => 11
  | 12 => 12
  | 13 => 13
  | 14 => 14
  | 15 => 5
  | _ => 0
/-- all errors hold what the program's text lays: fifteen places, pairwise apart -/
def ErrsAt (w : World) (p : Nat → Addr) : Prop :=
  (∀ k, 1 ≤ k → k ≤ 15 → w.cell? ⟨errG k, 0, none⟩ = some (errv p k) ∧ ∃ c t, w.heap[(p k).block]? = some (.cells c t (0, 0))) ∧
  ∀ i j, 1 ≤ i → i ≤ 15 → 1 ≤ j → j ≤ 15 → i ≠ j → p i ≠ p j
theorem errsAt_below {w w1 : World} {p : Nat → Addr} (h : ErrsAt w p) (hb : Below w.heap.size w w1) : ErrsAt w1 p :=
  ⟨fun k h1 h2 => ⟨below_cell hb (h.1 k h1 h2).1, by obtain ⟨c, t, hc⟩ := (h.1 k h1 h2).2; exact ⟨c, t, below_heap hb hc⟩⟩, h.2⟩
theorem errsAt_two {w : World} {p : Nat → Addr} (h : ErrsAt w p) : Errs w (p 2) (p 3) := ⟨(h.1 2 (by decide) (by decide)).1, (h.1 3 (by decide) (by decide)).1⟩
theorem errsAt_apart {w : World} {p : Nat → Addr} (h : ErrsAt w p) (i j : Nat) (hi : 1 ≤ i) (hi' : i ≤ 15) (hj : 1 ≤ j) (hj' : j ≤ 15) (hne : i ≠ j) : Apart w (p i) (p j) :=
  ⟨h.2 i j hi hi' hj hj' hne, (h.1 i hi hi').2, (h.1 j hj hj').2⟩
/-- a reader's fault as an error's number -/
def fault : Nat → Nat
  | 0 => 0
  | 1 => 2
  | _ => 3
theorem fv_errv (p : Nat → Addr) (f : Nat) : fv (p 2) (p 3) f = errv p (fault f) := by rcases f with _ | _ | f <;> rfl
theorem faultE_le (f : Nat) : fault f ≤ 15 := by rcases f with _ | _ | f <;> (simp only [fault]; omega)

set_option maxRecDepth 100000 in
set_option maxHeartbeats 800000 in
theorem of_0 (w : World) (p : Nat → Addr) (hp : ErrsAt w p) :
    Calls Tryd.prog 43 #[errv p 0] w fun e w' => e = .returned (.int .i64 0) ∧ w' = w := by
  show Calls Tryd.prog 43 #[.nilIface] w _
  clear hp
  go_enter Tryd.func43, Tryd.ntmps43
  go_wp2
  go_ret
  exact ⟨rfl, rfl⟩

set_option maxRecDepth 100000 in
set_option maxHeartbeats 800000 in
theorem of_1 (w : World) (p : Nat → Addr) (hp : ErrsAt w p) :
    Calls Tryd.prog 43 #[errv p 1] w fun e w' => e = .returned (.int .i64 1) ∧ w' = w := by
  have os := eql_same w (p 1)
  have e1 : w.cell? ⟨0, 0, none⟩ = some (.iface 112 (.pointer (some (p 1)))) := (hp.1 1 (by decide) (by decide)).1
  clear hp
  show Calls Tryd.prog 43 #[.iface 112 (.pointer (some (p 1)))] w _
  generalize p 1 = q1 at *
  go_enter Tryd.func43, Tryd.ntmps43
  go_wp2
  go_ret
  exact ⟨rfl, rfl⟩

set_option maxRecDepth 100000 in
set_option maxHeartbeats 800000 in
theorem of_2 (w : World) (p : Nat → Addr) (hp : ErrsAt w p) :
    Calls Tryd.prog 43 #[errv p 2] w fun e w' => e = .returned (.int .i64 2) ∧ w' = w := by
  have o1 := eql_other (errsAt_apart hp 2 1 (by decide) (by decide) (by decide) (by decide) (by decide))
  have os := eql_same w (p 2)
  have e1 : w.cell? ⟨0, 0, none⟩ = some (.iface 112 (.pointer (some (p 1)))) := (hp.1 1 (by decide) (by decide)).1
  have e2 : w.cell? ⟨2, 0, none⟩ = some (.iface 112 (.pointer (some (p 2)))) := (hp.1 2 (by decide) (by decide)).1
  clear hp
  show Calls Tryd.prog 43 #[.iface 112 (.pointer (some (p 2)))] w _
  generalize p 2 = q2 at *
  generalize p 1 = q1 at *
  go_enter Tryd.func43, Tryd.ntmps43
  go_wp2
  go_ret
  exact ⟨rfl, rfl⟩

set_option maxRecDepth 100000 in
set_option maxHeartbeats 800000 in
theorem of_3 (w : World) (p : Nat → Addr) (hp : ErrsAt w p) :
    Calls Tryd.prog 43 #[errv p 3] w fun e w' => e = .returned (.int .i64 3) ∧ w' = w := by
  have o1 := eql_other (errsAt_apart hp 3 1 (by decide) (by decide) (by decide) (by decide) (by decide))
  have o2 := eql_other (errsAt_apart hp 3 2 (by decide) (by decide) (by decide) (by decide) (by decide))
  have os := eql_same w (p 3)
  have e1 : w.cell? ⟨0, 0, none⟩ = some (.iface 112 (.pointer (some (p 1)))) := (hp.1 1 (by decide) (by decide)).1
  have e2 : w.cell? ⟨2, 0, none⟩ = some (.iface 112 (.pointer (some (p 2)))) := (hp.1 2 (by decide) (by decide)).1
  have e3 : w.cell? ⟨3, 0, none⟩ = some (.iface 112 (.pointer (some (p 3)))) := (hp.1 3 (by decide) (by decide)).1
  clear hp
  show Calls Tryd.prog 43 #[.iface 112 (.pointer (some (p 3)))] w _
  generalize p 3 = q3 at *
  generalize p 1 = q1 at *
  generalize p 2 = q2 at *
  go_enter Tryd.func43, Tryd.ntmps43
  go_wp2
  go_ret
  exact ⟨rfl, rfl⟩

set_option maxRecDepth 100000 in
set_option maxHeartbeats 800000 in
theorem of_4 (w : World) (p : Nat → Addr) (hp : ErrsAt w p) :
    Calls Tryd.prog 43 #[errv p 4] w fun e w' => e = .returned (.int .i64 4) ∧ w' = w := by
  have o1 := eql_other (errsAt_apart hp 4 1 (by decide) (by decide) (by decide) (by decide) (by decide))
  have o2 := eql_other (errsAt_apart hp 4 2 (by decide) (by decide) (by decide) (by decide) (by decide))
  have o3 := eql_other (errsAt_apart hp 4 3 (by decide) (by decide) (by decide) (by decide) (by decide))
  have os := eql_same w (p 4)
  have e1 : w.cell? ⟨0, 0, none⟩ = some (.iface 112 (.pointer (some (p 1)))) := (hp.1 1 (by decide) (by decide)).1
  have e2 : w.cell? ⟨2, 0, none⟩ = some (.iface 112 (.pointer (some (p 2)))) := (hp.1 2 (by decide) (by decide)).1
  have e3 : w.cell? ⟨3, 0, none⟩ = some (.iface 112 (.pointer (some (p 3)))) := (hp.1 3 (by decide) (by decide)).1
  have e4 : w.cell? ⟨1, 0, none⟩ = some (.iface 112 (.pointer (some (p 4)))) := (hp.1 4 (by decide) (by decide)).1
  clear hp
  show Calls Tryd.prog 43 #[.iface 112 (.pointer (some (p 4)))] w _
  generalize p 4 = q4 at *
  generalize p 1 = q1 at *
  generalize p 2 = q2 at *
  generalize p 3 = q3 at *
  go_enter Tryd.func43, Tryd.ntmps43
  go_wp2
  go_ret
  exact ⟨rfl, rfl⟩

set_option maxRecDepth 100000 in
set_option maxHeartbeats 800000 in
theorem of_5 (w : World) (p : Nat → Addr) (hp : ErrsAt w p) :
    Calls Tryd.prog 43 #[errv p 5] w fun e w' => e = .returned (.int .i64 5) ∧ w' = w := by
  have o1 := eql_other (errsAt_apart hp 5 1 (by decide) (by decide) (by decide) (by decide) (by decide))
  have o2 := eql_other (errsAt_apart hp 5 2 (by decide) (by decide) (by decide) (by decide) (by decide))
  have o3 := eql_other (errsAt_apart hp 5 3 (by decide) (by decide) (by decide) (by decide) (by decide))
  have o4 := eql_other (errsAt_apart hp 5 4 (by decide) (by decide) (by decide) (by decide) (by decide))
  have os := eql_same w (p 5)
  have e1 : w.cell? ⟨0, 0, none⟩ = some (.iface 112 (.pointer (some (p 1)))) := (hp.1 1 (by decide) (by decide)).1
  have e2 : w.cell? ⟨2, 0, none⟩ = some (.iface 112 (.pointer (some (p 2)))) := (hp.1 2 (by decide) (by decide)).1
  have e3 : w.cell? ⟨3, 0, none⟩ = some (.iface 112 (.pointer (some (p 3)))) := (hp.1 3 (by decide) (by decide)).1
  have e4 : w.cell? ⟨1, 0, none⟩ = some (.iface 112 (.pointer (some (p 4)))) := (hp.1 4 (by decide) (by decide)).1
  have e5 : w.cell? ⟨4, 0, none⟩ = some (.iface 112 (.pointer (some (p 5)))) := (hp.1 5 (by decide) (by decide)).1
  clear hp
  show Calls Tryd.prog 43 #[.iface 112 (.pointer (some (p 5)))] w _
  generalize p 5 = q5 at *
  generalize p 1 = q1 at *
  generalize p 2 = q2 at *
  generalize p 3 = q3 at *
  generalize p 4 = q4 at *
  go_enter Tryd.func43, Tryd.ntmps43
  go_wp2
  go_ret
  exact ⟨rfl, rfl⟩

set_option maxRecDepth 100000 in
set_option maxHeartbeats 800000 in
theorem of_6 (w : World) (p : Nat → Addr) (hp : ErrsAt w p) :
    Calls Tryd.prog 43 #[errv p 6] w fun e w' => e = .returned (.int .i64 6) ∧ w' = w := by
  have o1 := eql_other (errsAt_apart hp 6 1 (by decide) (by decide) (by decide) (by decide) (by decide))
  have o2 := eql_other (errsAt_apart hp 6 2 (by decide) (by decide) (by decide) (by decide) (by decide))
  have o3 := eql_other (errsAt_apart hp 6 3 (by decide) (by decide) (by decide) (by decide) (by decide))
  have o4 := eql_other (errsAt_apart hp 6 4 (by decide) (by decide) (by decide) (by decide) (by decide))
  have o5 := eql_other (errsAt_apart hp 6 5 (by decide) (by decide) (by decide) (by decide) (by decide))
  have os := eql_same w (p 6)
  have e1 : w.cell? ⟨0, 0, none⟩ = some (.iface 112 (.pointer (some (p 1)))) := (hp.1 1 (by decide) (by decide)).1
  have e2 : w.cell? ⟨2, 0, none⟩ = some (.iface 112 (.pointer (some (p 2)))) := (hp.1 2 (by decide) (by decide)).1
  have e3 : w.cell? ⟨3, 0, none⟩ = some (.iface 112 (.pointer (some (p 3)))) := (hp.1 3 (by decide) (by decide)).1
  have e4 : w.cell? ⟨1, 0, none⟩ = some (.iface 112 (.pointer (some (p 4)))) := (hp.1 4 (by decide) (by decide)).1
  have e5 : w.cell? ⟨4, 0, none⟩ = some (.iface 112 (.pointer (some (p 5)))) := (hp.1 5 (by decide) (by decide)).1
  have e6 : w.cell? ⟨6, 0, none⟩ = some (.iface 112 (.pointer (some (p 6)))) := (hp.1 6 (by decide) (by decide)).1
  clear hp
  show Calls Tryd.prog 43 #[.iface 112 (.pointer (some (p 6)))] w _
  generalize p 6 = q6 at *
  generalize p 1 = q1 at *
  generalize p 2 = q2 at *
  generalize p 3 = q3 at *
  generalize p 4 = q4 at *
  generalize p 5 = q5 at *
  go_enter Tryd.func43, Tryd.ntmps43
  go_wp2
  go_ret
  exact ⟨rfl, rfl⟩

set_option maxRecDepth 100000 in
set_option maxHeartbeats 800000 in
theorem of_7 (w : World) (p : Nat → Addr) (hp : ErrsAt w p) :
    Calls Tryd.prog 43 #[errv p 7] w fun e w' => e = .returned (.int .i64 7) ∧ w' = w := by
  have o1 := eql_other (errsAt_apart hp 7 1 (by decide) (by decide) (by decide) (by decide) (by decide))
  have o2 := eql_other (errsAt_apart hp 7 2 (by decide) (by decide) (by decide) (by decide) (by decide))
  have o3 := eql_other (errsAt_apart hp 7 3 (by decide) (by decide) (by decide) (by decide) (by decide))
  have o4 := eql_other (errsAt_apart hp 7 4 (by decide) (by decide) (by decide) (by decide) (by decide))
  have o5 := eql_other (errsAt_apart hp 7 5 (by decide) (by decide) (by decide) (by decide) (by decide))
  have o6 := eql_other (errsAt_apart hp 7 6 (by decide) (by decide) (by decide) (by decide) (by decide))
  have os := eql_same w (p 7)
  have e1 : w.cell? ⟨0, 0, none⟩ = some (.iface 112 (.pointer (some (p 1)))) := (hp.1 1 (by decide) (by decide)).1
  have e2 : w.cell? ⟨2, 0, none⟩ = some (.iface 112 (.pointer (some (p 2)))) := (hp.1 2 (by decide) (by decide)).1
  have e3 : w.cell? ⟨3, 0, none⟩ = some (.iface 112 (.pointer (some (p 3)))) := (hp.1 3 (by decide) (by decide)).1
  have e4 : w.cell? ⟨1, 0, none⟩ = some (.iface 112 (.pointer (some (p 4)))) := (hp.1 4 (by decide) (by decide)).1
  have e5 : w.cell? ⟨4, 0, none⟩ = some (.iface 112 (.pointer (some (p 5)))) := (hp.1 5 (by decide) (by decide)).1
  have e6 : w.cell? ⟨6, 0, none⟩ = some (.iface 112 (.pointer (some (p 6)))) := (hp.1 6 (by decide) (by decide)).1
  have e7 : w.cell? ⟨7, 0, none⟩ = some (.iface 112 (.pointer (some (p 7)))) := (hp.1 7 (by decide) (by decide)).1
  clear hp
  show Calls Tryd.prog 43 #[.iface 112 (.pointer (some (p 7)))] w _
  generalize p 7 = q7 at *
  generalize p 1 = q1 at *
  generalize p 2 = q2 at *
  generalize p 3 = q3 at *
  generalize p 4 = q4 at *
  generalize p 5 = q5 at *
  generalize p 6 = q6 at *
  go_enter Tryd.func43, Tryd.ntmps43
  go_wp2
  go_ret
  exact ⟨rfl, rfl⟩

set_option maxRecDepth 100000 in
set_option maxHeartbeats 800000 in
theorem of_8 (w : World) (p : Nat → Addr) (hp : ErrsAt w p) :
    Calls Tryd.prog 43 #[errv p 8] w fun e w' => e = .returned (.int .i64 8) ∧ w' = w := by
  have o1 := eql_other (errsAt_apart hp 8 1 (by decide) (by decide) (by decide) (by decide) (by decide))
  have o2 := eql_other (errsAt_apart hp 8 2 (by decide) (by decide) (by decide) (by decide) (by decide))
  have o3 := eql_other (errsAt_apart hp 8 3 (by decide) (by decide) (by decide) (by decide) (by decide))
  have o4 := eql_other (errsAt_apart hp 8 4 (by decide) (by decide) (by decide) (by decide) (by decide))
  have o5 := eql_other (errsAt_apart hp 8 5 (by decide) (by decide) (by decide) (by decide) (by decide))
  have o6 := eql_other (errsAt_apart hp 8 6 (by decide) (by decide) (by decide) (by decide) (by decide))
  have o7 := eql_other (errsAt_apart hp 8 7 (by decide) (by decide) (by decide) (by decide) (by decide))
  have os := eql_same w (p 8)
  have e1 : w.cell? ⟨0, 0, none⟩ = some (.iface 112 (.pointer (some (p 1)))) := (hp.1 1 (by decide) (by decide)).1
  have e2 : w.cell? ⟨2, 0, none⟩ = some (.iface 112 (.pointer (some (p 2)))) := (hp.1 2 (by decide) (by decide)).1
  have e3 : w.cell? ⟨3, 0, none⟩ = some (.iface 112 (.pointer (some (p 3)))) := (hp.1 3 (by decide) (by decide)).1
  have e4 : w.cell? ⟨1, 0, none⟩ = some (.iface 112 (.pointer (some (p 4)))) := (hp.1 4 (by decide) (by decide)).1
  have e5 : w.cell? ⟨4, 0, none⟩ = some (.iface 112 (.pointer (some (p 5)))) := (hp.1 5 (by decide) (by decide)).1
  have e6 : w.cell? ⟨6, 0, none⟩ = some (.iface 112 (.pointer (some (p 6)))) := (hp.1 6 (by decide) (by decide)).1
  have e7 : w.cell? ⟨7, 0, none⟩ = some (.iface 112 (.pointer (some (p 7)))) := (hp.1 7 (by decide) (by decide)).1
  have e8 : w.cell? ⟨8, 0, none⟩ = some (.iface 112 (.pointer (some (p 8)))) := (hp.1 8 (by decide) (by decide)).1
  clear hp
  show Calls Tryd.prog 43 #[.iface 112 (.pointer (some (p 8)))] w _
  generalize p 8 = q8 at *
  generalize p 1 = q1 at *
  generalize p 2 = q2 at *
  generalize p 3 = q3 at *
  generalize p 4 = q4 at *
  generalize p 5 = q5 at *
  generalize p 6 = q6 at *
  generalize p 7 = q7 at *
  go_enter Tryd.func43, Tryd.ntmps43
  go_wp2
  go_ret
  exact ⟨rfl, rfl⟩

set_option maxRecDepth 100000 in
set_option maxHeartbeats 800000 in
theorem of_9 (w : World) (p : Nat → Addr) (hp : ErrsAt w p) :
    Calls Tryd.prog 43 #[errv p 9] w fun e w' => e = .returned (.int .i64 9) ∧ w' = w := by
  have o1 := eql_other (errsAt_apart hp 9 1 (by decide) (by decide) (by decide) (by decide) (by decide))
  have o2 := eql_other (errsAt_apart hp 9 2 (by decide) (by decide) (by decide) (by decide) (by decide))
  have o3 := eql_other (errsAt_apart hp 9 3 (by decide) (by decide) (by decide) (by decide) (by decide))
  have o4 := eql_other (errsAt_apart hp 9 4 (by decide) (by decide) (by decide) (by decide) (by decide))
  have o5 := eql_other (errsAt_apart hp 9 5 (by decide) (by decide) (by decide) (by decide) (by decide))
  have o6 := eql_other (errsAt_apart hp 9 6 (by decide) (by decide) (by decide) (by decide) (by decide))
  have o7 := eql_other (errsAt_apart hp 9 7 (by decide) (by decide) (by decide) (by decide) (by decide))
  have o8 := eql_other (errsAt_apart hp 9 8 (by decide) (by decide) (by decide) (by decide) (by decide))
  have os := eql_same w (p 9)
  have e1 : w.cell? ⟨0, 0, none⟩ = some (.iface 112 (.pointer (some (p 1)))) := (hp.1 1 (by decide) (by decide)).1
  have e2 : w.cell? ⟨2, 0, none⟩ = some (.iface 112 (.pointer (some (p 2)))) := (hp.1 2 (by decide) (by decide)).1
  have e3 : w.cell? ⟨3, 0, none⟩ = some (.iface 112 (.pointer (some (p 3)))) := (hp.1 3 (by decide) (by decide)).1
  have e4 : w.cell? ⟨1, 0, none⟩ = some (.iface 112 (.pointer (some (p 4)))) := (hp.1 4 (by decide) (by decide)).1
  have e5 : w.cell? ⟨4, 0, none⟩ = some (.iface 112 (.pointer (some (p 5)))) := (hp.1 5 (by decide) (by decide)).1
  have e6 : w.cell? ⟨6, 0, none⟩ = some (.iface 112 (.pointer (some (p 6)))) := (hp.1 6 (by decide) (by decide)).1
  have e7 : w.cell? ⟨7, 0, none⟩ = some (.iface 112 (.pointer (some (p 7)))) := (hp.1 7 (by decide) (by decide)).1
  have e8 : w.cell? ⟨8, 0, none⟩ = some (.iface 112 (.pointer (some (p 8)))) := (hp.1 8 (by decide) (by decide)).1
  have e9 : w.cell? ⟨9, 0, none⟩ = some (.iface 112 (.pointer (some (p 9)))) := (hp.1 9 (by decide) (by decide)).1
  clear hp
  show Calls Tryd.prog 43 #[.iface 112 (.pointer (some (p 9)))] w _
  generalize p 9 = q9 at *
  generalize p 1 = q1 at *
  generalize p 2 = q2 at *
  generalize p 3 = q3 at *
  generalize p 4 = q4 at *
  generalize p 5 = q5 at *
  generalize p 6 = q6 at *
  generalize p 7 = q7 at *
  generalize p 8 = q8 at *
  go_enter Tryd.func43, Tryd.ntmps43
  go_wp2
  go_ret
  exact ⟨rfl, rfl⟩

set_option maxRecDepth 100000 in
set_option maxHeartbeats 800000 in
theorem of_10 (w : World) (p : Nat → Addr) (hp : ErrsAt w p) :
    Calls Tryd.prog 43 #[errv p 10] w fun e w' => e = .returned (.int .i64 10) ∧ w' = w := by
  have o1 := eql_other (errsAt_apart hp 10 1 (by decide) (by decide) (by decide) (by decide) (by decide))
  have o2 := eql_other (errsAt_apart hp 10 2 (by decide) (by decide) (by decide) (by decide) (by decide))
  have o3 := eql_other (errsAt_apart hp 10 3 (by decide) (by decide) (by decide) (by decide) (by decide))
  have o4 := eql_other (errsAt_apart hp 10 4 (by decide) (by decide) (by decide) (by decide) (by decide))
  have o5 := eql_other (errsAt_apart hp 10 5 (by decide) (by decide) (by decide) (by decide) (by decide))
  have o6 := eql_other (errsAt_apart hp 10 6 (by decide) (by decide) (by decide) (by decide) (by decide))
  have o7 := eql_other (errsAt_apart hp 10 7 (by decide) (by decide) (by decide) (by decide) (by decide))
  have o8 := eql_other (errsAt_apart hp 10 8 (by decide) (by decide) (by decide) (by decide) (by decide))
  have o9 := eql_other (errsAt_apart hp 10 9 (by decide) (by decide) (by decide) (by decide) (by decide))
  have os := eql_same w (p 10)
  have e1 : w.cell? ⟨0, 0, none⟩ = some (.iface 112 (.pointer (some (p 1)))) := (hp.1 1 (by decide) (by decide)).1
  have e2 : w.cell? ⟨2, 0, none⟩ = some (.iface 112 (.pointer (some (p 2)))) := (hp.1 2 (by decide) (by decide)).1
  have e3 : w.cell? ⟨3, 0, none⟩ = some (.iface 112 (.pointer (some (p 3)))) := (hp.1 3 (by decide) (by decide)).1
  have e4 : w.cell? ⟨1, 0, none⟩ = some (.iface 112 (.pointer (some (p 4)))) := (hp.1 4 (by decide) (by decide)).1
  have e5 : w.cell? ⟨4, 0, none⟩ = some (.iface 112 (.pointer (some (p 5)))) := (hp.1 5 (by decide) (by decide)).1
  have e6 : w.cell? ⟨6, 0, none⟩ = some (.iface 112 (.pointer (some (p 6)))) := (hp.1 6 (by decide) (by decide)).1
  have e7 : w.cell? ⟨7, 0, none⟩ = some (.iface 112 (.pointer (some (p 7)))) := (hp.1 7 (by decide) (by decide)).1
  have e8 : w.cell? ⟨8, 0, none⟩ = some (.iface 112 (.pointer (some (p 8)))) := (hp.1 8 (by decide) (by decide)).1
  have e9 : w.cell? ⟨9, 0, none⟩ = some (.iface 112 (.pointer (some (p 9)))) := (hp.1 9 (by decide) (by decide)).1
  have e10 : w.cell? ⟨10, 0, none⟩ = some (.iface 112 (.pointer (some (p 10)))) := (hp.1 10 (by decide) (by decide)).1
  clear hp
  show Calls Tryd.prog 43 #[.iface 112 (.pointer (some (p 10)))] w _
  generalize p 10 = q10 at *
  generalize p 1 = q1 at *
  generalize p 2 = q2 at *
  generalize p 3 = q3 at *
  generalize p 4 = q4 at *
  generalize p 5 = q5 at *
  generalize p 6 = q6 at *
  generalize p 7 = q7 at *
  generalize p 8 = q8 at *
  generalize p 9 = q9 at *
  go_enter Tryd.func43, Tryd.ntmps43
  go_wp2
  go_ret
  exact ⟨rfl, rfl⟩

set_option maxRecDepth 100000 in
set_option maxHeartbeats 800000 in
theorem of_11 (w : World) (p : Nat → Addr) (hp : ErrsAt w p) :
    Calls Tryd.prog 43 #[errv p 11] w fun e w' => e = .returned (.int .i64 11) ∧ w' = w := by
  have o1 := eql_other (errsAt_apart hp 11 1 (by decide) (by decide) (by decide) (by decide) (by decide))
  have o2 := eql_other (errsAt_apart hp 11 2 (by decide) (by decide) (by decide) (by decide) (by decide))
  have o3 := eql_other (errsAt_apart hp 11 3 (by decide) (by decide) (by decide) (by decide) (by decide))
  have o4 := eql_other (errsAt_apart hp 11 4 (by decide) (by decide) (by decide) (by decide) (by decide))
  have o5 := eql_other (errsAt_apart hp 11 5 (by decide) (by decide) (by decide) (by decide) (by decide))
  have o6 := eql_other (errsAt_apart hp 11 6 (by decide) (by decide) (by decide) (by decide) (by decide))
  have o7 := eql_other (errsAt_apart hp 11 7 (by decide) (by decide) (by decide) (by decide) (by decide))
  have o8 := eql_other (errsAt_apart hp 11 8 (by decide) (by decide) (by decide) (by decide) (by decide))
  have o9 := eql_other (errsAt_apart hp 11 9 (by decide) (by decide) (by decide) (by decide) (by decide))
  have o10 := eql_other (errsAt_apart hp 11 10 (by decide) (by decide) (by decide) (by decide) (by decide))
  have os := eql_same w (p 11)
  have e1 : w.cell? ⟨0, 0, none⟩ = some (.iface 112 (.pointer (some (p 1)))) := (hp.1 1 (by decide) (by decide)).1
  have e2 : w.cell? ⟨2, 0, none⟩ = some (.iface 112 (.pointer (some (p 2)))) := (hp.1 2 (by decide) (by decide)).1
  have e3 : w.cell? ⟨3, 0, none⟩ = some (.iface 112 (.pointer (some (p 3)))) := (hp.1 3 (by decide) (by decide)).1
  have e4 : w.cell? ⟨1, 0, none⟩ = some (.iface 112 (.pointer (some (p 4)))) := (hp.1 4 (by decide) (by decide)).1
  have e5 : w.cell? ⟨4, 0, none⟩ = some (.iface 112 (.pointer (some (p 5)))) := (hp.1 5 (by decide) (by decide)).1
  have e6 : w.cell? ⟨6, 0, none⟩ = some (.iface 112 (.pointer (some (p 6)))) := (hp.1 6 (by decide) (by decide)).1
  have e7 : w.cell? ⟨7, 0, none⟩ = some (.iface 112 (.pointer (some (p 7)))) := (hp.1 7 (by decide) (by decide)).1
  have e8 : w.cell? ⟨8, 0, none⟩ = some (.iface 112 (.pointer (some (p 8)))) := (hp.1 8 (by decide) (by decide)).1
  have e9 : w.cell? ⟨9, 0, none⟩ = some (.iface 112 (.pointer (some (p 9)))) := (hp.1 9 (by decide) (by decide)).1
  have e10 : w.cell? ⟨10, 0, none⟩ = some (.iface 112 (.pointer (some (p 10)))) := (hp.1 10 (by decide) (by decide)).1
  have e11 : w.cell? ⟨11, 0, none⟩ = some (.iface 112 (.pointer (some (p 11)))) := (hp.1 11 (by decide) (by decide)).1
  clear hp
  show Calls Tryd.prog 43 #[.iface 112 (.pointer (some (p 11)))] w _
  generalize p 11 = q11 at *
  generalize p 1 = q1 at *
  generalize p 2 = q2 at *
  generalize p 3 = q3 at *
  generalize p 4 = q4 at *
  generalize p 5 = q5 at *
  generalize p 6 = q6 at *
  generalize p 7 = q7 at *
  generalize p 8 = q8 at *
  generalize p 9 = q9 at *
  generalize p 10 = q10 at *
  go_enter Tryd.func43, Tryd.ntmps43
  go_wp2
  go_ret
  exact ⟨rfl, rfl⟩

set_option maxRecDepth 100000 in
set_option maxHeartbeats 800000 in
theorem of_12 (w : World) (p : Nat → Addr) (hp : ErrsAt w p) :
    Calls Tryd.prog 43 #[errv p 12] w fun e w' => e = .returned (.int .i64 12) ∧ w' = w := by
  have o1 := eql_other (errsAt_apart hp 12 1 (by decide) (by decide) (by decide) (by decide) (by decide))
  have o2 := eql_other (errsAt_apart hp 12 2 (by decide) (by decide) (by decide) (by decide) (by decide))
  have o3 := eql_other (errsAt_apart hp 12 3 (by decide) (by decide) (by decide) (by decide) (by decide))
  have o4 := eql_other (errsAt_apart hp 12 4 (by decide) (by decide) (by decide) (by decide) (by decide))
  have o5 := eql_other (errsAt_apart hp 12 5 (by decide) (by decide) (by decide) (by decide) (by decide))
  have o6 := eql_other (errsAt_apart hp 12 6 (by decide) (by decide) (by decide) (by decide) (by decide))
  have o7 := eql_other (errsAt_apart hp 12 7 (by decide) (by decide) (by decide) (by decide) (by decide))
  have o8 := eql_other (errsAt_apart hp 12 8 (by decide) (by decide) (by decide) (by decide) (by decide))
  have o9 := eql_other (errsAt_apart hp 12 9 (by decide) (by decide) (by decide) (by decide) (by decide))
  have o10 := eql_other (errsAt_apart hp 12 10 (by decide) (by decide) (by decide) (by decide) (by decide))
  have o11 := eql_other (errsAt_apart hp 12 11 (by decide) (by decide) (by decide) (by decide) (by decide))
  have os := eql_same w (p 12)
  have e1 : w.cell? ⟨0, 0, none⟩ = some (.iface 112 (.pointer (some (p 1)))) := (hp.1 1 (by decide) (by decide)).1
  have e2 : w.cell? ⟨2, 0, none⟩ = some (.iface 112 (.pointer (some (p 2)))) := (hp.1 2 (by decide) (by decide)).1
  have e3 : w.cell? ⟨3, 0, none⟩ = some (.iface 112 (.pointer (some (p 3)))) := (hp.1 3 (by decide) (by decide)).1
  have e4 : w.cell? ⟨1, 0, none⟩ = some (.iface 112 (.pointer (some (p 4)))) := (hp.1 4 (by decide) (by decide)).1
  have e5 : w.cell? ⟨4, 0, none⟩ = some (.iface 112 (.pointer (some (p 5)))) := (hp.1 5 (by decide) (by decide)).1
  have e6 : w.cell? ⟨6, 0, none⟩ = some (.iface 112 (.pointer (some (p 6)))) := (hp.1 6 (by decide) (by decide)).1
  have e7 : w.cell? ⟨7, 0, none⟩ = some (.iface 112 (.pointer (some (p 7)))) := (hp.1 7 (by decide) (by decide)).1
  have e8 : w.cell? ⟨8, 0, none⟩ = some (.iface 112 (.pointer (some (p 8)))) := (hp.1 8 (by decide) (by decide)).1
  have e9 : w.cell? ⟨9, 0, none⟩ = some (.iface 112 (.pointer (some (p 9)))) := (hp.1 9 (by decide) (by decide)).1
  have e10 : w.cell? ⟨10, 0, none⟩ = some (.iface 112 (.pointer (some (p 10)))) := (hp.1 10 (by decide) (by decide)).1
  have e11 : w.cell? ⟨11, 0, none⟩ = some (.iface 112 (.pointer (some (p 11)))) := (hp.1 11 (by decide) (by decide)).1
  have e12 : w.cell? ⟨12, 0, none⟩ = some (.iface 112 (.pointer (some (p 12)))) := (hp.1 12 (by decide) (by decide)).1
  clear hp
  show Calls Tryd.prog 43 #[.iface 112 (.pointer (some (p 12)))] w _
  generalize p 12 = q12 at *
  generalize p 1 = q1 at *
  generalize p 2 = q2 at *
  generalize p 3 = q3 at *
  generalize p 4 = q4 at *
  generalize p 5 = q5 at *
  generalize p 6 = q6 at *
  generalize p 7 = q7 at *
  generalize p 8 = q8 at *
  generalize p 9 = q9 at *
  generalize p 10 = q10 at *
  generalize p 11 = q11 at *
  go_enter Tryd.func43, Tryd.ntmps43
  go_wp2
  go_ret
  exact ⟨rfl, rfl⟩

set_option maxRecDepth 100000 in
set_option maxHeartbeats 800000 in
theorem of_13 (w : World) (p : Nat → Addr) (hp : ErrsAt w p) :
    Calls Tryd.prog 43 #[errv p 13] w fun e w' => e = .returned (.int .i64 13) ∧ w' = w := by
  have o1 := eql_other (errsAt_apart hp 13 1 (by decide) (by decide) (by decide) (by decide) (by decide))
  have o2 := eql_other (errsAt_apart hp 13 2 (by decide) (by decide) (by decide) (by decide) (by decide))
  have o3 := eql_other (errsAt_apart hp 13 3 (by decide) (by decide) (by decide) (by decide) (by decide))
  have o4 := eql_other (errsAt_apart hp 13 4 (by decide) (by decide) (by decide) (by decide) (by decide))
  have o5 := eql_other (errsAt_apart hp 13 5 (by decide) (by decide) (by decide) (by decide) (by decide))
  have o6 := eql_other (errsAt_apart hp 13 6 (by decide) (by decide) (by decide) (by decide) (by decide))
  have o7 := eql_other (errsAt_apart hp 13 7 (by decide) (by decide) (by decide) (by decide) (by decide))
  have o8 := eql_other (errsAt_apart hp 13 8 (by decide) (by decide) (by decide) (by decide) (by decide))
  have o9 := eql_other (errsAt_apart hp 13 9 (by decide) (by decide) (by decide) (by decide) (by decide))
  have o10 := eql_other (errsAt_apart hp 13 10 (by decide) (by decide) (by decide) (by decide) (by decide))
  have o11 := eql_other (errsAt_apart hp 13 11 (by decide) (by decide) (by decide) (by decide) (by decide))
  have o12 := eql_other (errsAt_apart hp 13 12 (by decide) (by decide) (by decide) (by decide) (by decide))
  have os := eql_same w (p 13)
  have e1 : w.cell? ⟨0, 0, none⟩ = some (.iface 112 (.pointer (some (p 1)))) := (hp.1 1 (by decide) (by decide)).1
  have e2 : w.cell? ⟨2, 0, none⟩ = some (.iface 112 (.pointer (some (p 2)))) := (hp.1 2 (by decide) (by decide)).1
  have e3 : w.cell? ⟨3, 0, none⟩ = some (.iface 112 (.pointer (some (p 3)))) := (hp.1 3 (by decide) (by decide)).1
  have e4 : w.cell? ⟨1, 0, none⟩ = some (.iface 112 (.pointer (some (p 4)))) := (hp.1 4 (by decide) (by decide)).1
  have e5 : w.cell? ⟨4, 0, none⟩ = some (.iface 112 (.pointer (some (p 5)))) := (hp.1 5 (by decide) (by decide)).1
  have e6 : w.cell? ⟨6, 0, none⟩ = some (.iface 112 (.pointer (some (p 6)))) := (hp.1 6 (by decide) (by decide)).1
  have e7 : w.cell? ⟨7, 0, none⟩ = some (.iface 112 (.pointer (some (p 7)))) := (hp.1 7 (by decide) (by decide)).1
  have e8 : w.cell? ⟨8, 0, none⟩ = some (.iface 112 (.pointer (some (p 8)))) := (hp.1 8 (by decide) (by decide)).1
  have e9 : w.cell? ⟨9, 0, none⟩ = some (.iface 112 (.pointer (some (p 9)))) := (hp.1 9 (by decide) (by decide)).1
  have e10 : w.cell? ⟨10, 0, none⟩ = some (.iface 112 (.pointer (some (p 10)))) := (hp.1 10 (by decide) (by decide)).1
  have e11 : w.cell? ⟨11, 0, none⟩ = some (.iface 112 (.pointer (some (p 11)))) := (hp.1 11 (by decide) (by decide)).1
  have e12 : w.cell? ⟨12, 0, none⟩ = some (.iface 112 (.pointer (some (p 12)))) := (hp.1 12 (by decide) (by decide)).1
  have e13 : w.cell? ⟨13, 0, none⟩ = some (.iface 112 (.pointer (some (p 13)))) := (hp.1 13 (by decide) (by decide)).1
  clear hp
  show Calls Tryd.prog 43 #[.iface 112 (.pointer (some (p 13)))] w _
  generalize p 13 = q13 at *
  generalize p 1 = q1 at *
  generalize p 2 = q2 at *
  generalize p 3 = q3 at *
  generalize p 4 = q4 at *
  generalize p 5 = q5 at *
  generalize p 6 = q6 at *
  generalize p 7 = q7 at *
  generalize p 8 = q8 at *
  generalize p 9 = q9 at *
  generalize p 10 = q10 at *
  generalize p 11 = q11 at *
  generalize p 12 = q12 at *
  go_enter Tryd.func43, Tryd.ntmps43
  go_wp2
  go_ret
  exact ⟨rfl, rfl⟩

set_option maxRecDepth 100000 in
set_option maxHeartbeats 800000 in
theorem of_14 (w : World) (p : Nat → Addr) (hp : ErrsAt w p) :
    Calls Tryd.prog 43 #[errv p 14] w fun e w' => e = .returned (.int .i64 14) ∧ w' = w := by
  have o1 := eql_other (errsAt_apart hp 14 1 (by decide) (by decide) (by decide) (by decide) (by decide))
  have o2 := eql_other (errsAt_apart hp 14 2 (by decide) (by decide) (by decide) (by decide) (by decide))
  have o3 := eql_other (errsAt_apart hp 14 3 (by decide) (by decide) (by decide) (by decide) (by decide))
  have o4 := eql_other (errsAt_apart hp 14 4 (by decide) (by decide) (by decide) (by decide) (by decide))
  have o5 := eql_other (errsAt_apart hp 14 5 (by decide) (by decide) (by decide) (by decide) (by decide))
  have o6 := eql_other (errsAt_apart hp 14 6 (by decide) (by decide) (by decide) (by decide) (by decide))
  have o7 := eql_other (errsAt_apart hp 14 7 (by decide) (by decide) (by decide) (by decide) (by decide))
  have o8 := eql_other (errsAt_apart hp 14 8 (by decide) (by decide) (by decide) (by decide) (by decide))
  have o9 := eql_other (errsAt_apart hp 14 9 (by decide) (by decide) (by decide) (by decide) (by decide))
  have o10 := eql_other (errsAt_apart hp 14 10 (by decide) (by decide) (by decide) (by decide) (by decide))
  have o11 := eql_other (errsAt_apart hp 14 11 (by decide) (by decide) (by decide) (by decide) (by decide))
  have o12 := eql_other (errsAt_apart hp 14 12 (by decide) (by decide) (by decide) (by decide) (by decide))
  have o13 := eql_other (errsAt_apart hp 14 13 (by decide) (by decide) (by decide) (by decide) (by decide))
  have os := eql_same w (p 14)
  have e1 : w.cell? ⟨0, 0, none⟩ = some (.iface 112 (.pointer (some (p 1)))) := (hp.1 1 (by decide) (by decide)).1
  have e2 : w.cell? ⟨2, 0, none⟩ = some (.iface 112 (.pointer (some (p 2)))) := (hp.1 2 (by decide) (by decide)).1
  have e3 : w.cell? ⟨3, 0, none⟩ = some (.iface 112 (.pointer (some (p 3)))) := (hp.1 3 (by decide) (by decide)).1
  have e4 : w.cell? ⟨1, 0, none⟩ = some (.iface 112 (.pointer (some (p 4)))) := (hp.1 4 (by decide) (by decide)).1
  have e5 : w.cell? ⟨4, 0, none⟩ = some (.iface 112 (.pointer (some (p 5)))) := (hp.1 5 (by decide) (by decide)).1
  have e6 : w.cell? ⟨6, 0, none⟩ = some (.iface 112 (.pointer (some (p 6)))) := (hp.1 6 (by decide) (by decide)).1
  have e7 : w.cell? ⟨7, 0, none⟩ = some (.iface 112 (.pointer (some (p 7)))) := (hp.1 7 (by decide) (by decide)).1
  have e8 : w.cell? ⟨8, 0, none⟩ = some (.iface 112 (.pointer (some (p 8)))) := (hp.1 8 (by decide) (by decide)).1
  have e9 : w.cell? ⟨9, 0, none⟩ = some (.iface 112 (.pointer (some (p 9)))) := (hp.1 9 (by decide) (by decide)).1
  have e10 : w.cell? ⟨10, 0, none⟩ = some (.iface 112 (.pointer (some (p 10)))) := (hp.1 10 (by decide) (by decide)).1
  have e11 : w.cell? ⟨11, 0, none⟩ = some (.iface 112 (.pointer (some (p 11)))) := (hp.1 11 (by decide) (by decide)).1
  have e12 : w.cell? ⟨12, 0, none⟩ = some (.iface 112 (.pointer (some (p 12)))) := (hp.1 12 (by decide) (by decide)).1
  have e13 : w.cell? ⟨13, 0, none⟩ = some (.iface 112 (.pointer (some (p 13)))) := (hp.1 13 (by decide) (by decide)).1
  have e14 : w.cell? ⟨14, 0, none⟩ = some (.iface 112 (.pointer (some (p 14)))) := (hp.1 14 (by decide) (by decide)).1
  clear hp
  show Calls Tryd.prog 43 #[.iface 112 (.pointer (some (p 14)))] w _
  generalize p 14 = q14 at *
  generalize p 1 = q1 at *
  generalize p 2 = q2 at *
  generalize p 3 = q3 at *
  generalize p 4 = q4 at *
  generalize p 5 = q5 at *
  generalize p 6 = q6 at *
  generalize p 7 = q7 at *
  generalize p 8 = q8 at *
  generalize p 9 = q9 at *
  generalize p 10 = q10 at *
  generalize p 11 = q11 at *
  generalize p 12 = q12 at *
  generalize p 13 = q13 at *
  go_enter Tryd.func43, Tryd.ntmps43
  go_wp2
  go_ret
  exact ⟨rfl, rfl⟩

set_option maxRecDepth 100000 in
set_option maxHeartbeats 800000 in
theorem of_15 (w : World) (p : Nat → Addr) (hp : ErrsAt w p) :
    Calls Tryd.prog 43 #[errv p 15] w fun e w' => e = .returned (.int .i64 15) ∧ w' = w := by
  have o1 := eql_other (errsAt_apart hp 15 1 (by decide) (by decide) (by decide) (by decide) (by decide))
  have o2 := eql_other (errsAt_apart hp 15 2 (by decide) (by decide) (by decide) (by decide) (by decide))
  have o3 := eql_other (errsAt_apart hp 15 3 (by decide) (by decide) (by decide) (by decide) (by decide))
  have o4 := eql_other (errsAt_apart hp 15 4 (by decide) (by decide) (by decide) (by decide) (by decide))
  have o5 := eql_other (errsAt_apart hp 15 5 (by decide) (by decide) (by decide) (by decide) (by decide))
  have o6 := eql_other (errsAt_apart hp 15 6 (by decide) (by decide) (by decide) (by decide) (by decide))
  have o7 := eql_other (errsAt_apart hp 15 7 (by decide) (by decide) (by decide) (by decide) (by decide))
  have o8 := eql_other (errsAt_apart hp 15 8 (by decide) (by decide) (by decide) (by decide) (by decide))
  have o9 := eql_other (errsAt_apart hp 15 9 (by decide) (by decide) (by decide) (by decide) (by decide))
  have o10 := eql_other (errsAt_apart hp 15 10 (by decide) (by decide) (by decide) (by decide) (by decide))
  have o11 := eql_other (errsAt_apart hp 15 11 (by decide) (by decide) (by decide) (by decide) (by decide))
  have o12 := eql_other (errsAt_apart hp 15 12 (by decide) (by decide) (by decide) (by decide) (by decide))
  have o13 := eql_other (errsAt_apart hp 15 13 (by decide) (by decide) (by decide) (by decide) (by decide))
  have o14 := eql_other (errsAt_apart hp 15 14 (by decide) (by decide) (by decide) (by decide) (by decide))
  have os := eql_same w (p 15)
  have e1 : w.cell? ⟨0, 0, none⟩ = some (.iface 112 (.pointer (some (p 1)))) := (hp.1 1 (by decide) (by decide)).1
  have e2 : w.cell? ⟨2, 0, none⟩ = some (.iface 112 (.pointer (some (p 2)))) := (hp.1 2 (by decide) (by decide)).1
  have e3 : w.cell? ⟨3, 0, none⟩ = some (.iface 112 (.pointer (some (p 3)))) := (hp.1 3 (by decide) (by decide)).1
  have e4 : w.cell? ⟨1, 0, none⟩ = some (.iface 112 (.pointer (some (p 4)))) := (hp.1 4 (by decide) (by decide)).1
  have e5 : w.cell? ⟨4, 0, none⟩ = some (.iface 112 (.pointer (some (p 5)))) := (hp.1 5 (by decide) (by decide)).1
  have e6 : w.cell? ⟨6, 0, none⟩ = some (.iface 112 (.pointer (some (p 6)))) := (hp.1 6 (by decide) (by decide)).1
  have e7 : w.cell? ⟨7, 0, none⟩ = some (.iface 112 (.pointer (some (p 7)))) := (hp.1 7 (by decide) (by decide)).1
  have e8 : w.cell? ⟨8, 0, none⟩ = some (.iface 112 (.pointer (some (p 8)))) := (hp.1 8 (by decide) (by decide)).1
  have e9 : w.cell? ⟨9, 0, none⟩ = some (.iface 112 (.pointer (some (p 9)))) := (hp.1 9 (by decide) (by decide)).1
  have e10 : w.cell? ⟨10, 0, none⟩ = some (.iface 112 (.pointer (some (p 10)))) := (hp.1 10 (by decide) (by decide)).1
  have e11 : w.cell? ⟨11, 0, none⟩ = some (.iface 112 (.pointer (some (p 11)))) := (hp.1 11 (by decide) (by decide)).1
  have e12 : w.cell? ⟨12, 0, none⟩ = some (.iface 112 (.pointer (some (p 12)))) := (hp.1 12 (by decide) (by decide)).1
  have e13 : w.cell? ⟨13, 0, none⟩ = some (.iface 112 (.pointer (some (p 13)))) := (hp.1 13 (by decide) (by decide)).1
  have e14 : w.cell? ⟨14, 0, none⟩ = some (.iface 112 (.pointer (some (p 14)))) := (hp.1 14 (by decide) (by decide)).1
  have e15 : w.cell? ⟨5, 0, none⟩ = some (.iface 112 (.pointer (some (p 15)))) := (hp.1 15 (by decide) (by decide)).1
  clear hp
  show Calls Tryd.prog 43 #[.iface 112 (.pointer (some (p 15)))] w _
  generalize p 15 = q15 at *
  generalize p 1 = q1 at *
  generalize p 2 = q2 at *
  generalize p 3 = q3 at *
  generalize p 4 = q4 at *
  generalize p 5 = q5 at *
  generalize p 6 = q6 at *
  generalize p 7 = q7 at *
  generalize p 8 = q8 at *
  generalize p 9 = q9 at *
  generalize p 10 = q10 at *
  generalize p 11 = q11 at *
  generalize p 12 = q12 at *
  generalize p 13 = q13 at *
  generalize p 14 = q14 at *
  go_enter Tryd.func43, Tryd.ntmps43
  go_wp2
  go_ret
  exact ⟨rfl, rfl⟩

theorem of_calls (w : World) (p : Nat → Addr) (k : Nat) (hk : k ≤ 15) (hp : ErrsAt w p) :
    Calls Tryd.prog 43 #[errv p k] w fun e w' => e = .returned (.int .i64 (k : Int)) ∧ w' = w := by
  rcases k with _ | _ | _ | _ | _ | _ | _ | _ | _ | _ | _ | _ | _ | _ | _ | _ | k
  · exact of_0 w p hp
  · exact of_1 w p hp
  · exact of_2 w p hp
  · exact of_3 w p hp
  · exact of_4 w p hp
  · exact of_5 w p hp
  · exact of_6 w p hp
  · exact of_7 w p hp
  · exact of_8 w p hp
  · exact of_9 w p hp
  · exact of_10 w p hp
  · exact of_11 w p hp
  · exact of_12 w p hp
  · exact of_13 w p hp
  · exact of_14 w p hp
  · exact of_15 w p hp
  · omega
theorem is_calls (w : World) (p : Nat → Addr) (k : Nat) (f : Int) (hk : k ≤ 15) (hp : ErrsAt w p) :
    Calls Tryd.prog 22 #[errv p k, .int .i64 f] w fun e w' => e = .returned (.bool ((k : Int) == f)) ∧ w' = w := by
  have H := Go.Lib.hid (of_calls w p k hk hp)
  clear hp
  go_enter Tryd.func22, Tryd.ntmps22
  go_wp2_with fail
  refine H.out.mono ?_
  rintro e w' ⟨rfl, rfl⟩
  go_wp2
  go_ret
  exact ⟨rfl, rfl⟩
theorem is_yes (w : World) (p : Nat → Addr) (k : Nat) (f : Int) (hf : f = (k : Int)) (hk : k ≤ 15) (hp : ErrsAt w p) :
    Calls Tryd.prog 22 #[errv p k, .int .i64 f] w fun e w' => e = .returned (.bool true) ∧ w' = w := by
  refine (is_calls w p k f hk hp).mono fun e w' ⟨he, hw⟩ => ⟨by rw [he, hf]; simp, hw⟩
end Go.Proofs.YtipjdkdonmoojaaDoor
