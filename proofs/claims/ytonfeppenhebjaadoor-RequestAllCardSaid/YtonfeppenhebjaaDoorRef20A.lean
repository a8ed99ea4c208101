/- Package turnstileref20: told, sayable, Paired. (Printed by gen_ref20a.py of this session.) -/
import Derived.Test.YtonfeppenhebjaaDoorRef11R
import Derived.BigQuiet
import Derived.Deep.QuietTactic
namespace Go.Proofs.YtonfeppenhebjaaDoor
open Go Go.RowKit
set_option linter.unusedVariables false
set_option linter.unusedSimpArgs false
attribute [local go_sem] IntKind.wrap_u64 c64_8 c8_64 c16_64 c32_64 c64_16 c64_32 or8 and8 n64_self n8_self beq_n64 beq_n8 bne_n8 bne_n64 beq_n64_0 bne_n64_0 wrap_b8

set_option maxRecDepth 100000 in
set_option maxHeartbeats 1600000 in
theorem told_calls (p : Pol) (w : World) :
    Calls Tryd.prog 48 #[.agg (polA p)] w fun e w' => e = .returned (.bool (sayS p)) ∧ Below w.heap.size w w' := by
  obtain ⟨kind, gap, slack, limit, span⟩ := p
  have hb : Below w.heap.size w (w.alloc (.cells #[.int .i64 kind, .int .u64 (n64 gap), .int .u64 (n64 slack), .int .u64 (n64 limit), .int .u64 (n64 span)] 28)) := (Below.refl _ _).alloc (Nat.le_refl _) _
  have HB := Go.Lib.hid hb
  clear hb
  simp only [polA]
  by_cases k1 : kind = 1
  · subst k1
    rw [show sayS ⟨1, gap, slack, limit, span⟩ = (limit == 0 && span == 0) from rfl]
    by_cases ha : limit = 0
    · subst ha
      by_cases hb : span = 0
      · subst hb
        go_enter Tryd.func48, Tryd.ntmps48
        go_wp2
        go_ret
        exact ⟨rfl, HB.out⟩
      · have hb' : (span == 0) = false := by simpa using hb
        rw [hb']
        clear hb
        go_enter Tryd.func48, Tryd.ntmps48
        go_wp2
        go_ret
        exact ⟨rfl, HB.out⟩
    · have ha' : (limit == 0) = false := by simpa using ha
      rw [ha']
      clear ha
      go_enter Tryd.func48, Tryd.ntmps48
      go_wp2
      go_ret
      exact ⟨rfl, HB.out⟩
  by_cases k2 : kind = 2
  · subst k2
    rw [show sayS ⟨2, gap, slack, limit, span⟩ = (gap == 0 && slack == 0) from rfl]
    by_cases ha : gap = 0
    · subst ha
      by_cases hb : slack = 0
      · subst hb
        go_enter Tryd.func48, Tryd.ntmps48
        go_wp2
        go_ret
        exact ⟨rfl, HB.out⟩
      · have hb' : (slack == 0) = false := by simpa using hb
        rw [hb']
        clear hb
        go_enter Tryd.func48, Tryd.ntmps48
        go_wp2
        go_ret
        exact ⟨rfl, HB.out⟩
    · have ha' : (gap == 0) = false := by simpa using ha
      rw [ha']
      clear ha
      go_enter Tryd.func48, Tryd.ntmps48
      go_wp2
      go_ret
      exact ⟨rfl, HB.out⟩
  have hS : sayS ⟨kind, gap, slack, limit, span⟩ = false := by unfold sayS; rw [if_neg k1, if_neg k2]
  rw [hS]
  have b1 : (kind == 1) = false := beq_eq_false_iff_ne.2 k1
  have b2 : (kind == 2) = false := beq_eq_false_iff_ne.2 k2
  clear hS k1 k2
  go_enter Tryd.func48, Tryd.ntmps48
  go_wp2
  go_ret
  exact ⟨rfl, HB.out⟩

set_option maxRecDepth 100000 in
set_option maxHeartbeats 1600000 in
theorem rsay_none (op : Int) (key : List UInt8) (kind : Int) (gap slack limit span units : UInt64) (w : World) (h : op < 1 ∨ 5 < op) :
    Calls Tryd.prog 37 #[.agg (reqA ⟨op, key, ⟨kind, gap, slack, limit, span⟩, units⟩)] w fun e w' => e = .returned (.bool (sayR ⟨op, key, ⟨kind, gap, slack, limit, span⟩, units⟩)) ∧ Below w.heap.size w w' := by
  have hs : sayR ⟨op, key, ⟨kind, gap, slack, limit, span⟩, units⟩ = false := by
    unfold sayR
    rcases h with h | h
    · simp [show decide (1 ≤ op) = false from decide_eq_false (by omega)]
    · simp [show decide (op ≤ 5) = false from decide_eq_false (by omega)]
  rw [hs]
  clear hs
  have hbx : Below w.heap.size w (w.alloc (.cells #[.int .i64 op, .string ⟨key.toArray⟩, .int .i64 kind, .int .u64 (n64 gap), .int .u64 (n64 slack), .int .u64 (n64 limit), .int .u64 (n64 span), .int .u64 (n64 units)] 30)) := (Below.refl _ _).alloc (Nat.le_refl _) _
  have HBX := Go.Lib.hid hbx
  clear hbx
  simp only [reqA]
  have b1 : (op == 1) = false := beq_eq_false_iff_ne.2 (by omega)
  have b2 : (op == 2) = false := beq_eq_false_iff_ne.2 (by omega)
  have b3 : (op == 3) = false := beq_eq_false_iff_ne.2 (by omega)
  have b4 : (op == 4) = false := beq_eq_false_iff_ne.2 (by omega)
  have b5 : (op == 5) = false := beq_eq_false_iff_ne.2 (by omega)
  clear h
  go_enter Tryd.func37, Tryd.ntmps37
  go_wp2
  go_ret
  exact ⟨rfl, HBX.out⟩

set_option maxRecDepth 100000 in
set_option maxHeartbeats 1600000 in
theorem rsay_1t (key : List UInt8) (kind : Int) (gap slack limit span units : UInt64) (w : World) (hp : sayS ⟨kind, gap, slack, limit, span⟩ = true) :
    Calls Tryd.prog 37 #[.agg (reqA ⟨1, key, ⟨kind, gap, slack, limit, span⟩, units⟩)] w fun e w' => e = .returned (.bool (sayR ⟨1, key, ⟨kind, gap, slack, limit, span⟩, units⟩)) ∧ Below w.heap.size w w' := by
  have hs : sayR ⟨1, key, ⟨kind, gap, slack, limit, span⟩, units⟩ = (units == 0) := by unfold sayR; simp [hp]
  rw [hs]
  clear hs
  have hbx : Below w.heap.size w (w.alloc (.cells #[.int .i64 1, .string ⟨key.toArray⟩, .int .i64 kind, .int .u64 (n64 gap), .int .u64 (n64 slack), .int .u64 (n64 limit), .int .u64 (n64 span), .int .u64 (n64 units)] 30)) := (Below.refl _ _).alloc (Nat.le_refl _) _
  have HBX := Go.Lib.hid hbx
  clear hbx
  simp only [reqA]
  have HPL := Go.Lib.hid hp
  clear hp
  go_enter Tryd.func37, Tryd.ntmps37
  go_wp2_with fail
  refine (told_calls ⟨kind, gap, slack, limit, span⟩ (w.alloc (.cells #[.int .i64 1, .string ⟨key.toArray⟩, .int .i64 kind, .int .u64 (n64 gap), .int .u64 (n64 slack), .int .u64 (n64 limit), .int .u64 (n64 span), .int .u64 (n64 units)] 30))).mono ?_
  rintro e w1 ⟨rfl, hb1⟩
  rw [HPL.out]
  have HB1 := Go.Lib.hid (below_then HBX.out hb1)
  have HSB := Go.Lib.hid (below_heap hb1 (heap_here w (.cells #[.int .i64 1, .string ⟨key.toArray⟩, .int .i64 kind, .int .u64 (n64 gap), .int .u64 (n64 slack), .int .u64 (n64 limit), .int .u64 (n64 span), .int .u64 (n64 units)] 30) w.heap.size rfl))
  obtain ⟨s0, s1, s2, s3, s4, s5, s6, s7⟩ := box8 HSB.out
  clear hb1
  go_wp2
  go_ret
  exact ⟨rfl, HB1.out⟩

set_option maxRecDepth 100000 in
set_option maxHeartbeats 1600000 in
theorem rsay_1f (key : List UInt8) (kind : Int) (gap slack limit span units : UInt64) (w : World) (hp : sayS ⟨kind, gap, slack, limit, span⟩ = false) :
    Calls Tryd.prog 37 #[.agg (reqA ⟨1, key, ⟨kind, gap, slack, limit, span⟩, units⟩)] w fun e w' => e = .returned (.bool (sayR ⟨1, key, ⟨kind, gap, slack, limit, span⟩, units⟩)) ∧ Below w.heap.size w w' := by
  have hs : sayR ⟨1, key, ⟨kind, gap, slack, limit, span⟩, units⟩ = false := by unfold sayR; simp [hp]
  rw [hs]
  clear hs
  have hbx : Below w.heap.size w (w.alloc (.cells #[.int .i64 1, .string ⟨key.toArray⟩, .int .i64 kind, .int .u64 (n64 gap), .int .u64 (n64 slack), .int .u64 (n64 limit), .int .u64 (n64 span), .int .u64 (n64 units)] 30)) := (Below.refl _ _).alloc (Nat.le_refl _) _
  have HBX := Go.Lib.hid hbx
  clear hbx
  simp only [reqA]
  have HPL := Go.Lib.hid hp
  clear hp
  go_enter Tryd.func37, Tryd.ntmps37
  go_wp2_with fail
  refine (told_calls ⟨kind, gap, slack, limit, span⟩ (w.alloc (.cells #[.int .i64 1, .string ⟨key.toArray⟩, .int .i64 kind, .int .u64 (n64 gap), .int .u64 (n64 slack), .int .u64 (n64 limit), .int .u64 (n64 span), .int .u64 (n64 units)] 30))).mono ?_
  rintro e w1 ⟨rfl, hb1⟩
  rw [HPL.out]
  have HB1 := Go.Lib.hid (below_then HBX.out hb1)
  have HSB := Go.Lib.hid (below_heap hb1 (heap_here w (.cells #[.int .i64 1, .string ⟨key.toArray⟩, .int .i64 kind, .int .u64 (n64 gap), .int .u64 (n64 slack), .int .u64 (n64 limit), .int .u64 (n64 span), .int .u64 (n64 units)] 30) w.heap.size rfl))
  obtain ⟨s0, s1, s2, s3, s4, s5, s6, s7⟩ := box8 HSB.out
  clear hb1
  go_wp2
  go_ret
  exact ⟨rfl, HB1.out⟩

set_option maxRecDepth 100000 in
set_option maxHeartbeats 1600000 in
theorem rsay_2 (key : List UInt8) (kind : Int) (gap slack limit span units : UInt64) (w : World) :
    Calls Tryd.prog 37 #[.agg (reqA ⟨2, key, ⟨kind, gap, slack, limit, span⟩, units⟩)] w fun e w' => e = .returned (.bool (sayR ⟨2, key, ⟨kind, gap, slack, limit, span⟩, units⟩)) ∧ Below w.heap.size w w' := by
  have hs : sayR ⟨2, key, ⟨kind, gap, slack, limit, span⟩, units⟩ = ((⟨kind, gap, slack, limit, span⟩ : Pol) == polZ) := by unfold sayR; simp
  rw [hs]
  clear hs
  have hbx : Below w.heap.size w (w.alloc (.cells #[.int .i64 2, .string ⟨key.toArray⟩, .int .i64 kind, .int .u64 (n64 gap), .int .u64 (n64 slack), .int .u64 (n64 limit), .int .u64 (n64 span), .int .u64 (n64 units)] 30)) := (Below.refl _ _).alloc (Nat.le_refl _) _
  have HBX := Go.Lib.hid hbx
  clear hbx
  simp only [reqA]
  have hq := eqlit kind gap slack limit span _ rfl
  generalize ((⟨kind, gap, slack, limit, span⟩ : Pol) == polZ) = pb at *
  go_enter Tryd.func37, Tryd.ntmps37
  go_wp2
  go_ret
  exact ⟨rfl, HBX.out⟩

set_option maxRecDepth 100000 in
set_option maxHeartbeats 1600000 in
theorem rsay_3 (key : List UInt8) (kind : Int) (gap slack limit span units : UInt64) (w : World) :
    Calls Tryd.prog 37 #[.agg (reqA ⟨3, key, ⟨kind, gap, slack, limit, span⟩, units⟩)] w fun e w' => e = .returned (.bool (sayR ⟨3, key, ⟨kind, gap, slack, limit, span⟩, units⟩)) ∧ Below w.heap.size w w' := by
  have hs : sayR ⟨3, key, ⟨kind, gap, slack, limit, span⟩, units⟩ = (((⟨kind, gap, slack, limit, span⟩ : Pol) == polZ) && units == 0) := by unfold sayR; simp
  rw [hs]
  clear hs
  have hbx : Below w.heap.size w (w.alloc (.cells #[.int .i64 3, .string ⟨key.toArray⟩, .int .i64 kind, .int .u64 (n64 gap), .int .u64 (n64 slack), .int .u64 (n64 limit), .int .u64 (n64 span), .int .u64 (n64 units)] 30)) := (Below.refl _ _).alloc (Nat.le_refl _) _
  have HBX := Go.Lib.hid hbx
  clear hbx
  simp only [reqA]
  have hq := eqlit kind gap slack limit span _ rfl
  generalize ((⟨kind, gap, slack, limit, span⟩ : Pol) == polZ) = pb at *
  cases pb
  · go_enter Tryd.func37, Tryd.ntmps37
    go_wp2
    go_ret
    exact ⟨rfl, HBX.out⟩
  · go_enter Tryd.func37, Tryd.ntmps37
    go_wp2
    go_ret
    exact ⟨rfl, HBX.out⟩

set_option maxRecDepth 100000 in
set_option maxHeartbeats 1600000 in
theorem rsay_4 (key : List UInt8) (kind : Int) (gap slack limit span units : UInt64) (w : World) :
    Calls Tryd.prog 37 #[.agg (reqA ⟨4, key, ⟨kind, gap, slack, limit, span⟩, units⟩)] w fun e w' => e = .returned (.bool (sayR ⟨4, key, ⟨kind, gap, slack, limit, span⟩, units⟩)) ∧ Below w.heap.size w w' := by
  have hs : sayR ⟨4, key, ⟨kind, gap, slack, limit, span⟩, units⟩ = (((⟨kind, gap, slack, limit, span⟩ : Pol) == polZ) && units == 0) := by unfold sayR; simp
  rw [hs]
  clear hs
  have hbx : Below w.heap.size w (w.alloc (.cells #[.int .i64 4, .string ⟨key.toArray⟩, .int .i64 kind, .int .u64 (n64 gap), .int .u64 (n64 slack), .int .u64 (n64 limit), .int .u64 (n64 span), .int .u64 (n64 units)] 30)) := (Below.refl _ _).alloc (Nat.le_refl _) _
  have HBX := Go.Lib.hid hbx
  clear hbx
  simp only [reqA]
  have hq := eqlit kind gap slack limit span _ rfl
  generalize ((⟨kind, gap, slack, limit, span⟩ : Pol) == polZ) = pb at *
  cases pb
  · go_enter Tryd.func37, Tryd.ntmps37
    go_wp2
    go_ret
    exact ⟨rfl, HBX.out⟩
  · go_enter Tryd.func37, Tryd.ntmps37
    go_wp2
    go_ret
    exact ⟨rfl, HBX.out⟩

set_option maxRecDepth 100000 in
set_option maxHeartbeats 1600000 in
theorem rsay_5 (key : List UInt8) (kind : Int) (gap slack limit span units : UInt64) (w : World) :
    Calls Tryd.prog 37 #[.agg (reqA ⟨5, key, ⟨kind, gap, slack, limit, span⟩, units⟩)] w fun e w' => e = .returned (.bool (sayR ⟨5, key, ⟨kind, gap, slack, limit, span⟩, units⟩)) ∧ Below w.heap.size w w' := by
  have hs : sayR ⟨5, key, ⟨kind, gap, slack, limit, span⟩, units⟩ = ((((⟨kind, gap, slack, limit, span⟩ : Pol) == polZ) && units == 0) && key == []) := by unfold sayR; simp
  rw [hs]
  clear hs
  have HKE : Hid (key = [] ∨ ((key == []) = false ∧ key.isEmpty = false)) := by
    cases key with
    | nil => exact .inl rfl
    | cons a t => exact .inr ⟨rfl, rfl⟩
  have hbx : Below w.heap.size w (w.alloc (.cells #[.int .i64 5, .string ⟨key.toArray⟩, .int .i64 kind, .int .u64 (n64 gap), .int .u64 (n64 slack), .int .u64 (n64 limit), .int .u64 (n64 span), .int .u64 (n64 units)] 30)) := (Below.refl _ _).alloc (Nat.le_refl _) _
  have HBX := Go.Lib.hid hbx
  clear hbx
  simp only [reqA]
  have hq := eqlit kind gap slack limit span _ rfl
  generalize ((⟨kind, gap, slack, limit, span⟩ : Pol) == polZ) = pb at *
  cases pb
  · go_enter Tryd.func37, Tryd.ntmps37
    go_wp2
    go_ret
    exact ⟨rfl, HBX.out⟩
  · by_cases hu : units = 0
    · subst hu
      rcases HKE.out with rfl | ⟨hk1, hk2⟩
      · go_enter Tryd.func37, Tryd.ntmps37
        go_wp2
        go_ret
        exact ⟨rfl, HBX.out⟩
      · rw [hk1]
        go_enter Tryd.func37, Tryd.ntmps37
        go_wp2
        go_ret
        exact ⟨rfl, HBX.out⟩
    · have hu' : (units == 0) = false := by simpa using hu
      rw [hu']
      clear hu
      go_enter Tryd.func37, Tryd.ntmps37
      go_wp2
      go_ret
      exact ⟨rfl, HBX.out⟩

theorem rsayable_calls (r : Req) (w : World) :
    Calls Tryd.prog 37 #[.agg (reqA r)] w fun e w' => e = .returned (.bool (sayR r)) ∧ Below w.heap.size w w' := by
  obtain ⟨op, key, ⟨kind, gap, slack, limit, span⟩, units⟩ := r
  by_cases h : op < 1 ∨ 5 < op
  · exact rsay_none op key kind gap slack limit span units w h
  · rcases (by omega : op = 1 ∨ op = 2 ∨ op = 3 ∨ op = 4 ∨ op = 5) with rfl | rfl | rfl | rfl | rfl
    · cases hp : sayS ⟨kind, gap, slack, limit, span⟩
      · exact rsay_1f key kind gap slack limit span units w hp
      · exact rsay_1t key kind gap slack limit span units w hp
    · exact rsay_2 key kind gap slack limit span units w
    · exact rsay_3 key kind gap slack limit span units w
    · exact rsay_4 key kind gap slack limit span units w
    · exact rsay_5 key kind gap slack limit span units w

set_option maxRecDepth 100000 in
set_option maxHeartbeats 1600000 in
theorem paired_0 (code : Int) (w : World) : Calls Tryd.prog 46 #[.int .i64 0, .int .i64 code] w fun e w' => e = .returned (.bool (pairS 0 code)) ∧ w' = w := by
  by_cases h9 : code = 9
  · subst h9
    rw [show pairS 0 9 = true by decide]
    go_enter Tryd.func46, Tryd.ntmps46
    go_wp2
    go_ret
    exact ⟨rfl, rfl⟩
  have b9 : (code == 9) = false := beq_eq_false_iff_ne.2 h9
  have hS : pairS 0 code = false := by
    unfold pairS
    rw [List.any_eq_false]
    intro c hc
    simp [pairL] at hc
    rw [beq_iff_eq]
    intro he
    subst hc
    simp [n8] at he
    omega
  rw [hS]
  clear hS h9
  go_enter Tryd.func46, Tryd.ntmps46
  go_wp2
  go_ret
  exact ⟨rfl, rfl⟩

set_option maxRecDepth 100000 in
set_option maxHeartbeats 1600000 in
theorem paired_1 (code : Int) (w : World) : Calls Tryd.prog 46 #[.int .i64 1, .int .i64 code] w fun e w' => e = .returned (.bool (pairS 1 code)) ∧ w' = w := by
  by_cases h0 : code = 0
  · subst h0
    rw [show pairS 1 0 = true by decide]
    go_enter Tryd.func46, Tryd.ntmps46
    go_wp2
    go_ret
    exact ⟨rfl, rfl⟩
  have b0 : (code == 0) = false := beq_eq_false_iff_ne.2 h0
  by_cases h2 : code = 2
  · subst h2
    rw [show pairS 1 2 = true by decide]
    clear b0 h0
    go_enter Tryd.func46, Tryd.ntmps46
    go_wp2
    go_ret
    exact ⟨rfl, rfl⟩
  have b2 : (code == 2) = false := beq_eq_false_iff_ne.2 h2
  by_cases h4 : code = 4
  · subst h4
    rw [show pairS 1 4 = true by decide]
    clear b0 h0 b2 h2
    go_enter Tryd.func46, Tryd.ntmps46
    go_wp2
    go_ret
    exact ⟨rfl, rfl⟩
  have b4 : (code == 4) = false := beq_eq_false_iff_ne.2 h4
  by_cases h5 : code = 5
  · subst h5
    rw [show pairS 1 5 = true by decide]
    clear b0 h0 b2 h2 b4 h4
    go_enter Tryd.func46, Tryd.ntmps46
    go_wp2
    go_ret
    exact ⟨rfl, rfl⟩
  have b5 : (code == 5) = false := beq_eq_false_iff_ne.2 h5
  by_cases h6 : code = 6
  · subst h6
    rw [show pairS 1 6 = true by decide]
    clear b0 h0 b2 h2 b4 h4 b5 h5
    go_enter Tryd.func46, Tryd.ntmps46
    go_wp2
    go_ret
    exact ⟨rfl, rfl⟩
  have b6 : (code == 6) = false := beq_eq_false_iff_ne.2 h6
  by_cases h8 : code = 8
  · subst h8
    rw [show pairS 1 8 = true by decide]
    clear b0 h0 b2 h2 b4 h4 b5 h5 b6 h6
    go_enter Tryd.func46, Tryd.ntmps46
    go_wp2
    go_ret
    exact ⟨rfl, rfl⟩
  have b8 : (code == 8) = false := beq_eq_false_iff_ne.2 h8
  have hS : pairS 1 code = false := by
    unfold pairS
    rw [List.any_eq_false]
    intro c hc
    simp [pairL] at hc
    rw [beq_iff_eq]
    intro he
    rcases hc with rfl | rfl | rfl | rfl | rfl | rfl <;> simp [n8] at he <;> omega
  rw [hS]
  clear hS h0 h2 h4 h5 h6 h8
  go_enter Tryd.func46, Tryd.ntmps46
  go_wp2
  go_ret
  exact ⟨rfl, rfl⟩

set_option maxRecDepth 100000 in
set_option maxHeartbeats 1600000 in
theorem paired_2 (code : Int) (w : World) : Calls Tryd.prog 46 #[.int .i64 2, .int .i64 code] w fun e w' => e = .returned (.bool (pairS 2 code)) ∧ w' = w := by
  by_cases h0 : code = 0
  · subst h0
    rw [show pairS 2 0 = true by decide]
    go_enter Tryd.func46, Tryd.ntmps46
    go_wp2
    go_ret
    exact ⟨rfl, rfl⟩
  have b0 : (code == 0) = false := beq_eq_false_iff_ne.2 h0
  by_cases h1 : code = 1
  · subst h1
    rw [show pairS 2 1 = true by decide]
    clear b0 h0
    go_enter Tryd.func46, Tryd.ntmps46
    go_wp2
    go_ret
    exact ⟨rfl, rfl⟩
  have b1 : (code == 1) = false := beq_eq_false_iff_ne.2 h1
  by_cases h2 : code = 2
  · subst h2
    rw [show pairS 2 2 = true by decide]
    clear b0 h0 b1 h1
    go_enter Tryd.func46, Tryd.ntmps46
    go_wp2
    go_ret
    exact ⟨rfl, rfl⟩
  have b2 : (code == 2) = false := beq_eq_false_iff_ne.2 h2
  by_cases h3 : code = 3
  · subst h3
    rw [show pairS 2 3 = true by decide]
    clear b0 h0 b1 h1 b2 h2
    go_enter Tryd.func46, Tryd.ntmps46
    go_wp2
    go_ret
    exact ⟨rfl, rfl⟩
  have b3 : (code == 3) = false := beq_eq_false_iff_ne.2 h3
  by_cases h7 : code = 7
  · subst h7
    rw [show pairS 2 7 = true by decide]
    clear b0 h0 b1 h1 b2 h2 b3 h3
    go_enter Tryd.func46, Tryd.ntmps46
    go_wp2
    go_ret
    exact ⟨rfl, rfl⟩
  have b7 : (code == 7) = false := beq_eq_false_iff_ne.2 h7
  by_cases h8 : code = 8
  · subst h8
    rw [show pairS 2 8 = true by decide]
    clear b0 h0 b1 h1 b2 h2 b3 h3 b7 h7
    go_enter Tryd.func46, Tryd.ntmps46
    go_wp2
    go_ret
    exact ⟨rfl, rfl⟩
  have b8 : (code == 8) = false := beq_eq_false_iff_ne.2 h8
  have hS : pairS 2 code = false := by
    unfold pairS
    rw [List.any_eq_false]
    intro c hc
    simp [pairL] at hc
    rw [beq_iff_eq]
    intro he
    rcases hc with rfl | rfl | rfl | rfl | rfl | rfl <;> simp [n8] at he <;> omega
  rw [hS]
  clear hS h0 h1 h2 h3 h7 h8
  go_enter Tryd.func46, Tryd.ntmps46
  go_wp2
  go_ret
  exact ⟨rfl, rfl⟩

set_option maxRecDepth 100000 in
set_option maxHeartbeats 1600000 in
theorem paired_3 (code : Int) (w : World) : Calls Tryd.prog 46 #[.int .i64 3, .int .i64 code] w fun e w' => e = .returned (.bool (pairS 3 code)) ∧ w' = w := by
  by_cases h0 : code = 0
  · subst h0
    rw [show pairS 3 0 = true by decide]
    go_enter Tryd.func46, Tryd.ntmps46
    go_wp2
    go_ret
    exact ⟨rfl, rfl⟩
  have b0 : (code == 0) = false := beq_eq_false_iff_ne.2 h0
  by_cases h3 : code = 3
  · subst h3
    rw [show pairS 3 3 = true by decide]
    clear b0 h0
    go_enter Tryd.func46, Tryd.ntmps46
    go_wp2
    go_ret
    exact ⟨rfl, rfl⟩
  have b3 : (code == 3) = false := beq_eq_false_iff_ne.2 h3
  by_cases h8 : code = 8
  · subst h8
    rw [show pairS 3 8 = true by decide]
    clear b0 h0 b3 h3
    go_enter Tryd.func46, Tryd.ntmps46
    go_wp2
    go_ret
    exact ⟨rfl, rfl⟩
  have b8 : (code == 8) = false := beq_eq_false_iff_ne.2 h8
  have hS : pairS 3 code = false := by
    unfold pairS
    rw [List.any_eq_false]
    intro c hc
    simp [pairL] at hc
    rw [beq_iff_eq]
    intro he
    rcases hc with rfl | rfl | rfl <;> simp [n8] at he <;> omega
  rw [hS]
  clear hS h0 h3 h8
  go_enter Tryd.func46, Tryd.ntmps46
  go_wp2
  go_ret
  exact ⟨rfl, rfl⟩

set_option maxRecDepth 100000 in
set_option maxHeartbeats 1600000 in
theorem paired_4 (code : Int) (w : World) : Calls Tryd.prog 46 #[.int .i64 4, .int .i64 code] w fun e w' => e = .returned (.bool (pairS 4 code)) ∧ w' = w := by
  by_cases h0 : code = 0
  · subst h0
    rw [show pairS 4 0 = true by decide]
    go_enter Tryd.func46, Tryd.ntmps46
    go_wp2
    go_ret
    exact ⟨rfl, rfl⟩
  have b0 : (code == 0) = false := beq_eq_false_iff_ne.2 h0
  by_cases h2 : code = 2
  · subst h2
    rw [show pairS 4 2 = true by decide]
    clear b0 h0
    go_enter Tryd.func46, Tryd.ntmps46
    go_wp2
    go_ret
    exact ⟨rfl, rfl⟩
  have b2 : (code == 2) = false := beq_eq_false_iff_ne.2 h2
  by_cases h3 : code = 3
  · subst h3
    rw [show pairS 4 3 = true by decide]
    clear b0 h0 b2 h2
    go_enter Tryd.func46, Tryd.ntmps46
    go_wp2
    go_ret
    exact ⟨rfl, rfl⟩
  have b3 : (code == 3) = false := beq_eq_false_iff_ne.2 h3
  by_cases h8 : code = 8
  · subst h8
    rw [show pairS 4 8 = true by decide]
    clear b0 h0 b2 h2 b3 h3
    go_enter Tryd.func46, Tryd.ntmps46
    go_wp2
    go_ret
    exact ⟨rfl, rfl⟩
  have b8 : (code == 8) = false := beq_eq_false_iff_ne.2 h8
  have hS : pairS 4 code = false := by
    unfold pairS
    rw [List.any_eq_false]
    intro c hc
    simp [pairL] at hc
    rw [beq_iff_eq]
    intro he
    rcases hc with rfl | rfl | rfl | rfl <;> simp [n8] at he <;> omega
  rw [hS]
  clear hS h0 h2 h3 h8
  go_enter Tryd.func46, Tryd.ntmps46
  go_wp2
  go_ret
  exact ⟨rfl, rfl⟩

set_option maxRecDepth 100000 in
set_option maxHeartbeats 1600000 in
theorem paired_5 (code : Int) (w : World) : Calls Tryd.prog 46 #[.int .i64 5, .int .i64 code] w fun e w' => e = .returned (.bool (pairS 5 code)) ∧ w' = w := by
  by_cases h0 : code = 0
  · subst h0
    rw [show pairS 5 0 = true by decide]
    go_enter Tryd.func46, Tryd.ntmps46
    go_wp2
    go_ret
    exact ⟨rfl, rfl⟩
  have b0 : (code == 0) = false := beq_eq_false_iff_ne.2 h0
  by_cases h2 : code = 2
  · subst h2
    rw [show pairS 5 2 = true by decide]
    clear b0 h0
    go_enter Tryd.func46, Tryd.ntmps46
    go_wp2
    go_ret
    exact ⟨rfl, rfl⟩
  have b2 : (code == 2) = false := beq_eq_false_iff_ne.2 h2
  have hS : pairS 5 code = false := by
    unfold pairS
    rw [List.any_eq_false]
    intro c hc
    simp [pairL] at hc
    rw [beq_iff_eq]
    intro he
    rcases hc with rfl | rfl <;> simp [n8] at he <;> omega
  rw [hS]
  clear hS h0 h2
  go_enter Tryd.func46, Tryd.ntmps46
  go_wp2
  go_ret
  exact ⟨rfl, rfl⟩

set_option maxRecDepth 100000 in
set_option maxHeartbeats 1600000 in
theorem paired_none (op code : Int) (w : World) (h : op < 0 ∨ 5 < op) : Calls Tryd.prog 46 #[.int .i64 op, .int .i64 code] w fun e w' => e = .returned (.bool (pairS op code)) ∧ w' = w := by
  have hS : pairS op code = false := by
    unfold pairS pairL
    rw [if_neg (by omega), if_neg (by omega), if_neg (by omega), if_neg (by omega), if_neg (by omega), if_neg (by omega)]
    rfl
  rw [hS]
  have b0 : (op == 0) = false := beq_eq_false_iff_ne.2 (by omega)
  have b1 : (op == 1) = false := beq_eq_false_iff_ne.2 (by omega)
  have b2 : (op == 2) = false := beq_eq_false_iff_ne.2 (by omega)
  have b3 : (op == 3) = false := beq_eq_false_iff_ne.2 (by omega)
  have b4 : (op == 4) = false := beq_eq_false_iff_ne.2 (by omega)
  have b5 : (op == 5) = false := beq_eq_false_iff_ne.2 (by omega)
  clear hS h
  go_enter Tryd.func46, Tryd.ntmps46
  go_wp2
  go_ret
  exact ⟨rfl, rfl⟩
theorem paired_calls (op code : Int) (w : World) : Calls Tryd.prog 46 #[.int .i64 op, .int .i64 code] w fun e w' => e = .returned (.bool (pairS op code)) ∧ w' = w := by
  by_cases h : op < 0 ∨ 5 < op
  · exact paired_none op code w h
  · rcases (by omega : op = 0 ∨ op = 1 ∨ op = 2 ∨ op = 3 ∨ op = 4 ∨ op = 5) with rfl | rfl | rfl | rfl | rfl | rfl
    · exact paired_0 code w
    · exact paired_1 code w
    · exact paired_2 code w
    · exact paired_3 code w
    · exact paired_4 code w
    · exact paired_5 code w
end Go.Proofs.YtonfeppenhebjaaDoor
