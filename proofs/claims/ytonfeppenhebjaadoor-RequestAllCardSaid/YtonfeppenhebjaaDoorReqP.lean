/- Package request: policies; which codes stand with which kind. (Printed by gen_reqp.py of this session.) -/
import Derived.Test.YtonfeppenhebjaaDoorPackR4
import Derived.Test.YtonfeppenhebjaaDoorPuts
import Derived.Test.YtonfeppenhebjaaDoorApp
import Derived.Laws.StructEq
import Derived.Laws.RangeString
import Derived.Laws.RangeAny
import Derived.Deep.RegionHeld3
namespace Go.Proofs.YtonfeppenhebjaaDoor
open Go Go.RowKit
set_option linter.unusedVariables false
set_option linter.unusedSimpArgs false
attribute [local go_sem] IntKind.wrap_u64 c64_8 c8_64 c16_64 c32_64 c64_16 c64_32 or8 and8 n64_self n8_self beq_n64 beq_n8 bne_n8 bne_n64 beq_n64_0 bne_n64_0

structure Pol where
  kind : Int
  gap : UInt64
  slack : UInt64
  limit : UInt64
  span : UInt64
  deriving Inhabited, DecidableEq
def polC (p : Pol) : List Value := [.int .i64 p.kind, .int .u64 (n64 p.gap), .int .u64 (n64 p.slack), .int .u64 (n64 p.limit), .int .u64 (n64 p.span)]
/-- a policy as a value -/
def polV (p : Pol) : Value := .agg #[.int .i64 p.kind, .int .u64 (n64 p.gap), .int .u64 (n64 p.slack), .int .u64 (n64 p.limit), .int .u64 (n64 p.span)]
def polZ : Pol := ⟨0, 0, 0, 0, 0⟩
/-- does a policy's kind fit its fields -/
def sayS (p : Pol) : Bool := if p.kind = 1 then p.limit == 0 && p.span == 0 else if p.kind = 2 then p.gap == 0 && p.slack == 0 else false
/-- the lowest byte -/
def b8 (z : Int) : UInt8 := UInt8.ofNat (z % 256).toNat
theorem wrap_b8 (z : Int) : IntKind.u8.wrap z = n8 (b8 z) := by
  rw [wrap_u8']
  unfold n8 b8
  rw [UInt8.toNat_ofNat']
  omega
/-- a policy's bytes -/
def polB (p : Pol) : List UInt8 := b8 p.kind :: (if p.kind = 2 then leS p.limit 8 ++ leS p.span 8 else leS p.gap 8 ++ leS p.slack 8)
theorem polB_length (p : Pol) : (polB p).length = 17 := by
  unfold polB
  split <;> simp [leS_length]

set_option maxRecDepth 100000 in
set_option maxHeartbeats 800000 in
theorem sayable_calls (p : Pol) (w : World) :
    Calls Tryd.prog 23 #[polV p] w fun e w' => e = .returned (.bool (sayS p)) ∧ Below w.heap.size w w' := by
  obtain ⟨kind, gap, slack, limit, span⟩ := p
  have hb : Below w.heap.size w (w.alloc (.cells #[.int .i64 kind, .int .u64 (n64 gap), .int .u64 (n64 slack), .int .u64 (n64 limit), .int .u64 (n64 span)] 28)) := (Below.refl _ _).alloc (Nat.le_refl _) _
  have HB := Go.Lib.hid hb
  clear hb
  simp only [polV]
  by_cases k1 : kind = 1
  · subst k1
    rw [show sayS ⟨1, gap, slack, limit, span⟩ = (limit == 0 && span == 0) from rfl]
    by_cases hl : limit = 0
    · subst hl
      go_enter Tryd.func23, Tryd.ntmps23
      go_wp2
      go_ret
      exact ⟨rfl, HB.out⟩
    · have hb : (limit == 0) = false := by simpa using hl
      rw [hb]
      clear hl
      go_enter Tryd.func23, Tryd.ntmps23
      go_wp2
      go_ret
      exact ⟨rfl, HB.out⟩
  by_cases k2 : kind = 2
  · subst k2
    rw [show sayS ⟨2, gap, slack, limit, span⟩ = (gap == 0 && slack == 0) from rfl]
    by_cases hl : gap = 0
    · subst hl
      go_enter Tryd.func23, Tryd.ntmps23
      go_wp2
      go_ret
      exact ⟨rfl, HB.out⟩
    · have hb : (gap == 0) = false := by simpa using hl
      rw [hb]
      clear hl
      go_enter Tryd.func23, Tryd.ntmps23
      go_wp2
      go_ret
      exact ⟨rfl, HB.out⟩
  · have hS : sayS ⟨kind, gap, slack, limit, span⟩ = false := by unfold sayS; rw [if_neg k1, if_neg k2]
    rw [hS]
    have b1 : (kind == 1) = false := beq_eq_false_iff_ne.2 k1
    have b2 : (kind == 2) = false := beq_eq_false_iff_ne.2 k2
    clear hS k1 k2
    go_enter Tryd.func23, Tryd.ntmps23
    go_wp2
    go_ret
    exact ⟨rfl, HB.out⟩

/-- the codes of a kind -/
def pairL (op : Int) : List UInt8 :=
  if op = 0 then [9] else if op = 1 then [0, 2, 4, 5, 6, 8] else if op = 2 then [0, 1, 2, 3, 7, 8] else if op = 3 then [0, 3, 8] else if op = 4 then [0, 2, 3, 8] else if op = 5 then [0, 2] else []
def pairS (op code : Int) : Bool := (pairL op).any fun c => n8 c == code
theorem any_take (cl : List UInt8) (code : Int) (k : Nat) (hk : k < cl.length) (h : ∀ c ∈ cl.take k, (n8 c == code) = false) (hn : (n8 cl[k] == code) = false) : ∀ c ∈ cl.take (k + 1), (n8 c == code) = false := by
  intro c hc
  rw [List.take_succ_eq_append_getElem hk, List.mem_append] at hc
  rcases hc with hc | hc
  · exact h c hc
  · simp at hc; subst hc; exact hn
theorem any_end (cl : List UInt8) (code : Int) (h : ∀ c ∈ cl, (n8 c == code) = false) : (cl.any fun c => n8 c == code) = false := by
  rw [List.any_eq_false]
  intro c hc
  rw [h c hc]
  decide
theorem any_hit (cl : List UInt8) (code : Int) (k : Nat) (hk : k < cl.length) (hn : (n8 cl[k] == code) = true) : (cl.any fun c => n8 c == code) = true := by
  rw [List.any_eq_true]
  exact ⟨cl[k], List.getElem_mem hk, hn⟩
theorem iter_pos (w : World) (s : ByteArray) (p : Nat) : (w.iter s p).iterPos w.heap.size = p := World.iterPos_iter w s p
theorem below_iter (w : World) (s : ByteArray) (k : Nat) : Below w.heap.size w (w.iter s k) := (Below.refl _ _).alloc (Nat.le_refl _) _

set_option maxRecDepth 100000 in
set_option maxHeartbeats 3200000 in
theorem pair_calls (op code : Int) (w : World) : Calls Tryd.prog 34 #[.int .i64 op, .int .i64 code] w fun e w' => e = .returned (.bool (pairS op code)) ∧ Below w.heap.size w w' := by
  by_cases k0 : op = 0
  · subst k0
    rw [show pairS 0 code = ([9] : List UInt8).any fun c => n8 c == code from rfl]
    obtain ⟨cl, hcl⟩ : ∃ cl : List UInt8, cl = [9] := ⟨_, rfl⟩
    have hasc : ∀ c ∈ cl, c < 128 := by rw [hcl]; decide
    have HASC := Go.Lib.hid hasc
    rw [← hcl]
    have HCL := Go.Lib.hid hcl
    clear hcl hasc
    go_enter Tryd.func34, Tryd.ntmps34
    go_wp2
    rw [← HCL.out]
    clear HCL
    go_loopw [7] (fun c wr => ∃ k : Nat, wr = w.iter ⟨cl.toArray⟩ k ∧ k ≤ cl.length ∧ Hid (∀ c ∈ cl.take k, (n8 c == code) = false)) (fun _ wr => cl.length - wr.iterPos w.heap.size)
    case atStart => exact ⟨0, rfl, Nat.zero_le _, fun c hc => absurd hc (by simp)⟩
    case round =>
      obtain ⟨k, rfl, hk, HN⟩ := hrel
      by_cases hlt : k < cl.length
      · have hnx : ∀ ty, (Instr.next (.pointer (some ⟨w.heap.size, 0, none⟩)) true ty).run Tryd.prog (w.iter ⟨cl.toArray⟩ k) = .ok (.tuple #[.bool true, .int .i64 k, .int .i32 (n8 cl[k])]) (w.iter ⟨cl.toArray⟩ (k + 1)) := fun ty =>
          run_next_ascii w ⟨cl.toArray⟩ k ty hlt (by have := HASC.out cl[k] (List.getElem_mem hlt); rw [UInt8.lt_iff_toNat_lt] at this; exact this)
        have hz0 : 0 ≤ n8 cl[k] := by unfold n8; omega
        have hz1 : n8 cl[k] < 256 := by unfold n8; have := cl[k].toNat_lt; omega
        by_cases hq : (n8 cl[k] == code) = true
        · have HQ := Go.Lib.hid (any_hit cl code k hlt hq)
          generalize n8 cl[k] = z at *
          go_wp2
          go_ret
          exact ⟨by rw [HQ.out]; rfl, below_iter w _ _⟩
        · have hq' : (n8 cl[k] == code) = false := by simpa using hq
          have HQ := Go.Lib.hid (any_take cl code k hlt HN.out hq')
          clear hq HN
          generalize n8 cl[k] = z at *
          go_wp2
          go_roundw
          case rel => exact ⟨k + 1, rfl, by omega, HQ⟩
          case measure => simp only [iter_pos]; omega
      · have hnx : ∀ ty, (Instr.next (.pointer (some ⟨w.heap.size, 0, none⟩)) true ty).run Tryd.prog (w.iter ⟨cl.toArray⟩ k) = .ok (.tuple #[.bool false]) (w.iter ⟨cl.toArray⟩ k) := fun ty => run_next_end w ⟨cl.toArray⟩ k ty hlt
        have hn := HN.out
        rw [List.take_of_length_le (by omega)] at hn
        have HQ := Go.Lib.hid (any_end cl code hn)
        clear hn HN
        go_wp2
        go_ret
        exact ⟨by rw [HQ.out]; rfl, below_iter w _ _⟩
  have b0 : (op == 0) = false := beq_eq_false_iff_ne.2 k0
  by_cases k1 : op = 1
  · subst k1
    rw [show pairS 1 code = ([0, 2, 4, 5, 6, 8] : List UInt8).any fun c => n8 c == code from rfl]
    clear k0 b0
    obtain ⟨cl, hcl⟩ : ∃ cl : List UInt8, cl = [0, 2, 4, 5, 6, 8] := ⟨_, rfl⟩
    have hasc : ∀ c ∈ cl, c < 128 := by rw [hcl]; decide
    have HASC := Go.Lib.hid hasc
    rw [← hcl]
    have HCL := Go.Lib.hid hcl
    clear hcl hasc
    go_enter Tryd.func34, Tryd.ntmps34
    go_wp2
    rw [← HCL.out]
    clear HCL
    go_loopw [7] (fun c wr => ∃ k : Nat, wr = w.iter ⟨cl.toArray⟩ k ∧ k ≤ cl.length ∧ Hid (∀ c ∈ cl.take k, (n8 c == code) = false)) (fun _ wr => cl.length - wr.iterPos w.heap.size)
    case atStart => exact ⟨0, rfl, Nat.zero_le _, fun c hc => absurd hc (by simp)⟩
    case round =>
      obtain ⟨k, rfl, hk, HN⟩ := hrel
      by_cases hlt : k < cl.length
      · have hnx : ∀ ty, (Instr.next (.pointer (some ⟨w.heap.size, 0, none⟩)) true ty).run Tryd.prog (w.iter ⟨cl.toArray⟩ k) = .ok (.tuple #[.bool true, .int .i64 k, .int .i32 (n8 cl[k])]) (w.iter ⟨cl.toArray⟩ (k + 1)) := fun ty =>
          run_next_ascii w ⟨cl.toArray⟩ k ty hlt (by have := HASC.out cl[k] (List.getElem_mem hlt); rw [UInt8.lt_iff_toNat_lt] at this; exact this)
        have hz0 : 0 ≤ n8 cl[k] := by unfold n8; omega
        have hz1 : n8 cl[k] < 256 := by unfold n8; have := cl[k].toNat_lt; omega
        by_cases hq : (n8 cl[k] == code) = true
        · have HQ := Go.Lib.hid (any_hit cl code k hlt hq)
          generalize n8 cl[k] = z at *
          go_wp2
          go_ret
          exact ⟨by rw [HQ.out]; rfl, below_iter w _ _⟩
        · have hq' : (n8 cl[k] == code) = false := by simpa using hq
          have HQ := Go.Lib.hid (any_take cl code k hlt HN.out hq')
          clear hq HN
          generalize n8 cl[k] = z at *
          go_wp2
          go_roundw
          case rel => exact ⟨k + 1, rfl, by omega, HQ⟩
          case measure => simp only [iter_pos]; omega
      · have hnx : ∀ ty, (Instr.next (.pointer (some ⟨w.heap.size, 0, none⟩)) true ty).run Tryd.prog (w.iter ⟨cl.toArray⟩ k) = .ok (.tuple #[.bool false]) (w.iter ⟨cl.toArray⟩ k) := fun ty => run_next_end w ⟨cl.toArray⟩ k ty hlt
        have hn := HN.out
        rw [List.take_of_length_le (by omega)] at hn
        have HQ := Go.Lib.hid (any_end cl code hn)
        clear hn HN
        go_wp2
        go_ret
        exact ⟨by rw [HQ.out]; rfl, below_iter w _ _⟩
  have b1 : (op == 1) = false := beq_eq_false_iff_ne.2 k1
  by_cases k2 : op = 2
  · subst k2
    rw [show pairS 2 code = ([0, 1, 2, 3, 7, 8] : List UInt8).any fun c => n8 c == code from rfl]
    clear k0 b0 k1 b1
    obtain ⟨cl, hcl⟩ : ∃ cl : List UInt8, cl = [0, 1, 2, 3, 7, 8] := ⟨_, rfl⟩
    have hasc : ∀ c ∈ cl, c < 128 := by rw [hcl]; decide
    have HASC := Go.Lib.hid hasc
    rw [← hcl]
    have HCL := Go.Lib.hid hcl
    clear hcl hasc
    go_enter Tryd.func34, Tryd.ntmps34
    go_wp2
    rw [← HCL.out]
    clear HCL
    go_loopw [7] (fun c wr => ∃ k : Nat, wr = w.iter ⟨cl.toArray⟩ k ∧ k ≤ cl.length ∧ Hid (∀ c ∈ cl.take k, (n8 c == code) = false)) (fun _ wr => cl.length - wr.iterPos w.heap.size)
    case atStart => exact ⟨0, rfl, Nat.zero_le _, fun c hc => absurd hc (by simp)⟩
    case round =>
      obtain ⟨k, rfl, hk, HN⟩ := hrel
      by_cases hlt : k < cl.length
      · have hnx : ∀ ty, (Instr.next (.pointer (some ⟨w.heap.size, 0, none⟩)) true ty).run Tryd.prog (w.iter ⟨cl.toArray⟩ k) = .ok (.tuple #[.bool true, .int .i64 k, .int .i32 (n8 cl[k])]) (w.iter ⟨cl.toArray⟩ (k + 1)) := fun ty =>
          run_next_ascii w ⟨cl.toArray⟩ k ty hlt (by have := HASC.out cl[k] (List.getElem_mem hlt); rw [UInt8.lt_iff_toNat_lt] at this; exact this)
        have hz0 : 0 ≤ n8 cl[k] := by unfold n8; omega
        have hz1 : n8 cl[k] < 256 := by unfold n8; have := cl[k].toNat_lt; omega
        by_cases hq : (n8 cl[k] == code) = true
        · have HQ := Go.Lib.hid (any_hit cl code k hlt hq)
          generalize n8 cl[k] = z at *
          go_wp2
          go_ret
          exact ⟨by rw [HQ.out]; rfl, below_iter w _ _⟩
        · have hq' : (n8 cl[k] == code) = false := by simpa using hq
          have HQ := Go.Lib.hid (any_take cl code k hlt HN.out hq')
          clear hq HN
          generalize n8 cl[k] = z at *
          go_wp2
          go_roundw
          case rel => exact ⟨k + 1, rfl, by omega, HQ⟩
          case measure => simp only [iter_pos]; omega
      · have hnx : ∀ ty, (Instr.next (.pointer (some ⟨w.heap.size, 0, none⟩)) true ty).run Tryd.prog (w.iter ⟨cl.toArray⟩ k) = .ok (.tuple #[.bool false]) (w.iter ⟨cl.toArray⟩ k) := fun ty => run_next_end w ⟨cl.toArray⟩ k ty hlt
        have hn := HN.out
        rw [List.take_of_length_le (by omega)] at hn
        have HQ := Go.Lib.hid (any_end cl code hn)
        clear hn HN
        go_wp2
        go_ret
        exact ⟨by rw [HQ.out]; rfl, below_iter w _ _⟩
  have b2 : (op == 2) = false := beq_eq_false_iff_ne.2 k2
  by_cases k3 : op = 3
  · subst k3
    rw [show pairS 3 code = ([0, 3, 8] : List UInt8).any fun c => n8 c == code from rfl]
    clear k0 b0 k1 b1 k2 b2
    obtain ⟨cl, hcl⟩ : ∃ cl : List UInt8, cl = [0, 3, 8] := ⟨_, rfl⟩
    have hasc : ∀ c ∈ cl, c < 128 := by rw [hcl]; decide
    have HASC := Go.Lib.hid hasc
    rw [← hcl]
    have HCL := Go.Lib.hid hcl
    clear hcl hasc
    go_enter Tryd.func34, Tryd.ntmps34
    go_wp2
    rw [← HCL.out]
    clear HCL
    go_loopw [7] (fun c wr => ∃ k : Nat, wr = w.iter ⟨cl.toArray⟩ k ∧ k ≤ cl.length ∧ Hid (∀ c ∈ cl.take k, (n8 c == code) = false)) (fun _ wr => cl.length - wr.iterPos w.heap.size)
    case atStart => exact ⟨0, rfl, Nat.zero_le _, fun c hc => absurd hc (by simp)⟩
    case round =>
      obtain ⟨k, rfl, hk, HN⟩ := hrel
      by_cases hlt : k < cl.length
      · have hnx : ∀ ty, (Instr.next (.pointer (some ⟨w.heap.size, 0, none⟩)) true ty).run Tryd.prog (w.iter ⟨cl.toArray⟩ k) = .ok (.tuple #[.bool true, .int .i64 k, .int .i32 (n8 cl[k])]) (w.iter ⟨cl.toArray⟩ (k + 1)) := fun ty =>
          run_next_ascii w ⟨cl.toArray⟩ k ty hlt (by have := HASC.out cl[k] (List.getElem_mem hlt); rw [UInt8.lt_iff_toNat_lt] at this; exact this)
        have hz0 : 0 ≤ n8 cl[k] := by unfold n8; omega
        have hz1 : n8 cl[k] < 256 := by unfold n8; have := cl[k].toNat_lt; omega
        by_cases hq : (n8 cl[k] == code) = true
        · have HQ := Go.Lib.hid (any_hit cl code k hlt hq)
          generalize n8 cl[k] = z at *
          go_wp2
          go_ret
          exact ⟨by rw [HQ.out]; rfl, below_iter w _ _⟩
        · have hq' : (n8 cl[k] == code) = false := by simpa using hq
          have HQ := Go.Lib.hid (any_take cl code k hlt HN.out hq')
          clear hq HN
          generalize n8 cl[k] = z at *
          go_wp2
          go_roundw
          case rel => exact ⟨k + 1, rfl, by omega, HQ⟩
          case measure => simp only [iter_pos]; omega
      · have hnx : ∀ ty, (Instr.next (.pointer (some ⟨w.heap.size, 0, none⟩)) true ty).run Tryd.prog (w.iter ⟨cl.toArray⟩ k) = .ok (.tuple #[.bool false]) (w.iter ⟨cl.toArray⟩ k) := fun ty => run_next_end w ⟨cl.toArray⟩ k ty hlt
        have hn := HN.out
        rw [List.take_of_length_le (by omega)] at hn
        have HQ := Go.Lib.hid (any_end cl code hn)
        clear hn HN
        go_wp2
        go_ret
        exact ⟨by rw [HQ.out]; rfl, below_iter w _ _⟩
  have b3 : (op == 3) = false := beq_eq_false_iff_ne.2 k3
  by_cases k4 : op = 4
  · subst k4
    rw [show pairS 4 code = ([0, 2, 3, 8] : List UInt8).any fun c => n8 c == code from rfl]
    clear k0 b0 k1 b1 k2 b2 k3 b3
    obtain ⟨cl, hcl⟩ : ∃ cl : List UInt8, cl = [0, 2, 3, 8] := ⟨_, rfl⟩
    have hasc : ∀ c ∈ cl, c < 128 := by rw [hcl]; decide
    have HASC := Go.Lib.hid hasc
    rw [← hcl]
    have HCL := Go.Lib.hid hcl
    clear hcl hasc
    go_enter Tryd.func34, Tryd.ntmps34
    go_wp2
    rw [← HCL.out]
    clear HCL
    go_loopw [7] (fun c wr => ∃ k : Nat, wr = w.iter ⟨cl.toArray⟩ k ∧ k ≤ cl.length ∧ Hid (∀ c ∈ cl.take k, (n8 c == code) = false)) (fun _ wr => cl.length - wr.iterPos w.heap.size)
    case atStart => exact ⟨0, rfl, Nat.zero_le _, fun c hc => absurd hc (by simp)⟩
    case round =>
      obtain ⟨k, rfl, hk, HN⟩ := hrel
      by_cases hlt : k < cl.length
      · have hnx : ∀ ty, (Instr.next (.pointer (some ⟨w.heap.size, 0, none⟩)) true ty).run Tryd.prog (w.iter ⟨cl.toArray⟩ k) = .ok (.tuple #[.bool true, .int .i64 k, .int .i32 (n8 cl[k])]) (w.iter ⟨cl.toArray⟩ (k + 1)) := fun ty =>
          run_next_ascii w ⟨cl.toArray⟩ k ty hlt (by have := HASC.out cl[k] (List.getElem_mem hlt); rw [UInt8.lt_iff_toNat_lt] at this; exact this)
        have hz0 : 0 ≤ n8 cl[k] := by unfold n8; omega
        have hz1 : n8 cl[k] < 256 := by unfold n8; have := cl[k].toNat_lt; omega
        by_cases hq : (n8 cl[k] == code) = true
        · have HQ := Go.Lib.hid (any_hit cl code k hlt hq)
          generalize n8 cl[k] = z at *
          go_wp2
          go_ret
          exact ⟨by rw [HQ.out]; rfl, below_iter w _ _⟩
        · have hq' : (n8 cl[k] == code) = false := by simpa using hq
          have HQ := Go.Lib.hid (any_take cl code k hlt HN.out hq')
          clear hq HN
          generalize n8 cl[k] = z at *
          go_wp2
          go_roundw
          case rel => exact ⟨k + 1, rfl, by omega, HQ⟩
          case measure => simp only [iter_pos]; omega
      · have hnx : ∀ ty, (Instr.next (.pointer (some ⟨w.heap.size, 0, none⟩)) true ty).run Tryd.prog (w.iter ⟨cl.toArray⟩ k) = .ok (.tuple #[.bool false]) (w.iter ⟨cl.toArray⟩ k) := fun ty => run_next_end w ⟨cl.toArray⟩ k ty hlt
        have hn := HN.out
        rw [List.take_of_length_le (by omega)] at hn
        have HQ := Go.Lib.hid (any_end cl code hn)
        clear hn HN
        go_wp2
        go_ret
        exact ⟨by rw [HQ.out]; rfl, below_iter w _ _⟩
  have b4 : (op == 4) = false := beq_eq_false_iff_ne.2 k4
  by_cases k5 : op = 5
  · subst k5
    rw [show pairS 5 code = ([0, 2] : List UInt8).any fun c => n8 c == code from rfl]
    clear k0 b0 k1 b1 k2 b2 k3 b3 k4 b4
    obtain ⟨cl, hcl⟩ : ∃ cl : List UInt8, cl = [0, 2] := ⟨_, rfl⟩
    have hasc : ∀ c ∈ cl, c < 128 := by rw [hcl]; decide
    have HASC := Go.Lib.hid hasc
    rw [← hcl]
    have HCL := Go.Lib.hid hcl
    clear hcl hasc
    go_enter Tryd.func34, Tryd.ntmps34
    go_wp2
    rw [← HCL.out]
    clear HCL
    go_loopw [7] (fun c wr => ∃ k : Nat, wr = w.iter ⟨cl.toArray⟩ k ∧ k ≤ cl.length ∧ Hid (∀ c ∈ cl.take k, (n8 c == code) = false)) (fun _ wr => cl.length - wr.iterPos w.heap.size)
    case atStart => exact ⟨0, rfl, Nat.zero_le _, fun c hc => absurd hc (by simp)⟩
    case round =>
      obtain ⟨k, rfl, hk, HN⟩ := hrel
      by_cases hlt : k < cl.length
      · have hnx : ∀ ty, (Instr.next (.pointer (some ⟨w.heap.size, 0, none⟩)) true ty).run Tryd.prog (w.iter ⟨cl.toArray⟩ k) = .ok (.tuple #[.bool true, .int .i64 k, .int .i32 (n8 cl[k])]) (w.iter ⟨cl.toArray⟩ (k + 1)) := fun ty =>
          run_next_ascii w ⟨cl.toArray⟩ k ty hlt (by have := HASC.out cl[k] (List.getElem_mem hlt); rw [UInt8.lt_iff_toNat_lt] at this; exact this)
        have hz0 : 0 ≤ n8 cl[k] := by unfold n8; omega
        have hz1 : n8 cl[k] < 256 := by unfold n8; have := cl[k].toNat_lt; omega
        by_cases hq : (n8 cl[k] == code) = true
        · have HQ := Go.Lib.hid (any_hit cl code k hlt hq)
          generalize n8 cl[k] = z at *
          go_wp2
          go_ret
          exact ⟨by rw [HQ.out]; rfl, below_iter w _ _⟩
        · have hq' : (n8 cl[k] == code) = false := by simpa using hq
          have HQ := Go.Lib.hid (any_take cl code k hlt HN.out hq')
          clear hq HN
          generalize n8 cl[k] = z at *
          go_wp2
          go_roundw
          case rel => exact ⟨k + 1, rfl, by omega, HQ⟩
          case measure => simp only [iter_pos]; omega
      · have hnx : ∀ ty, (Instr.next (.pointer (some ⟨w.heap.size, 0, none⟩)) true ty).run Tryd.prog (w.iter ⟨cl.toArray⟩ k) = .ok (.tuple #[.bool false]) (w.iter ⟨cl.toArray⟩ k) := fun ty => run_next_end w ⟨cl.toArray⟩ k ty hlt
        have hn := HN.out
        rw [List.take_of_length_le (by omega)] at hn
        have HQ := Go.Lib.hid (any_end cl code hn)
        clear hn HN
        go_wp2
        go_ret
        exact ⟨by rw [HQ.out]; rfl, below_iter w _ _⟩
  have b5 : (op == 5) = false := beq_eq_false_iff_ne.2 k5
  have hP : pairS op code = ([] : List UInt8).any fun c => n8 c == code := by unfold pairS pairL; rw [if_neg k0, if_neg k1, if_neg k2, if_neg k3, if_neg k4, if_neg k5]
  rw [hP]
  clear hP k0 k1 k2 k3 k4 k5
  obtain ⟨cl, hcl⟩ : ∃ cl : List UInt8, cl = [] := ⟨_, rfl⟩
  have hasc : ∀ c ∈ cl, c < 128 := by rw [hcl]; decide
  have HASC := Go.Lib.hid hasc
  rw [← hcl]
  have HCL := Go.Lib.hid hcl
  clear hcl hasc
  go_enter Tryd.func34, Tryd.ntmps34
  go_wp2
  rw [← HCL.out]
  clear HCL
  go_loopw [7] (fun c wr => ∃ k : Nat, wr = w.iter ⟨cl.toArray⟩ k ∧ k ≤ cl.length ∧ Hid (∀ c ∈ cl.take k, (n8 c == code) = false)) (fun _ wr => cl.length - wr.iterPos w.heap.size)
  case atStart => exact ⟨0, rfl, Nat.zero_le _, fun c hc => absurd hc (by simp)⟩
  case round =>
    obtain ⟨k, rfl, hk, HN⟩ := hrel
    by_cases hlt : k < cl.length
    · have hnx : ∀ ty, (Instr.next (.pointer (some ⟨w.heap.size, 0, none⟩)) true ty).run Tryd.prog (w.iter ⟨cl.toArray⟩ k) = .ok (.tuple #[.bool true, .int .i64 k, .int .i32 (n8 cl[k])]) (w.iter ⟨cl.toArray⟩ (k + 1)) := fun ty =>
        run_next_ascii w ⟨cl.toArray⟩ k ty hlt (by have := HASC.out cl[k] (List.getElem_mem hlt); rw [UInt8.lt_iff_toNat_lt] at this; exact this)
      have hz0 : 0 ≤ n8 cl[k] := by unfold n8; omega
      have hz1 : n8 cl[k] < 256 := by unfold n8; have := cl[k].toNat_lt; omega
      by_cases hq : (n8 cl[k] == code) = true
      · have HQ := Go.Lib.hid (any_hit cl code k hlt hq)
        generalize n8 cl[k] = z at *
        go_wp2
        go_ret
        exact ⟨by rw [HQ.out]; rfl, below_iter w _ _⟩
      · have hq' : (n8 cl[k] == code) = false := by simpa using hq
        have HQ := Go.Lib.hid (any_take cl code k hlt HN.out hq')
        clear hq HN
        generalize n8 cl[k] = z at *
        go_wp2
        go_roundw
        case rel => exact ⟨k + 1, rfl, by omega, HQ⟩
        case measure => simp only [iter_pos]; omega
    · have hnx : ∀ ty, (Instr.next (.pointer (some ⟨w.heap.size, 0, none⟩)) true ty).run Tryd.prog (w.iter ⟨cl.toArray⟩ k) = .ok (.tuple #[.bool false]) (w.iter ⟨cl.toArray⟩ k) := fun ty => run_next_end w ⟨cl.toArray⟩ k ty hlt
      have hn := HN.out
      rw [List.take_of_length_le (by omega)] at hn
      have HQ := Go.Lib.hid (any_end cl code hn)
      clear hn HN
      go_wp2
      go_ret
      exact ⟨by rw [HQ.out]; rfl, below_iter w _ _⟩
end Go.Proofs.YtonfeppenhebjaaDoor
