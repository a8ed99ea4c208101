/- Package request: Encode. (Printed by gen_reqe.py of this session.) -/
import Derived.Test.YtonfeppenhebjaaDoorReqEq
import Derived.Test.YtonfeppenhebjaaDoorReqPP
namespace Go.Proofs.YtonfeppenhebjaaDoor
open Go Go.RowKit
set_option linter.unusedVariables false
set_option linter.unusedSimpArgs false
attribute [local go_sem] IntKind.wrap_u64 c64_8 c8_64 c16_64 c32_64 c64_16 c64_32 or8 and8 n64_self n8_self beq_n64 beq_n8 bne_n8 bne_n64 beq_n64_0 bne_n64_0 wrap_b8

/-- the first four errors hold what the program's text lays -/
def E4 (w : World) (p : Nat → Addr) : Prop := ∀ k, 1 ≤ k → k ≤ 4 → w.cell? ⟨errG k, 0, none⟩ = some (errv p k)
theorem e4_below {w w1 : World} {p : Nat → Addr} (h : E4 w p) (hb : Below w.heap.size w w1) : E4 w1 p := fun k h1 h2 => below_cell hb (h k h1 h2)
theorem e4_long {w : World} {p : Nat → Addr} (h : E4 w p) : LongAt w p := h 4 (by decide) (by decide)
theorem e4_two {w : World} {p : Nat → Addr} (h : E4 w p) : Errs w (p 2) (p 3) := ⟨h 2 (by decide) (by decide), h 3 (by decide) (by decide)⟩
theorem e4_arg {w : World} {p : Nat → Addr} (h : E4 w p) : w.cell? ⟨0, 0, none⟩ = some (.iface 105 (.pointer (some (p 1)))) := h 1 (by decide) (by decide)
theorem e4_lng {w : World} {p : Nat → Addr} (h : E4 w p) : w.cell? ⟨1, 0, none⟩ = some (.iface 105 (.pointer (some (p 4)))) := h 4 (by decide) (by decide)
theorem e4_form {w : World} {p : Nat → Addr} (h : E4 w p) : w.cell? ⟨3, 0, none⟩ = some (.iface 105 (.pointer (some (p 3)))) := h 3 (by decide) (by decide)
theorem box8 {w : World} {g T : Nat} {v0 v1 v2 v3 v4 v5 v6 v7 : Value} {fr : Nat × Nat} (h : w.heap[g]? = some (.cells #[v0, v1, v2, v3, v4, v5, v6, v7] T fr)) :
    w.cell? ⟨g, 0, none⟩ = some v0 ∧ w.cell? ⟨g, 1, none⟩ = some v1 ∧ w.cell? ⟨g, 2, none⟩ = some v2 ∧ w.cell? ⟨g, 3, none⟩ = some v3 ∧ w.cell? ⟨g, 4, none⟩ = some v4 ∧ w.cell? ⟨g, 5, none⟩ = some v5 ∧ w.cell? ⟨g, 6, none⟩ = some v6 ∧ w.cell? ⟨g, 7, none⟩ = some v7 :=
  ⟨blk_cell h 0 _ rfl, blk_cell h 1 _ rfl, blk_cell h 2 _ rfl, blk_cell h 3 _ rfl, blk_cell h 4 _ rfl, blk_cell h 5 _ rfl, blk_cell h 6 _ rfl, blk_cell h 7 _ rfl⟩

/-- PutText of a text that is not too long, its answer under new names -/
theorem putText_v (A : Option Addr) (c : Nat) (l s : List UInt8) (p : Nat → Addr) (N : Nat) (w : World) (hp : LongAt w p) (hs : s.length ≤ 65535) (hl : l.length ≤ N) (hN : N ≤ 1000000) (hA : Cells w A (Bs l)) :
    Calls Tryd.prog 24 #[.slice A l.length c, .string ⟨s.toArray⟩] w fun e w' => ∃ A' c' l', e = .returned (.tuple #[.slice A' (l' : List UInt8).length c', .nilIface]) ∧ Hid (l' = l ++ leS (UInt64.ofNat s.length) 2 ++ s) ∧ Hid (Cells w' A' (Bs l')) ∧ l'.length ≤ N + 65537 ∧ Hid (Own w' w.heap.size 5 (.slice A' l'.length c') (Bs l')) ∧ Below w.heap.size w w' := by
  refine (putText_calls A c l s p w hp (by omega) hA).mono ?_
  have hT : textP l s = (l ++ leS (UInt64.ofNat s.length) 2 ++ s, 0) := by unfold textP; rw [if_neg (by omega)]
  rw [hT]
  rintro e w' ⟨v, rfl, hv, hb⟩
  obtain ⟨A', c', rfl, _, _, hc⟩ := own_slice hv
  simp only [errv]
  rw [Bs_length] at hv ⊢
  exact ⟨A', c', _, rfl, rfl, hc, by rw [List.length_append, List.length_append, leS_length]; omega, hv, hb⟩
/-- putPolicy, its answer under new names -/
theorem putPolicy_v (B : Nat) (A : Option Addr) (c : Nat) (l : List UInt8) (p : Pol) (N : Nat) (w : World) (hB : B ≤ w.heap.size) (hl : l.length ≤ N) (hN : N ≤ 1000000) (hv : Own w B 5 (.slice A l.length c) (Bs l)) :
    Calls Tryd.prog 25 #[.slice A l.length c, .agg (polA p)] w fun e w' => ∃ A' c' l', e = .returned (.slice A' (l' : List UInt8).length c') ∧ Hid (l' = l ++ polB p) ∧ Hid (Cells w' A' (Bs l')) ∧ l'.length ≤ N + 17 ∧ Hid (Own w' B 5 (.slice A' l'.length c') (Bs l')) ∧ Below B w w' := by
  refine (putPolicy_calls B _ l p w hB (by omega) hv).mono ?_
  rintro e w' ⟨v, rfl, hv', hb⟩
  obtain ⟨A', c', rfl, _, _, hc⟩ := own_slice hv'
  rw [Bs_length] at hv' ⊢
  exact ⟨A', c', _, rfl, rfl, hc, by rw [List.length_append, polB_length]; omega, hv', hb⟩

/-- a request's payload -/
def encBody (r : Req) : List UInt8 := b8 r.op :: ((if r.op = 5 then [] else leS (UInt64.ofNat r.key.length) 2 ++ r.key) ++ (if r.op = 1 then polB r.pol else if r.op = 2 then leS r.units 8 else []))
/-- can a request be said, but for its length -/
def sayR (r : Req) : Bool := decide (1 ≤ r.op) && decide (r.op ≤ 5) && (if r.op = 1 then sayS r.pol else r.pol == polZ) && (r.units == 0 || r.op == 2) && (r.key == [] || !(r.op == 5))
/-- what is too long is refused -/
def fit (b : List UInt8) : List UInt8 × Nat := if 256 < b.length then ([], 4) else (b, 0)
theorem fit_big (b : List UInt8) (h : 256 < b.length) : fit b = ([], 4) := by unfold fit; rw [if_pos h]
theorem fit_small (b : List UInt8) (h : ¬ 256 < b.length) : fit b = (b, 0) := by unfold fit; rw [if_neg h]
def encS (r : Req) : List UInt8 × Nat := if sayR r = false then ([], 1) else if 256 < r.key.length then ([], 4) else fit (encBody r)

theorem eqlit (kind : Int) (gap slack limit span : UInt64) (pb : Bool) (h : ((⟨kind, gap, slack, limit, span⟩ : Pol) == polZ) = pb) (W : World) :
    (binOp .eql 28 (.agg #[.int .i64 kind, .int .u64 (n64 gap), .int .u64 (n64 slack), .int .u64 (n64 limit), .int .u64 (n64 span)]) (.agg #[.int .i64 0, .int .u64 0, .int .u64 0, .int .u64 0, .int .u64 0])).run Tryd.prog W = .ok (.bool pb) W := by
  rw [← h]; exact eql_pol ⟨kind, gap, slack, limit, span⟩ polZ W

set_option maxRecDepth 100000 in
set_option maxHeartbeats 3200000 in
theorem encode_none (op : Int) (key : List UInt8) (kind : Int) (gap slack limit span units : UInt64) (p : Nat → Addr) (w : World) (hp : E4 w p) (hkl : key.length ≤ 9223372036854775807) (hop : op < 1 ∨ 5 < op) :
    Calls Tryd.prog 11 #[.agg (reqA ⟨op, key, ⟨kind, gap, slack, limit, span⟩, units⟩)] w fun e w' => GaveE p w w' e (encS ⟨op, key, ⟨kind, gap, slack, limit, span⟩, units⟩) := by
  have hbx : Below w.heap.size w (w.alloc (.cells #[.int .i64 op, .string ⟨key.toArray⟩, .int .i64 kind, .int .u64 (n64 gap), .int .u64 (n64 slack), .int .u64 (n64 limit), .int .u64 (n64 span), .int .u64 (n64 units)] 30)) := (Below.refl _ _).alloc (Nat.le_refl _) _
  have HBX := Go.Lib.hid hbx
  have e1 := e4_arg (e4_below hp hbx)
  have e4 := e4_lng (e4_below hp hbx)
  have HP := Go.Lib.hid (e4_long (e4_below hp hbx))
  have HG4 := Go.Lib.hid (World.block_lt_of_cell? w _ (e4_lng hp))
  simp only [reqA]
  clear hbx hp
  have hE : encS ⟨op, key, ⟨kind, gap, slack, limit, span⟩, units⟩ = ([], 1) := by
    unfold encS sayR
    rcases hop with h | h
    · have : decide (1 ≤ op) = false := decide_eq_false (by omega)
      simp [this]
    · have : decide (op ≤ 5) = false := decide_eq_false (by omega)
      simp [this]
  rw [hE]
  clear hE
  have hq := eqlit kind gap slack limit span _ rfl
  generalize ((⟨kind, gap, slack, limit, span⟩ : Pol) == polZ) = pb at *
  have b1 : (op == 1) = false := beq_eq_false_iff_ne.2 (by omega)
  rcases hop with hop | hop
  · have d1 : decide ((1 : Int) ≤ op) = false := decide_eq_false (by omega)
    go_enter Tryd.func11, Tryd.ntmps11
    go_wp2
    go_quiet (fail)
    go_wp2
    go_ret2
    exact ⟨_, rfl, own_nil _ _ _, below_then HBX.out (below_drewN _ _ _)⟩
  · have d1 : decide ((1 : Int) ≤ op) = true := decide_eq_true (by omega)
    have d2 : decide (op ≤ (5 : Int)) = false := decide_eq_false (by omega)
    go_enter Tryd.func11, Tryd.ntmps11
    go_wp2
    go_quiet (fail)
    go_wp2
    go_ret2
    exact ⟨_, rfl, own_nil _ _ _, below_then HBX.out (below_drewN _ _ _)⟩

set_option maxRecDepth 100000 in
set_option maxHeartbeats 3200000 in
theorem encode_1_pol (key : List UInt8) (kind : Int) (gap slack limit span units : UInt64) (p : Nat → Addr) (w : World) (hp : E4 w p) (hkl : key.length ≤ 9223372036854775807) (hpol : sayS ⟨kind, gap, slack, limit, span⟩ = false) :
    Calls Tryd.prog 11 #[.agg (reqA ⟨1, key, ⟨kind, gap, slack, limit, span⟩, units⟩)] w fun e w' => GaveE p w w' e (encS ⟨1, key, ⟨kind, gap, slack, limit, span⟩, units⟩) := by
  have hbx : Below w.heap.size w (w.alloc (.cells #[.int .i64 1, .string ⟨key.toArray⟩, .int .i64 kind, .int .u64 (n64 gap), .int .u64 (n64 slack), .int .u64 (n64 limit), .int .u64 (n64 span), .int .u64 (n64 units)] 30)) := (Below.refl _ _).alloc (Nat.le_refl _) _
  have HBX := Go.Lib.hid hbx
  have e1 := e4_arg (e4_below hp hbx)
  have e4 := e4_lng (e4_below hp hbx)
  have HP := Go.Lib.hid (e4_long (e4_below hp hbx))
  have HG4 := Go.Lib.hid (World.block_lt_of_cell? w _ (e4_lng hp))
  simp only [reqA]
  clear hbx hp
  have hE : encS ⟨1, key, ⟨kind, gap, slack, limit, span⟩, units⟩ = ([], 1) := by unfold encS sayR; simp [hpol]
  rw [hE]
  clear hE
  have hq := eqlit kind gap slack limit span _ rfl
  have HPL := Go.Lib.hid hpol
  clear hpol
  generalize ((⟨kind, gap, slack, limit, span⟩ : Pol) == polZ) = pb at *
  go_enter Tryd.func11, Tryd.ntmps11
  go_wp2_with fail
  refine (sayable_calls ⟨kind, gap, slack, limit, span⟩ (w.alloc (.cells #[.int .i64 1, .string ⟨key.toArray⟩, .int .i64 kind, .int .u64 (n64 gap), .int .u64 (n64 slack), .int .u64 (n64 limit), .int .u64 (n64 span), .int .u64 (n64 units)] 30))).mono ?_
  rintro e w1 ⟨rfl, hs1⟩
  rw [HPL.out]
  have HSB := Go.Lib.hid (below_heap hs1 (heap_here w (.cells #[.int .i64 1, .string ⟨key.toArray⟩, .int .i64 kind, .int .u64 (n64 gap), .int .u64 (n64 slack), .int .u64 (n64 limit), .int .u64 (n64 span), .int .u64 (n64 units)] 30) w.heap.size rfl))
  obtain ⟨s0, s1, s2, s3, s4, s5, s6, s7⟩ := box8 HSB.out
  have e1' := below_cell hs1 e1
  have e4' := below_cell hs1 e4
  have HBX1 := Go.Lib.hid (below_then HBX.out hs1)
  have hsz1 : w.heap.size < w1.heap.size := by have := hs1.size; simp at this; omega
  have HP1 := Go.Lib.hid (longAt_below HP.out hs1)
  clear hs1
  go_wp2
  go_quiet (fail)
  go_wp2
  go_ret2
  exact ⟨_, rfl, own_nil _ _ _, below_then HBX1.out (below_drewN _ _ _)⟩

set_option maxRecDepth 100000 in
set_option maxHeartbeats 3200000 in
theorem encode_1_units (key : List UInt8) (kind : Int) (gap slack limit span units : UInt64) (p : Nat → Addr) (w : World) (hp : E4 w p) (hkl : key.length ≤ 9223372036854775807) (hpol : sayS ⟨kind, gap, slack, limit, span⟩ = true) (hu : ¬ units = 0) :
    Calls Tryd.prog 11 #[.agg (reqA ⟨1, key, ⟨kind, gap, slack, limit, span⟩, units⟩)] w fun e w' => GaveE p w w' e (encS ⟨1, key, ⟨kind, gap, slack, limit, span⟩, units⟩) := by
  have hbx : Below w.heap.size w (w.alloc (.cells #[.int .i64 1, .string ⟨key.toArray⟩, .int .i64 kind, .int .u64 (n64 gap), .int .u64 (n64 slack), .int .u64 (n64 limit), .int .u64 (n64 span), .int .u64 (n64 units)] 30)) := (Below.refl _ _).alloc (Nat.le_refl _) _
  have HBX := Go.Lib.hid hbx
  have e1 := e4_arg (e4_below hp hbx)
  have e4 := e4_lng (e4_below hp hbx)
  have HP := Go.Lib.hid (e4_long (e4_below hp hbx))
  have HG4 := Go.Lib.hid (World.block_lt_of_cell? w _ (e4_lng hp))
  simp only [reqA]
  clear hbx hp
  have hE : encS ⟨1, key, ⟨kind, gap, slack, limit, span⟩, units⟩ = ([], 1) := by unfold encS sayR; simp [hpol, hu]
  rw [hE]
  clear hE
  have hq := eqlit kind gap slack limit span _ rfl
  have HPL := Go.Lib.hid hpol
  clear hpol
  generalize ((⟨kind, gap, slack, limit, span⟩ : Pol) == polZ) = pb at *
  go_enter Tryd.func11, Tryd.ntmps11
  go_wp2_with fail
  refine (sayable_calls ⟨kind, gap, slack, limit, span⟩ (w.alloc (.cells #[.int .i64 1, .string ⟨key.toArray⟩, .int .i64 kind, .int .u64 (n64 gap), .int .u64 (n64 slack), .int .u64 (n64 limit), .int .u64 (n64 span), .int .u64 (n64 units)] 30))).mono ?_
  rintro e w1 ⟨rfl, hs1⟩
  rw [HPL.out]
  have HSB := Go.Lib.hid (below_heap hs1 (heap_here w (.cells #[.int .i64 1, .string ⟨key.toArray⟩, .int .i64 kind, .int .u64 (n64 gap), .int .u64 (n64 slack), .int .u64 (n64 limit), .int .u64 (n64 span), .int .u64 (n64 units)] 30) w.heap.size rfl))
  obtain ⟨s0, s1, s2, s3, s4, s5, s6, s7⟩ := box8 HSB.out
  have e1' := below_cell hs1 e1
  have e4' := below_cell hs1 e4
  have HBX1 := Go.Lib.hid (below_then HBX.out hs1)
  have hsz1 : w.heap.size < w1.heap.size := by have := hs1.size; simp at this; omega
  have HP1 := Go.Lib.hid (longAt_below HP.out hs1)
  clear hs1
  go_wp2
  go_quiet (fail)
  go_wp2
  go_ret2
  exact ⟨_, rfl, own_nil _ _ _, below_then HBX1.out (below_drewN _ _ _)⟩

set_option maxRecDepth 100000 in
set_option maxHeartbeats 3200000 in
theorem encode_1_long (key : List UInt8) (kind : Int) (gap slack limit span units : UInt64) (p : Nat → Addr) (w : World) (hp : E4 w p) (hkl : key.length ≤ 9223372036854775807) (hpol : sayS ⟨kind, gap, slack, limit, span⟩ = true) (hu : units = 0) (hlong : 256 < key.length) :
    Calls Tryd.prog 11 #[.agg (reqA ⟨1, key, ⟨kind, gap, slack, limit, span⟩, units⟩)] w fun e w' => GaveE p w w' e (encS ⟨1, key, ⟨kind, gap, slack, limit, span⟩, units⟩) := by
  subst hu
  have hbx : Below w.heap.size w (w.alloc (.cells #[.int .i64 1, .string ⟨key.toArray⟩, .int .i64 kind, .int .u64 (n64 gap), .int .u64 (n64 slack), .int .u64 (n64 limit), .int .u64 (n64 span), .int .u64 (n64 0)] 30)) := (Below.refl _ _).alloc (Nat.le_refl _) _
  have HBX := Go.Lib.hid hbx
  have e1 := e4_arg (e4_below hp hbx)
  have e4 := e4_lng (e4_below hp hbx)
  have HP := Go.Lib.hid (e4_long (e4_below hp hbx))
  have HG4 := Go.Lib.hid (World.block_lt_of_cell? w _ (e4_lng hp))
  simp only [reqA]
  clear hbx hp
  have hE : encS ⟨1, key, ⟨kind, gap, slack, limit, span⟩, 0⟩ = ([], 4) := by
    have hs : sayR ⟨1, key, ⟨kind, gap, slack, limit, span⟩, 0⟩ = true := by unfold sayR; simp [hpol]
    unfold encS; rw [hs, if_neg (by decide), if_pos hlong]
  rw [hE]
  have dl : decide ((256 : Int) < (key.length : Int)) = true := decide_eq_true (by omega)
  have dl' : decide (256 < key.length) = true := decide_eq_true hlong
  have hk0 : ¬ key = [] := by rintro rfl; simp at hlong
  clear hE
  have hq := eqlit kind gap slack limit span _ rfl
  have HPL := Go.Lib.hid hpol
  clear hpol
  generalize ((⟨kind, gap, slack, limit, span⟩ : Pol) == polZ) = pb at *
  go_enter Tryd.func11, Tryd.ntmps11
  go_wp2_with fail
  refine (sayable_calls ⟨kind, gap, slack, limit, span⟩ (w.alloc (.cells #[.int .i64 1, .string ⟨key.toArray⟩, .int .i64 kind, .int .u64 (n64 gap), .int .u64 (n64 slack), .int .u64 (n64 limit), .int .u64 (n64 span), .int .u64 (n64 0)] 30))).mono ?_
  rintro e w1 ⟨rfl, hs1⟩
  rw [HPL.out]
  have HSB := Go.Lib.hid (below_heap hs1 (heap_here w (.cells #[.int .i64 1, .string ⟨key.toArray⟩, .int .i64 kind, .int .u64 (n64 gap), .int .u64 (n64 slack), .int .u64 (n64 limit), .int .u64 (n64 span), .int .u64 (n64 0)] 30) w.heap.size rfl))
  obtain ⟨s0, s1, s2, s3, s4, s5, s6, s7⟩ := box8 HSB.out
  have e1' := below_cell hs1 e1
  have e4' := below_cell hs1 e4
  have HBX1 := Go.Lib.hid (below_then HBX.out hs1)
  have hsz1 : w.heap.size < w1.heap.size := by have := hs1.size; simp at this; omega
  have HP1 := Go.Lib.hid (longAt_below HP.out hs1)
  clear hs1
  go_wp2
  go_quiet (fail)
  go_wp2
  go_ret2
  exact ⟨_, rfl, own_nil _ _ _, below_then HBX1.out (below_drewN _ _ _)⟩

set_option maxRecDepth 100000 in
set_option maxHeartbeats 3200000 in
theorem encode_1_ok (key : List UInt8) (kind : Int) (gap slack limit span units : UInt64) (p : Nat → Addr) (w : World) (hp : E4 w p) (hkl : key.length ≤ 9223372036854775807) (hpol : sayS ⟨kind, gap, slack, limit, span⟩ = true) (hu : units = 0) (hlong : ¬ 256 < key.length) (hk0 : ¬ key = []) :
    Calls Tryd.prog 11 #[.agg (reqA ⟨1, key, ⟨kind, gap, slack, limit, span⟩, units⟩)] w fun e w' => GaveE p w w' e (encS ⟨1, key, ⟨kind, gap, slack, limit, span⟩, units⟩) := by
  subst hu
  have hbx : Below w.heap.size w (w.alloc (.cells #[.int .i64 1, .string ⟨key.toArray⟩, .int .i64 kind, .int .u64 (n64 gap), .int .u64 (n64 slack), .int .u64 (n64 limit), .int .u64 (n64 span), .int .u64 (n64 0)] 30)) := (Below.refl _ _).alloc (Nat.le_refl _) _
  have HBX := Go.Lib.hid hbx
  have e1 := e4_arg (e4_below hp hbx)
  have e4 := e4_lng (e4_below hp hbx)
  have HP := Go.Lib.hid (e4_long (e4_below hp hbx))
  have HG4 := Go.Lib.hid (World.block_lt_of_cell? w _ (e4_lng hp))
  simp only [reqA]
  clear hbx hp
  have hE : encS ⟨1, key, ⟨kind, gap, slack, limit, span⟩, 0⟩ = fit (b8 1 :: (leS (UInt64.ofNat key.length) 2 ++ key ++ polB ⟨kind, gap, slack, limit, span⟩)) := by
    have hs : sayR ⟨1, key, ⟨kind, gap, slack, limit, span⟩, 0⟩ = true := by unfold sayR; simp [hpol]
    unfold encS; rw [hs, if_neg (by decide), if_neg hlong]
    rfl
  rw [hE]
  have dl : decide ((256 : Int) < (key.length : Int)) = false := decide_eq_false (by omega)
  have dl' : decide (256 < key.length) = false := decide_eq_false hlong
  have hkl' : key.length ≤ 256 := by omega
  clear hE hlong
  have hq := eqlit kind gap slack limit span _ rfl
  have HPL := Go.Lib.hid hpol
  clear hpol
  generalize ((⟨kind, gap, slack, limit, span⟩ : Pol) == polZ) = pb at *
  go_enter Tryd.func11, Tryd.ntmps11
  go_wp2_with fail
  refine (sayable_calls ⟨kind, gap, slack, limit, span⟩ (w.alloc (.cells #[.int .i64 1, .string ⟨key.toArray⟩, .int .i64 kind, .int .u64 (n64 gap), .int .u64 (n64 slack), .int .u64 (n64 limit), .int .u64 (n64 span), .int .u64 (n64 0)] 30))).mono ?_
  rintro e w1 ⟨rfl, hs1⟩
  rw [HPL.out]
  have HSB := Go.Lib.hid (below_heap hs1 (heap_here w (.cells #[.int .i64 1, .string ⟨key.toArray⟩, .int .i64 kind, .int .u64 (n64 gap), .int .u64 (n64 slack), .int .u64 (n64 limit), .int .u64 (n64 span), .int .u64 (n64 0)] 30) w.heap.size rfl))
  obtain ⟨s0, s1, s2, s3, s4, s5, s6, s7⟩ := box8 HSB.out
  have e1' := below_cell hs1 e1
  have e4' := below_cell hs1 e4
  have HBX1 := Go.Lib.hid (below_then HBX.out hs1)
  have hsz1 : w.heap.size < w1.heap.size := by have := hs1.size; simp at this; omega
  have HP1 := Go.Lib.hid (longAt_below HP.out hs1)
  clear hs1
  go_wp2_with fail
  have hbb : Below w1.heap.size w1 (w1.alloc (.cells #[.int .u8 1] 5)) := (Below.refl _ _).alloc (Nat.le_refl _) _
  have hcb : Cells (w1.alloc (.cells #[.int .u8 1] 5)) (some ⟨w1.heap.size, 0, none⟩) (Bs [1]) := cells_new w1 (Bs [1]) 5 (0, 0)
  refine (putText_v (some ⟨w1.heap.size, 0, none⟩) 1 [1] key p 1 (w1.alloc (.cells #[.int .u8 1] 5)) (longAt_below HP1.out hbb) (by omega) (by simp) (by decide) hcb).mono ?_
  rintro e w2 ⟨A2, c2, l2, rfl, HL2, HC2, hl2, HO2, hb2⟩
  have hwb2 := below_then hbb hb2
  have HB2 := Go.Lib.hid (below_then HBX1.out hwb2)
  have hbh : w1.heap[w.heap.size]? = some (.cells #[.int .i64 1, .string ⟨key.toArray⟩, .int .i64 kind, .int .u64 (n64 gap), .int .u64 (n64 slack), .int .u64 (n64 limit), .int .u64 (n64 span), .int .u64 (n64 0)] 30 (0, 0)) := HSB.out
  obtain ⟨c0, c1, c2', c3, c4, c5, c6, c7⟩ := box8 (below_heap hwb2 hbh)
  have e4w := below_cell hwb2 e4'
  have hb0 : w.heap.size ≤ (w1.alloc (.cells #[.int .u8 1] 5)).heap.size := by have h1 := hbb.size; have h2 := HBX1.out.size; omega
  have HO2' := Go.Lib.hid (own_mono HO2.out hb0)
  have hszw2 := HB2.out.size
  clear hb2 hbb hcb hwb2 hbh HO2 hb0
  go_wp2_with fail
  refine (putPolicy_v w.heap.size A2 c2 l2 ⟨kind, gap, slack, limit, span⟩ (1 + 65537) w2 hszw2 hl2 (by decide) HO2'.out).mono ?_
  rintro e w3 ⟨A3, c3', l3, rfl, HL3, HC3, hl3, HO3, hb3⟩
  have HB3 := Go.Lib.hid (HB2.out.trans hb3)
  have e4x := (hb3.cell (p := ⟨1, 0, none⟩) HG4.out).trans e4w
  clear hb3 c0 c1 c2' c3 c4 c5 c6 c7 e4w s0 s1 s2 s3 s4 s5 s6 s7
  by_cases hbig : 256 < l3.length
  · have dg : decide ((256 : Int) < (l3.length : Int)) = true := decide_eq_true (by omega)
    have dg' : decide (256 < l3.length) = true := decide_eq_true hbig
    have HG := Go.Lib.hid hbig
    clear hbig
    go_wp2
    go_quiet (fail)
    go_wp2
    go_ret2
    have hx := HG.out
    rw [HL3.out, HL2.out] at hx
    rw [fit_big _ (by simpa using hx)]
    exact ⟨_, rfl, own_nil _ _ _, HB3.out.trans (below_drewN _ _ _)⟩
  · have dg : decide ((256 : Int) < (l3.length : Int)) = false := decide_eq_false (by omega)
    have dg' : decide (256 < l3.length) = false := decide_eq_false hbig
    have HG := Go.Lib.hid hbig
    clear hbig
    go_wp2
    go_ret2
    have hx := HG.out
    rw [HL3.out, HL2.out] at hx
    rw [fit_small _ (by simpa using hx)]
    have ho := HO3.out
    refine ⟨_, rfl, ?_, HB3.out⟩
    rw [HL3.out, HL2.out] at ho ⊢
    simpa [errv, show b8 1 = 1 by decide] using ho

set_option maxRecDepth 100000 in
set_option maxHeartbeats 3200000 in
theorem encode_1_nil (key : List UInt8) (kind : Int) (gap slack limit span units : UInt64) (p : Nat → Addr) (w : World) (hp : E4 w p) (hkl : key.length ≤ 9223372036854775807) (hpol : sayS ⟨kind, gap, slack, limit, span⟩ = true) (hu : units = 0) (hlong : ¬ 256 < key.length) (hk0 : key = []) :
    Calls Tryd.prog 11 #[.agg (reqA ⟨1, key, ⟨kind, gap, slack, limit, span⟩, units⟩)] w fun e w' => GaveE p w w' e (encS ⟨1, key, ⟨kind, gap, slack, limit, span⟩, units⟩) := by
  subst hk0
  subst hu
  have hbx : Below w.heap.size w (w.alloc (.cells #[.int .i64 1, .string ⟨([] : List UInt8).toArray⟩, .int .i64 kind, .int .u64 (n64 gap), .int .u64 (n64 slack), .int .u64 (n64 limit), .int .u64 (n64 span), .int .u64 (n64 0)] 30)) := (Below.refl _ _).alloc (Nat.le_refl _) _
  have HBX := Go.Lib.hid hbx
  have e1 := e4_arg (e4_below hp hbx)
  have e4 := e4_lng (e4_below hp hbx)
  have HP := Go.Lib.hid (e4_long (e4_below hp hbx))
  have HG4 := Go.Lib.hid (World.block_lt_of_cell? w _ (e4_lng hp))
  simp only [reqA]
  clear hbx hp
  have hE : encS ⟨1, ([] : List UInt8), ⟨kind, gap, slack, limit, span⟩, 0⟩ = fit (b8 1 :: (leS (UInt64.ofNat ([] : List UInt8).length) 2 ++ ([] : List UInt8) ++ polB ⟨kind, gap, slack, limit, span⟩)) := by
    have hs : sayR ⟨1, ([] : List UInt8), ⟨kind, gap, slack, limit, span⟩, 0⟩ = true := by unfold sayR; simp [hpol]
    unfold encS; rw [hs, if_neg (by decide), if_neg hlong]
    rfl
  rw [hE]
  have dl : decide ((256 : Int) < (([] : List UInt8).length : Int)) = false := decide_eq_false (by omega)
  have dl' : decide (256 < ([] : List UInt8).length) = false := decide_eq_false hlong
  have hkl' : ([] : List UInt8).length ≤ 256 := by omega
  clear hE hlong
  have hq := eqlit kind gap slack limit span _ rfl
  have HPL := Go.Lib.hid hpol
  clear hpol
  generalize ((⟨kind, gap, slack, limit, span⟩ : Pol) == polZ) = pb at *
  go_enter Tryd.func11, Tryd.ntmps11
  go_wp2_with fail
  refine (sayable_calls ⟨kind, gap, slack, limit, span⟩ (w.alloc (.cells #[.int .i64 1, .string ⟨([] : List UInt8).toArray⟩, .int .i64 kind, .int .u64 (n64 gap), .int .u64 (n64 slack), .int .u64 (n64 limit), .int .u64 (n64 span), .int .u64 (n64 0)] 30))).mono ?_
  rintro e w1 ⟨rfl, hs1⟩
  rw [HPL.out]
  have HSB := Go.Lib.hid (below_heap hs1 (heap_here w (.cells #[.int .i64 1, .string ⟨([] : List UInt8).toArray⟩, .int .i64 kind, .int .u64 (n64 gap), .int .u64 (n64 slack), .int .u64 (n64 limit), .int .u64 (n64 span), .int .u64 (n64 0)] 30) w.heap.size rfl))
  obtain ⟨s0, s1, s2, s3, s4, s5, s6, s7⟩ := box8 HSB.out
  have e1' := below_cell hs1 e1
  have e4' := below_cell hs1 e4
  have HBX1 := Go.Lib.hid (below_then HBX.out hs1)
  have hsz1 : w.heap.size < w1.heap.size := by have := hs1.size; simp at this; omega
  have HP1 := Go.Lib.hid (longAt_below HP.out hs1)
  clear hs1
  go_wp2_with fail
  have hbb : Below w1.heap.size w1 (w1.alloc (.cells #[.int .u8 1] 5)) := (Below.refl _ _).alloc (Nat.le_refl _) _
  have hcb : Cells (w1.alloc (.cells #[.int .u8 1] 5)) (some ⟨w1.heap.size, 0, none⟩) (Bs [1]) := cells_new w1 (Bs [1]) 5 (0, 0)
  refine (putText_v (some ⟨w1.heap.size, 0, none⟩) 1 [1] ([] : List UInt8) p 1 (w1.alloc (.cells #[.int .u8 1] 5)) (longAt_below HP1.out hbb) (by omega) (by simp) (by decide) hcb).mono ?_
  rintro e w2 ⟨A2, c2, l2, rfl, HL2, HC2, hl2, HO2, hb2⟩
  have hwb2 := below_then hbb hb2
  have HB2 := Go.Lib.hid (below_then HBX1.out hwb2)
  have hbh : w1.heap[w.heap.size]? = some (.cells #[.int .i64 1, .string ⟨([] : List UInt8).toArray⟩, .int .i64 kind, .int .u64 (n64 gap), .int .u64 (n64 slack), .int .u64 (n64 limit), .int .u64 (n64 span), .int .u64 (n64 0)] 30 (0, 0)) := HSB.out
  obtain ⟨c0, c1, c2', c3, c4, c5, c6, c7⟩ := box8 (below_heap hwb2 hbh)
  have e4w := below_cell hwb2 e4'
  have hb0 : w.heap.size ≤ (w1.alloc (.cells #[.int .u8 1] 5)).heap.size := by have h1 := hbb.size; have h2 := HBX1.out.size; omega
  have HO2' := Go.Lib.hid (own_mono HO2.out hb0)
  have hszw2 := HB2.out.size
  clear hb2 hbb hcb hwb2 hbh HO2 hb0
  go_wp2_with fail
  refine (putPolicy_v w.heap.size A2 c2 l2 ⟨kind, gap, slack, limit, span⟩ (1 + 65537) w2 hszw2 hl2 (by decide) HO2'.out).mono ?_
  rintro e w3 ⟨A3, c3', l3, rfl, HL3, HC3, hl3, HO3, hb3⟩
  have HB3 := Go.Lib.hid (HB2.out.trans hb3)
  have e4x := (hb3.cell (p := ⟨1, 0, none⟩) HG4.out).trans e4w
  clear hb3 c0 c1 c2' c3 c4 c5 c6 c7 e4w s0 s1 s2 s3 s4 s5 s6 s7
  by_cases hbig : 256 < l3.length
  · have dg : decide ((256 : Int) < (l3.length : Int)) = true := decide_eq_true (by omega)
    have dg' : decide (256 < l3.length) = true := decide_eq_true hbig
    have HG := Go.Lib.hid hbig
    clear hbig
    go_wp2
    go_quiet (fail)
    go_wp2
    go_ret2
    have hx := HG.out
    rw [HL3.out, HL2.out] at hx
    rw [fit_big _ (by simpa using hx)]
    exact ⟨_, rfl, own_nil _ _ _, HB3.out.trans (below_drewN _ _ _)⟩
  · have dg : decide ((256 : Int) < (l3.length : Int)) = false := decide_eq_false (by omega)
    have dg' : decide (256 < l3.length) = false := decide_eq_false hbig
    have HG := Go.Lib.hid hbig
    clear hbig
    go_wp2
    go_ret2
    have hx := HG.out
    rw [HL3.out, HL2.out] at hx
    rw [fit_small _ (by simpa using hx)]
    have ho := HO3.out
    refine ⟨_, rfl, ?_, HB3.out⟩
    rw [HL3.out, HL2.out] at ho ⊢
    simpa [errv, show b8 1 = 1 by decide] using ho

set_option maxRecDepth 100000 in
set_option maxHeartbeats 3200000 in
theorem encode_2_pol (key : List UInt8) (kind : Int) (gap slack limit span units : UInt64) (p : Nat → Addr) (w : World) (hp : E4 w p) (hkl : key.length ≤ 9223372036854775807) (hpol : ((⟨kind, gap, slack, limit, span⟩ : Pol) == polZ) = false) :
    Calls Tryd.prog 11 #[.agg (reqA ⟨2, key, ⟨kind, gap, slack, limit, span⟩, units⟩)] w fun e w' => GaveE p w w' e (encS ⟨2, key, ⟨kind, gap, slack, limit, span⟩, units⟩) := by
  have hbx : Below w.heap.size w (w.alloc (.cells #[.int .i64 2, .string ⟨key.toArray⟩, .int .i64 kind, .int .u64 (n64 gap), .int .u64 (n64 slack), .int .u64 (n64 limit), .int .u64 (n64 span), .int .u64 (n64 units)] 30)) := (Below.refl _ _).alloc (Nat.le_refl _) _
  have HBX := Go.Lib.hid hbx
  have e1 := e4_arg (e4_below hp hbx)
  have e4 := e4_lng (e4_below hp hbx)
  have HP := Go.Lib.hid (e4_long (e4_below hp hbx))
  have HG4 := Go.Lib.hid (World.block_lt_of_cell? w _ (e4_lng hp))
  simp only [reqA]
  clear hbx hp
  have hE : encS ⟨2, key, ⟨kind, gap, slack, limit, span⟩, units⟩ = ([], 1) := by unfold encS sayR; simp [hpol]
  rw [hE]
  clear hE
  have hq := eqlit kind gap slack limit span _ rfl
  rw [hpol] at hq
  clear hpol
  go_enter Tryd.func11, Tryd.ntmps11
  go_wp2
  go_quiet (fail)
  go_wp2
  go_ret2
  exact ⟨_, rfl, own_nil _ _ _, below_then HBX.out (below_drewN _ _ _)⟩

set_option maxRecDepth 100000 in
set_option maxHeartbeats 3200000 in
theorem encode_2_long_u (key : List UInt8) (kind : Int) (gap slack limit span units : UInt64) (p : Nat → Addr) (w : World) (hp : E4 w p) (hkl : key.length ≤ 9223372036854775807) (hpol : ((⟨kind, gap, slack, limit, span⟩ : Pol) == polZ) = true) (hu : ¬ units = 0) (hlong : 256 < key.length) :
    Calls Tryd.prog 11 #[.agg (reqA ⟨2, key, ⟨kind, gap, slack, limit, span⟩, units⟩)] w fun e w' => GaveE p w w' e (encS ⟨2, key, ⟨kind, gap, slack, limit, span⟩, units⟩) := by
  have hbx : Below w.heap.size w (w.alloc (.cells #[.int .i64 2, .string ⟨key.toArray⟩, .int .i64 kind, .int .u64 (n64 gap), .int .u64 (n64 slack), .int .u64 (n64 limit), .int .u64 (n64 span), .int .u64 (n64 units)] 30)) := (Below.refl _ _).alloc (Nat.le_refl _) _
  have HBX := Go.Lib.hid hbx
  have e1 := e4_arg (e4_below hp hbx)
  have e4 := e4_lng (e4_below hp hbx)
  have HP := Go.Lib.hid (e4_long (e4_below hp hbx))
  have HG4 := Go.Lib.hid (World.block_lt_of_cell? w _ (e4_lng hp))
  simp only [reqA]
  clear hbx hp
  have hE : encS ⟨2, key, ⟨kind, gap, slack, limit, span⟩, units⟩ = ([], 4) := by
    have hs : sayR ⟨2, key, ⟨kind, gap, slack, limit, span⟩, units⟩ = true := by unfold sayR; simp [hpol]
    unfold encS; rw [hs, if_neg (by decide), if_pos hlong]
  rw [hE]
  have dl : decide ((256 : Int) < (key.length : Int)) = true := decide_eq_true (by omega)
  have dl' : decide (256 < key.length) = true := decide_eq_true hlong
  have hk0 : ¬ key = [] := by rintro rfl; simp at hlong
  clear hE
  have hq := eqlit kind gap slack limit span _ rfl
  rw [hpol] at hq
  clear hpol
  go_enter Tryd.func11, Tryd.ntmps11
  go_wp2
  go_quiet (fail)
  go_wp2
  go_ret2
  exact ⟨_, rfl, own_nil _ _ _, below_then HBX.out (below_drewN _ _ _)⟩

set_option maxRecDepth 100000 in
set_option maxHeartbeats 3200000 in
theorem encode_2_long (key : List UInt8) (kind : Int) (gap slack limit span units : UInt64) (p : Nat → Addr) (w : World) (hp : E4 w p) (hkl : key.length ≤ 9223372036854775807) (hpol : ((⟨kind, gap, slack, limit, span⟩ : Pol) == polZ) = true) (hu : units = 0) (hlong : 256 < key.length) :
    Calls Tryd.prog 11 #[.agg (reqA ⟨2, key, ⟨kind, gap, slack, limit, span⟩, units⟩)] w fun e w' => GaveE p w w' e (encS ⟨2, key, ⟨kind, gap, slack, limit, span⟩, units⟩) := by
  subst hu
  have hbx : Below w.heap.size w (w.alloc (.cells #[.int .i64 2, .string ⟨key.toArray⟩, .int .i64 kind, .int .u64 (n64 gap), .int .u64 (n64 slack), .int .u64 (n64 limit), .int .u64 (n64 span), .int .u64 (n64 0)] 30)) := (Below.refl _ _).alloc (Nat.le_refl _) _
  have HBX := Go.Lib.hid hbx
  have e1 := e4_arg (e4_below hp hbx)
  have e4 := e4_lng (e4_below hp hbx)
  have HP := Go.Lib.hid (e4_long (e4_below hp hbx))
  have HG4 := Go.Lib.hid (World.block_lt_of_cell? w _ (e4_lng hp))
  simp only [reqA]
  clear hbx hp
  have hE : encS ⟨2, key, ⟨kind, gap, slack, limit, span⟩, 0⟩ = ([], 4) := by
    have hs : sayR ⟨2, key, ⟨kind, gap, slack, limit, span⟩, 0⟩ = true := by unfold sayR; simp [hpol]
    unfold encS; rw [hs, if_neg (by decide), if_pos hlong]
  rw [hE]
  have dl : decide ((256 : Int) < (key.length : Int)) = true := decide_eq_true (by omega)
  have dl' : decide (256 < key.length) = true := decide_eq_true hlong
  have hk0 : ¬ key = [] := by rintro rfl; simp at hlong
  clear hE
  have hq := eqlit kind gap slack limit span _ rfl
  rw [hpol] at hq
  clear hpol
  go_enter Tryd.func11, Tryd.ntmps11
  go_wp2
  go_quiet (fail)
  go_wp2
  go_ret2
  exact ⟨_, rfl, own_nil _ _ _, below_then HBX.out (below_drewN _ _ _)⟩

set_option maxRecDepth 100000 in
set_option maxHeartbeats 3200000 in
theorem encode_2_ok_u (key : List UInt8) (kind : Int) (gap slack limit span units : UInt64) (p : Nat → Addr) (w : World) (hp : E4 w p) (hkl : key.length ≤ 9223372036854775807) (hpol : ((⟨kind, gap, slack, limit, span⟩ : Pol) == polZ) = true) (hu : ¬ units = 0) (hlong : ¬ 256 < key.length) (hk0 : ¬ key = []) :
    Calls Tryd.prog 11 #[.agg (reqA ⟨2, key, ⟨kind, gap, slack, limit, span⟩, units⟩)] w fun e w' => GaveE p w w' e (encS ⟨2, key, ⟨kind, gap, slack, limit, span⟩, units⟩) := by
  have hbx : Below w.heap.size w (w.alloc (.cells #[.int .i64 2, .string ⟨key.toArray⟩, .int .i64 kind, .int .u64 (n64 gap), .int .u64 (n64 slack), .int .u64 (n64 limit), .int .u64 (n64 span), .int .u64 (n64 units)] 30)) := (Below.refl _ _).alloc (Nat.le_refl _) _
  have HBX := Go.Lib.hid hbx
  have e1 := e4_arg (e4_below hp hbx)
  have e4 := e4_lng (e4_below hp hbx)
  have HP := Go.Lib.hid (e4_long (e4_below hp hbx))
  have HG4 := Go.Lib.hid (World.block_lt_of_cell? w _ (e4_lng hp))
  simp only [reqA]
  clear hbx hp
  have hE : encS ⟨2, key, ⟨kind, gap, slack, limit, span⟩, units⟩ = fit (b8 2 :: (leS (UInt64.ofNat key.length) 2 ++ key ++ leS units 8)) := by
    have hs : sayR ⟨2, key, ⟨kind, gap, slack, limit, span⟩, units⟩ = true := by unfold sayR; simp [hpol]
    unfold encS; rw [hs, if_neg (by decide), if_neg hlong]
    rfl
  rw [hE]
  have dl : decide ((256 : Int) < (key.length : Int)) = false := decide_eq_false (by omega)
  have dl' : decide (256 < key.length) = false := decide_eq_false hlong
  have hkl' : key.length ≤ 256 := by omega
  clear hE hlong
  have hq := eqlit kind gap slack limit span _ rfl
  rw [hpol] at hq
  clear hpol
  go_enter Tryd.func11, Tryd.ntmps11
  go_wp2_with fail
  have hbb : Below (w.alloc (.cells #[.int .i64 2, .string ⟨key.toArray⟩, .int .i64 kind, .int .u64 (n64 gap), .int .u64 (n64 slack), .int .u64 (n64 limit), .int .u64 (n64 span), .int .u64 (n64 units)] 30)).heap.size (w.alloc (.cells #[.int .i64 2, .string ⟨key.toArray⟩, .int .i64 kind, .int .u64 (n64 gap), .int .u64 (n64 slack), .int .u64 (n64 limit), .int .u64 (n64 span), .int .u64 (n64 units)] 30)) ((w.alloc (.cells #[.int .i64 2, .string ⟨key.toArray⟩, .int .i64 kind, .int .u64 (n64 gap), .int .u64 (n64 slack), .int .u64 (n64 limit), .int .u64 (n64 span), .int .u64 (n64 units)] 30)).alloc (.cells #[.int .u8 2] 5)) := (Below.refl _ _).alloc (Nat.le_refl _) _
  have hcb : Cells ((w.alloc (.cells #[.int .i64 2, .string ⟨key.toArray⟩, .int .i64 kind, .int .u64 (n64 gap), .int .u64 (n64 slack), .int .u64 (n64 limit), .int .u64 (n64 span), .int .u64 (n64 units)] 30)).alloc (.cells #[.int .u8 2] 5)) (some ⟨(w.alloc (.cells #[.int .i64 2, .string ⟨key.toArray⟩, .int .i64 kind, .int .u64 (n64 gap), .int .u64 (n64 slack), .int .u64 (n64 limit), .int .u64 (n64 span), .int .u64 (n64 units)] 30)).heap.size, 0, none⟩) (Bs [2]) := cells_new (w.alloc (.cells #[.int .i64 2, .string ⟨key.toArray⟩, .int .i64 kind, .int .u64 (n64 gap), .int .u64 (n64 slack), .int .u64 (n64 limit), .int .u64 (n64 span), .int .u64 (n64 units)] 30)) (Bs [2]) 5 (0, 0)
  rw [show ((w.alloc (.cells #[.int .i64 2, .string ⟨key.toArray⟩, .int .i64 kind, .int .u64 (n64 gap), .int .u64 (n64 slack), .int .u64 (n64 limit), .int .u64 (n64 span), .int .u64 (n64 units)] 30))).heap.size = w.heap.size + 1 by simp] at hcb
  refine (putText_v (some ⟨w.heap.size + 1, 0, none⟩) 1 [2] key p 1 ((w.alloc (.cells #[.int .i64 2, .string ⟨key.toArray⟩, .int .i64 kind, .int .u64 (n64 gap), .int .u64 (n64 slack), .int .u64 (n64 limit), .int .u64 (n64 span), .int .u64 (n64 units)] 30)).alloc (.cells #[.int .u8 2] 5)) (longAt_below HP.out hbb) (by omega) (by simp) (by decide) hcb).mono ?_
  rintro e w2 ⟨A2, c2, l2, rfl, HL2, HC2, hl2, HO2, hb2⟩
  have hwb2 := below_then hbb hb2
  have HB2 := Go.Lib.hid (below_then HBX.out hwb2)
  have hbh : (w.alloc (.cells #[.int .i64 2, .string ⟨key.toArray⟩, .int .i64 kind, .int .u64 (n64 gap), .int .u64 (n64 slack), .int .u64 (n64 limit), .int .u64 (n64 span), .int .u64 (n64 units)] 30)).heap[w.heap.size]? = some (.cells #[.int .i64 2, .string ⟨key.toArray⟩, .int .i64 kind, .int .u64 (n64 gap), .int .u64 (n64 slack), .int .u64 (n64 limit), .int .u64 (n64 span), .int .u64 (n64 units)] 30 (0, 0)) := heap_here w _ w.heap.size rfl
  obtain ⟨c0, c1, c2', c3, c4, c5, c6, c7⟩ := box8 (below_heap hwb2 hbh)
  have e4w := below_cell hwb2 e4
  have hb0 : w.heap.size ≤ ((w.alloc (.cells #[.int .i64 2, .string ⟨key.toArray⟩, .int .i64 kind, .int .u64 (n64 gap), .int .u64 (n64 slack), .int .u64 (n64 limit), .int .u64 (n64 span), .int .u64 (n64 units)] 30)).alloc (.cells #[.int .u8 2] 5)).heap.size := by have h1 := hbb.size; have h2 := HBX.out.size; omega
  have HO2' := Go.Lib.hid (own_mono HO2.out hb0)
  have hszw2 := HB2.out.size
  clear hb2 hbb hcb hwb2 hbh HO2 hb0
  go_wp2_with fail
  refine (putU64_v A2 c2 l2 units (1 + 65537) w2 hl2 (by decide) HC2.out).mono ?_
  rintro e w3 ⟨A3, c3', l3, rfl, HL3, HC3, hl3, HO3, hb3⟩
  have HB3 := Go.Lib.hid (below_then HB2.out hb3)
  have HO3' := Go.Lib.hid (own_mono HO3.out hszw2)
  have e4x := below_cell hb3 e4w
  clear hb3 c0 c1 c2' c3 c4 c5 c6 c7 e4w
  by_cases hbig : 256 < l3.length
  · have dg : decide ((256 : Int) < (l3.length : Int)) = true := decide_eq_true (by omega)
    have dg' : decide (256 < l3.length) = true := decide_eq_true hbig
    have HG := Go.Lib.hid hbig
    clear hbig
    go_wp2
    go_quiet (fail)
    go_wp2
    go_ret2
    have hx := HG.out
    rw [HL3.out, HL2.out] at hx
    rw [fit_big _ (by simpa using hx)]
    exact ⟨_, rfl, own_nil _ _ _, HB3.out.trans (below_drewN _ _ _)⟩
  · have dg : decide ((256 : Int) < (l3.length : Int)) = false := decide_eq_false (by omega)
    have dg' : decide (256 < l3.length) = false := decide_eq_false hbig
    have HG := Go.Lib.hid hbig
    clear hbig
    go_wp2
    go_ret2
    have hx := HG.out
    rw [HL3.out, HL2.out] at hx
    rw [fit_small _ (by simpa using hx)]
    have ho := HO3'.out
    refine ⟨_, rfl, ?_, HB3.out⟩
    rw [HL3.out, HL2.out] at ho ⊢
    simpa [errv, show b8 2 = 2 by decide] using ho

set_option maxRecDepth 100000 in
set_option maxHeartbeats 3200000 in
theorem encode_2_ok (key : List UInt8) (kind : Int) (gap slack limit span units : UInt64) (p : Nat → Addr) (w : World) (hp : E4 w p) (hkl : key.length ≤ 9223372036854775807) (hpol : ((⟨kind, gap, slack, limit, span⟩ : Pol) == polZ) = true) (hu : units = 0) (hlong : ¬ 256 < key.length) (hk0 : ¬ key = []) :
    Calls Tryd.prog 11 #[.agg (reqA ⟨2, key, ⟨kind, gap, slack, limit, span⟩, units⟩)] w fun e w' => GaveE p w w' e (encS ⟨2, key, ⟨kind, gap, slack, limit, span⟩, units⟩) := by
  subst hu
  have hbx : Below w.heap.size w (w.alloc (.cells #[.int .i64 2, .string ⟨key.toArray⟩, .int .i64 kind, .int .u64 (n64 gap), .int .u64 (n64 slack), .int .u64 (n64 limit), .int .u64 (n64 span), .int .u64 (n64 0)] 30)) := (Below.refl _ _).alloc (Nat.le_refl _) _
  have HBX := Go.Lib.hid hbx
  have e1 := e4_arg (e4_below hp hbx)
  have e4 := e4_lng (e4_below hp hbx)
  have HP := Go.Lib.hid (e4_long (e4_below hp hbx))
  have HG4 := Go.Lib.hid (World.block_lt_of_cell? w _ (e4_lng hp))
  simp only [reqA]
  clear hbx hp
  have hE : encS ⟨2, key, ⟨kind, gap, slack, limit, span⟩, 0⟩ = fit (b8 2 :: (leS (UInt64.ofNat key.length) 2 ++ key ++ leS 0 8)) := by
    have hs : sayR ⟨2, key, ⟨kind, gap, slack, limit, span⟩, 0⟩ = true := by unfold sayR; simp [hpol]
    unfold encS; rw [hs, if_neg (by decide), if_neg hlong]
    rfl
  rw [hE]
  have dl : decide ((256 : Int) < (key.length : Int)) = false := decide_eq_false (by omega)
  have dl' : decide (256 < key.length) = false := decide_eq_false hlong
  have hkl' : key.length ≤ 256 := by omega
  clear hE hlong
  have hq := eqlit kind gap slack limit span _ rfl
  rw [hpol] at hq
  clear hpol
  go_enter Tryd.func11, Tryd.ntmps11
  go_wp2_with fail
  have hbb : Below (w.alloc (.cells #[.int .i64 2, .string ⟨key.toArray⟩, .int .i64 kind, .int .u64 (n64 gap), .int .u64 (n64 slack), .int .u64 (n64 limit), .int .u64 (n64 span), .int .u64 (n64 0)] 30)).heap.size (w.alloc (.cells #[.int .i64 2, .string ⟨key.toArray⟩, .int .i64 kind, .int .u64 (n64 gap), .int .u64 (n64 slack), .int .u64 (n64 limit), .int .u64 (n64 span), .int .u64 (n64 0)] 30)) ((w.alloc (.cells #[.int .i64 2, .string ⟨key.toArray⟩, .int .i64 kind, .int .u64 (n64 gap), .int .u64 (n64 slack), .int .u64 (n64 limit), .int .u64 (n64 span), .int .u64 (n64 0)] 30)).alloc (.cells #[.int .u8 2] 5)) := (Below.refl _ _).alloc (Nat.le_refl _) _
  have hcb : Cells ((w.alloc (.cells #[.int .i64 2, .string ⟨key.toArray⟩, .int .i64 kind, .int .u64 (n64 gap), .int .u64 (n64 slack), .int .u64 (n64 limit), .int .u64 (n64 span), .int .u64 (n64 0)] 30)).alloc (.cells #[.int .u8 2] 5)) (some ⟨(w.alloc (.cells #[.int .i64 2, .string ⟨key.toArray⟩, .int .i64 kind, .int .u64 (n64 gap), .int .u64 (n64 slack), .int .u64 (n64 limit), .int .u64 (n64 span), .int .u64 (n64 0)] 30)).heap.size, 0, none⟩) (Bs [2]) := cells_new (w.alloc (.cells #[.int .i64 2, .string ⟨key.toArray⟩, .int .i64 kind, .int .u64 (n64 gap), .int .u64 (n64 slack), .int .u64 (n64 limit), .int .u64 (n64 span), .int .u64 (n64 0)] 30)) (Bs [2]) 5 (0, 0)
  rw [show ((w.alloc (.cells #[.int .i64 2, .string ⟨key.toArray⟩, .int .i64 kind, .int .u64 (n64 gap), .int .u64 (n64 slack), .int .u64 (n64 limit), .int .u64 (n64 span), .int .u64 (n64 0)] 30))).heap.size = w.heap.size + 1 by simp] at hcb
  refine (putText_v (some ⟨w.heap.size + 1, 0, none⟩) 1 [2] key p 1 ((w.alloc (.cells #[.int .i64 2, .string ⟨key.toArray⟩, .int .i64 kind, .int .u64 (n64 gap), .int .u64 (n64 slack), .int .u64 (n64 limit), .int .u64 (n64 span), .int .u64 (n64 0)] 30)).alloc (.cells #[.int .u8 2] 5)) (longAt_below HP.out hbb) (by omega) (by simp) (by decide) hcb).mono ?_
  rintro e w2 ⟨A2, c2, l2, rfl, HL2, HC2, hl2, HO2, hb2⟩
  have hwb2 := below_then hbb hb2
  have HB2 := Go.Lib.hid (below_then HBX.out hwb2)
  have hbh : (w.alloc (.cells #[.int .i64 2, .string ⟨key.toArray⟩, .int .i64 kind, .int .u64 (n64 gap), .int .u64 (n64 slack), .int .u64 (n64 limit), .int .u64 (n64 span), .int .u64 (n64 0)] 30)).heap[w.heap.size]? = some (.cells #[.int .i64 2, .string ⟨key.toArray⟩, .int .i64 kind, .int .u64 (n64 gap), .int .u64 (n64 slack), .int .u64 (n64 limit), .int .u64 (n64 span), .int .u64 (n64 0)] 30 (0, 0)) := heap_here w _ w.heap.size rfl
  obtain ⟨c0, c1, c2', c3, c4, c5, c6, c7⟩ := box8 (below_heap hwb2 hbh)
  have e4w := below_cell hwb2 e4
  have hb0 : w.heap.size ≤ ((w.alloc (.cells #[.int .i64 2, .string ⟨key.toArray⟩, .int .i64 kind, .int .u64 (n64 gap), .int .u64 (n64 slack), .int .u64 (n64 limit), .int .u64 (n64 span), .int .u64 (n64 0)] 30)).alloc (.cells #[.int .u8 2] 5)).heap.size := by have h1 := hbb.size; have h2 := HBX.out.size; omega
  have HO2' := Go.Lib.hid (own_mono HO2.out hb0)
  have hszw2 := HB2.out.size
  clear hb2 hbb hcb hwb2 hbh HO2 hb0
  go_wp2_with fail
  refine (putU64_v A2 c2 l2 0 (1 + 65537) w2 hl2 (by decide) HC2.out).mono ?_
  rintro e w3 ⟨A3, c3', l3, rfl, HL3, HC3, hl3, HO3, hb3⟩
  have HB3 := Go.Lib.hid (below_then HB2.out hb3)
  have HO3' := Go.Lib.hid (own_mono HO3.out hszw2)
  have e4x := below_cell hb3 e4w
  clear hb3 c0 c1 c2' c3 c4 c5 c6 c7 e4w
  by_cases hbig : 256 < l3.length
  · have dg : decide ((256 : Int) < (l3.length : Int)) = true := decide_eq_true (by omega)
    have dg' : decide (256 < l3.length) = true := decide_eq_true hbig
    have HG := Go.Lib.hid hbig
    clear hbig
    go_wp2
    go_quiet (fail)
    go_wp2
    go_ret2
    have hx := HG.out
    rw [HL3.out, HL2.out] at hx
    rw [fit_big _ (by simpa using hx)]
    exact ⟨_, rfl, own_nil _ _ _, HB3.out.trans (below_drewN _ _ _)⟩
  · have dg : decide ((256 : Int) < (l3.length : Int)) = false := decide_eq_false (by omega)
    have dg' : decide (256 < l3.length) = false := decide_eq_false hbig
    have HG := Go.Lib.hid hbig
    clear hbig
    go_wp2
    go_ret2
    have hx := HG.out
    rw [HL3.out, HL2.out] at hx
    rw [fit_small _ (by simpa using hx)]
    have ho := HO3'.out
    refine ⟨_, rfl, ?_, HB3.out⟩
    rw [HL3.out, HL2.out] at ho ⊢
    simpa [errv, show b8 2 = 2 by decide] using ho

set_option maxRecDepth 100000 in
set_option maxHeartbeats 3200000 in
theorem encode_2_nil_u (key : List UInt8) (kind : Int) (gap slack limit span units : UInt64) (p : Nat → Addr) (w : World) (hp : E4 w p) (hkl : key.length ≤ 9223372036854775807) (hpol : ((⟨kind, gap, slack, limit, span⟩ : Pol) == polZ) = true) (hu : ¬ units = 0) (hlong : ¬ 256 < key.length) (hk0 : key = []) :
    Calls Tryd.prog 11 #[.agg (reqA ⟨2, key, ⟨kind, gap, slack, limit, span⟩, units⟩)] w fun e w' => GaveE p w w' e (encS ⟨2, key, ⟨kind, gap, slack, limit, span⟩, units⟩) := by
  subst hk0
  have hbx : Below w.heap.size w (w.alloc (.cells #[.int .i64 2, .string ⟨([] : List UInt8).toArray⟩, .int .i64 kind, .int .u64 (n64 gap), .int .u64 (n64 slack), .int .u64 (n64 limit), .int .u64 (n64 span), .int .u64 (n64 units)] 30)) := (Below.refl _ _).alloc (Nat.le_refl _) _
  have HBX := Go.Lib.hid hbx
  have e1 := e4_arg (e4_below hp hbx)
  have e4 := e4_lng (e4_below hp hbx)
  have HP := Go.Lib.hid (e4_long (e4_below hp hbx))
  have HG4 := Go.Lib.hid (World.block_lt_of_cell? w _ (e4_lng hp))
  simp only [reqA]
  clear hbx hp
  have hE : encS ⟨2, ([] : List UInt8), ⟨kind, gap, slack, limit, span⟩, units⟩ = fit (b8 2 :: (leS (UInt64.ofNat ([] : List UInt8).length) 2 ++ ([] : List UInt8) ++ leS units 8)) := by
    have hs : sayR ⟨2, ([] : List UInt8), ⟨kind, gap, slack, limit, span⟩, units⟩ = true := by unfold sayR; simp [hpol]
    unfold encS; rw [hs, if_neg (by decide), if_neg hlong]
    rfl
  rw [hE]
  have dl : decide ((256 : Int) < (([] : List UInt8).length : Int)) = false := decide_eq_false (by omega)
  have dl' : decide (256 < ([] : List UInt8).length) = false := decide_eq_false hlong
  have hkl' : ([] : List UInt8).length ≤ 256 := by omega
  clear hE hlong
  have hq := eqlit kind gap slack limit span _ rfl
  rw [hpol] at hq
  clear hpol
  go_enter Tryd.func11, Tryd.ntmps11
  go_wp2_with fail
  have hbb : Below (w.alloc (.cells #[.int .i64 2, .string ⟨([] : List UInt8).toArray⟩, .int .i64 kind, .int .u64 (n64 gap), .int .u64 (n64 slack), .int .u64 (n64 limit), .int .u64 (n64 span), .int .u64 (n64 units)] 30)).heap.size (w.alloc (.cells #[.int .i64 2, .string ⟨([] : List UInt8).toArray⟩, .int .i64 kind, .int .u64 (n64 gap), .int .u64 (n64 slack), .int .u64 (n64 limit), .int .u64 (n64 span), .int .u64 (n64 units)] 30)) ((w.alloc (.cells #[.int .i64 2, .string ⟨([] : List UInt8).toArray⟩, .int .i64 kind, .int .u64 (n64 gap), .int .u64 (n64 slack), .int .u64 (n64 limit), .int .u64 (n64 span), .int .u64 (n64 units)] 30)).alloc (.cells #[.int .u8 2] 5)) := (Below.refl _ _).alloc (Nat.le_refl _) _
  have hcb : Cells ((w.alloc (.cells #[.int .i64 2, .string ⟨([] : List UInt8).toArray⟩, .int .i64 kind, .int .u64 (n64 gap), .int .u64 (n64 slack), .int .u64 (n64 limit), .int .u64 (n64 span), .int .u64 (n64 units)] 30)).alloc (.cells #[.int .u8 2] 5)) (some ⟨(w.alloc (.cells #[.int .i64 2, .string ⟨([] : List UInt8).toArray⟩, .int .i64 kind, .int .u64 (n64 gap), .int .u64 (n64 slack), .int .u64 (n64 limit), .int .u64 (n64 span), .int .u64 (n64 units)] 30)).heap.size, 0, none⟩) (Bs [2]) := cells_new (w.alloc (.cells #[.int .i64 2, .string ⟨([] : List UInt8).toArray⟩, .int .i64 kind, .int .u64 (n64 gap), .int .u64 (n64 slack), .int .u64 (n64 limit), .int .u64 (n64 span), .int .u64 (n64 units)] 30)) (Bs [2]) 5 (0, 0)
  rw [show ((w.alloc (.cells #[.int .i64 2, .string ⟨([] : List UInt8).toArray⟩, .int .i64 kind, .int .u64 (n64 gap), .int .u64 (n64 slack), .int .u64 (n64 limit), .int .u64 (n64 span), .int .u64 (n64 units)] 30))).heap.size = w.heap.size + 1 by simp] at hcb
  refine (putText_v (some ⟨w.heap.size + 1, 0, none⟩) 1 [2] ([] : List UInt8) p 1 ((w.alloc (.cells #[.int .i64 2, .string ⟨([] : List UInt8).toArray⟩, .int .i64 kind, .int .u64 (n64 gap), .int .u64 (n64 slack), .int .u64 (n64 limit), .int .u64 (n64 span), .int .u64 (n64 units)] 30)).alloc (.cells #[.int .u8 2] 5)) (longAt_below HP.out hbb) (by omega) (by simp) (by decide) hcb).mono ?_
  rintro e w2 ⟨A2, c2, l2, rfl, HL2, HC2, hl2, HO2, hb2⟩
  have hwb2 := below_then hbb hb2
  have HB2 := Go.Lib.hid (below_then HBX.out hwb2)
  have hbh : (w.alloc (.cells #[.int .i64 2, .string ⟨([] : List UInt8).toArray⟩, .int .i64 kind, .int .u64 (n64 gap), .int .u64 (n64 slack), .int .u64 (n64 limit), .int .u64 (n64 span), .int .u64 (n64 units)] 30)).heap[w.heap.size]? = some (.cells #[.int .i64 2, .string ⟨([] : List UInt8).toArray⟩, .int .i64 kind, .int .u64 (n64 gap), .int .u64 (n64 slack), .int .u64 (n64 limit), .int .u64 (n64 span), .int .u64 (n64 units)] 30 (0, 0)) := heap_here w _ w.heap.size rfl
  obtain ⟨c0, c1, c2', c3, c4, c5, c6, c7⟩ := box8 (below_heap hwb2 hbh)
  have e4w := below_cell hwb2 e4
  have hb0 : w.heap.size ≤ ((w.alloc (.cells #[.int .i64 2, .string ⟨([] : List UInt8).toArray⟩, .int .i64 kind, .int .u64 (n64 gap), .int .u64 (n64 slack), .int .u64 (n64 limit), .int .u64 (n64 span), .int .u64 (n64 units)] 30)).alloc (.cells #[.int .u8 2] 5)).heap.size := by have h1 := hbb.size; have h2 := HBX.out.size; omega
  have HO2' := Go.Lib.hid (own_mono HO2.out hb0)
  have hszw2 := HB2.out.size
  clear hb2 hbb hcb hwb2 hbh HO2 hb0
  go_wp2_with fail
  refine (putU64_v A2 c2 l2 units (1 + 65537) w2 hl2 (by decide) HC2.out).mono ?_
  rintro e w3 ⟨A3, c3', l3, rfl, HL3, HC3, hl3, HO3, hb3⟩
  have HB3 := Go.Lib.hid (below_then HB2.out hb3)
  have HO3' := Go.Lib.hid (own_mono HO3.out hszw2)
  have e4x := below_cell hb3 e4w
  clear hb3 c0 c1 c2' c3 c4 c5 c6 c7 e4w
  by_cases hbig : 256 < l3.length
  · have dg : decide ((256 : Int) < (l3.length : Int)) = true := decide_eq_true (by omega)
    have dg' : decide (256 < l3.length) = true := decide_eq_true hbig
    have HG := Go.Lib.hid hbig
    clear hbig
    go_wp2
    go_quiet (fail)
    go_wp2
    go_ret2
    have hx := HG.out
    rw [HL3.out, HL2.out] at hx
    rw [fit_big _ (by simpa using hx)]
    exact ⟨_, rfl, own_nil _ _ _, HB3.out.trans (below_drewN _ _ _)⟩
  · have dg : decide ((256 : Int) < (l3.length : Int)) = false := decide_eq_false (by omega)
    have dg' : decide (256 < l3.length) = false := decide_eq_false hbig
    have HG := Go.Lib.hid hbig
    clear hbig
    go_wp2
    go_ret2
    have hx := HG.out
    rw [HL3.out, HL2.out] at hx
    rw [fit_small _ (by simpa using hx)]
    have ho := HO3'.out
    refine ⟨_, rfl, ?_, HB3.out⟩
    rw [HL3.out, HL2.out] at ho ⊢
    simpa [errv, show b8 2 = 2 by decide] using ho

set_option maxRecDepth 100000 in
set_option maxHeartbeats 3200000 in
theorem encode_2_nil (key : List UInt8) (kind : Int) (gap slack limit span units : UInt64) (p : Nat → Addr) (w : World) (hp : E4 w p) (hkl : key.length ≤ 9223372036854775807) (hpol : ((⟨kind, gap, slack, limit, span⟩ : Pol) == polZ) = true) (hu : units = 0) (hlong : ¬ 256 < key.length) (hk0 : key = []) :
    Calls Tryd.prog 11 #[.agg (reqA ⟨2, key, ⟨kind, gap, slack, limit, span⟩, units⟩)] w fun e w' => GaveE p w w' e (encS ⟨2, key, ⟨kind, gap, slack, limit, span⟩, units⟩) := by
  subst hu
  subst hk0
  have hbx : Below w.heap.size w (w.alloc (.cells #[.int .i64 2, .string ⟨([] : List UInt8).toArray⟩, .int .i64 kind, .int .u64 (n64 gap), .int .u64 (n64 slack), .int .u64 (n64 limit), .int .u64 (n64 span), .int .u64 (n64 0)] 30)) := (Below.refl _ _).alloc (Nat.le_refl _) _
  have HBX := Go.Lib.hid hbx
  have e1 := e4_arg (e4_below hp hbx)
  have e4 := e4_lng (e4_below hp hbx)
  have HP := Go.Lib.hid (e4_long (e4_below hp hbx))
  have HG4 := Go.Lib.hid (World.block_lt_of_cell? w _ (e4_lng hp))
  simp only [reqA]
  clear hbx hp
  have hE : encS ⟨2, ([] : List UInt8), ⟨kind, gap, slack, limit, span⟩, 0⟩ = fit (b8 2 :: (leS (UInt64.ofNat ([] : List UInt8).length) 2 ++ ([] : List UInt8) ++ leS 0 8)) := by
    have hs : sayR ⟨2, ([] : List UInt8), ⟨kind, gap, slack, limit, span⟩, 0⟩ = true := by unfold sayR; simp [hpol]
    unfold encS; rw [hs, if_neg (by decide), if_neg hlong]
    rfl
  rw [hE]
  have dl : decide ((256 : Int) < (([] : List UInt8).length : Int)) = false := decide_eq_false (by omega)
  have dl' : decide (256 < ([] : List UInt8).length) = false := decide_eq_false hlong
  have hkl' : ([] : List UInt8).length ≤ 256 := by omega
  clear hE hlong
  have hq := eqlit kind gap slack limit span _ rfl
  rw [hpol] at hq
  clear hpol
  go_enter Tryd.func11, Tryd.ntmps11
  go_wp2_with fail
  have hbb : Below (w.alloc (.cells #[.int .i64 2, .string ⟨([] : List UInt8).toArray⟩, .int .i64 kind, .int .u64 (n64 gap), .int .u64 (n64 slack), .int .u64 (n64 limit), .int .u64 (n64 span), .int .u64 (n64 0)] 30)).heap.size (w.alloc (.cells #[.int .i64 2, .string ⟨([] : List UInt8).toArray⟩, .int .i64 kind, .int .u64 (n64 gap), .int .u64 (n64 slack), .int .u64 (n64 limit), .int .u64 (n64 span), .int .u64 (n64 0)] 30)) ((w.alloc (.cells #[.int .i64 2, .string ⟨([] : List UInt8).toArray⟩, .int .i64 kind, .int .u64 (n64 gap), .int .u64 (n64 slack), .int .u64 (n64 limit), .int .u64 (n64 span), .int .u64 (n64 0)] 30)).alloc (.cells #[.int .u8 2] 5)) := (Below.refl _ _).alloc (Nat.le_refl _) _
  have hcb : Cells ((w.alloc (.cells #[.int .i64 2, .string ⟨([] : List UInt8).toArray⟩, .int .i64 kind, .int .u64 (n64 gap), .int .u64 (n64 slack), .int .u64 (n64 limit), .int .u64 (n64 span), .int .u64 (n64 0)] 30)).alloc (.cells #[.int .u8 2] 5)) (some ⟨(w.alloc (.cells #[.int .i64 2, .string ⟨([] : List UInt8).toArray⟩, .int .i64 kind, .int .u64 (n64 gap), .int .u64 (n64 slack), .int .u64 (n64 limit), .int .u64 (n64 span), .int .u64 (n64 0)] 30)).heap.size, 0, none⟩) (Bs [2]) := cells_new (w.alloc (.cells #[.int .i64 2, .string ⟨([] : List UInt8).toArray⟩, .int .i64 kind, .int .u64 (n64 gap), .int .u64 (n64 slack), .int .u64 (n64 limit), .int .u64 (n64 span), .int .u64 (n64 0)] 30)) (Bs [2]) 5 (0, 0)
  rw [show ((w.alloc (.cells #[.int .i64 2, .string ⟨([] : List UInt8).toArray⟩, .int .i64 kind, .int .u64 (n64 gap), .int .u64 (n64 slack), .int .u64 (n64 limit), .int .u64 (n64 span), .int .u64 (n64 0)] 30))).heap.size = w.heap.size + 1 by simp] at hcb
  refine (putText_v (some ⟨w.heap.size + 1, 0, none⟩) 1 [2] ([] : List UInt8) p 1 ((w.alloc (.cells #[.int .i64 2, .string ⟨([] : List UInt8).toArray⟩, .int .i64 kind, .int .u64 (n64 gap), .int .u64 (n64 slack), .int .u64 (n64 limit), .int .u64 (n64 span), .int .u64 (n64 0)] 30)).alloc (.cells #[.int .u8 2] 5)) (longAt_below HP.out hbb) (by omega) (by simp) (by decide) hcb).mono ?_
  rintro e w2 ⟨A2, c2, l2, rfl, HL2, HC2, hl2, HO2, hb2⟩
  have hwb2 := below_then hbb hb2
  have HB2 := Go.Lib.hid (below_then HBX.out hwb2)
  have hbh : (w.alloc (.cells #[.int .i64 2, .string ⟨([] : List UInt8).toArray⟩, .int .i64 kind, .int .u64 (n64 gap), .int .u64 (n64 slack), .int .u64 (n64 limit), .int .u64 (n64 span), .int .u64 (n64 0)] 30)).heap[w.heap.size]? = some (.cells #[.int .i64 2, .string ⟨([] : List UInt8).toArray⟩, .int .i64 kind, .int .u64 (n64 gap), .int .u64 (n64 slack), .int .u64 (n64 limit), .int .u64 (n64 span), .int .u64 (n64 0)] 30 (0, 0)) := heap_here w _ w.heap.size rfl
  obtain ⟨c0, c1, c2', c3, c4, c5, c6, c7⟩ := box8 (below_heap hwb2 hbh)
  have e4w := below_cell hwb2 e4
  have hb0 : w.heap.size ≤ ((w.alloc (.cells #[.int .i64 2, .string ⟨([] : List UInt8).toArray⟩, .int .i64 kind, .int .u64 (n64 gap), .int .u64 (n64 slack), .int .u64 (n64 limit), .int .u64 (n64 span), .int .u64 (n64 0)] 30)).alloc (.cells #[.int .u8 2] 5)).heap.size := by have h1 := hbb.size; have h2 := HBX.out.size; omega
  have HO2' := Go.Lib.hid (own_mono HO2.out hb0)
  have hszw2 := HB2.out.size
  clear hb2 hbb hcb hwb2 hbh HO2 hb0
  go_wp2_with fail
  refine (putU64_v A2 c2 l2 0 (1 + 65537) w2 hl2 (by decide) HC2.out).mono ?_
  rintro e w3 ⟨A3, c3', l3, rfl, HL3, HC3, hl3, HO3, hb3⟩
  have HB3 := Go.Lib.hid (below_then HB2.out hb3)
  have HO3' := Go.Lib.hid (own_mono HO3.out hszw2)
  have e4x := below_cell hb3 e4w
  clear hb3 c0 c1 c2' c3 c4 c5 c6 c7 e4w
  by_cases hbig : 256 < l3.length
  · have dg : decide ((256 : Int) < (l3.length : Int)) = true := decide_eq_true (by omega)
    have dg' : decide (256 < l3.length) = true := decide_eq_true hbig
    have HG := Go.Lib.hid hbig
    clear hbig
    go_wp2
    go_quiet (fail)
    go_wp2
    go_ret2
    have hx := HG.out
    rw [HL3.out, HL2.out] at hx
    rw [fit_big _ (by simpa using hx)]
    exact ⟨_, rfl, own_nil _ _ _, HB3.out.trans (below_drewN _ _ _)⟩
  · have dg : decide ((256 : Int) < (l3.length : Int)) = false := decide_eq_false (by omega)
    have dg' : decide (256 < l3.length) = false := decide_eq_false hbig
    have HG := Go.Lib.hid hbig
    clear hbig
    go_wp2
    go_ret2
    have hx := HG.out
    rw [HL3.out, HL2.out] at hx
    rw [fit_small _ (by simpa using hx)]
    have ho := HO3'.out
    refine ⟨_, rfl, ?_, HB3.out⟩
    rw [HL3.out, HL2.out] at ho ⊢
    simpa [errv, show b8 2 = 2 by decide] using ho

set_option maxRecDepth 100000 in
set_option maxHeartbeats 3200000 in
theorem encode_3_pol (key : List UInt8) (kind : Int) (gap slack limit span units : UInt64) (p : Nat → Addr) (w : World) (hp : E4 w p) (hkl : key.length ≤ 9223372036854775807) (hpol : ((⟨kind, gap, slack, limit, span⟩ : Pol) == polZ) = false) :
    Calls Tryd.prog 11 #[.agg (reqA ⟨3, key, ⟨kind, gap, slack, limit, span⟩, units⟩)] w fun e w' => GaveE p w w' e (encS ⟨3, key, ⟨kind, gap, slack, limit, span⟩, units⟩) := by
  have hbx : Below w.heap.size w (w.alloc (.cells #[.int .i64 3, .string ⟨key.toArray⟩, .int .i64 kind, .int .u64 (n64 gap), .int .u64 (n64 slack), .int .u64 (n64 limit), .int .u64 (n64 span), .int .u64 (n64 units)] 30)) := (Below.refl _ _).alloc (Nat.le_refl _) _
  have HBX := Go.Lib.hid hbx
  have e1 := e4_arg (e4_below hp hbx)
  have e4 := e4_lng (e4_below hp hbx)
  have HP := Go.Lib.hid (e4_long (e4_below hp hbx))
  have HG4 := Go.Lib.hid (World.block_lt_of_cell? w _ (e4_lng hp))
  simp only [reqA]
  clear hbx hp
  have hE : encS ⟨3, key, ⟨kind, gap, slack, limit, span⟩, units⟩ = ([], 1) := by unfold encS sayR; simp [hpol]
  rw [hE]
  clear hE
  have hq := eqlit kind gap slack limit span _ rfl
  rw [hpol] at hq
  clear hpol
  go_enter Tryd.func11, Tryd.ntmps11
  go_wp2
  go_quiet (fail)
  go_wp2
  go_ret2
  exact ⟨_, rfl, own_nil _ _ _, below_then HBX.out (below_drewN _ _ _)⟩

set_option maxRecDepth 100000 in
set_option maxHeartbeats 3200000 in
theorem encode_3_units (key : List UInt8) (kind : Int) (gap slack limit span units : UInt64) (p : Nat → Addr) (w : World) (hp : E4 w p) (hkl : key.length ≤ 9223372036854775807) (hpol : ((⟨kind, gap, slack, limit, span⟩ : Pol) == polZ) = true) (hu : ¬ units = 0) :
    Calls Tryd.prog 11 #[.agg (reqA ⟨3, key, ⟨kind, gap, slack, limit, span⟩, units⟩)] w fun e w' => GaveE p w w' e (encS ⟨3, key, ⟨kind, gap, slack, limit, span⟩, units⟩) := by
  have hbx : Below w.heap.size w (w.alloc (.cells #[.int .i64 3, .string ⟨key.toArray⟩, .int .i64 kind, .int .u64 (n64 gap), .int .u64 (n64 slack), .int .u64 (n64 limit), .int .u64 (n64 span), .int .u64 (n64 units)] 30)) := (Below.refl _ _).alloc (Nat.le_refl _) _
  have HBX := Go.Lib.hid hbx
  have e1 := e4_arg (e4_below hp hbx)
  have e4 := e4_lng (e4_below hp hbx)
  have HP := Go.Lib.hid (e4_long (e4_below hp hbx))
  have HG4 := Go.Lib.hid (World.block_lt_of_cell? w _ (e4_lng hp))
  simp only [reqA]
  clear hbx hp
  have hE : encS ⟨3, key, ⟨kind, gap, slack, limit, span⟩, units⟩ = ([], 1) := by unfold encS sayR; simp [hpol, hu]
  rw [hE]
  clear hE
  have hq := eqlit kind gap slack limit span _ rfl
  rw [hpol] at hq
  clear hpol
  go_enter Tryd.func11, Tryd.ntmps11
  go_wp2
  go_quiet (fail)
  go_wp2
  go_ret2
  exact ⟨_, rfl, own_nil _ _ _, below_then HBX.out (below_drewN _ _ _)⟩

set_option maxRecDepth 100000 in
set_option maxHeartbeats 3200000 in
theorem encode_3_long (key : List UInt8) (kind : Int) (gap slack limit span units : UInt64) (p : Nat → Addr) (w : World) (hp : E4 w p) (hkl : key.length ≤ 9223372036854775807) (hpol : ((⟨kind, gap, slack, limit, span⟩ : Pol) == polZ) = true) (hu : units = 0) (hlong : 256 < key.length) :
    Calls Tryd.prog 11 #[.agg (reqA ⟨3, key, ⟨kind, gap, slack, limit, span⟩, units⟩)] w fun e w' => GaveE p w w' e (encS ⟨3, key, ⟨kind, gap, slack, limit, span⟩, units⟩) := by
  subst hu
  have hbx : Below w.heap.size w (w.alloc (.cells #[.int .i64 3, .string ⟨key.toArray⟩, .int .i64 kind, .int .u64 (n64 gap), .int .u64 (n64 slack), .int .u64 (n64 limit), .int .u64 (n64 span), .int .u64 (n64 0)] 30)) := (Below.refl _ _).alloc (Nat.le_refl _) _
  have HBX := Go.Lib.hid hbx
  have e1 := e4_arg (e4_below hp hbx)
  have e4 := e4_lng (e4_below hp hbx)
  have HP := Go.Lib.hid (e4_long (e4_below hp hbx))
  have HG4 := Go.Lib.hid (World.block_lt_of_cell? w _ (e4_lng hp))
  simp only [reqA]
  clear hbx hp
  have hE : encS ⟨3, key, ⟨kind, gap, slack, limit, span⟩, 0⟩ = ([], 4) := by
    have hs : sayR ⟨3, key, ⟨kind, gap, slack, limit, span⟩, 0⟩ = true := by unfold sayR; simp [hpol]
    unfold encS; rw [hs, if_neg (by decide), if_pos hlong]
  rw [hE]
  have dl : decide ((256 : Int) < (key.length : Int)) = true := decide_eq_true (by omega)
  have dl' : decide (256 < key.length) = true := decide_eq_true hlong
  have hk0 : ¬ key = [] := by rintro rfl; simp at hlong
  clear hE
  have hq := eqlit kind gap slack limit span _ rfl
  rw [hpol] at hq
  clear hpol
  go_enter Tryd.func11, Tryd.ntmps11
  go_wp2
  go_quiet (fail)
  go_wp2
  go_ret2
  exact ⟨_, rfl, own_nil _ _ _, below_then HBX.out (below_drewN _ _ _)⟩

set_option maxRecDepth 100000 in
set_option maxHeartbeats 3200000 in
theorem encode_3_ok (key : List UInt8) (kind : Int) (gap slack limit span units : UInt64) (p : Nat → Addr) (w : World) (hp : E4 w p) (hkl : key.length ≤ 9223372036854775807) (hpol : ((⟨kind, gap, slack, limit, span⟩ : Pol) == polZ) = true) (hu : units = 0) (hlong : ¬ 256 < key.length) (hk0 : ¬ key = []) :
    Calls Tryd.prog 11 #[.agg (reqA ⟨3, key, ⟨kind, gap, slack, limit, span⟩, units⟩)] w fun e w' => GaveE p w w' e (encS ⟨3, key, ⟨kind, gap, slack, limit, span⟩, units⟩) := by
  subst hu
  have hbx : Below w.heap.size w (w.alloc (.cells #[.int .i64 3, .string ⟨key.toArray⟩, .int .i64 kind, .int .u64 (n64 gap), .int .u64 (n64 slack), .int .u64 (n64 limit), .int .u64 (n64 span), .int .u64 (n64 0)] 30)) := (Below.refl _ _).alloc (Nat.le_refl _) _
  have HBX := Go.Lib.hid hbx
  have e1 := e4_arg (e4_below hp hbx)
  have e4 := e4_lng (e4_below hp hbx)
  have HP := Go.Lib.hid (e4_long (e4_below hp hbx))
  have HG4 := Go.Lib.hid (World.block_lt_of_cell? w _ (e4_lng hp))
  simp only [reqA]
  clear hbx hp
  have hE : encS ⟨3, key, ⟨kind, gap, slack, limit, span⟩, 0⟩ = fit (b8 3 :: (leS (UInt64.ofNat key.length) 2 ++ key ++ [])) := by
    have hs : sayR ⟨3, key, ⟨kind, gap, slack, limit, span⟩, 0⟩ = true := by unfold sayR; simp [hpol]
    unfold encS; rw [hs, if_neg (by decide), if_neg hlong]
    rfl
  rw [hE]
  have dl : decide ((256 : Int) < (key.length : Int)) = false := decide_eq_false (by omega)
  have dl' : decide (256 < key.length) = false := decide_eq_false hlong
  have hkl' : key.length ≤ 256 := by omega
  clear hE hlong
  have hq := eqlit kind gap slack limit span _ rfl
  rw [hpol] at hq
  clear hpol
  go_enter Tryd.func11, Tryd.ntmps11
  go_wp2_with fail
  have hbb : Below (w.alloc (.cells #[.int .i64 3, .string ⟨key.toArray⟩, .int .i64 kind, .int .u64 (n64 gap), .int .u64 (n64 slack), .int .u64 (n64 limit), .int .u64 (n64 span), .int .u64 (n64 0)] 30)).heap.size (w.alloc (.cells #[.int .i64 3, .string ⟨key.toArray⟩, .int .i64 kind, .int .u64 (n64 gap), .int .u64 (n64 slack), .int .u64 (n64 limit), .int .u64 (n64 span), .int .u64 (n64 0)] 30)) ((w.alloc (.cells #[.int .i64 3, .string ⟨key.toArray⟩, .int .i64 kind, .int .u64 (n64 gap), .int .u64 (n64 slack), .int .u64 (n64 limit), .int .u64 (n64 span), .int .u64 (n64 0)] 30)).alloc (.cells #[.int .u8 3] 5)) := (Below.refl _ _).alloc (Nat.le_refl _) _
  have hcb : Cells ((w.alloc (.cells #[.int .i64 3, .string ⟨key.toArray⟩, .int .i64 kind, .int .u64 (n64 gap), .int .u64 (n64 slack), .int .u64 (n64 limit), .int .u64 (n64 span), .int .u64 (n64 0)] 30)).alloc (.cells #[.int .u8 3] 5)) (some ⟨(w.alloc (.cells #[.int .i64 3, .string ⟨key.toArray⟩, .int .i64 kind, .int .u64 (n64 gap), .int .u64 (n64 slack), .int .u64 (n64 limit), .int .u64 (n64 span), .int .u64 (n64 0)] 30)).heap.size, 0, none⟩) (Bs [3]) := cells_new (w.alloc (.cells #[.int .i64 3, .string ⟨key.toArray⟩, .int .i64 kind, .int .u64 (n64 gap), .int .u64 (n64 slack), .int .u64 (n64 limit), .int .u64 (n64 span), .int .u64 (n64 0)] 30)) (Bs [3]) 5 (0, 0)
  rw [show ((w.alloc (.cells #[.int .i64 3, .string ⟨key.toArray⟩, .int .i64 kind, .int .u64 (n64 gap), .int .u64 (n64 slack), .int .u64 (n64 limit), .int .u64 (n64 span), .int .u64 (n64 0)] 30))).heap.size = w.heap.size + 1 by simp] at hcb
  refine (putText_v (some ⟨w.heap.size + 1, 0, none⟩) 1 [3] key p 1 ((w.alloc (.cells #[.int .i64 3, .string ⟨key.toArray⟩, .int .i64 kind, .int .u64 (n64 gap), .int .u64 (n64 slack), .int .u64 (n64 limit), .int .u64 (n64 span), .int .u64 (n64 0)] 30)).alloc (.cells #[.int .u8 3] 5)) (longAt_below HP.out hbb) (by omega) (by simp) (by decide) hcb).mono ?_
  rintro e w2 ⟨A2, c2, l2, rfl, HL2, HC2, hl2, HO2, hb2⟩
  have hwb2 := below_then hbb hb2
  have HB2 := Go.Lib.hid (below_then HBX.out hwb2)
  have hbh : (w.alloc (.cells #[.int .i64 3, .string ⟨key.toArray⟩, .int .i64 kind, .int .u64 (n64 gap), .int .u64 (n64 slack), .int .u64 (n64 limit), .int .u64 (n64 span), .int .u64 (n64 0)] 30)).heap[w.heap.size]? = some (.cells #[.int .i64 3, .string ⟨key.toArray⟩, .int .i64 kind, .int .u64 (n64 gap), .int .u64 (n64 slack), .int .u64 (n64 limit), .int .u64 (n64 span), .int .u64 (n64 0)] 30 (0, 0)) := heap_here w _ w.heap.size rfl
  obtain ⟨c0, c1, c2', c3, c4, c5, c6, c7⟩ := box8 (below_heap hwb2 hbh)
  have e4w := below_cell hwb2 e4
  have hb0 : w.heap.size ≤ ((w.alloc (.cells #[.int .i64 3, .string ⟨key.toArray⟩, .int .i64 kind, .int .u64 (n64 gap), .int .u64 (n64 slack), .int .u64 (n64 limit), .int .u64 (n64 span), .int .u64 (n64 0)] 30)).alloc (.cells #[.int .u8 3] 5)).heap.size := by have h1 := hbb.size; have h2 := HBX.out.size; omega
  have HO2' := Go.Lib.hid (own_mono HO2.out hb0)
  have hszw2 := HB2.out.size
  clear hb2 hbb hcb hwb2 hbh HO2 hb0
  by_cases hbig : 256 < l2.length
  · have dg : decide ((256 : Int) < (l2.length : Int)) = true := decide_eq_true (by omega)
    have dg' : decide (256 < l2.length) = true := decide_eq_true hbig
    have HG := Go.Lib.hid hbig
    clear hbig
    go_wp2
    go_quiet (fail)
    go_wp2
    go_ret2
    have hx := HG.out
    rw [HL2.out] at hx
    rw [fit_big _ (by simpa using hx)]
    exact ⟨_, rfl, own_nil _ _ _, HB2.out.trans (below_drewN _ _ _)⟩
  · have dg : decide ((256 : Int) < (l2.length : Int)) = false := decide_eq_false (by omega)
    have dg' : decide (256 < l2.length) = false := decide_eq_false hbig
    have HG := Go.Lib.hid hbig
    clear hbig
    go_wp2
    go_ret2
    have hx := HG.out
    rw [HL2.out] at hx
    rw [fit_small _ (by simpa using hx)]
    have ho := HO2'.out
    refine ⟨_, rfl, ?_, HB2.out⟩
    rw [HL2.out] at ho ⊢
    simpa [errv, show b8 3 = 3 by decide] using ho

set_option maxRecDepth 100000 in
set_option maxHeartbeats 3200000 in
theorem encode_3_nil (key : List UInt8) (kind : Int) (gap slack limit span units : UInt64) (p : Nat → Addr) (w : World) (hp : E4 w p) (hkl : key.length ≤ 9223372036854775807) (hpol : ((⟨kind, gap, slack, limit, span⟩ : Pol) == polZ) = true) (hu : units = 0) (hlong : ¬ 256 < key.length) (hk0 : key = []) :
    Calls Tryd.prog 11 #[.agg (reqA ⟨3, key, ⟨kind, gap, slack, limit, span⟩, units⟩)] w fun e w' => GaveE p w w' e (encS ⟨3, key, ⟨kind, gap, slack, limit, span⟩, units⟩) := by
  subst hk0
  subst hu
  have hbx : Below w.heap.size w (w.alloc (.cells #[.int .i64 3, .string ⟨([] : List UInt8).toArray⟩, .int .i64 kind, .int .u64 (n64 gap), .int .u64 (n64 slack), .int .u64 (n64 limit), .int .u64 (n64 span), .int .u64 (n64 0)] 30)) := (Below.refl _ _).alloc (Nat.le_refl _) _
  have HBX := Go.Lib.hid hbx
  have e1 := e4_arg (e4_below hp hbx)
  have e4 := e4_lng (e4_below hp hbx)
  have HP := Go.Lib.hid (e4_long (e4_below hp hbx))
  have HG4 := Go.Lib.hid (World.block_lt_of_cell? w _ (e4_lng hp))
  simp only [reqA]
  clear hbx hp
  have hE : encS ⟨3, ([] : List UInt8), ⟨kind, gap, slack, limit, span⟩, 0⟩ = fit (b8 3 :: (leS (UInt64.ofNat ([] : List UInt8).length) 2 ++ ([] : List UInt8) ++ [])) := by
    have hs : sayR ⟨3, ([] : List UInt8), ⟨kind, gap, slack, limit, span⟩, 0⟩ = true := by unfold sayR; simp [hpol]
    unfold encS; rw [hs, if_neg (by decide), if_neg hlong]
    rfl
  rw [hE]
  have dl : decide ((256 : Int) < (([] : List UInt8).length : Int)) = false := decide_eq_false (by omega)
  have dl' : decide (256 < ([] : List UInt8).length) = false := decide_eq_false hlong
  have hkl' : ([] : List UInt8).length ≤ 256 := by omega
  clear hE hlong
  have hq := eqlit kind gap slack limit span _ rfl
  rw [hpol] at hq
  clear hpol
  go_enter Tryd.func11, Tryd.ntmps11
  go_wp2_with fail
  have hbb : Below (w.alloc (.cells #[.int .i64 3, .string ⟨([] : List UInt8).toArray⟩, .int .i64 kind, .int .u64 (n64 gap), .int .u64 (n64 slack), .int .u64 (n64 limit), .int .u64 (n64 span), .int .u64 (n64 0)] 30)).heap.size (w.alloc (.cells #[.int .i64 3, .string ⟨([] : List UInt8).toArray⟩, .int .i64 kind, .int .u64 (n64 gap), .int .u64 (n64 slack), .int .u64 (n64 limit), .int .u64 (n64 span), .int .u64 (n64 0)] 30)) ((w.alloc (.cells #[.int .i64 3, .string ⟨([] : List UInt8).toArray⟩, .int .i64 kind, .int .u64 (n64 gap), .int .u64 (n64 slack), .int .u64 (n64 limit), .int .u64 (n64 span), .int .u64 (n64 0)] 30)).alloc (.cells #[.int .u8 3] 5)) := (Below.refl _ _).alloc (Nat.le_refl _) _
  have hcb : Cells ((w.alloc (.cells #[.int .i64 3, .string ⟨([] : List UInt8).toArray⟩, .int .i64 kind, .int .u64 (n64 gap), .int .u64 (n64 slack), .int .u64 (n64 limit), .int .u64 (n64 span), .int .u64 (n64 0)] 30)).alloc (.cells #[.int .u8 3] 5)) (some ⟨(w.alloc (.cells #[.int .i64 3, .string ⟨([] : List UInt8).toArray⟩, .int .i64 kind, .int .u64 (n64 gap), .int .u64 (n64 slack), .int .u64 (n64 limit), .int .u64 (n64 span), .int .u64 (n64 0)] 30)).heap.size, 0, none⟩) (Bs [3]) := cells_new (w.alloc (.cells #[.int .i64 3, .string ⟨([] : List UInt8).toArray⟩, .int .i64 kind, .int .u64 (n64 gap), .int .u64 (n64 slack), .int .u64 (n64 limit), .int .u64 (n64 span), .int .u64 (n64 0)] 30)) (Bs [3]) 5 (0, 0)
  rw [show ((w.alloc (.cells #[.int .i64 3, .string ⟨([] : List UInt8).toArray⟩, .int .i64 kind, .int .u64 (n64 gap), .int .u64 (n64 slack), .int .u64 (n64 limit), .int .u64 (n64 span), .int .u64 (n64 0)] 30))).heap.size = w.heap.size + 1 by simp] at hcb
  refine (putText_v (some ⟨w.heap.size + 1, 0, none⟩) 1 [3] ([] : List UInt8) p 1 ((w.alloc (.cells #[.int .i64 3, .string ⟨([] : List UInt8).toArray⟩, .int .i64 kind, .int .u64 (n64 gap), .int .u64 (n64 slack), .int .u64 (n64 limit), .int .u64 (n64 span), .int .u64 (n64 0)] 30)).alloc (.cells #[.int .u8 3] 5)) (longAt_below HP.out hbb) (by omega) (by simp) (by decide) hcb).mono ?_
  rintro e w2 ⟨A2, c2, l2, rfl, HL2, HC2, hl2, HO2, hb2⟩
  have hwb2 := below_then hbb hb2
  have HB2 := Go.Lib.hid (below_then HBX.out hwb2)
  have hbh : (w.alloc (.cells #[.int .i64 3, .string ⟨([] : List UInt8).toArray⟩, .int .i64 kind, .int .u64 (n64 gap), .int .u64 (n64 slack), .int .u64 (n64 limit), .int .u64 (n64 span), .int .u64 (n64 0)] 30)).heap[w.heap.size]? = some (.cells #[.int .i64 3, .string ⟨([] : List UInt8).toArray⟩, .int .i64 kind, .int .u64 (n64 gap), .int .u64 (n64 slack), .int .u64 (n64 limit), .int .u64 (n64 span), .int .u64 (n64 0)] 30 (0, 0)) := heap_here w _ w.heap.size rfl
  obtain ⟨c0, c1, c2', c3, c4, c5, c6, c7⟩ := box8 (below_heap hwb2 hbh)
  have e4w := below_cell hwb2 e4
  have hb0 : w.heap.size ≤ ((w.alloc (.cells #[.int .i64 3, .string ⟨([] : List UInt8).toArray⟩, .int .i64 kind, .int .u64 (n64 gap), .int .u64 (n64 slack), .int .u64 (n64 limit), .int .u64 (n64 span), .int .u64 (n64 0)] 30)).alloc (.cells #[.int .u8 3] 5)).heap.size := by have h1 := hbb.size; have h2 := HBX.out.size; omega
  have HO2' := Go.Lib.hid (own_mono HO2.out hb0)
  have hszw2 := HB2.out.size
  clear hb2 hbb hcb hwb2 hbh HO2 hb0
  by_cases hbig : 256 < l2.length
  · have dg : decide ((256 : Int) < (l2.length : Int)) = true := decide_eq_true (by omega)
    have dg' : decide (256 < l2.length) = true := decide_eq_true hbig
    have HG := Go.Lib.hid hbig
    clear hbig
    go_wp2
    go_quiet (fail)
    go_wp2
    go_ret2
    have hx := HG.out
    rw [HL2.out] at hx
    rw [fit_big _ (by simpa using hx)]
    exact ⟨_, rfl, own_nil _ _ _, HB2.out.trans (below_drewN _ _ _)⟩
  · have dg : decide ((256 : Int) < (l2.length : Int)) = false := decide_eq_false (by omega)
    have dg' : decide (256 < l2.length) = false := decide_eq_false hbig
    have HG := Go.Lib.hid hbig
    clear hbig
    go_wp2
    go_ret2
    have hx := HG.out
    rw [HL2.out] at hx
    rw [fit_small _ (by simpa using hx)]
    have ho := HO2'.out
    refine ⟨_, rfl, ?_, HB2.out⟩
    rw [HL2.out] at ho ⊢
    simpa [errv, show b8 3 = 3 by decide] using ho

set_option maxRecDepth 100000 in
set_option maxHeartbeats 3200000 in
theorem encode_4_pol (key : List UInt8) (kind : Int) (gap slack limit span units : UInt64) (p : Nat → Addr) (w : World) (hp : E4 w p) (hkl : key.length ≤ 9223372036854775807) (hpol : ((⟨kind, gap, slack, limit, span⟩ : Pol) == polZ) = false) :
    Calls Tryd.prog 11 #[.agg (reqA ⟨4, key, ⟨kind, gap, slack, limit, span⟩, units⟩)] w fun e w' => GaveE p w w' e (encS ⟨4, key, ⟨kind, gap, slack, limit, span⟩, units⟩) := by
  have hbx : Below w.heap.size w (w.alloc (.cells #[.int .i64 4, .string ⟨key.toArray⟩, .int .i64 kind, .int .u64 (n64 gap), .int .u64 (n64 slack), .int .u64 (n64 limit), .int .u64 (n64 span), .int .u64 (n64 units)] 30)) := (Below.refl _ _).alloc (Nat.le_refl _) _
  have HBX := Go.Lib.hid hbx
  have e1 := e4_arg (e4_below hp hbx)
  have e4 := e4_lng (e4_below hp hbx)
  have HP := Go.Lib.hid (e4_long (e4_below hp hbx))
  have HG4 := Go.Lib.hid (World.block_lt_of_cell? w _ (e4_lng hp))
  simp only [reqA]
  clear hbx hp
  have hE : encS ⟨4, key, ⟨kind, gap, slack, limit, span⟩, units⟩ = ([], 1) := by unfold encS sayR; simp [hpol]
  rw [hE]
  clear hE
  have hq := eqlit kind gap slack limit span _ rfl
  rw [hpol] at hq
  clear hpol
  go_enter Tryd.func11, Tryd.ntmps11
  go_wp2
  go_quiet (fail)
  go_wp2
  go_ret2
  exact ⟨_, rfl, own_nil _ _ _, below_then HBX.out (below_drewN _ _ _)⟩

set_option maxRecDepth 100000 in
set_option maxHeartbeats 3200000 in
theorem encode_4_units (key : List UInt8) (kind : Int) (gap slack limit span units : UInt64) (p : Nat → Addr) (w : World) (hp : E4 w p) (hkl : key.length ≤ 9223372036854775807) (hpol : ((⟨kind, gap, slack, limit, span⟩ : Pol) == polZ) = true) (hu : ¬ units = 0) :
    Calls Tryd.prog 11 #[.agg (reqA ⟨4, key, ⟨kind, gap, slack, limit, span⟩, units⟩)] w fun e w' => GaveE p w w' e (encS ⟨4, key, ⟨kind, gap, slack, limit, span⟩, units⟩) := by
  have hbx : Below w.heap.size w (w.alloc (.cells #[.int .i64 4, .string ⟨key.toArray⟩, .int .i64 kind, .int .u64 (n64 gap), .int .u64 (n64 slack), .int .u64 (n64 limit), .int .u64 (n64 span), .int .u64 (n64 units)] 30)) := (Below.refl _ _).alloc (Nat.le_refl _) _
  have HBX := Go.Lib.hid hbx
  have e1 := e4_arg (e4_below hp hbx)
  have e4 := e4_lng (e4_below hp hbx)
  have HP := Go.Lib.hid (e4_long (e4_below hp hbx))
  have HG4 := Go.Lib.hid (World.block_lt_of_cell? w _ (e4_lng hp))
  simp only [reqA]
  clear hbx hp
  have hE : encS ⟨4, key, ⟨kind, gap, slack, limit, span⟩, units⟩ = ([], 1) := by unfold encS sayR; simp [hpol, hu]
  rw [hE]
  clear hE
  have hq := eqlit kind gap slack limit span _ rfl
  rw [hpol] at hq
  clear hpol
  go_enter Tryd.func11, Tryd.ntmps11
  go_wp2
  go_quiet (fail)
  go_wp2
  go_ret2
  exact ⟨_, rfl, own_nil _ _ _, below_then HBX.out (below_drewN _ _ _)⟩

set_option maxRecDepth 100000 in
set_option maxHeartbeats 3200000 in
theorem encode_4_long (key : List UInt8) (kind : Int) (gap slack limit span units : UInt64) (p : Nat → Addr) (w : World) (hp : E4 w p) (hkl : key.length ≤ 9223372036854775807) (hpol : ((⟨kind, gap, slack, limit, span⟩ : Pol) == polZ) = true) (hu : units = 0) (hlong : 256 < key.length) :
    Calls Tryd.prog 11 #[.agg (reqA ⟨4, key, ⟨kind, gap, slack, limit, span⟩, units⟩)] w fun e w' => GaveE p w w' e (encS ⟨4, key, ⟨kind, gap, slack, limit, span⟩, units⟩) := by
  subst hu
  have hbx : Below w.heap.size w (w.alloc (.cells #[.int .i64 4, .string ⟨key.toArray⟩, .int .i64 kind, .int .u64 (n64 gap), .int .u64 (n64 slack), .int .u64 (n64 limit), .int .u64 (n64 span), .int .u64 (n64 0)] 30)) := (Below.refl _ _).alloc (Nat.le_refl _) _
  have HBX := Go.Lib.hid hbx
  have e1 := e4_arg (e4_below hp hbx)
  have e4 := e4_lng (e4_below hp hbx)
  have HP := Go.Lib.hid (e4_long (e4_below hp hbx))
  have HG4 := Go.Lib.hid (World.block_lt_of_cell? w _ (e4_lng hp))
  simp only [reqA]
  clear hbx hp
  have hE : encS ⟨4, key, ⟨kind, gap, slack, limit, span⟩, 0⟩ = ([], 4) := by
    have hs : sayR ⟨4, key, ⟨kind, gap, slack, limit, span⟩, 0⟩ = true := by unfold sayR; simp [hpol]
    unfold encS; rw [hs, if_neg (by decide), if_pos hlong]
  rw [hE]
  have dl : decide ((256 : Int) < (key.length : Int)) = true := decide_eq_true (by omega)
  have dl' : decide (256 < key.length) = true := decide_eq_true hlong
  have hk0 : ¬ key = [] := by rintro rfl; simp at hlong
  clear hE
  have hq := eqlit kind gap slack limit span _ rfl
  rw [hpol] at hq
  clear hpol
  go_enter Tryd.func11, Tryd.ntmps11
  go_wp2
  go_quiet (fail)
  go_wp2
  go_ret2
  exact ⟨_, rfl, own_nil _ _ _, below_then HBX.out (below_drewN _ _ _)⟩

set_option maxRecDepth 100000 in
set_option maxHeartbeats 3200000 in
theorem encode_4_ok (key : List UInt8) (kind : Int) (gap slack limit span units : UInt64) (p : Nat → Addr) (w : World) (hp : E4 w p) (hkl : key.length ≤ 9223372036854775807) (hpol : ((⟨kind, gap, slack, limit, span⟩ : Pol) == polZ) = true) (hu : units = 0) (hlong : ¬ 256 < key.length) (hk0 : ¬ key = []) :
    Calls Tryd.prog 11 #[.agg (reqA ⟨4, key, ⟨kind, gap, slack, limit, span⟩, units⟩)] w fun e w' => GaveE p w w' e (encS ⟨4, key, ⟨kind, gap, slack, limit, span⟩, units⟩) := by
  subst hu
  have hbx : Below w.heap.size w (w.alloc (.cells #[.int .i64 4, .string ⟨key.toArray⟩, .int .i64 kind, .int .u64 (n64 gap), .int .u64 (n64 slack), .int .u64 (n64 limit), .int .u64 (n64 span), .int .u64 (n64 0)] 30)) := (Below.refl _ _).alloc (Nat.le_refl _) _
  have HBX := Go.Lib.hid hbx
  have e1 := e4_arg (e4_below hp hbx)
  have e4 := e4_lng (e4_below hp hbx)
  have HP := Go.Lib.hid (e4_long (e4_below hp hbx))
  have HG4 := Go.Lib.hid (World.block_lt_of_cell? w _ (e4_lng hp))
  simp only [reqA]
  clear hbx hp
  have hE : encS ⟨4, key, ⟨kind, gap, slack, limit, span⟩, 0⟩ = fit (b8 4 :: (leS (UInt64.ofNat key.length) 2 ++ key ++ [])) := by
    have hs : sayR ⟨4, key, ⟨kind, gap, slack, limit, span⟩, 0⟩ = true := by unfold sayR; simp [hpol]
    unfold encS; rw [hs, if_neg (by decide), if_neg hlong]
    rfl
  rw [hE]
  have dl : decide ((256 : Int) < (key.length : Int)) = false := decide_eq_false (by omega)
  have dl' : decide (256 < key.length) = false := decide_eq_false hlong
  have hkl' : key.length ≤ 256 := by omega
  clear hE hlong
  have hq := eqlit kind gap slack limit span _ rfl
  rw [hpol] at hq
  clear hpol
  go_enter Tryd.func11, Tryd.ntmps11
  go_wp2_with fail
  have hbb : Below (w.alloc (.cells #[.int .i64 4, .string ⟨key.toArray⟩, .int .i64 kind, .int .u64 (n64 gap), .int .u64 (n64 slack), .int .u64 (n64 limit), .int .u64 (n64 span), .int .u64 (n64 0)] 30)).heap.size (w.alloc (.cells #[.int .i64 4, .string ⟨key.toArray⟩, .int .i64 kind, .int .u64 (n64 gap), .int .u64 (n64 slack), .int .u64 (n64 limit), .int .u64 (n64 span), .int .u64 (n64 0)] 30)) ((w.alloc (.cells #[.int .i64 4, .string ⟨key.toArray⟩, .int .i64 kind, .int .u64 (n64 gap), .int .u64 (n64 slack), .int .u64 (n64 limit), .int .u64 (n64 span), .int .u64 (n64 0)] 30)).alloc (.cells #[.int .u8 4] 5)) := (Below.refl _ _).alloc (Nat.le_refl _) _
  have hcb : Cells ((w.alloc (.cells #[.int .i64 4, .string ⟨key.toArray⟩, .int .i64 kind, .int .u64 (n64 gap), .int .u64 (n64 slack), .int .u64 (n64 limit), .int .u64 (n64 span), .int .u64 (n64 0)] 30)).alloc (.cells #[.int .u8 4] 5)) (some ⟨(w.alloc (.cells #[.int .i64 4, .string ⟨key.toArray⟩, .int .i64 kind, .int .u64 (n64 gap), .int .u64 (n64 slack), .int .u64 (n64 limit), .int .u64 (n64 span), .int .u64 (n64 0)] 30)).heap.size, 0, none⟩) (Bs [4]) := cells_new (w.alloc (.cells #[.int .i64 4, .string ⟨key.toArray⟩, .int .i64 kind, .int .u64 (n64 gap), .int .u64 (n64 slack), .int .u64 (n64 limit), .int .u64 (n64 span), .int .u64 (n64 0)] 30)) (Bs [4]) 5 (0, 0)
  rw [show ((w.alloc (.cells #[.int .i64 4, .string ⟨key.toArray⟩, .int .i64 kind, .int .u64 (n64 gap), .int .u64 (n64 slack), .int .u64 (n64 limit), .int .u64 (n64 span), .int .u64 (n64 0)] 30))).heap.size = w.heap.size + 1 by simp] at hcb
  refine (putText_v (some ⟨w.heap.size + 1, 0, none⟩) 1 [4] key p 1 ((w.alloc (.cells #[.int .i64 4, .string ⟨key.toArray⟩, .int .i64 kind, .int .u64 (n64 gap), .int .u64 (n64 slack), .int .u64 (n64 limit), .int .u64 (n64 span), .int .u64 (n64 0)] 30)).alloc (.cells #[.int .u8 4] 5)) (longAt_below HP.out hbb) (by omega) (by simp) (by decide) hcb).mono ?_
  rintro e w2 ⟨A2, c2, l2, rfl, HL2, HC2, hl2, HO2, hb2⟩
  have hwb2 := below_then hbb hb2
  have HB2 := Go.Lib.hid (below_then HBX.out hwb2)
  have hbh : (w.alloc (.cells #[.int .i64 4, .string ⟨key.toArray⟩, .int .i64 kind, .int .u64 (n64 gap), .int .u64 (n64 slack), .int .u64 (n64 limit), .int .u64 (n64 span), .int .u64 (n64 0)] 30)).heap[w.heap.size]? = some (.cells #[.int .i64 4, .string ⟨key.toArray⟩, .int .i64 kind, .int .u64 (n64 gap), .int .u64 (n64 slack), .int .u64 (n64 limit), .int .u64 (n64 span), .int .u64 (n64 0)] 30 (0, 0)) := heap_here w _ w.heap.size rfl
  obtain ⟨c0, c1, c2', c3, c4, c5, c6, c7⟩ := box8 (below_heap hwb2 hbh)
  have e4w := below_cell hwb2 e4
  have hb0 : w.heap.size ≤ ((w.alloc (.cells #[.int .i64 4, .string ⟨key.toArray⟩, .int .i64 kind, .int .u64 (n64 gap), .int .u64 (n64 slack), .int .u64 (n64 limit), .int .u64 (n64 span), .int .u64 (n64 0)] 30)).alloc (.cells #[.int .u8 4] 5)).heap.size := by have h1 := hbb.size; have h2 := HBX.out.size; omega
  have HO2' := Go.Lib.hid (own_mono HO2.out hb0)
  have hszw2 := HB2.out.size
  clear hb2 hbb hcb hwb2 hbh HO2 hb0
  by_cases hbig : 256 < l2.length
  · have dg : decide ((256 : Int) < (l2.length : Int)) = true := decide_eq_true (by omega)
    have dg' : decide (256 < l2.length) = true := decide_eq_true hbig
    have HG := Go.Lib.hid hbig
    clear hbig
    go_wp2
    go_quiet (fail)
    go_wp2
    go_ret2
    have hx := HG.out
    rw [HL2.out] at hx
    rw [fit_big _ (by simpa using hx)]
    exact ⟨_, rfl, own_nil _ _ _, HB2.out.trans (below_drewN _ _ _)⟩
  · have dg : decide ((256 : Int) < (l2.length : Int)) = false := decide_eq_false (by omega)
    have dg' : decide (256 < l2.length) = false := decide_eq_false hbig
    have HG := Go.Lib.hid hbig
    clear hbig
    go_wp2
    go_ret2
    have hx := HG.out
    rw [HL2.out] at hx
    rw [fit_small _ (by simpa using hx)]
    have ho := HO2'.out
    refine ⟨_, rfl, ?_, HB2.out⟩
    rw [HL2.out] at ho ⊢
    simpa [errv, show b8 4 = 4 by decide] using ho

set_option maxRecDepth 100000 in
set_option maxHeartbeats 3200000 in
theorem encode_4_nil (key : List UInt8) (kind : Int) (gap slack limit span units : UInt64) (p : Nat → Addr) (w : World) (hp : E4 w p) (hkl : key.length ≤ 9223372036854775807) (hpol : ((⟨kind, gap, slack, limit, span⟩ : Pol) == polZ) = true) (hu : units = 0) (hlong : ¬ 256 < key.length) (hk0 : key = []) :
    Calls Tryd.prog 11 #[.agg (reqA ⟨4, key, ⟨kind, gap, slack, limit, span⟩, units⟩)] w fun e w' => GaveE p w w' e (encS ⟨4, key, ⟨kind, gap, slack, limit, span⟩, units⟩) := by
  subst hk0
  subst hu
  have hbx : Below w.heap.size w (w.alloc (.cells #[.int .i64 4, .string ⟨([] : List UInt8).toArray⟩, .int .i64 kind, .int .u64 (n64 gap), .int .u64 (n64 slack), .int .u64 (n64 limit), .int .u64 (n64 span), .int .u64 (n64 0)] 30)) := (Below.refl _ _).alloc (Nat.le_refl _) _
  have HBX := Go.Lib.hid hbx
  have e1 := e4_arg (e4_below hp hbx)
  have e4 := e4_lng (e4_below hp hbx)
  have HP := Go.Lib.hid (e4_long (e4_below hp hbx))
  have HG4 := Go.Lib.hid (World.block_lt_of_cell? w _ (e4_lng hp))
  simp only [reqA]
  clear hbx hp
  have hE : encS ⟨4, ([] : List UInt8), ⟨kind, gap, slack, limit, span⟩, 0⟩ = fit (b8 4 :: (leS (UInt64.ofNat ([] : List UInt8).length) 2 ++ ([] : List UInt8) ++ [])) := by
    have hs : sayR ⟨4, ([] : List UInt8), ⟨kind, gap, slack, limit, span⟩, 0⟩ = true := by unfold sayR; simp [hpol]
    unfold encS; rw [hs, if_neg (by decide), if_neg hlong]
    rfl
  rw [hE]
  have dl : decide ((256 : Int) < (([] : List UInt8).length : Int)) = false := decide_eq_false (by omega)
  have dl' : decide (256 < ([] : List UInt8).length) = false := decide_eq_false hlong
  have hkl' : ([] : List UInt8).length ≤ 256 := by omega
  clear hE hlong
  have hq := eqlit kind gap slack limit span _ rfl
  rw [hpol] at hq
  clear hpol
  go_enter Tryd.func11, Tryd.ntmps11
  go_wp2_with fail
  have hbb : Below (w.alloc (.cells #[.int .i64 4, .string ⟨([] : List UInt8).toArray⟩, .int .i64 kind, .int .u64 (n64 gap), .int .u64 (n64 slack), .int .u64 (n64 limit), .int .u64 (n64 span), .int .u64 (n64 0)] 30)).heap.size (w.alloc (.cells #[.int .i64 4, .string ⟨([] : List UInt8).toArray⟩, .int .i64 kind, .int .u64 (n64 gap), .int .u64 (n64 slack), .int .u64 (n64 limit), .int .u64 (n64 span), .int .u64 (n64 0)] 30)) ((w.alloc (.cells #[.int .i64 4, .string ⟨([] : List UInt8).toArray⟩, .int .i64 kind, .int .u64 (n64 gap), .int .u64 (n64 slack), .int .u64 (n64 limit), .int .u64 (n64 span), .int .u64 (n64 0)] 30)).alloc (.cells #[.int .u8 4] 5)) := (Below.refl _ _).alloc (Nat.le_refl _) _
  have hcb : Cells ((w.alloc (.cells #[.int .i64 4, .string ⟨([] : List UInt8).toArray⟩, .int .i64 kind, .int .u64 (n64 gap), .int .u64 (n64 slack), .int .u64 (n64 limit), .int .u64 (n64 span), .int .u64 (n64 0)] 30)).alloc (.cells #[.int .u8 4] 5)) (some ⟨(w.alloc (.cells #[.int .i64 4, .string ⟨([] : List UInt8).toArray⟩, .int .i64 kind, .int .u64 (n64 gap), .int .u64 (n64 slack), .int .u64 (n64 limit), .int .u64 (n64 span), .int .u64 (n64 0)] 30)).heap.size, 0, none⟩) (Bs [4]) := cells_new (w.alloc (.cells #[.int .i64 4, .string ⟨([] : List UInt8).toArray⟩, .int .i64 kind, .int .u64 (n64 gap), .int .u64 (n64 slack), .int .u64 (n64 limit), .int .u64 (n64 span), .int .u64 (n64 0)] 30)) (Bs [4]) 5 (0, 0)
  rw [show ((w.alloc (.cells #[.int .i64 4, .string ⟨([] : List UInt8).toArray⟩, .int .i64 kind, .int .u64 (n64 gap), .int .u64 (n64 slack), .int .u64 (n64 limit), .int .u64 (n64 span), .int .u64 (n64 0)] 30))).heap.size = w.heap.size + 1 by simp] at hcb
  refine (putText_v (some ⟨w.heap.size + 1, 0, none⟩) 1 [4] ([] : List UInt8) p 1 ((w.alloc (.cells #[.int .i64 4, .string ⟨([] : List UInt8).toArray⟩, .int .i64 kind, .int .u64 (n64 gap), .int .u64 (n64 slack), .int .u64 (n64 limit), .int .u64 (n64 span), .int .u64 (n64 0)] 30)).alloc (.cells #[.int .u8 4] 5)) (longAt_below HP.out hbb) (by omega) (by simp) (by decide) hcb).mono ?_
  rintro e w2 ⟨A2, c2, l2, rfl, HL2, HC2, hl2, HO2, hb2⟩
  have hwb2 := below_then hbb hb2
  have HB2 := Go.Lib.hid (below_then HBX.out hwb2)
  have hbh : (w.alloc (.cells #[.int .i64 4, .string ⟨([] : List UInt8).toArray⟩, .int .i64 kind, .int .u64 (n64 gap), .int .u64 (n64 slack), .int .u64 (n64 limit), .int .u64 (n64 span), .int .u64 (n64 0)] 30)).heap[w.heap.size]? = some (.cells #[.int .i64 4, .string ⟨([] : List UInt8).toArray⟩, .int .i64 kind, .int .u64 (n64 gap), .int .u64 (n64 slack), .int .u64 (n64 limit), .int .u64 (n64 span), .int .u64 (n64 0)] 30 (0, 0)) := heap_here w _ w.heap.size rfl
  obtain ⟨c0, c1, c2', c3, c4, c5, c6, c7⟩ := box8 (below_heap hwb2 hbh)
  have e4w := below_cell hwb2 e4
  have hb0 : w.heap.size ≤ ((w.alloc (.cells #[.int .i64 4, .string ⟨([] : List UInt8).toArray⟩, .int .i64 kind, .int .u64 (n64 gap), .int .u64 (n64 slack), .int .u64 (n64 limit), .int .u64 (n64 span), .int .u64 (n64 0)] 30)).alloc (.cells #[.int .u8 4] 5)).heap.size := by have h1 := hbb.size; have h2 := HBX.out.size; omega
  have HO2' := Go.Lib.hid (own_mono HO2.out hb0)
  have hszw2 := HB2.out.size
  clear hb2 hbb hcb hwb2 hbh HO2 hb0
  by_cases hbig : 256 < l2.length
  · have dg : decide ((256 : Int) < (l2.length : Int)) = true := decide_eq_true (by omega)
    have dg' : decide (256 < l2.length) = true := decide_eq_true hbig
    have HG := Go.Lib.hid hbig
    clear hbig
    go_wp2
    go_quiet (fail)
    go_wp2
    go_ret2
    have hx := HG.out
    rw [HL2.out] at hx
    rw [fit_big _ (by simpa using hx)]
    exact ⟨_, rfl, own_nil _ _ _, HB2.out.trans (below_drewN _ _ _)⟩
  · have dg : decide ((256 : Int) < (l2.length : Int)) = false := decide_eq_false (by omega)
    have dg' : decide (256 < l2.length) = false := decide_eq_false hbig
    have HG := Go.Lib.hid hbig
    clear hbig
    go_wp2
    go_ret2
    have hx := HG.out
    rw [HL2.out] at hx
    rw [fit_small _ (by simpa using hx)]
    have ho := HO2'.out
    refine ⟨_, rfl, ?_, HB2.out⟩
    rw [HL2.out] at ho ⊢
    simpa [errv, show b8 4 = 4 by decide] using ho

set_option maxRecDepth 100000 in
set_option maxHeartbeats 3200000 in
theorem encode_5_pol (key : List UInt8) (kind : Int) (gap slack limit span units : UInt64) (p : Nat → Addr) (w : World) (hp : E4 w p) (hkl : key.length ≤ 9223372036854775807) (hpol : ((⟨kind, gap, slack, limit, span⟩ : Pol) == polZ) = false) :
    Calls Tryd.prog 11 #[.agg (reqA ⟨5, key, ⟨kind, gap, slack, limit, span⟩, units⟩)] w fun e w' => GaveE p w w' e (encS ⟨5, key, ⟨kind, gap, slack, limit, span⟩, units⟩) := by
  have hbx : Below w.heap.size w (w.alloc (.cells #[.int .i64 5, .string ⟨key.toArray⟩, .int .i64 kind, .int .u64 (n64 gap), .int .u64 (n64 slack), .int .u64 (n64 limit), .int .u64 (n64 span), .int .u64 (n64 units)] 30)) := (Below.refl _ _).alloc (Nat.le_refl _) _
  have HBX := Go.Lib.hid hbx
  have e1 := e4_arg (e4_below hp hbx)
  have e4 := e4_lng (e4_below hp hbx)
  have HP := Go.Lib.hid (e4_long (e4_below hp hbx))
  have HG4 := Go.Lib.hid (World.block_lt_of_cell? w _ (e4_lng hp))
  simp only [reqA]
  clear hbx hp
  have hE : encS ⟨5, key, ⟨kind, gap, slack, limit, span⟩, units⟩ = ([], 1) := by unfold encS sayR; simp [hpol]
  rw [hE]
  clear hE
  have hq := eqlit kind gap slack limit span _ rfl
  rw [hpol] at hq
  clear hpol
  go_enter Tryd.func11, Tryd.ntmps11
  go_wp2
  go_quiet (fail)
  go_wp2
  go_ret2
  exact ⟨_, rfl, own_nil _ _ _, below_then HBX.out (below_drewN _ _ _)⟩

set_option maxRecDepth 100000 in
set_option maxHeartbeats 3200000 in
theorem encode_5_units (key : List UInt8) (kind : Int) (gap slack limit span units : UInt64) (p : Nat → Addr) (w : World) (hp : E4 w p) (hkl : key.length ≤ 9223372036854775807) (hpol : ((⟨kind, gap, slack, limit, span⟩ : Pol) == polZ) = true) (hu : ¬ units = 0) :
    Calls Tryd.prog 11 #[.agg (reqA ⟨5, key, ⟨kind, gap, slack, limit, span⟩, units⟩)] w fun e w' => GaveE p w w' e (encS ⟨5, key, ⟨kind, gap, slack, limit, span⟩, units⟩) := by
  have hbx : Below w.heap.size w (w.alloc (.cells #[.int .i64 5, .string ⟨key.toArray⟩, .int .i64 kind, .int .u64 (n64 gap), .int .u64 (n64 slack), .int .u64 (n64 limit), .int .u64 (n64 span), .int .u64 (n64 units)] 30)) := (Below.refl _ _).alloc (Nat.le_refl _) _
  have HBX := Go.Lib.hid hbx
  have e1 := e4_arg (e4_below hp hbx)
  have e4 := e4_lng (e4_below hp hbx)
  have HP := Go.Lib.hid (e4_long (e4_below hp hbx))
  have HG4 := Go.Lib.hid (World.block_lt_of_cell? w _ (e4_lng hp))
  simp only [reqA]
  clear hbx hp
  have hE : encS ⟨5, key, ⟨kind, gap, slack, limit, span⟩, units⟩ = ([], 1) := by unfold encS sayR; simp [hpol, hu]
  rw [hE]
  clear hE
  have hq := eqlit kind gap slack limit span _ rfl
  rw [hpol] at hq
  clear hpol
  go_enter Tryd.func11, Tryd.ntmps11
  go_wp2
  go_quiet (fail)
  go_wp2
  go_ret2
  exact ⟨_, rfl, own_nil _ _ _, below_then HBX.out (below_drewN _ _ _)⟩

set_option maxRecDepth 100000 in
set_option maxHeartbeats 3200000 in
theorem encode_5_key (key : List UInt8) (kind : Int) (gap slack limit span units : UInt64) (p : Nat → Addr) (w : World) (hp : E4 w p) (hkl : key.length ≤ 9223372036854775807) (hpol : ((⟨kind, gap, slack, limit, span⟩ : Pol) == polZ) = true) (hu : units = 0) (hk : ¬ key = []) :
    Calls Tryd.prog 11 #[.agg (reqA ⟨5, key, ⟨kind, gap, slack, limit, span⟩, units⟩)] w fun e w' => GaveE p w w' e (encS ⟨5, key, ⟨kind, gap, slack, limit, span⟩, units⟩) := by
  subst hu
  have hbx : Below w.heap.size w (w.alloc (.cells #[.int .i64 5, .string ⟨key.toArray⟩, .int .i64 kind, .int .u64 (n64 gap), .int .u64 (n64 slack), .int .u64 (n64 limit), .int .u64 (n64 span), .int .u64 (n64 0)] 30)) := (Below.refl _ _).alloc (Nat.le_refl _) _
  have HBX := Go.Lib.hid hbx
  have e1 := e4_arg (e4_below hp hbx)
  have e4 := e4_lng (e4_below hp hbx)
  have HP := Go.Lib.hid (e4_long (e4_below hp hbx))
  have HG4 := Go.Lib.hid (World.block_lt_of_cell? w _ (e4_lng hp))
  simp only [reqA]
  clear hbx hp
  have hE : encS ⟨5, key, ⟨kind, gap, slack, limit, span⟩, 0⟩ = ([], 1) := by unfold encS sayR; simp [hpol, hk]
  have hke : (!key.isEmpty) = true := by
    cases key with
    | nil => exact absurd rfl hk
    | cons => rfl
  rw [hE]
  clear hE
  have hq := eqlit kind gap slack limit span _ rfl
  rw [hpol] at hq
  clear hpol
  go_enter Tryd.func11, Tryd.ntmps11
  go_wp2
  go_quiet (fail)
  go_wp2
  go_ret2
  exact ⟨_, rfl, own_nil _ _ _, below_then HBX.out (below_drewN _ _ _)⟩

set_option maxRecDepth 100000 in
set_option maxHeartbeats 3200000 in
theorem encode_5_ok (key : List UInt8) (kind : Int) (gap slack limit span units : UInt64) (p : Nat → Addr) (w : World) (hp : E4 w p) (hkl : key.length ≤ 9223372036854775807) (hpol : ((⟨kind, gap, slack, limit, span⟩ : Pol) == polZ) = true) (hu : units = 0) (hk : key = []) :
    Calls Tryd.prog 11 #[.agg (reqA ⟨5, key, ⟨kind, gap, slack, limit, span⟩, units⟩)] w fun e w' => GaveE p w w' e (encS ⟨5, key, ⟨kind, gap, slack, limit, span⟩, units⟩) := by
  subst hu hk
  have hbx : Below w.heap.size w (w.alloc (.cells #[.int .i64 5, .string ⟨([] : List UInt8).toArray⟩, .int .i64 kind, .int .u64 (n64 gap), .int .u64 (n64 slack), .int .u64 (n64 limit), .int .u64 (n64 span), .int .u64 (n64 0)] 30)) := (Below.refl _ _).alloc (Nat.le_refl _) _
  have HBX := Go.Lib.hid hbx
  have e1 := e4_arg (e4_below hp hbx)
  have e4 := e4_lng (e4_below hp hbx)
  have HP := Go.Lib.hid (e4_long (e4_below hp hbx))
  have HG4 := Go.Lib.hid (World.block_lt_of_cell? w _ (e4_lng hp))
  simp only [reqA]
  clear hbx hp
  have hE : encS ⟨5, [], ⟨kind, gap, slack, limit, span⟩, 0⟩ = ([b8 5], 0) := by unfold encS sayR encBody fit; simp [hpol]
  rw [hE]
  clear hE
  have hq := eqlit kind gap slack limit span _ rfl
  rw [hpol] at hq
  clear hpol
  go_enter Tryd.func11, Tryd.ntmps11
  go_wp2
  go_ret2
  refine ⟨_, rfl, ⟨by simp [Bs], .inr ⟨w.heap.size + 1, 1, #[.int .u8 5], rfl, by omega, ?_, Nat.le_refl _, by unfold maxLen; omega, rfl, rfl⟩⟩, ?_⟩
  · exact heap_here (w.alloc _) _ (w.heap.size + 1) (by simp)
  · exact below_then HBX.out ((Below.refl _ _).alloc (Nat.le_refl _) _)

theorem encode_calls (r : Req) (p : Nat → Addr) (w : World) (hp : E4 w p) (hkl : r.key.length ≤ 9223372036854775807) :
    Calls Tryd.prog 11 #[.agg (reqA r)] w fun e w' => GaveE p w w' e (encS r) := by
  obtain ⟨op, key, ⟨kind, gap, slack, limit, span⟩, units⟩ := r
  by_cases hop : op < 1 ∨ 5 < op
  · exact encode_none op key kind gap slack limit span units p w hp hkl hop
  have h5 : op = 1 ∨ op = 2 ∨ op = 3 ∨ op = 4 ∨ op = 5 := by omega
  rcases h5 with rfl | rfl | rfl | rfl | rfl
  · by_cases hpol : sayS ⟨kind, gap, slack, limit, span⟩ = false
    · exact encode_1_pol key kind gap slack limit span units p w hp hkl hpol
    have hpol' : sayS ⟨kind, gap, slack, limit, span⟩ = true := by simpa using hpol
    clear hpol
    by_cases hu : units = 0
    · skip
      by_cases hl : 256 < key.length
      · exact encode_1_long key kind gap slack limit span units p w hp hkl hpol' hu hl
      by_cases hk : key = []
      · exact encode_1_nil key kind gap slack limit span units p w hp hkl hpol' hu hl hk
      · exact encode_1_ok key kind gap slack limit span units p w hp hkl hpol' hu hl hk
    · exact encode_1_units key kind gap slack limit span units p w hp hkl hpol' hu
  · by_cases hpol : ((⟨kind, gap, slack, limit, span⟩ : Pol) == polZ) = false
    · exact encode_2_pol key kind gap slack limit span units p w hp hkl hpol
    have hpol' : ((⟨kind, gap, slack, limit, span⟩ : Pol) == polZ) = true := by simpa using hpol
    clear hpol
    by_cases hu : units = 0
    · skip
      by_cases hl : 256 < key.length
      · exact encode_2_long key kind gap slack limit span units p w hp hkl hpol' hu hl
      by_cases hk : key = []
      · exact encode_2_nil key kind gap slack limit span units p w hp hkl hpol' hu hl hk
      · exact encode_2_ok key kind gap slack limit span units p w hp hkl hpol' hu hl hk
    · skip
      by_cases hl : 256 < key.length
      · exact encode_2_long_u key kind gap slack limit span units p w hp hkl hpol' hu hl
      by_cases hk : key = []
      · exact encode_2_nil_u key kind gap slack limit span units p w hp hkl hpol' hu hl hk
      · exact encode_2_ok_u key kind gap slack limit span units p w hp hkl hpol' hu hl hk
  · by_cases hpol : ((⟨kind, gap, slack, limit, span⟩ : Pol) == polZ) = false
    · exact encode_3_pol key kind gap slack limit span units p w hp hkl hpol
    have hpol' : ((⟨kind, gap, slack, limit, span⟩ : Pol) == polZ) = true := by simpa using hpol
    clear hpol
    by_cases hu : units = 0
    · skip
      by_cases hl : 256 < key.length
      · exact encode_3_long key kind gap slack limit span units p w hp hkl hpol' hu hl
      by_cases hk : key = []
      · exact encode_3_nil key kind gap slack limit span units p w hp hkl hpol' hu hl hk
      · exact encode_3_ok key kind gap slack limit span units p w hp hkl hpol' hu hl hk
    · exact encode_3_units key kind gap slack limit span units p w hp hkl hpol' hu
  · by_cases hpol : ((⟨kind, gap, slack, limit, span⟩ : Pol) == polZ) = false
    · exact encode_4_pol key kind gap slack limit span units p w hp hkl hpol
    have hpol' : ((⟨kind, gap, slack, limit, span⟩ : Pol) == polZ) = true := by simpa using hpol
    clear hpol
    by_cases hu : units = 0
    · skip
      by_cases hl : 256 < key.length
      · exact encode_4_long key kind gap slack limit span units p w hp hkl hpol' hu hl
      by_cases hk : key = []
      · exact encode_4_nil key kind gap slack limit span units p w hp hkl hpol' hu hl hk
      · exact encode_4_ok key kind gap slack limit span units p w hp hkl hpol' hu hl hk
    · exact encode_4_units key kind gap slack limit span units p w hp hkl hpol' hu
  · by_cases hpol : ((⟨kind, gap, slack, limit, span⟩ : Pol) == polZ) = false
    · exact encode_5_pol key kind gap slack limit span units p w hp hkl hpol
    have hpol' : ((⟨kind, gap, slack, limit, span⟩ : Pol) == polZ) = true := by simpa using hpol
    clear hpol
    by_cases hu : units = 0
    · skip
      by_cases hk : key = []
      · exact encode_5_ok key kind gap slack limit span units p w hp hkl hpol' hu hk
      · exact encode_5_key key kind gap slack limit span units p w hp hkl hpol' hu hk
    · exact encode_5_units key kind gap slack limit span units p w hp hkl hpol' hu
end Go.Proofs.YtonfeppenhebjaaDoor
