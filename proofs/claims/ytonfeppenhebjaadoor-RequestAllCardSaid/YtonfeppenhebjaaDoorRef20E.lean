/- Package turnstileref20: Encode. (Printed by gen_ref20e.py of this session.) -/
import Derived.Test.YtonfeppenhebjaaDoorRef20A
import Derived.Test.YtonfeppenhebjaaDoorReqE
namespace Go.Proofs.YtonfeppenhebjaaDoor
open Go Go.RowKit
set_option linter.unusedVariables false
set_option linter.unusedSimpArgs false
attribute [local go_sem] IntKind.wrap_u64 c64_8 c8_64 c16_64 c32_64 c64_16 c64_32 or8 and8 n64_self n8_self beq_n64 beq_n8 bne_n8 bne_n64 beq_n64_0 bne_n64_0 wrap_b8

/-- a block that the call has made, as an own row of bytes -/
theorem own_block {w : World} {base g : Nat} (l : List UInt8) (hg : base ≤ g) (hh : w.heap[g]? = some (.cells (Bs l).toArray 5 (0, 0))) (hl : l.length ≤ 9223372036854775807) : Own w base 5 (.slice (some ⟨g, 0, none⟩) l.length l.length) (Bs l) :=
  ⟨by simp [Bs], .inr ⟨g, l.length, _, by rw [Bs_length], hg, hh, by rw [Bs_length]; exact Nat.le_refl _, by unfold maxLen; omega, by simp [Bs], by rw [Nat.mul_one]; simp⟩⟩
theorem sayS_kind {p : Pol} (h : sayS p = true) : p.kind = 1 ∨ p.kind = 2 := by
  unfold sayS at h
  split at h
  · exact .inl ‹_›
  · split at h
    · exact .inr ‹_›
    · cases h
theorem sayR_op {r : Req} (h : sayR r = true) : 1 ≤ r.op ∧ r.op ≤ 5 := by
  unfold sayR at h
  simp only [Bool.and_eq_true, decide_eq_true_eq] at h
  exact ⟨h.1.1.1.1, h.1.1.1.2⟩

set_option maxRecDepth 100000 in
set_option maxHeartbeats 1600000 in
theorem rencode_no (op : Int) (key : List UInt8) (kind : Int) (gap slack limit span units : UInt64) (w : World) (hkl : key.length ≤ 9223372036854775807) (hs : sayR ⟨op, key, ⟨kind, gap, slack, limit, span⟩, units⟩ = false) :
    Calls Tryd.prog 17 #[.agg (reqA ⟨op, key, ⟨kind, gap, slack, limit, span⟩, units⟩)] w fun e w' => GaveF w w' e (([], 1)) := by
  have HS := Go.Lib.hid (rsayable_calls ⟨op, key, ⟨kind, gap, slack, limit, span⟩, units⟩ (w.alloc (.cells #[.int .i64 op, .string ⟨key.toArray⟩, .int .i64 kind, .int .u64 (n64 gap), .int .u64 (n64 slack), .int .u64 (n64 limit), .int .u64 (n64 span), .int .u64 (n64 units)] 30)))
  have hbx : Below w.heap.size w (w.alloc (.cells #[.int .i64 op, .string ⟨key.toArray⟩, .int .i64 kind, .int .u64 (n64 gap), .int .u64 (n64 slack), .int .u64 (n64 limit), .int .u64 (n64 span), .int .u64 (n64 units)] 30)) := (Below.refl _ _).alloc (Nat.le_refl _) _
  have HBX := Go.Lib.hid hbx
  have HN := Go.Lib.hid (heap_here w (.cells #[.int .i64 op, .string ⟨key.toArray⟩, .int .i64 kind, .int .u64 (n64 gap), .int .u64 (n64 slack), .int .u64 (n64 limit), .int .u64 (n64 span), .int .u64 (n64 units)] 30) w.heap.size rfl)
  rw [hs] at HS
  clear hbx hs
  simp only [reqA] at HS ⊢
  go_enter Tryd.func17, Tryd.ntmps17
  go_wp2_with fail
  refine HS.out.mono ?_
  rintro e w1 ⟨rfl, hb1⟩
  have HB1 := Go.Lib.hid (below_then HBX.out hb1)
  have HSB := Go.Lib.hid (below_heap hb1 HN.out)
  have hn1 : w.heap.size < w1.heap.size := heap_lt HSB.out
  obtain ⟨s0, s1, s2, s3, s4, s5, s6, s7⟩ := box8 HSB.out
  clear hb1 HS HBX HN
  go_wp2
  go_ret2
  exact ⟨_, rfl, own_nil _ _ _, HB1.out⟩

set_option maxRecDepth 100000 in
set_option maxHeartbeats 1600000 in
theorem rencode_long (op : Int) (key : List UInt8) (kind : Int) (gap slack limit span units : UInt64) (w : World) (hkl : key.length ≤ 9223372036854775807) (hs : sayR ⟨op, key, ⟨kind, gap, slack, limit, span⟩, units⟩ = true) (hl : 256 < key.length) :
    Calls Tryd.prog 17 #[.agg (reqA ⟨op, key, ⟨kind, gap, slack, limit, span⟩, units⟩)] w fun e w' => GaveF w w' e (([], 4)) := by
  have dl : decide ((256 : Int) < (key.length : Int)) = true := decide_eq_true (by omega)
  have dl' : decide (256 < key.length) = true := decide_eq_true hl
  have HS := Go.Lib.hid (rsayable_calls ⟨op, key, ⟨kind, gap, slack, limit, span⟩, units⟩ (w.alloc (.cells #[.int .i64 op, .string ⟨key.toArray⟩, .int .i64 kind, .int .u64 (n64 gap), .int .u64 (n64 slack), .int .u64 (n64 limit), .int .u64 (n64 span), .int .u64 (n64 units)] 30)))
  have hbx : Below w.heap.size w (w.alloc (.cells #[.int .i64 op, .string ⟨key.toArray⟩, .int .i64 kind, .int .u64 (n64 gap), .int .u64 (n64 slack), .int .u64 (n64 limit), .int .u64 (n64 span), .int .u64 (n64 units)] 30)) := (Below.refl _ _).alloc (Nat.le_refl _) _
  have HBX := Go.Lib.hid hbx
  have HN := Go.Lib.hid (heap_here w (.cells #[.int .i64 op, .string ⟨key.toArray⟩, .int .i64 kind, .int .u64 (n64 gap), .int .u64 (n64 slack), .int .u64 (n64 limit), .int .u64 (n64 span), .int .u64 (n64 units)] 30) w.heap.size rfl)
  rw [hs] at HS
  clear hbx hs
  simp only [reqA] at HS ⊢
  go_enter Tryd.func17, Tryd.ntmps17
  go_wp2_with fail
  refine HS.out.mono ?_
  rintro e w1 ⟨rfl, hb1⟩
  have HB1 := Go.Lib.hid (below_then HBX.out hb1)
  have HSB := Go.Lib.hid (below_heap hb1 HN.out)
  have hn1 : w.heap.size < w1.heap.size := heap_lt HSB.out
  obtain ⟨s0, s1, s2, s3, s4, s5, s6, s7⟩ := box8 HSB.out
  clear hb1 HS HBX HN
  go_wp2
  go_ret2
  exact ⟨_, rfl, own_nil _ _ _, HB1.out⟩

set_option maxRecDepth 100000 in
set_option maxHeartbeats 1600000 in
theorem rencode_1_big (key : List UInt8) (kind : Int) (gap slack limit span units : UInt64) (w : World) (hkl : key.length ≤ 9223372036854775807) (hs : sayR ⟨1, key, ⟨kind, gap, slack, limit, span⟩, units⟩ = true) (hl : key.length ≤ 256) (hbig : 256 < (encBody ⟨1, key, ⟨kind, gap, slack, limit, span⟩, units⟩).length) :
    Calls Tryd.prog 17 #[.agg (reqA ⟨1, key, ⟨kind, gap, slack, limit, span⟩, units⟩)] w fun e w' => GaveF w w' e (([], 4)) := by
  have dl : decide ((256 : Int) < (key.length : Int)) = false := decide_eq_false (by omega)
  have dl' : decide (256 < key.length) = false := decide_eq_false (by omega)
  have hls : key.length ≤ 256 := by omega
  have hk := sayS_kind (p := ⟨kind, gap, slack, limit, span⟩) (by unfold sayR at hs; simp at hs; exact hs.1)
  have HKK := Go.Lib.hid hk
  clear hk
  have HBIG := Go.Lib.hid hbig
  clear hbig hl
  have HS := Go.Lib.hid (rsayable_calls ⟨1, key, ⟨kind, gap, slack, limit, span⟩, units⟩ (w.alloc (.cells #[.int .i64 1, .string ⟨key.toArray⟩, .int .i64 kind, .int .u64 (n64 gap), .int .u64 (n64 slack), .int .u64 (n64 limit), .int .u64 (n64 span), .int .u64 (n64 units)] 30)))
  have hbx : Below w.heap.size w (w.alloc (.cells #[.int .i64 1, .string ⟨key.toArray⟩, .int .i64 kind, .int .u64 (n64 gap), .int .u64 (n64 slack), .int .u64 (n64 limit), .int .u64 (n64 span), .int .u64 (n64 units)] 30)) := (Below.refl _ _).alloc (Nat.le_refl _) _
  have HBX := Go.Lib.hid hbx
  have HN := Go.Lib.hid (heap_here w (.cells #[.int .i64 1, .string ⟨key.toArray⟩, .int .i64 kind, .int .u64 (n64 gap), .int .u64 (n64 slack), .int .u64 (n64 limit), .int .u64 (n64 span), .int .u64 (n64 units)] 30) w.heap.size rfl)
  rw [hs] at HS
  clear hbx hs
  simp only [reqA] at HS ⊢
  go_enter Tryd.func17, Tryd.ntmps17
  go_wp2_with fail
  refine HS.out.mono ?_
  rintro e w1 ⟨rfl, hb1⟩
  have HB1 := Go.Lib.hid (below_then HBX.out hb1)
  have HSB := Go.Lib.hid (below_heap hb1 HN.out)
  have hn1 : w.heap.size < w1.heap.size := heap_lt HSB.out
  obtain ⟨s0, s1, s2, s3, s4, s5, s6, s7⟩ := box8 HSB.out
  clear hb1 HS HBX HN
  have hbb : Below w1.heap.size w1 (w1.alloc (.cells #[.int .u8 1] 5)) := (Below.refl _ _).alloc (Nat.le_refl _) _
  have HO0 := Go.Lib.hid (show Own (w1.alloc (.cells #[.int .u8 1] 5)) w1.heap.size 5 (.slice (some ⟨w1.heap.size, 0, none⟩) 1 1) (Bs [1]) from own_block [1] (Nat.le_refl _) (heap_here w1 _ _ rfl) (by simp))
  have HB0 := Go.Lib.hid (below_then HB1.out hbb)
  have HX0 := Go.Lib.hid (below_heap hbb HSB.out)
  have hz0 : w1.heap.size ≤ (w1.alloc (.cells #[.int .u8 1] 5)).heap.size := hbb.size
  clear hbb
  go_wp2_with fail
  clear s0 s1 s2 s3 s4 s5 s6 s7
  refine (putText11_calls w1.heap.size (.slice (some ⟨w1.heap.size, 0, none⟩) 1 1) [1] key (w1.alloc (.cells #[.int .u8 1] 5)) hz0 (by simp) (by omega) HO0.out).mono ?_
  rintro e w2 ⟨v2, rfl, h1, h2, h3⟩
  have HO1 := Go.Lib.hid h1
  have HB1 := Go.Lib.hid (HB0.out.trans (h2.mono (by omega : w.heap.size ≤ w1.heap.size)))
  have HX1 := Go.Lib.hid (h3 _ _ _ _ HX0.out (by decide))
  have hz1 : w1.heap.size ≤ w2.heap.size := Nat.le_trans hz0 h2.size
  obtain ⟨s0, s1, s2, s3, s4, s5, s6, s7⟩ := box8 HX1.out
  clear h1 h2 h3 HO0 HB0 HX0 hz0
  go_wp2_with fail
  clear s0 s1 s2 s3 s4 s5 s6 s7
  refine (putPolicy11_calls w1.heap.size v2 ([1] ++ leS (UInt64.ofNat key.length) 2 ++ key) ⟨kind, gap, slack, limit, span⟩ w2 HKK.out hz1 (by simp [leS_length]; omega) HO1.out).mono ?_
  rintro e w3 ⟨v3, rfl, h1, h2, h3⟩
  have HO2 := Go.Lib.hid h1
  have HB2 := Go.Lib.hid (HB1.out.trans (h2.mono (by omega : w.heap.size ≤ w1.heap.size)))
  have HX2 := Go.Lib.hid (h3 _ _ _ _ HX1.out (by decide))
  have hz2 : w1.heap.size ≤ w3.heap.size := Nat.le_trans hz1 h2.size
  obtain ⟨s0, s1, s2, s3, s4, s5, s6, s7⟩ := box8 HX2.out
  clear h1 h2 h3 HO1 HB1 HX1 hz1
  have hbody : [1] ++ leS (UInt64.ofNat key.length) 2 ++ key ++ polB ⟨kind, gap, slack, limit, span⟩ = encBody ⟨1, key, ⟨kind, gap, slack, limit, span⟩, units⟩ := by
    unfold encBody
    simp [b8]
  have ho := HO2.out
  rw [hbody] at ho
  obtain ⟨A3, c3, rfl, _, _, _⟩ := own_slice ho
  obtain ⟨n3, hn3⟩ : ∃ n, n = (Bs (encBody ⟨1, key, ⟨kind, gap, slack, limit, span⟩, units⟩)).length := ⟨_, rfl⟩
  rw [← hn3] at ho ⊢
  have HO := Go.Lib.hid ho
  have d1 : decide ((256 : Int) < (n3 : Int)) = true := decide_eq_true (by have := HBIG.out; rw [Bs_length] at hn3; omega)
  have d2 : decide (256 < n3) = true := decide_eq_true (by have := HBIG.out; rw [Bs_length] at hn3; omega)
  clear ho hn3 hbody HO2
  go_wp2
  go_ret2
  exact ⟨_, rfl, own_nil _ _ _, HB2.out⟩

set_option maxRecDepth 100000 in
set_option maxHeartbeats 1600000 in
theorem rencode_1_ok (key : List UInt8) (kind : Int) (gap slack limit span units : UInt64) (w : World) (hkl : key.length ≤ 9223372036854775807) (hs : sayR ⟨1, key, ⟨kind, gap, slack, limit, span⟩, units⟩ = true) (hl : key.length ≤ 256) (hbig : ¬ 256 < (encBody ⟨1, key, ⟨kind, gap, slack, limit, span⟩, units⟩).length) :
    Calls Tryd.prog 17 #[.agg (reqA ⟨1, key, ⟨kind, gap, slack, limit, span⟩, units⟩)] w fun e w' => GaveF w w' e ((encBody ⟨1, key, ⟨kind, gap, slack, limit, span⟩, units⟩, 0)) := by
  have dl : decide ((256 : Int) < (key.length : Int)) = false := decide_eq_false (by omega)
  have dl' : decide (256 < key.length) = false := decide_eq_false (by omega)
  have hls : key.length ≤ 256 := by omega
  have hk := sayS_kind (p := ⟨kind, gap, slack, limit, span⟩) (by unfold sayR at hs; simp at hs; exact hs.1)
  have HKK := Go.Lib.hid hk
  clear hk
  have HBIG := Go.Lib.hid hbig
  clear hbig hl
  have HS := Go.Lib.hid (rsayable_calls ⟨1, key, ⟨kind, gap, slack, limit, span⟩, units⟩ (w.alloc (.cells #[.int .i64 1, .string ⟨key.toArray⟩, .int .i64 kind, .int .u64 (n64 gap), .int .u64 (n64 slack), .int .u64 (n64 limit), .int .u64 (n64 span), .int .u64 (n64 units)] 30)))
  have hbx : Below w.heap.size w (w.alloc (.cells #[.int .i64 1, .string ⟨key.toArray⟩, .int .i64 kind, .int .u64 (n64 gap), .int .u64 (n64 slack), .int .u64 (n64 limit), .int .u64 (n64 span), .int .u64 (n64 units)] 30)) := (Below.refl _ _).alloc (Nat.le_refl _) _
  have HBX := Go.Lib.hid hbx
  have HN := Go.Lib.hid (heap_here w (.cells #[.int .i64 1, .string ⟨key.toArray⟩, .int .i64 kind, .int .u64 (n64 gap), .int .u64 (n64 slack), .int .u64 (n64 limit), .int .u64 (n64 span), .int .u64 (n64 units)] 30) w.heap.size rfl)
  rw [hs] at HS
  clear hbx hs
  simp only [reqA] at HS ⊢
  go_enter Tryd.func17, Tryd.ntmps17
  go_wp2_with fail
  refine HS.out.mono ?_
  rintro e w1 ⟨rfl, hb1⟩
  have HB1 := Go.Lib.hid (below_then HBX.out hb1)
  have HSB := Go.Lib.hid (below_heap hb1 HN.out)
  have hn1 : w.heap.size < w1.heap.size := heap_lt HSB.out
  obtain ⟨s0, s1, s2, s3, s4, s5, s6, s7⟩ := box8 HSB.out
  clear hb1 HS HBX HN
  have hbb : Below w1.heap.size w1 (w1.alloc (.cells #[.int .u8 1] 5)) := (Below.refl _ _).alloc (Nat.le_refl _) _
  have HO0 := Go.Lib.hid (show Own (w1.alloc (.cells #[.int .u8 1] 5)) w1.heap.size 5 (.slice (some ⟨w1.heap.size, 0, none⟩) 1 1) (Bs [1]) from own_block [1] (Nat.le_refl _) (heap_here w1 _ _ rfl) (by simp))
  have HB0 := Go.Lib.hid (below_then HB1.out hbb)
  have HX0 := Go.Lib.hid (below_heap hbb HSB.out)
  have hz0 : w1.heap.size ≤ (w1.alloc (.cells #[.int .u8 1] 5)).heap.size := hbb.size
  clear hbb
  go_wp2_with fail
  clear s0 s1 s2 s3 s4 s5 s6 s7
  refine (putText11_calls w1.heap.size (.slice (some ⟨w1.heap.size, 0, none⟩) 1 1) [1] key (w1.alloc (.cells #[.int .u8 1] 5)) hz0 (by simp) (by omega) HO0.out).mono ?_
  rintro e w2 ⟨v2, rfl, h1, h2, h3⟩
  have HO1 := Go.Lib.hid h1
  have HB1 := Go.Lib.hid (HB0.out.trans (h2.mono (by omega : w.heap.size ≤ w1.heap.size)))
  have HX1 := Go.Lib.hid (h3 _ _ _ _ HX0.out (by decide))
  have hz1 : w1.heap.size ≤ w2.heap.size := Nat.le_trans hz0 h2.size
  obtain ⟨s0, s1, s2, s3, s4, s5, s6, s7⟩ := box8 HX1.out
  clear h1 h2 h3 HO0 HB0 HX0 hz0
  go_wp2_with fail
  clear s0 s1 s2 s3 s4 s5 s6 s7
  refine (putPolicy11_calls w1.heap.size v2 ([1] ++ leS (UInt64.ofNat key.length) 2 ++ key) ⟨kind, gap, slack, limit, span⟩ w2 HKK.out hz1 (by simp [leS_length]; omega) HO1.out).mono ?_
  rintro e w3 ⟨v3, rfl, h1, h2, h3⟩
  have HO2 := Go.Lib.hid h1
  have HB2 := Go.Lib.hid (HB1.out.trans (h2.mono (by omega : w.heap.size ≤ w1.heap.size)))
  have HX2 := Go.Lib.hid (h3 _ _ _ _ HX1.out (by decide))
  have hz2 : w1.heap.size ≤ w3.heap.size := Nat.le_trans hz1 h2.size
  obtain ⟨s0, s1, s2, s3, s4, s5, s6, s7⟩ := box8 HX2.out
  clear h1 h2 h3 HO1 HB1 HX1 hz1
  have hbody : [1] ++ leS (UInt64.ofNat key.length) 2 ++ key ++ polB ⟨kind, gap, slack, limit, span⟩ = encBody ⟨1, key, ⟨kind, gap, slack, limit, span⟩, units⟩ := by
    unfold encBody
    simp [b8]
  have ho := HO2.out
  rw [hbody] at ho
  obtain ⟨A3, c3, rfl, _, _, _⟩ := own_slice ho
  obtain ⟨n3, hn3⟩ : ∃ n, n = (Bs (encBody ⟨1, key, ⟨kind, gap, slack, limit, span⟩, units⟩)).length := ⟨_, rfl⟩
  rw [← hn3] at ho ⊢
  have HO := Go.Lib.hid ho
  have d1 : decide ((256 : Int) < (n3 : Int)) = false := decide_eq_false (by have := HBIG.out; rw [Bs_length] at hn3; omega)
  have d2 : decide (256 < n3) = false := decide_eq_false (by have := HBIG.out; rw [Bs_length] at hn3; omega)
  clear ho hn3 hbody HO2
  go_wp2
  go_ret2
  exact ⟨_, rfl, own_mono HO.out (by omega), HB2.out⟩

set_option maxRecDepth 100000 in
set_option maxHeartbeats 1600000 in
theorem rencode_2_big (key : List UInt8) (kind : Int) (gap slack limit span units : UInt64) (w : World) (hkl : key.length ≤ 9223372036854775807) (hs : sayR ⟨2, key, ⟨kind, gap, slack, limit, span⟩, units⟩ = true) (hl : key.length ≤ 256) (hbig : 256 < (encBody ⟨2, key, ⟨kind, gap, slack, limit, span⟩, units⟩).length) :
    Calls Tryd.prog 17 #[.agg (reqA ⟨2, key, ⟨kind, gap, slack, limit, span⟩, units⟩)] w fun e w' => GaveF w w' e (([], 4)) := by
  have dl : decide ((256 : Int) < (key.length : Int)) = false := decide_eq_false (by omega)
  have dl' : decide (256 < key.length) = false := decide_eq_false (by omega)
  have hls : key.length ≤ 256 := by omega
  have HBIG := Go.Lib.hid hbig
  clear hbig hl
  have HS := Go.Lib.hid (rsayable_calls ⟨2, key, ⟨kind, gap, slack, limit, span⟩, units⟩ (w.alloc (.cells #[.int .i64 2, .string ⟨key.toArray⟩, .int .i64 kind, .int .u64 (n64 gap), .int .u64 (n64 slack), .int .u64 (n64 limit), .int .u64 (n64 span), .int .u64 (n64 units)] 30)))
  have hbx : Below w.heap.size w (w.alloc (.cells #[.int .i64 2, .string ⟨key.toArray⟩, .int .i64 kind, .int .u64 (n64 gap), .int .u64 (n64 slack), .int .u64 (n64 limit), .int .u64 (n64 span), .int .u64 (n64 units)] 30)) := (Below.refl _ _).alloc (Nat.le_refl _) _
  have HBX := Go.Lib.hid hbx
  have HN := Go.Lib.hid (heap_here w (.cells #[.int .i64 2, .string ⟨key.toArray⟩, .int .i64 kind, .int .u64 (n64 gap), .int .u64 (n64 slack), .int .u64 (n64 limit), .int .u64 (n64 span), .int .u64 (n64 units)] 30) w.heap.size rfl)
  rw [hs] at HS
  clear hbx hs
  simp only [reqA] at HS ⊢
  go_enter Tryd.func17, Tryd.ntmps17
  go_wp2_with fail
  refine HS.out.mono ?_
  rintro e w1 ⟨rfl, hb1⟩
  have HB1 := Go.Lib.hid (below_then HBX.out hb1)
  have HSB := Go.Lib.hid (below_heap hb1 HN.out)
  have hn1 : w.heap.size < w1.heap.size := heap_lt HSB.out
  obtain ⟨s0, s1, s2, s3, s4, s5, s6, s7⟩ := box8 HSB.out
  clear hb1 HS HBX HN
  have hbb : Below w1.heap.size w1 (w1.alloc (.cells #[.int .u8 2] 5)) := (Below.refl _ _).alloc (Nat.le_refl _) _
  have HO0 := Go.Lib.hid (show Own (w1.alloc (.cells #[.int .u8 2] 5)) w1.heap.size 5 (.slice (some ⟨w1.heap.size, 0, none⟩) 1 1) (Bs [2]) from own_block [2] (Nat.le_refl _) (heap_here w1 _ _ rfl) (by simp))
  have HB0 := Go.Lib.hid (below_then HB1.out hbb)
  have HX0 := Go.Lib.hid (below_heap hbb HSB.out)
  have hz0 : w1.heap.size ≤ (w1.alloc (.cells #[.int .u8 2] 5)).heap.size := hbb.size
  clear hbb
  go_wp2_with fail
  clear s0 s1 s2 s3 s4 s5 s6 s7
  refine (putText11_calls w1.heap.size (.slice (some ⟨w1.heap.size, 0, none⟩) 1 1) [2] key (w1.alloc (.cells #[.int .u8 2] 5)) hz0 (by simp) (by omega) HO0.out).mono ?_
  rintro e w2 ⟨v2, rfl, h1, h2, h3⟩
  have HO1 := Go.Lib.hid h1
  have HB1 := Go.Lib.hid (HB0.out.trans (h2.mono (by omega : w.heap.size ≤ w1.heap.size)))
  have HX1 := Go.Lib.hid (h3 _ _ _ _ HX0.out (by decide))
  have hz1 : w1.heap.size ≤ w2.heap.size := Nat.le_trans hz0 h2.size
  obtain ⟨s0, s1, s2, s3, s4, s5, s6, s7⟩ := box8 HX1.out
  clear h1 h2 h3 HO0 HB0 HX0 hz0
  go_wp2_with fail
  clear s0 s1 s2 s3 s4 s5 s6 s7
  refine (put11_calls w1.heap.size v2 ([2] ++ leS (UInt64.ofNat key.length) 2 ++ key) units 8 8 (by decide) w2 hz1 (by simp [leS_length]; omega) (by decide) HO1.out).mono ?_
  rintro e w3 ⟨v3, rfl, h1, h2, h3⟩
  have HO2 := Go.Lib.hid h1
  have HB2 := Go.Lib.hid (HB1.out.trans (h2.mono (by omega : w.heap.size ≤ w1.heap.size)))
  have HX2 := Go.Lib.hid (h3 _ _ _ _ HX1.out (by decide))
  have hz2 : w1.heap.size ≤ w3.heap.size := Nat.le_trans hz1 h2.size
  obtain ⟨s0, s1, s2, s3, s4, s5, s6, s7⟩ := box8 HX2.out
  clear h1 h2 h3 HO1 HB1 HX1 hz1
  have hbody : [2] ++ leS (UInt64.ofNat key.length) 2 ++ key ++ leS units 8 = encBody ⟨2, key, ⟨kind, gap, slack, limit, span⟩, units⟩ := by
    unfold encBody
    simp [b8]
  have ho := HO2.out
  rw [hbody] at ho
  obtain ⟨A3, c3, rfl, _, _, _⟩ := own_slice ho
  obtain ⟨n3, hn3⟩ : ∃ n, n = (Bs (encBody ⟨2, key, ⟨kind, gap, slack, limit, span⟩, units⟩)).length := ⟨_, rfl⟩
  rw [← hn3] at ho ⊢
  have HO := Go.Lib.hid ho
  have d1 : decide ((256 : Int) < (n3 : Int)) = true := decide_eq_true (by have := HBIG.out; rw [Bs_length] at hn3; omega)
  have d2 : decide (256 < n3) = true := decide_eq_true (by have := HBIG.out; rw [Bs_length] at hn3; omega)
  clear ho hn3 hbody HO2
  go_wp2
  go_ret2
  exact ⟨_, rfl, own_nil _ _ _, HB2.out⟩

set_option maxRecDepth 100000 in
set_option maxHeartbeats 1600000 in
theorem rencode_2_ok (key : List UInt8) (kind : Int) (gap slack limit span units : UInt64) (w : World) (hkl : key.length ≤ 9223372036854775807) (hs : sayR ⟨2, key, ⟨kind, gap, slack, limit, span⟩, units⟩ = true) (hl : key.length ≤ 256) (hbig : ¬ 256 < (encBody ⟨2, key, ⟨kind, gap, slack, limit, span⟩, units⟩).length) :
    Calls Tryd.prog 17 #[.agg (reqA ⟨2, key, ⟨kind, gap, slack, limit, span⟩, units⟩)] w fun e w' => GaveF w w' e ((encBody ⟨2, key, ⟨kind, gap, slack, limit, span⟩, units⟩, 0)) := by
  have dl : decide ((256 : Int) < (key.length : Int)) = false := decide_eq_false (by omega)
  have dl' : decide (256 < key.length) = false := decide_eq_false (by omega)
  have hls : key.length ≤ 256 := by omega
  have HBIG := Go.Lib.hid hbig
  clear hbig hl
  have HS := Go.Lib.hid (rsayable_calls ⟨2, key, ⟨kind, gap, slack, limit, span⟩, units⟩ (w.alloc (.cells #[.int .i64 2, .string ⟨key.toArray⟩, .int .i64 kind, .int .u64 (n64 gap), .int .u64 (n64 slack), .int .u64 (n64 limit), .int .u64 (n64 span), .int .u64 (n64 units)] 30)))
  have hbx : Below w.heap.size w (w.alloc (.cells #[.int .i64 2, .string ⟨key.toArray⟩, .int .i64 kind, .int .u64 (n64 gap), .int .u64 (n64 slack), .int .u64 (n64 limit), .int .u64 (n64 span), .int .u64 (n64 units)] 30)) := (Below.refl _ _).alloc (Nat.le_refl _) _
  have HBX := Go.Lib.hid hbx
  have HN := Go.Lib.hid (heap_here w (.cells #[.int .i64 2, .string ⟨key.toArray⟩, .int .i64 kind, .int .u64 (n64 gap), .int .u64 (n64 slack), .int .u64 (n64 limit), .int .u64 (n64 span), .int .u64 (n64 units)] 30) w.heap.size rfl)
  rw [hs] at HS
  clear hbx hs
  simp only [reqA] at HS ⊢
  go_enter Tryd.func17, Tryd.ntmps17
  go_wp2_with fail
  refine HS.out.mono ?_
  rintro e w1 ⟨rfl, hb1⟩
  have HB1 := Go.Lib.hid (below_then HBX.out hb1)
  have HSB := Go.Lib.hid (below_heap hb1 HN.out)
  have hn1 : w.heap.size < w1.heap.size := heap_lt HSB.out
  obtain ⟨s0, s1, s2, s3, s4, s5, s6, s7⟩ := box8 HSB.out
  clear hb1 HS HBX HN
  have hbb : Below w1.heap.size w1 (w1.alloc (.cells #[.int .u8 2] 5)) := (Below.refl _ _).alloc (Nat.le_refl _) _
  have HO0 := Go.Lib.hid (show Own (w1.alloc (.cells #[.int .u8 2] 5)) w1.heap.size 5 (.slice (some ⟨w1.heap.size, 0, none⟩) 1 1) (Bs [2]) from own_block [2] (Nat.le_refl _) (heap_here w1 _ _ rfl) (by simp))
  have HB0 := Go.Lib.hid (below_then HB1.out hbb)
  have HX0 := Go.Lib.hid (below_heap hbb HSB.out)
  have hz0 : w1.heap.size ≤ (w1.alloc (.cells #[.int .u8 2] 5)).heap.size := hbb.size
  clear hbb
  go_wp2_with fail
  clear s0 s1 s2 s3 s4 s5 s6 s7
  refine (putText11_calls w1.heap.size (.slice (some ⟨w1.heap.size, 0, none⟩) 1 1) [2] key (w1.alloc (.cells #[.int .u8 2] 5)) hz0 (by simp) (by omega) HO0.out).mono ?_
  rintro e w2 ⟨v2, rfl, h1, h2, h3⟩
  have HO1 := Go.Lib.hid h1
  have HB1 := Go.Lib.hid (HB0.out.trans (h2.mono (by omega : w.heap.size ≤ w1.heap.size)))
  have HX1 := Go.Lib.hid (h3 _ _ _ _ HX0.out (by decide))
  have hz1 : w1.heap.size ≤ w2.heap.size := Nat.le_trans hz0 h2.size
  obtain ⟨s0, s1, s2, s3, s4, s5, s6, s7⟩ := box8 HX1.out
  clear h1 h2 h3 HO0 HB0 HX0 hz0
  go_wp2_with fail
  clear s0 s1 s2 s3 s4 s5 s6 s7
  refine (put11_calls w1.heap.size v2 ([2] ++ leS (UInt64.ofNat key.length) 2 ++ key) units 8 8 (by decide) w2 hz1 (by simp [leS_length]; omega) (by decide) HO1.out).mono ?_
  rintro e w3 ⟨v3, rfl, h1, h2, h3⟩
  have HO2 := Go.Lib.hid h1
  have HB2 := Go.Lib.hid (HB1.out.trans (h2.mono (by omega : w.heap.size ≤ w1.heap.size)))
  have HX2 := Go.Lib.hid (h3 _ _ _ _ HX1.out (by decide))
  have hz2 : w1.heap.size ≤ w3.heap.size := Nat.le_trans hz1 h2.size
  obtain ⟨s0, s1, s2, s3, s4, s5, s6, s7⟩ := box8 HX2.out
  clear h1 h2 h3 HO1 HB1 HX1 hz1
  have hbody : [2] ++ leS (UInt64.ofNat key.length) 2 ++ key ++ leS units 8 = encBody ⟨2, key, ⟨kind, gap, slack, limit, span⟩, units⟩ := by
    unfold encBody
    simp [b8]
  have ho := HO2.out
  rw [hbody] at ho
  obtain ⟨A3, c3, rfl, _, _, _⟩ := own_slice ho
  obtain ⟨n3, hn3⟩ : ∃ n, n = (Bs (encBody ⟨2, key, ⟨kind, gap, slack, limit, span⟩, units⟩)).length := ⟨_, rfl⟩
  rw [← hn3] at ho ⊢
  have HO := Go.Lib.hid ho
  have d1 : decide ((256 : Int) < (n3 : Int)) = false := decide_eq_false (by have := HBIG.out; rw [Bs_length] at hn3; omega)
  have d2 : decide (256 < n3) = false := decide_eq_false (by have := HBIG.out; rw [Bs_length] at hn3; omega)
  clear ho hn3 hbody HO2
  go_wp2
  go_ret2
  exact ⟨_, rfl, own_mono HO.out (by omega), HB2.out⟩

set_option maxRecDepth 100000 in
set_option maxHeartbeats 1600000 in
theorem rencode_3_big (key : List UInt8) (kind : Int) (gap slack limit span units : UInt64) (w : World) (hkl : key.length ≤ 9223372036854775807) (hs : sayR ⟨3, key, ⟨kind, gap, slack, limit, span⟩, units⟩ = true) (hl : key.length ≤ 256) (hbig : 256 < (encBody ⟨3, key, ⟨kind, gap, slack, limit, span⟩, units⟩).length) :
    Calls Tryd.prog 17 #[.agg (reqA ⟨3, key, ⟨kind, gap, slack, limit, span⟩, units⟩)] w fun e w' => GaveF w w' e (([], 4)) := by
  have dl : decide ((256 : Int) < (key.length : Int)) = false := decide_eq_false (by omega)
  have dl' : decide (256 < key.length) = false := decide_eq_false (by omega)
  have hls : key.length ≤ 256 := by omega
  have HBIG := Go.Lib.hid hbig
  clear hbig hl
  have HS := Go.Lib.hid (rsayable_calls ⟨3, key, ⟨kind, gap, slack, limit, span⟩, units⟩ (w.alloc (.cells #[.int .i64 3, .string ⟨key.toArray⟩, .int .i64 kind, .int .u64 (n64 gap), .int .u64 (n64 slack), .int .u64 (n64 limit), .int .u64 (n64 span), .int .u64 (n64 units)] 30)))
  have hbx : Below w.heap.size w (w.alloc (.cells #[.int .i64 3, .string ⟨key.toArray⟩, .int .i64 kind, .int .u64 (n64 gap), .int .u64 (n64 slack), .int .u64 (n64 limit), .int .u64 (n64 span), .int .u64 (n64 units)] 30)) := (Below.refl _ _).alloc (Nat.le_refl _) _
  have HBX := Go.Lib.hid hbx
  have HN := Go.Lib.hid (heap_here w (.cells #[.int .i64 3, .string ⟨key.toArray⟩, .int .i64 kind, .int .u64 (n64 gap), .int .u64 (n64 slack), .int .u64 (n64 limit), .int .u64 (n64 span), .int .u64 (n64 units)] 30) w.heap.size rfl)
  rw [hs] at HS
  clear hbx hs
  simp only [reqA] at HS ⊢
  go_enter Tryd.func17, Tryd.ntmps17
  go_wp2_with fail
  refine HS.out.mono ?_
  rintro e w1 ⟨rfl, hb1⟩
  have HB1 := Go.Lib.hid (below_then HBX.out hb1)
  have HSB := Go.Lib.hid (below_heap hb1 HN.out)
  have hn1 : w.heap.size < w1.heap.size := heap_lt HSB.out
  obtain ⟨s0, s1, s2, s3, s4, s5, s6, s7⟩ := box8 HSB.out
  clear hb1 HS HBX HN
  have hbb : Below w1.heap.size w1 (w1.alloc (.cells #[.int .u8 3] 5)) := (Below.refl _ _).alloc (Nat.le_refl _) _
  have HO0 := Go.Lib.hid (show Own (w1.alloc (.cells #[.int .u8 3] 5)) w1.heap.size 5 (.slice (some ⟨w1.heap.size, 0, none⟩) 1 1) (Bs [3]) from own_block [3] (Nat.le_refl _) (heap_here w1 _ _ rfl) (by simp))
  have HB0 := Go.Lib.hid (below_then HB1.out hbb)
  have HX0 := Go.Lib.hid (below_heap hbb HSB.out)
  have hz0 : w1.heap.size ≤ (w1.alloc (.cells #[.int .u8 3] 5)).heap.size := hbb.size
  clear hbb
  go_wp2_with fail
  clear s0 s1 s2 s3 s4 s5 s6 s7
  refine (putText11_calls w1.heap.size (.slice (some ⟨w1.heap.size, 0, none⟩) 1 1) [3] key (w1.alloc (.cells #[.int .u8 3] 5)) hz0 (by simp) (by omega) HO0.out).mono ?_
  rintro e w2 ⟨v2, rfl, h1, h2, h3⟩
  have HO1 := Go.Lib.hid h1
  have HB1 := Go.Lib.hid (HB0.out.trans (h2.mono (by omega : w.heap.size ≤ w1.heap.size)))
  have HX1 := Go.Lib.hid (h3 _ _ _ _ HX0.out (by decide))
  have hz1 : w1.heap.size ≤ w2.heap.size := Nat.le_trans hz0 h2.size
  obtain ⟨s0, s1, s2, s3, s4, s5, s6, s7⟩ := box8 HX1.out
  clear h1 h2 h3 HO0 HB0 HX0 hz0
  have hbody : [3] ++ leS (UInt64.ofNat key.length) 2 ++ key = encBody ⟨3, key, ⟨kind, gap, slack, limit, span⟩, units⟩ := by
    unfold encBody
    simp [b8]
  have ho := HO1.out
  rw [hbody] at ho
  obtain ⟨A3, c3, rfl, _, _, _⟩ := own_slice ho
  obtain ⟨n3, hn3⟩ : ∃ n, n = (Bs (encBody ⟨3, key, ⟨kind, gap, slack, limit, span⟩, units⟩)).length := ⟨_, rfl⟩
  rw [← hn3] at ho ⊢
  have HO := Go.Lib.hid ho
  have d1 : decide ((256 : Int) < (n3 : Int)) = true := decide_eq_true (by have := HBIG.out; rw [Bs_length] at hn3; omega)
  have d2 : decide (256 < n3) = true := decide_eq_true (by have := HBIG.out; rw [Bs_length] at hn3; omega)
  clear ho hn3 hbody HO1
  go_wp2
  go_ret2
  exact ⟨_, rfl, own_nil _ _ _, HB1.out⟩

set_option maxRecDepth 100000 in
set_option maxHeartbeats 1600000 in
theorem rencode_3_ok (key : List UInt8) (kind : Int) (gap slack limit span units : UInt64) (w : World) (hkl : key.length ≤ 9223372036854775807) (hs : sayR ⟨3, key, ⟨kind, gap, slack, limit, span⟩, units⟩ = true) (hl : key.length ≤ 256) (hbig : ¬ 256 < (encBody ⟨3, key, ⟨kind, gap, slack, limit, span⟩, units⟩).length) :
    Calls Tryd.prog 17 #[.agg (reqA ⟨3, key, ⟨kind, gap, slack, limit, span⟩, units⟩)] w fun e w' => GaveF w w' e ((encBody ⟨3, key, ⟨kind, gap, slack, limit, span⟩, units⟩, 0)) := by
  have dl : decide ((256 : Int) < (key.length : Int)) = false := decide_eq_false (by omega)
  have dl' : decide (256 < key.length) = false := decide_eq_false (by omega)
  have hls : key.length ≤ 256 := by omega
  have HBIG := Go.Lib.hid hbig
  clear hbig hl
  have HS := Go.Lib.hid (rsayable_calls ⟨3, key, ⟨kind, gap, slack, limit, span⟩, units⟩ (w.alloc (.cells #[.int .i64 3, .string ⟨key.toArray⟩, .int .i64 kind, .int .u64 (n64 gap), .int .u64 (n64 slack), .int .u64 (n64 limit), .int .u64 (n64 span), .int .u64 (n64 units)] 30)))
  have hbx : Below w.heap.size w (w.alloc (.cells #[.int .i64 3, .string ⟨key.toArray⟩, .int .i64 kind, .int .u64 (n64 gap), .int .u64 (n64 slack), .int .u64 (n64 limit), .int .u64 (n64 span), .int .u64 (n64 units)] 30)) := (Below.refl _ _).alloc (Nat.le_refl _) _
  have HBX := Go.Lib.hid hbx
  have HN := Go.Lib.hid (heap_here w (.cells #[.int .i64 3, .string ⟨key.toArray⟩, .int .i64 kind, .int .u64 (n64 gap), .int .u64 (n64 slack), .int .u64 (n64 limit), .int .u64 (n64 span), .int .u64 (n64 units)] 30) w.heap.size rfl)
  rw [hs] at HS
  clear hbx hs
  simp only [reqA] at HS ⊢
  go_enter Tryd.func17, Tryd.ntmps17
  go_wp2_with fail
  refine HS.out.mono ?_
  rintro e w1 ⟨rfl, hb1⟩
  have HB1 := Go.Lib.hid (below_then HBX.out hb1)
  have HSB := Go.Lib.hid (below_heap hb1 HN.out)
  have hn1 : w.heap.size < w1.heap.size := heap_lt HSB.out
  obtain ⟨s0, s1, s2, s3, s4, s5, s6, s7⟩ := box8 HSB.out
  clear hb1 HS HBX HN
  have hbb : Below w1.heap.size w1 (w1.alloc (.cells #[.int .u8 3] 5)) := (Below.refl _ _).alloc (Nat.le_refl _) _
  have HO0 := Go.Lib.hid (show Own (w1.alloc (.cells #[.int .u8 3] 5)) w1.heap.size 5 (.slice (some ⟨w1.heap.size, 0, none⟩) 1 1) (Bs [3]) from own_block [3] (Nat.le_refl _) (heap_here w1 _ _ rfl) (by simp))
  have HB0 := Go.Lib.hid (below_then HB1.out hbb)
  have HX0 := Go.Lib.hid (below_heap hbb HSB.out)
  have hz0 : w1.heap.size ≤ (w1.alloc (.cells #[.int .u8 3] 5)).heap.size := hbb.size
  clear hbb
  go_wp2_with fail
  clear s0 s1 s2 s3 s4 s5 s6 s7
  refine (putText11_calls w1.heap.size (.slice (some ⟨w1.heap.size, 0, none⟩) 1 1) [3] key (w1.alloc (.cells #[.int .u8 3] 5)) hz0 (by simp) (by omega) HO0.out).mono ?_
  rintro e w2 ⟨v2, rfl, h1, h2, h3⟩
  have HO1 := Go.Lib.hid h1
  have HB1 := Go.Lib.hid (HB0.out.trans (h2.mono (by omega : w.heap.size ≤ w1.heap.size)))
  have HX1 := Go.Lib.hid (h3 _ _ _ _ HX0.out (by decide))
  have hz1 : w1.heap.size ≤ w2.heap.size := Nat.le_trans hz0 h2.size
  obtain ⟨s0, s1, s2, s3, s4, s5, s6, s7⟩ := box8 HX1.out
  clear h1 h2 h3 HO0 HB0 HX0 hz0
  have hbody : [3] ++ leS (UInt64.ofNat key.length) 2 ++ key = encBody ⟨3, key, ⟨kind, gap, slack, limit, span⟩, units⟩ := by
    unfold encBody
    simp [b8]
  have ho := HO1.out
  rw [hbody] at ho
  obtain ⟨A3, c3, rfl, _, _, _⟩ := own_slice ho
  obtain ⟨n3, hn3⟩ : ∃ n, n = (Bs (encBody ⟨3, key, ⟨kind, gap, slack, limit, span⟩, units⟩)).length := ⟨_, rfl⟩
  rw [← hn3] at ho ⊢
  have HO := Go.Lib.hid ho
  have d1 : decide ((256 : Int) < (n3 : Int)) = false := decide_eq_false (by have := HBIG.out; rw [Bs_length] at hn3; omega)
  have d2 : decide (256 < n3) = false := decide_eq_false (by have := HBIG.out; rw [Bs_length] at hn3; omega)
  clear ho hn3 hbody HO1
  go_wp2
  go_ret2
  exact ⟨_, rfl, own_mono HO.out (by omega), HB1.out⟩

set_option maxRecDepth 100000 in
set_option maxHeartbeats 1600000 in
theorem rencode_4_big (key : List UInt8) (kind : Int) (gap slack limit span units : UInt64) (w : World) (hkl : key.length ≤ 9223372036854775807) (hs : sayR ⟨4, key, ⟨kind, gap, slack, limit, span⟩, units⟩ = true) (hl : key.length ≤ 256) (hbig : 256 < (encBody ⟨4, key, ⟨kind, gap, slack, limit, span⟩, units⟩).length) :
    Calls Tryd.prog 17 #[.agg (reqA ⟨4, key, ⟨kind, gap, slack, limit, span⟩, units⟩)] w fun e w' => GaveF w w' e (([], 4)) := by
  have dl : decide ((256 : Int) < (key.length : Int)) = false := decide_eq_false (by omega)
  have dl' : decide (256 < key.length) = false := decide_eq_false (by omega)
  have hls : key.length ≤ 256 := by omega
  have HBIG := Go.Lib.hid hbig
  clear hbig hl
  have HS := Go.Lib.hid (rsayable_calls ⟨4, key, ⟨kind, gap, slack, limit, span⟩, units⟩ (w.alloc (.cells #[.int .i64 4, .string ⟨key.toArray⟩, .int .i64 kind, .int .u64 (n64 gap), .int .u64 (n64 slack), .int .u64 (n64 limit), .int .u64 (n64 span), .int .u64 (n64 units)] 30)))
  have hbx : Below w.heap.size w (w.alloc (.cells #[.int .i64 4, .string ⟨key.toArray⟩, .int .i64 kind, .int .u64 (n64 gap), .int .u64 (n64 slack), .int .u64 (n64 limit), .int .u64 (n64 span), .int .u64 (n64 units)] 30)) := (Below.refl _ _).alloc (Nat.le_refl _) _
  have HBX := Go.Lib.hid hbx
  have HN := Go.Lib.hid (heap_here w (.cells #[.int .i64 4, .string ⟨key.toArray⟩, .int .i64 kind, .int .u64 (n64 gap), .int .u64 (n64 slack), .int .u64 (n64 limit), .int .u64 (n64 span), .int .u64 (n64 units)] 30) w.heap.size rfl)
  rw [hs] at HS
  clear hbx hs
  simp only [reqA] at HS ⊢
  go_enter Tryd.func17, Tryd.ntmps17
  go_wp2_with fail
  refine HS.out.mono ?_
  rintro e w1 ⟨rfl, hb1⟩
  have HB1 := Go.Lib.hid (below_then HBX.out hb1)
  have HSB := Go.Lib.hid (below_heap hb1 HN.out)
  have hn1 : w.heap.size < w1.heap.size := heap_lt HSB.out
  obtain ⟨s0, s1, s2, s3, s4, s5, s6, s7⟩ := box8 HSB.out
  clear hb1 HS HBX HN
  have hbb : Below w1.heap.size w1 (w1.alloc (.cells #[.int .u8 4] 5)) := (Below.refl _ _).alloc (Nat.le_refl _) _
  have HO0 := Go.Lib.hid (show Own (w1.alloc (.cells #[.int .u8 4] 5)) w1.heap.size 5 (.slice (some ⟨w1.heap.size, 0, none⟩) 1 1) (Bs [4]) from own_block [4] (Nat.le_refl _) (heap_here w1 _ _ rfl) (by simp))
  have HB0 := Go.Lib.hid (below_then HB1.out hbb)
  have HX0 := Go.Lib.hid (below_heap hbb HSB.out)
  have hz0 : w1.heap.size ≤ (w1.alloc (.cells #[.int .u8 4] 5)).heap.size := hbb.size
  clear hbb
  go_wp2_with fail
  clear s0 s1 s2 s3 s4 s5 s6 s7
  refine (putText11_calls w1.heap.size (.slice (some ⟨w1.heap.size, 0, none⟩) 1 1) [4] key (w1.alloc (.cells #[.int .u8 4] 5)) hz0 (by simp) (by omega) HO0.out).mono ?_
  rintro e w2 ⟨v2, rfl, h1, h2, h3⟩
  have HO1 := Go.Lib.hid h1
  have HB1 := Go.Lib.hid (HB0.out.trans (h2.mono (by omega : w.heap.size ≤ w1.heap.size)))
  have HX1 := Go.Lib.hid (h3 _ _ _ _ HX0.out (by decide))
  have hz1 : w1.heap.size ≤ w2.heap.size := Nat.le_trans hz0 h2.size
  obtain ⟨s0, s1, s2, s3, s4, s5, s6, s7⟩ := box8 HX1.out
  clear h1 h2 h3 HO0 HB0 HX0 hz0
  have hbody : [4] ++ leS (UInt64.ofNat key.length) 2 ++ key = encBody ⟨4, key, ⟨kind, gap, slack, limit, span⟩, units⟩ := by
    unfold encBody
    simp [b8]
  have ho := HO1.out
  rw [hbody] at ho
  obtain ⟨A3, c3, rfl, _, _, _⟩ := own_slice ho
  obtain ⟨n3, hn3⟩ : ∃ n, n = (Bs (encBody ⟨4, key, ⟨kind, gap, slack, limit, span⟩, units⟩)).length := ⟨_, rfl⟩
  rw [← hn3] at ho ⊢
  have HO := Go.Lib.hid ho
  have d1 : decide ((256 : Int) < (n3 : Int)) = true := decide_eq_true (by have := HBIG.out; rw [Bs_length] at hn3; omega)
  have d2 : decide (256 < n3) = true := decide_eq_true (by have := HBIG.out; rw [Bs_length] at hn3; omega)
  clear ho hn3 hbody HO1
  go_wp2
  go_ret2
  exact ⟨_, rfl, own_nil _ _ _, HB1.out⟩

set_option maxRecDepth 100000 in
set_option maxHeartbeats 1600000 in
theorem rencode_4_ok (key : List UInt8) (kind : Int) (gap slack limit span units : UInt64) (w : World) (hkl : key.length ≤ 9223372036854775807) (hs : sayR ⟨4, key, ⟨kind, gap, slack, limit, span⟩, units⟩ = true) (hl : key.length ≤ 256) (hbig : ¬ 256 < (encBody ⟨4, key, ⟨kind, gap, slack, limit, span⟩, units⟩).length) :
    Calls Tryd.prog 17 #[.agg (reqA ⟨4, key, ⟨kind, gap, slack, limit, span⟩, units⟩)] w fun e w' => GaveF w w' e ((encBody ⟨4, key, ⟨kind, gap, slack, limit, span⟩, units⟩, 0)) := by
  have dl : decide ((256 : Int) < (key.length : Int)) = false := decide_eq_false (by omega)
  have dl' : decide (256 < key.length) = false := decide_eq_false (by omega)
  have hls : key.length ≤ 256 := by omega
  have HBIG := Go.Lib.hid hbig
  clear hbig hl
  have HS := Go.Lib.hid (rsayable_calls ⟨4, key, ⟨kind, gap, slack, limit, span⟩, units⟩ (w.alloc (.cells #[.int .i64 4, .string ⟨key.toArray⟩, .int .i64 kind, .int .u64 (n64 gap), .int .u64 (n64 slack), .int .u64 (n64 limit), .int .u64 (n64 span), .int .u64 (n64 units)] 30)))
  have hbx : Below w.heap.size w (w.alloc (.cells #[.int .i64 4, .string ⟨key.toArray⟩, .int .i64 kind, .int .u64 (n64 gap), .int .u64 (n64 slack), .int .u64 (n64 limit), .int .u64 (n64 span), .int .u64 (n64 units)] 30)) := (Below.refl _ _).alloc (Nat.le_refl _) _
  have HBX := Go.Lib.hid hbx
  have HN := Go.Lib.hid (heap_here w (.cells #[.int .i64 4, .string ⟨key.toArray⟩, .int .i64 kind, .int .u64 (n64 gap), .int .u64 (n64 slack), .int .u64 (n64 limit), .int .u64 (n64 span), .int .u64 (n64 units)] 30) w.heap.size rfl)
  rw [hs] at HS
  clear hbx hs
  simp only [reqA] at HS ⊢
  go_enter Tryd.func17, Tryd.ntmps17
  go_wp2_with fail
  refine HS.out.mono ?_
  rintro e w1 ⟨rfl, hb1⟩
  have HB1 := Go.Lib.hid (below_then HBX.out hb1)
  have HSB := Go.Lib.hid (below_heap hb1 HN.out)
  have hn1 : w.heap.size < w1.heap.size := heap_lt HSB.out
  obtain ⟨s0, s1, s2, s3, s4, s5, s6, s7⟩ := box8 HSB.out
  clear hb1 HS HBX HN
  have hbb : Below w1.heap.size w1 (w1.alloc (.cells #[.int .u8 4] 5)) := (Below.refl _ _).alloc (Nat.le_refl _) _
  have HO0 := Go.Lib.hid (show Own (w1.alloc (.cells #[.int .u8 4] 5)) w1.heap.size 5 (.slice (some ⟨w1.heap.size, 0, none⟩) 1 1) (Bs [4]) from own_block [4] (Nat.le_refl _) (heap_here w1 _ _ rfl) (by simp))
  have HB0 := Go.Lib.hid (below_then HB1.out hbb)
  have HX0 := Go.Lib.hid (below_heap hbb HSB.out)
  have hz0 : w1.heap.size ≤ (w1.alloc (.cells #[.int .u8 4] 5)).heap.size := hbb.size
  clear hbb
  go_wp2_with fail
  clear s0 s1 s2 s3 s4 s5 s6 s7
  refine (putText11_calls w1.heap.size (.slice (some ⟨w1.heap.size, 0, none⟩) 1 1) [4] key (w1.alloc (.cells #[.int .u8 4] 5)) hz0 (by simp) (by omega) HO0.out).mono ?_
  rintro e w2 ⟨v2, rfl, h1, h2, h3⟩
  have HO1 := Go.Lib.hid h1
  have HB1 := Go.Lib.hid (HB0.out.trans (h2.mono (by omega : w.heap.size ≤ w1.heap.size)))
  have HX1 := Go.Lib.hid (h3 _ _ _ _ HX0.out (by decide))
  have hz1 : w1.heap.size ≤ w2.heap.size := Nat.le_trans hz0 h2.size
  obtain ⟨s0, s1, s2, s3, s4, s5, s6, s7⟩ := box8 HX1.out
  clear h1 h2 h3 HO0 HB0 HX0 hz0
  have hbody : [4] ++ leS (UInt64.ofNat key.length) 2 ++ key = encBody ⟨4, key, ⟨kind, gap, slack, limit, span⟩, units⟩ := by
    unfold encBody
    simp [b8]
  have ho := HO1.out
  rw [hbody] at ho
  obtain ⟨A3, c3, rfl, _, _, _⟩ := own_slice ho
  obtain ⟨n3, hn3⟩ : ∃ n, n = (Bs (encBody ⟨4, key, ⟨kind, gap, slack, limit, span⟩, units⟩)).length := ⟨_, rfl⟩
  rw [← hn3] at ho ⊢
  have HO := Go.Lib.hid ho
  have d1 : decide ((256 : Int) < (n3 : Int)) = false := decide_eq_false (by have := HBIG.out; rw [Bs_length] at hn3; omega)
  have d2 : decide (256 < n3) = false := decide_eq_false (by have := HBIG.out; rw [Bs_length] at hn3; omega)
  clear ho hn3 hbody HO1
  go_wp2
  go_ret2
  exact ⟨_, rfl, own_mono HO.out (by omega), HB1.out⟩

set_option maxRecDepth 100000 in
set_option maxHeartbeats 1600000 in
theorem rencode_5_ok (key : List UInt8) (kind : Int) (gap slack limit span units : UInt64) (w : World) (hkl : key.length ≤ 9223372036854775807) (hs : sayR ⟨5, key, ⟨kind, gap, slack, limit, span⟩, units⟩ = true) (hl : key.length ≤ 256) (hbig : ¬ 256 < (encBody ⟨5, key, ⟨kind, gap, slack, limit, span⟩, units⟩).length) :
    Calls Tryd.prog 17 #[.agg (reqA ⟨5, key, ⟨kind, gap, slack, limit, span⟩, units⟩)] w fun e w' => GaveF w w' e ((encBody ⟨5, key, ⟨kind, gap, slack, limit, span⟩, units⟩, 0)) := by
  have dl : decide ((256 : Int) < (key.length : Int)) = false := decide_eq_false (by omega)
  have dl' : decide (256 < key.length) = false := decide_eq_false (by omega)
  have hls : key.length ≤ 256 := by omega
  have HBIG := Go.Lib.hid hbig
  clear hbig hl
  have HS := Go.Lib.hid (rsayable_calls ⟨5, key, ⟨kind, gap, slack, limit, span⟩, units⟩ (w.alloc (.cells #[.int .i64 5, .string ⟨key.toArray⟩, .int .i64 kind, .int .u64 (n64 gap), .int .u64 (n64 slack), .int .u64 (n64 limit), .int .u64 (n64 span), .int .u64 (n64 units)] 30)))
  have hbx : Below w.heap.size w (w.alloc (.cells #[.int .i64 5, .string ⟨key.toArray⟩, .int .i64 kind, .int .u64 (n64 gap), .int .u64 (n64 slack), .int .u64 (n64 limit), .int .u64 (n64 span), .int .u64 (n64 units)] 30)) := (Below.refl _ _).alloc (Nat.le_refl _) _
  have HBX := Go.Lib.hid hbx
  have HN := Go.Lib.hid (heap_here w (.cells #[.int .i64 5, .string ⟨key.toArray⟩, .int .i64 kind, .int .u64 (n64 gap), .int .u64 (n64 slack), .int .u64 (n64 limit), .int .u64 (n64 span), .int .u64 (n64 units)] 30) w.heap.size rfl)
  rw [hs] at HS
  clear hbx hs
  simp only [reqA] at HS ⊢
  go_enter Tryd.func17, Tryd.ntmps17
  go_wp2_with fail
  refine HS.out.mono ?_
  rintro e w1 ⟨rfl, hb1⟩
  have HB1 := Go.Lib.hid (below_then HBX.out hb1)
  have HSB := Go.Lib.hid (below_heap hb1 HN.out)
  have hn1 : w.heap.size < w1.heap.size := heap_lt HSB.out
  obtain ⟨s0, s1, s2, s3, s4, s5, s6, s7⟩ := box8 HSB.out
  clear hb1 HS HBX HN
  have hbb : Below w1.heap.size w1 (w1.alloc (.cells #[.int .u8 5] 5)) := (Below.refl _ _).alloc (Nat.le_refl _) _
  have HO0 := Go.Lib.hid (show Own (w1.alloc (.cells #[.int .u8 5] 5)) w1.heap.size 5 (.slice (some ⟨w1.heap.size, 0, none⟩) 1 1) (Bs [5]) from own_block [5] (Nat.le_refl _) (heap_here w1 _ _ rfl) (by simp))
  have HB0 := Go.Lib.hid (below_then HB1.out hbb)
  have HX0 := Go.Lib.hid (below_heap hbb HSB.out)
  have hz0 : w1.heap.size ≤ (w1.alloc (.cells #[.int .u8 5] 5)).heap.size := hbb.size
  clear hbb
  have hbody : [5] = encBody ⟨5, key, ⟨kind, gap, slack, limit, span⟩, units⟩ := by
    unfold encBody
    simp [b8]
  have ho := HO0.out
  rw [hbody] at ho
  have HO := Go.Lib.hid ho
  clear ho hbody HO0
  go_wp2
  go_ret2
  exact ⟨_, rfl, own_mono HO.out (by omega), HB0.out⟩

theorem rencode_calls (r : Req) (w : World) (hkl : r.key.length ≤ 9223372036854775807) :
    Calls Tryd.prog 17 #[.agg (reqA r)] w fun e w' => GaveF w w' e (encS r) := by
  obtain ⟨op, key, ⟨kind, gap, slack, limit, span⟩, units⟩ := r
  simp only at hkl
  cases hs : sayR ⟨op, key, ⟨kind, gap, slack, limit, span⟩, units⟩
  · have hE : encS ⟨op, key, ⟨kind, gap, slack, limit, span⟩, units⟩ = ([], 1) := by unfold encS; rw [if_pos hs]
    rw [hE]
    exact rencode_no op key kind gap slack limit span units w hkl hs
  by_cases hl : 256 < key.length
  · have hE : encS ⟨op, key, ⟨kind, gap, slack, limit, span⟩, units⟩ = ([], 4) := by unfold encS; rw [if_neg (by simp [hs]), if_pos hl]
    rw [hE]
    exact rencode_long op key kind gap slack limit span units w hkl hs hl
  have hl' : key.length ≤ 256 := by omega
  have hE : encS ⟨op, key, ⟨kind, gap, slack, limit, span⟩, units⟩ = fit (encBody ⟨op, key, ⟨kind, gap, slack, limit, span⟩, units⟩) := by unfold encS; rw [if_neg (by simp [hs]), if_neg hl]
  rw [hE]
  have hop := sayR_op hs
  simp only at hop
  by_cases hbig : 256 < (encBody ⟨op, key, ⟨kind, gap, slack, limit, span⟩, units⟩).length
  · rw [fit_big _ hbig]
    rcases (by omega : op = 1 ∨ op = 2 ∨ op = 3 ∨ op = 4 ∨ op = 5) with rfl | rfl | rfl | rfl | rfl
    · exact rencode_1_big key kind gap slack limit span units w hkl hs hl' hbig
    · exact rencode_2_big key kind gap slack limit span units w hkl hs hl' hbig
    · exact rencode_3_big key kind gap slack limit span units w hkl hs hl' hbig
    · exact rencode_4_big key kind gap slack limit span units w hkl hs hl' hbig
    · exfalso
      unfold encBody at hbig
      simp at hbig
  · rw [fit_small _ hbig]
    rcases (by omega : op = 1 ∨ op = 2 ∨ op = 3 ∨ op = 4 ∨ op = 5) with rfl | rfl | rfl | rfl | rfl
    · exact rencode_1_ok key kind gap slack limit span units w hkl hs hl' hbig
    · exact rencode_2_ok key kind gap slack limit span units w hkl hs hl' hbig
    · exact rencode_3_ok key kind gap slack limit span units w hkl hs hl' hbig
    · exact rencode_4_ok key kind gap slack limit span units w hkl hs hl' hbig
    · exact rencode_5_ok key kind gap slack limit span units w hkl hs hl' hbig
end Go.Proofs.YtonfeppenhebjaaDoor
