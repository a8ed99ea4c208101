/- The law RequestBack walked. (Printed by gen_reqback.py of this session.) -/
import Derived.Test.YtonfeppenhebjaaDoorReqA
import Derived.Test.YtonfeppenhebjaaDoorReqLR2
import Derived.Test.YtonfeppenhebjaaDoorErrEq
namespace Go.Proofs.YtonfeppenhebjaaDoor
open Go Go.RowKit
set_option linter.unusedVariables false
set_option linter.unusedSimpArgs false
attribute [local go_sem] IntKind.wrap_u64 c64_8 c8_64 c16_64 c32_64 c64_16 c64_32 or8 and8 n64_self n8_self beq_n64 beq_n8 bne_n8 bne_n64 beq_n64_0 bne_n64_0 wrap_b8

/-- Encode, its answer known -/
theorem enc_ok (r : Req) (b : List UInt8) (p : Nat → Addr) (V : World) (hV : E4 V p) (hk : r.key.length ≤ 9223372036854775807) (h : encS r = (b, 0)) :
    Calls Tryd.prog 11 #[.agg (reqA r)] V fun e w' => ∃ A c, e = .returned (.tuple #[.slice A b.length c, .nilIface]) ∧ Hid (Cells w' A (Bs b)) ∧ Hid (Below V.heap.size V w') :=
  (encode_calls r p V hV hk).mono fun e w' hg => gave_lit hg b _ h rfl
theorem gave_err {p : Nat → Addr} {w w' : World} {e : Ending} {r : List UInt8 × Nat} (h : GaveE p w w' e r) (k : Nat) (hr : r = ([], k)) (a : Addr) (ha : errv p k = .iface 105 (.pointer (some a))) :
    ∃ A c, e = .returned (.tuple #[.slice A 0 c, .iface 105 (.pointer (some a))]) ∧ Hid (Cells w' A (Bs [])) ∧ Hid (Below w.heap.size w w') := by
  obtain ⟨v, rfl, hv, hb⟩ := h
  subst hr
  obtain ⟨A, c, rfl, _, _, hc⟩ := own_slice hv
  rw [← ha]
  exact ⟨A, c, rfl, hc, hb⟩
theorem enc_err (r : Req) (k : Nat) (p : Nat → Addr) (a : Addr) (ha : errv p k = .iface 105 (.pointer (some a))) (V : World) (hV : E4 V p) (hk : r.key.length ≤ 9223372036854775807) (h : encS r = ([], k)) :
    Calls Tryd.prog 11 #[.agg (reqA r)] V fun e w' => ∃ A c, e = .returned (.tuple #[.slice A 0 c, .iface 105 (.pointer (some a))]) ∧ Hid (Cells w' A (Bs [])) ∧ Hid (Below V.heap.size V w') :=
  (encode_calls r p V hV hk).mono fun e w' hg => gave_err hg k h a ha
theorem dec_ok (r : Req) (b : List UInt8) (p : Nat → Addr) (V : World) (A : Option Addr) (c : Nat) (hV : E4 V p) (hl : b.length ≤ 140737488351232) (hA : Cells V A (Bs b)) (h : decS b = (r, 0)) :
    Calls Tryd.prog 12 #[.slice A b.length c] V fun e w' => e = .returned (.tuple #[.agg (reqA r), .nilIface]) ∧ Hid (Below V.heap.size V w') := by
  refine (decode_calls A c b p V hV hl hA).mono ?_
  rintro e w' ⟨rfl, hb⟩
  exact ⟨by rw [h]; rfl, hb⟩

set_option maxRecDepth 100000 in
set_option maxHeartbeats 3200000 in
theorem back_big (op : Int) (key : List UInt8) (kind : Int) (gap slack limit span units : UInt64) (p : Nat → Addr) (w : World) (hp : E4 w p) (hk : 16777216 < key.length) :
    Calls Tryd.prog 4 #[.agg (reqA ⟨op, key, ⟨kind, gap, slack, limit, span⟩, units⟩)] w fun e w' => e = .returned (.bool true) ∧ Below w.heap.size w w' := by
  have hbx : Below w.heap.size w (w.alloc (.cells #[.int .i64 op, .string ⟨key.toArray⟩, .int .i64 kind, .int .u64 (n64 gap), .int .u64 (n64 slack), .int .u64 (n64 limit), .int .u64 (n64 span), .int .u64 (n64 units)] 30)) := (Below.refl _ _).alloc (Nat.le_refl _) _
  have HBX := Go.Lib.hid hbx
  have HX := Go.Lib.hid (heap_here w (.cells #[.int .i64 op, .string ⟨key.toArray⟩, .int .i64 kind, .int .u64 (n64 gap), .int .u64 (n64 slack), .int .u64 (n64 limit), .int .u64 (n64 span), .int .u64 (n64 units)] 30) w.heap.size rfl)
  have HE1 := Go.Lib.hid (e4_below hp hbx)
  obtain ⟨W, hW⟩ : ∃ W, W = w.alloc (.cells #[.int .i64 op, .string ⟨key.toArray⟩, .int .i64 kind, .int .u64 (n64 gap), .int .u64 (n64 slack), .int .u64 (n64 limit), .int .u64 (n64 span), .int .u64 (n64 units)] 30) := ⟨_, rfl⟩
  simp only [reqA]
  go_enter Tryd.func4, Tryd.ntmps4
  go_wp2_with fail
  rw [← hW] at HBX HX HE1 ⊢
  clear hW hbx hp
  refine (awake_calls p W HE1.out).mono ?_
  rintro e w1 ⟨rfl, hb1⟩
  have HB1 := Go.Lib.hid (below_then HBX.out hb1)
  have HX1 := Go.Lib.hid (below_heap hb1 HX.out)
  have HE2 := Go.Lib.hid (e4_below HE1.out hb1)
  clear HBX HX HE1 hb1
  obtain ⟨x0, x1, x2, x3, x4, x5, x6, x7⟩ := box8 HX1.out
  have hsz1 : w.heap.size < w1.heap.size := heap_lt HX1.out
  go_wp2
  go_ret
  exact ⟨rfl, HB1.out⟩

set_option maxRecDepth 100000 in
set_option maxHeartbeats 3200000 in
theorem back_err1 (op : Int) (key : List UInt8) (kind : Int) (gap slack limit span units : UInt64) (p : Nat → Addr) (w : World) (hp : E4 w p) (hk : key.length ≤ 16777216) (hs : encS ⟨op, key, ⟨kind, gap, slack, limit, span⟩, units⟩ = ([], 1)) :
    Calls Tryd.prog 4 #[.agg (reqA ⟨op, key, ⟨kind, gap, slack, limit, span⟩, units⟩)] w fun e w' => e = .returned (.bool true) ∧ Below w.heap.size w w' := by
  have HENC := fun V hV => enc_err ⟨op, key, ⟨kind, gap, slack, limit, span⟩, units⟩ 1 p (p 1) rfl V hV (by simp; omega) hs
  clear hs
  have hbx : Below w.heap.size w (w.alloc (.cells #[.int .i64 op, .string ⟨key.toArray⟩, .int .i64 kind, .int .u64 (n64 gap), .int .u64 (n64 slack), .int .u64 (n64 limit), .int .u64 (n64 span), .int .u64 (n64 units)] 30)) := (Below.refl _ _).alloc (Nat.le_refl _) _
  have HBX := Go.Lib.hid hbx
  have HX := Go.Lib.hid (heap_here w (.cells #[.int .i64 op, .string ⟨key.toArray⟩, .int .i64 kind, .int .u64 (n64 gap), .int .u64 (n64 slack), .int .u64 (n64 limit), .int .u64 (n64 span), .int .u64 (n64 units)] 30) w.heap.size rfl)
  have HE1 := Go.Lib.hid (e4_below hp hbx)
  obtain ⟨W, hW⟩ : ∃ W, W = w.alloc (.cells #[.int .i64 op, .string ⟨key.toArray⟩, .int .i64 kind, .int .u64 (n64 gap), .int .u64 (n64 slack), .int .u64 (n64 limit), .int .u64 (n64 span), .int .u64 (n64 units)] 30) := ⟨_, rfl⟩
  simp only [reqA]
  go_enter Tryd.func4, Tryd.ntmps4
  go_wp2_with fail
  rw [← hW] at HBX HX HE1 ⊢
  clear hW hbx hp
  refine (awake_calls p W HE1.out).mono ?_
  rintro e w1 ⟨rfl, hb1⟩
  have HB1 := Go.Lib.hid (below_then HBX.out hb1)
  have HX1 := Go.Lib.hid (below_heap hb1 HX.out)
  have HE2 := Go.Lib.hid (e4_below HE1.out hb1)
  clear HBX HX HE1 hb1
  obtain ⟨x0, x1, x2, x3, x4, x5, x6, x7⟩ := box8 HX1.out
  have hsz1 : w.heap.size < w1.heap.size := heap_lt HX1.out
  go_wp2_with fail
  refine (HENC w1 HE2.out).mono ?_
  rintro e w2 ⟨A2, c2, rfl, HC2, HB2⟩
  have HB02 := Go.Lib.hid (below_then HB1.out HB2.out)
  have HX2 := Go.Lib.hid (below_heap HB2.out HX1.out)
  have HE3 := Go.Lib.hid (e4_below HE2.out HB2.out)
  clear x0 x1 x2 x3 x4 x5 x6 x7 hsz1
  obtain ⟨x0, x1, x2, x3, x4, x5, x6, x7⟩ := box8 HX2.out
  have hsz1 : w.heap.size < w2.heap.size := heap_lt HX2.out
  have g1 := e4_arg HE3.out
  have q1 := fun V : World => eql_same V (p 1)
  go_wp2
  go_ret
  exact ⟨rfl, HB02.out⟩

set_option maxRecDepth 100000 in
set_option maxHeartbeats 3200000 in
theorem back_err4 (op : Int) (key : List UInt8) (kind : Int) (gap slack limit span units : UInt64) (p : Nat → Addr) (w : World) (hp : E4 w p) (hk : key.length ≤ 16777216) (hs : encS ⟨op, key, ⟨kind, gap, slack, limit, span⟩, units⟩ = ([], 4)) (h235 : 235 < key.length) (ha : Apart w (p 4) (p 1)) :
    Calls Tryd.prog 4 #[.agg (reqA ⟨op, key, ⟨kind, gap, slack, limit, span⟩, units⟩)] w fun e w' => e = .returned (.bool true) ∧ Below w.heap.size w w' := by
  have HENC := fun V hV => enc_err ⟨op, key, ⟨kind, gap, slack, limit, span⟩, units⟩ 4 p (p 4) rfl V hV (by simp; omega) hs
  have HAP := Go.Lib.hid ha
  clear hs ha
  have hbx : Below w.heap.size w (w.alloc (.cells #[.int .i64 op, .string ⟨key.toArray⟩, .int .i64 kind, .int .u64 (n64 gap), .int .u64 (n64 slack), .int .u64 (n64 limit), .int .u64 (n64 span), .int .u64 (n64 units)] 30)) := (Below.refl _ _).alloc (Nat.le_refl _) _
  have HBX := Go.Lib.hid hbx
  have HX := Go.Lib.hid (heap_here w (.cells #[.int .i64 op, .string ⟨key.toArray⟩, .int .i64 kind, .int .u64 (n64 gap), .int .u64 (n64 slack), .int .u64 (n64 limit), .int .u64 (n64 span), .int .u64 (n64 units)] 30) w.heap.size rfl)
  have HE1 := Go.Lib.hid (e4_below hp hbx)
  obtain ⟨W, hW⟩ : ∃ W, W = w.alloc (.cells #[.int .i64 op, .string ⟨key.toArray⟩, .int .i64 kind, .int .u64 (n64 gap), .int .u64 (n64 slack), .int .u64 (n64 limit), .int .u64 (n64 span), .int .u64 (n64 units)] 30) := ⟨_, rfl⟩
  simp only [reqA]
  go_enter Tryd.func4, Tryd.ntmps4
  go_wp2_with fail
  rw [← hW] at HBX HX HE1 ⊢
  clear hW hbx hp
  refine (awake_calls p W HE1.out).mono ?_
  rintro e w1 ⟨rfl, hb1⟩
  have HB1 := Go.Lib.hid (below_then HBX.out hb1)
  have HX1 := Go.Lib.hid (below_heap hb1 HX.out)
  have HE2 := Go.Lib.hid (e4_below HE1.out hb1)
  clear HBX HX HE1 hb1
  obtain ⟨x0, x1, x2, x3, x4, x5, x6, x7⟩ := box8 HX1.out
  have hsz1 : w.heap.size < w1.heap.size := heap_lt HX1.out
  go_wp2_with fail
  refine (HENC w1 HE2.out).mono ?_
  rintro e w2 ⟨A2, c2, rfl, HC2, HB2⟩
  have HB02 := Go.Lib.hid (below_then HB1.out HB2.out)
  have HX2 := Go.Lib.hid (below_heap HB2.out HX1.out)
  have HE3 := Go.Lib.hid (e4_below HE2.out HB2.out)
  clear x0 x1 x2 x3 x4 x5 x6 x7 hsz1
  obtain ⟨x0, x1, x2, x3, x4, x5, x6, x7⟩ := box8 HX2.out
  have hsz1 : w.heap.size < w2.heap.size := heap_lt HX2.out
  have g1 := e4_arg HE3.out
  have g4 := e4_lng HE3.out
  have q1 := fun V : World => eql_same V (p 4)
  have h235i : (235 : Int) < (key.length : Int) := by omega
  have q2 := eql_other (apart_below HAP.out HB02.out)
  go_wp2
  go_ret
  exact ⟨rfl, HB02.out⟩

set_option maxRecDepth 100000 in
set_option maxHeartbeats 3200000 in
theorem back_ok (op : Int) (key : List UInt8) (kind : Int) (gap slack limit span units : UInt64) (p : Nat → Addr) (w : World) (hp : E4 w p) (hk : key.length ≤ 16777216) (b : List UInt8) (hs : encS ⟨op, key, ⟨kind, gap, slack, limit, span⟩, units⟩ = (b, 0)) (hd : decS b = (⟨op, key, ⟨kind, gap, slack, limit, span⟩, units⟩, 0)) (h1 : 1 ≤ b.length) (h256 : b.length ≤ 256) (u : UInt8) (hu : b[0]? = some u) (huo : n8 u = op) :
    Calls Tryd.prog 4 #[.agg (reqA ⟨op, key, ⟨kind, gap, slack, limit, span⟩, units⟩)] w fun e w' => e = .returned (.bool true) ∧ Below w.heap.size w w' := by
  have HENC := fun V hV => enc_ok ⟨op, key, ⟨kind, gap, slack, limit, span⟩, units⟩ b p V hV (by simp; omega) hs
  have HDEC := fun V A c hV hA => dec_ok ⟨op, key, ⟨kind, gap, slack, limit, span⟩, units⟩ b p V A c hV (by omega) hA hd
  clear hs hd
  have hbx : Below w.heap.size w (w.alloc (.cells #[.int .i64 op, .string ⟨key.toArray⟩, .int .i64 kind, .int .u64 (n64 gap), .int .u64 (n64 slack), .int .u64 (n64 limit), .int .u64 (n64 span), .int .u64 (n64 units)] 30)) := (Below.refl _ _).alloc (Nat.le_refl _) _
  have HBX := Go.Lib.hid hbx
  have HX := Go.Lib.hid (heap_here w (.cells #[.int .i64 op, .string ⟨key.toArray⟩, .int .i64 kind, .int .u64 (n64 gap), .int .u64 (n64 slack), .int .u64 (n64 limit), .int .u64 (n64 span), .int .u64 (n64 units)] 30) w.heap.size rfl)
  have HE1 := Go.Lib.hid (e4_below hp hbx)
  obtain ⟨W, hW⟩ : ∃ W, W = w.alloc (.cells #[.int .i64 op, .string ⟨key.toArray⟩, .int .i64 kind, .int .u64 (n64 gap), .int .u64 (n64 slack), .int .u64 (n64 limit), .int .u64 (n64 span), .int .u64 (n64 units)] 30) := ⟨_, rfl⟩
  simp only [reqA]
  go_enter Tryd.func4, Tryd.ntmps4
  go_wp2_with fail
  rw [← hW] at HBX HX HE1 ⊢
  clear hW hbx hp
  refine (awake_calls p W HE1.out).mono ?_
  rintro e w1 ⟨rfl, hb1⟩
  have HB1 := Go.Lib.hid (below_then HBX.out hb1)
  have HX1 := Go.Lib.hid (below_heap hb1 HX.out)
  have HE2 := Go.Lib.hid (e4_below HE1.out hb1)
  clear HBX HX HE1 hb1
  obtain ⟨x0, x1, x2, x3, x4, x5, x6, x7⟩ := box8 HX1.out
  have hsz1 : w.heap.size < w1.heap.size := heap_lt HX1.out
  go_wp2_with fail
  refine (HENC w1 HE2.out).mono ?_
  rintro e w2 ⟨A2, c2, rfl, HC2, HB2⟩
  have HB02 := Go.Lib.hid (below_then HB1.out HB2.out)
  have HX2 := Go.Lib.hid (below_heap HB2.out HX1.out)
  have HE3 := Go.Lib.hid (e4_below HE2.out HB2.out)
  clear x0 x1 x2 x3 x4 x5 x6 x7 hsz1
  obtain ⟨x0, x1, x2, x3, x4, x5, x6, x7⟩ := box8 HX2.out
  have hsz1 : w.heap.size < w2.heap.size := heap_lt HX2.out
  have hb3 : Below w2.heap.size w2 (w2.alloc (.cells #[] 5)) := (Below.refl _ _).alloc (Nat.le_refl _) _
  have HO3 := Go.Lib.hid (own_fresh (w := w2.alloc (.cells #[] 5)) (b := w2.heap.size) (g := w2.heap.size) (e := 5) (l := []) (heap_here w2 (.cells #[] 5) w2.heap.size rfl) (Nat.le_refl _) 0 rfl (by decide))
  have HB3 := Go.Lib.hid hb3
  have HC3 := Go.Lib.hid (cells_below hb3 HC2.out)
  have hroom : (Bs ([] : List UInt8)).length + b.length ≤ 140737488355328 := by simp [Bs]; omega
  have hsz3 : w2.heap.size ≤ (w2.alloc (.cells #[] 5)).heap.size := by simp
  clear hb3
  go_wp2_with (first
    | (at_builtin; (with_reducible refine wpList_append_all (s := .tmp 45) (x := .tmp 46) (t := 37) (e := 5) (z := .int .u8 0) (ht := Tryd.underlying37) (hinfo := info8) (base := w2.heap.size) (v := .slice (some ⟨w2.heap.size, 0, none⟩) 0 0) (vs := Bs []) (hown := HO3.out) (hbase := hsz3) (A := A2) (c := c2) (l := b) (hA := HC3.out) (hroom := hroom) (hgd := rfl) (hz := ?_) (ho := ?_) (hs := ?_) (hx := ?_) (h := ?_)); rfl; rfl; rfl; rfl; intro v4 w4 hown4 hb4; have HO4 := Go.Lib.hid hown4; have HB4 := Go.Lib.hid hb4; clear hown4 hb4))
  obtain ⟨A4, c4, hv4, _, _, hc4⟩ := own_slice HO4.out
  have hbl : (Bs ([] : List UInt8) ++ Bs b).length = b.length := by simp [Bs]
  rw [hbl] at hv4
  subst hv4
  have hb24 := HB3.out.trans HB4.out
  have HB04 := Go.Lib.hid (below_then HB02.out hb24)
  have HX4 := Go.Lib.hid (below_heap hb24 HX2.out)
  have HE4 := Go.Lib.hid (e4_below HE3.out hb24)
  have HC4 := Go.Lib.hid (cells_below hb24 HC2.out)
  clear hb24
  clear x0 x1 x2 x3 x4 x5 x6 x7 HC3 HB3 HB4 HO3 HO4 HC2
  refine (HDEC w4 A4 c4 HE4.out hc4).mono ?_
  rintro e w5 ⟨rfl, HB5⟩
  have HB05 := Go.Lib.hid (below_then HB04.out HB5.out)
  have HX5 := Go.Lib.hid (below_heap HB5.out HX4.out)
  have HC5 := Go.Lib.hid (cells_below HB5.out HC4.out)
  have hb6 : Below w5.heap.size w5 (w5.alloc (.cells #[.int .i64 op, .string ⟨key.toArray⟩, .int .i64 kind, .int .u64 (n64 gap), .int .u64 (n64 slack), .int .u64 (n64 limit), .int .u64 (n64 span), .int .u64 (n64 units)] 30)) := (Below.refl _ _).alloc (Nat.le_refl _) _
  have HX6 := Go.Lib.hid (below_heap hb6 HX5.out)
  have HC6 := Go.Lib.hid (cells_below hb6 HC5.out)
  have HB06 := Go.Lib.hid (below_then HB05.out hb6)
  have HY6 := Go.Lib.hid (heap_here w5 (.cells #[.int .i64 op, .string ⟨key.toArray⟩, .int .i64 kind, .int .u64 (n64 gap), .int .u64 (n64 slack), .int .u64 (n64 limit), .int .u64 (n64 span), .int .u64 (n64 units)] 30) w5.heap.size rfl)
  obtain ⟨w6, hw6⟩ : ∃ w6, w6 = w5.alloc (.cells #[.int .i64 op, .string ⟨key.toArray⟩, .int .i64 kind, .int .u64 (n64 gap), .int .u64 (n64 slack), .int .u64 (n64 limit), .int .u64 (n64 span), .int .u64 (n64 units)] 30) := ⟨_, rfl⟩
  rw [← hw6] at HX6 HC6 HB06 HY6
  clear hb6 HX5 HC5 HB05 HX4 HC4 HE4 HB04 hc4
  simp only [reqA]
  go_wp2
  rw [← hw6]
  clear hw6
  obtain ⟨x0, x1, x2, x3, x4, x5, x6, x7⟩ := box8 HX6.out
  obtain ⟨y0, y1, y2, y3, y4, y5, y6, y7⟩ := box8 HY6.out
  have z0 := heap_frozen HX6.out
  have z1 := heap_frozen HY6.out
  have hlx := heap_lt HX6.out
  have hly := heap_lt HY6.out
  have hq : ∀ V : World, (binOp .eql 30 (.agg #[.int .i64 op, .string ⟨key.toArray⟩, .int .i64 kind, .int .u64 (n64 gap), .int .u64 (n64 slack), .int .u64 (n64 limit), .int .u64 (n64 span), .int .u64 (n64 units)]) (.agg #[.int .i64 op, .string ⟨key.toArray⟩, .int .i64 kind, .int .u64 (n64 gap), .int .u64 (n64 slack), .int .u64 (n64 limit), .int .u64 (n64 span), .int .u64 (n64 units)])).run Tryd.prog V = .ok (.bool true) V := fun V => by have h := eql_req ⟨op, key, ⟨kind, gap, slack, limit, span⟩, units⟩ ⟨op, key, ⟨kind, gap, slack, limit, span⟩, units⟩ V; rwa [beq_self_eq_true] at h
  obtain ⟨bb, oo, rfl, hcb⟩ := HC6.out.byte 0 (by omega)
  rw [Nat.add_zero] at hcb
  have hbu : b[0]'(by omega) = u := by rw [List.getElem?_eq_getElem (by omega)] at hu; exact Option.some.inj hu
  rw [hbu] at hcb
  subst huo
  clear hbu hu
  have g1 : (1 : Int) ≤ (b.length : Int) := by omega
  have g2 : (b.length : Int) ≤ 256 := by omega
  have g3 : (0 : Int) < (b.length : Int) := by omega
  have hw64 : wrap64 (n8 u) = n8 u := by have := u.toNat_lt; unfold n8 wrap64; omega
  go_quiet (fail)
  go_wp2
  go_ret
  exact ⟨by first | rfl | simp [hw64], HB06.out.trans (below_drewN _ _ _)⟩

/-- the four errors, each another -/
def E4A (w : World) (p : Nat → Addr) : Prop := E4 w p ∧ ∀ i j, 1 ≤ i → i ≤ 4 → 1 ≤ j → j ≤ 4 → i ≠ j → Apart w (p i) (p j)
theorem back_calls (r : Req) (p : Nat → Addr) (w : World) (hp : E4A w p) :
    Calls Tryd.prog 4 #[.agg (reqA r)] w fun e w' => e = .returned (.bool true) ∧ Below w.heap.size w w' := by
  have hc := encS_cases r
  obtain ⟨op, key, ⟨kind, gap, slack, limit, span⟩, units⟩ := r
  by_cases hk : 16777216 < key.length
  · exact back_big op key kind gap slack limit span units p w hp.1 hk
  have hk' : key.length ≤ 16777216 := by omega
  rcases hc with ⟨h1, h2 | ⟨h2, h235⟩⟩ | ⟨he, hs, hk2, hb⟩
  · exact back_err1 op key kind gap slack limit span units p w hp.1 hk' (Prod.ext h1 h2)
  · exact back_err4 op key kind gap slack limit span units p w hp.1 hk' (Prod.ext h1 h2) h235 (hp.2 4 1 (by decide) (by decide) (by decide) (by decide) (by decide))
  · refine back_ok op key kind gap slack limit span units p w hp.1 hk' _ he (dec_back _ hs hk2 hb) (by rw [encBody_length]; omega) hb _ rfl ?_
    rcases req_kinds _ hs with ⟨ho, _⟩ | ⟨ho, _⟩ | ⟨ho | ho, _⟩ | ⟨ho, _⟩
    all_goals
      simp only at ho
      subst ho
      rfl
end Go.Proofs.YtonfeppenhebjaaDoor
