/- The law RequestReply walked. (Printed by gen_reqreply.py of this session.) -/
import Derived.Test.YtonfeppenhebjaaDoorReqBackL
namespace Go.Proofs.YtonfeppenhebjaaDoor
open Go Go.RowKit
set_option linter.unusedVariables false
set_option linter.unusedSimpArgs false
attribute [local go_sem] IntKind.wrap_u64 c64_8 c8_64 c16_64 c32_64 c64_16 c64_32 or8 and8 n64_self n8_self beq_n64 beq_n8 bne_n8 bne_n64 beq_n64_0 bne_n64_0 wrap_b8

/-- EncodeReply, its answer known -/
theorem encR_ok_calls (r : Ans) (b : List UInt8) (p : Nat → Addr) (V : World) (hV : E4 V p) (h : encR r = (b, 0)) :
    Calls Tryd.prog 15 #[.agg (ansA r)] V fun e w' => ∃ A c, e = .returned (.tuple #[.slice A b.length c, .nilIface]) ∧ Hid (Cells w' A (Bs b)) ∧ Hid (Below V.heap.size V w') :=
  (encR_calls r p V hV).mono fun e w' hg => gave_lit hg b _ h rfl
theorem encR_err (r : Ans) (k : Nat) (p : Nat → Addr) (a : Addr) (ha : errv p k = .iface 105 (.pointer (some a))) (V : World) (hV : E4 V p) (h : encR r = ([], k)) :
    Calls Tryd.prog 15 #[.agg (ansA r)] V fun e w' => ∃ A c, e = .returned (.tuple #[.slice A 0 c, .iface 105 (.pointer (some a))]) ∧ Hid (Cells w' A (Bs [])) ∧ Hid (Below V.heap.size V w') :=
  (encR_calls r p V hV).mono fun e w' hg => gave_err hg k h a ha
theorem decR_ok_calls (r : Ans) (b : List UInt8) (p : Nat → Addr) (V : World) (A : Option Addr) (c : Nat) (hV : E4 V p) (hl : b.length ≤ 140737488351232) (hA : Cells V A (Bs b)) (h : decR b = (r, 0)) :
    Calls Tryd.prog 14 #[.slice A b.length c] V fun e w' => e = .returned (.tuple #[.agg (ansA r), .nilIface]) ∧ Hid (Below V.heap.size V w') := by
  refine (decR_calls A c b p V hV hl hA).mono ?_
  rintro e w' ⟨rfl, hb⟩
  exact ⟨by rw [h]; rfl, hb⟩

set_option maxRecDepth 100000 in
set_option maxHeartbeats 3200000 in
theorem reply_err (op code : Int) (at_ retry : UInt64) (k : Int) (p1 p2 p3 p4 l1 l2 l3 : UInt64) (p : Nat → Addr) (w : World) (hp : E4 w p) (hs : encR ⟨op, ⟨code, at_, retry, ⟨k, p1, p2, p3, p4⟩, ⟨l1, l2, l3⟩⟩⟩ = ([], 1)) :
    Calls Tryd.prog 6 #[.agg (ansA ⟨op, ⟨code, at_, retry, ⟨k, p1, p2, p3, p4⟩, ⟨l1, l2, l3⟩⟩⟩)] w fun e w' => e = .returned (.bool true) ∧ Below w.heap.size w w' := by
  have HENC := fun V hV => encR_err ⟨op, ⟨code, at_, retry, ⟨k, p1, p2, p3, p4⟩, ⟨l1, l2, l3⟩⟩⟩ 1 p (p 1) rfl V hV hs
  clear hs
  have hbx : Below w.heap.size w (w.alloc (.cells #[.int .i64 op, .int .i64 code, .int .u64 (n64 at_), .int .u64 (n64 retry), .int .i64 k, .int .u64 (n64 p1), .int .u64 (n64 p2), .int .u64 (n64 p3), .int .u64 (n64 p4), .int .u64 (n64 l1), .int .u64 (n64 l2), .int .u64 (n64 l3)] 36)) := (Below.refl _ _).alloc (Nat.le_refl _) _
  have HBX := Go.Lib.hid hbx
  have HX := Go.Lib.hid (heap_here w (.cells #[.int .i64 op, .int .i64 code, .int .u64 (n64 at_), .int .u64 (n64 retry), .int .i64 k, .int .u64 (n64 p1), .int .u64 (n64 p2), .int .u64 (n64 p3), .int .u64 (n64 p4), .int .u64 (n64 l1), .int .u64 (n64 l2), .int .u64 (n64 l3)] 36) w.heap.size rfl)
  have HE1 := Go.Lib.hid (e4_below hp hbx)
  obtain ⟨W, hW⟩ : ∃ W, W = w.alloc (.cells #[.int .i64 op, .int .i64 code, .int .u64 (n64 at_), .int .u64 (n64 retry), .int .i64 k, .int .u64 (n64 p1), .int .u64 (n64 p2), .int .u64 (n64 p3), .int .u64 (n64 p4), .int .u64 (n64 l1), .int .u64 (n64 l2), .int .u64 (n64 l3)] 36) := ⟨_, rfl⟩
  simp only [ansA]
  go_enter Tryd.func6, Tryd.ntmps6
  go_wp2_with fail
  rw [← hW] at HBX HX HE1 ⊢
  clear hW hbx hp
  refine (awake_calls p W HE1.out).mono ?_
  rintro e w1 ⟨rfl, hb1⟩
  have HB1 := Go.Lib.hid (below_then HBX.out hb1)
  have HX1 := Go.Lib.hid (below_heap hb1 HX.out)
  have HE2 := Go.Lib.hid (e4_below HE1.out hb1)
  clear HBX HX HE1 hb1
  obtain ⟨x0, x1, x2, x3, x4, x5, x6, x7, x8, x9, x10, x11⟩ := box12 HX1.out
  have hsz1 : w.heap.size < w1.heap.size := heap_lt HX1.out
  go_wp2_with fail
  refine (HENC w1 HE2.out).mono ?_
  rintro e w2 ⟨A2, c2, rfl, HC2, HB2⟩
  have HB02 := Go.Lib.hid (below_then HB1.out HB2.out)
  have HX2 := Go.Lib.hid (below_heap HB2.out HX1.out)
  have HE3 := Go.Lib.hid (e4_below HE2.out HB2.out)
  clear x0 x1 x2 x3 x4 x5 x6 x7 x8 x9 x10 x11 hsz1
  obtain ⟨x0, x1, x2, x3, x4, x5, x6, x7, x8, x9, x10, x11⟩ := box12 HX2.out
  have hsz1 : w.heap.size < w2.heap.size := heap_lt HX2.out
  have g1 := e4_arg HE3.out
  have q1 := fun V : World => eql_same V (p 1)
  go_wp2
  go_ret
  exact ⟨rfl, HB02.out⟩

set_option maxRecDepth 100000 in
set_option maxHeartbeats 3200000 in
theorem reply_zero (at_ retry : UInt64) (k : Int) (p1 p2 p3 p4 l1 l2 l3 : UInt64) (p : Nat → Addr) (w : World) (hp : E4 w p) (b : List UInt8) (hs : encR ⟨0, ⟨9, at_, retry, ⟨k, p1, p2, p3, p4⟩, ⟨l1, l2, l3⟩⟩⟩ = (b, 0)) (hd : decR b = (⟨0, ⟨9, at_, retry, ⟨k, p1, p2, p3, p4⟩, ⟨l1, l2, l3⟩⟩⟩, 0)) (h1 : 2 ≤ b.length) (h256 : b.length ≤ 256) (u v : UInt8) (hu : b[0]? = some u) (hv : b[1]? = some v) (huo : n8 u = 0) (hvo : n8 v = 9) :
    Calls Tryd.prog 6 #[.agg (ansA ⟨0, ⟨9, at_, retry, ⟨k, p1, p2, p3, p4⟩, ⟨l1, l2, l3⟩⟩⟩)] w fun e w' => e = .returned (.bool true) ∧ Below w.heap.size w w' := by
  have HENC := fun V hV => encR_ok_calls ⟨0, ⟨9, at_, retry, ⟨k, p1, p2, p3, p4⟩, ⟨l1, l2, l3⟩⟩⟩ b p V hV hs
  have HDEC := fun V A c hV hA => decR_ok_calls ⟨0, ⟨9, at_, retry, ⟨k, p1, p2, p3, p4⟩, ⟨l1, l2, l3⟩⟩⟩ b p V A c hV (by omega) hA hd
  clear hs hd
  have hbx : Below w.heap.size w (w.alloc (.cells #[.int .i64 0, .int .i64 9, .int .u64 (n64 at_), .int .u64 (n64 retry), .int .i64 k, .int .u64 (n64 p1), .int .u64 (n64 p2), .int .u64 (n64 p3), .int .u64 (n64 p4), .int .u64 (n64 l1), .int .u64 (n64 l2), .int .u64 (n64 l3)] 36)) := (Below.refl _ _).alloc (Nat.le_refl _) _
  have HBX := Go.Lib.hid hbx
  have HX := Go.Lib.hid (heap_here w (.cells #[.int .i64 0, .int .i64 9, .int .u64 (n64 at_), .int .u64 (n64 retry), .int .i64 k, .int .u64 (n64 p1), .int .u64 (n64 p2), .int .u64 (n64 p3), .int .u64 (n64 p4), .int .u64 (n64 l1), .int .u64 (n64 l2), .int .u64 (n64 l3)] 36) w.heap.size rfl)
  have HE1 := Go.Lib.hid (e4_below hp hbx)
  obtain ⟨W, hW⟩ : ∃ W, W = w.alloc (.cells #[.int .i64 0, .int .i64 9, .int .u64 (n64 at_), .int .u64 (n64 retry), .int .i64 k, .int .u64 (n64 p1), .int .u64 (n64 p2), .int .u64 (n64 p3), .int .u64 (n64 p4), .int .u64 (n64 l1), .int .u64 (n64 l2), .int .u64 (n64 l3)] 36) := ⟨_, rfl⟩
  simp only [ansA]
  go_enter Tryd.func6, Tryd.ntmps6
  go_wp2_with fail
  rw [← hW] at HBX HX HE1 ⊢
  clear hW hbx hp
  refine (awake_calls p W HE1.out).mono ?_
  rintro e w1 ⟨rfl, hb1⟩
  have HB1 := Go.Lib.hid (below_then HBX.out hb1)
  have HX1 := Go.Lib.hid (below_heap hb1 HX.out)
  have HE2 := Go.Lib.hid (e4_below HE1.out hb1)
  clear HBX HX HE1 hb1
  obtain ⟨x0, x1, x2, x3, x4, x5, x6, x7, x8, x9, x10, x11⟩ := box12 HX1.out
  have hsz1 : w.heap.size < w1.heap.size := heap_lt HX1.out
  go_wp2_with fail
  refine (HENC w1 HE2.out).mono ?_
  rintro e w2 ⟨A2, c2, rfl, HC2, HB2⟩
  have HB02 := Go.Lib.hid (below_then HB1.out HB2.out)
  have HX2 := Go.Lib.hid (below_heap HB2.out HX1.out)
  have HE3 := Go.Lib.hid (e4_below HE2.out HB2.out)
  clear x0 x1 x2 x3 x4 x5 x6 x7 x8 x9 x10 x11 hsz1
  obtain ⟨x0, x1, x2, x3, x4, x5, x6, x7, x8, x9, x10, x11⟩ := box12 HX2.out
  have hsz1 : w.heap.size < w2.heap.size := heap_lt HX2.out
  have hbn : Below w2.heap.size w2 (w2.alloc (.cells #[] 5)) := (Below.refl _ _).alloc (Nat.le_refl _) _
  have HO3 := Go.Lib.hid (own_fresh (w := w2.alloc (.cells #[] 5)) (b := w2.heap.size) (g := w2.heap.size) (e := 5) (l := []) (heap_here w2 (.cells #[] 5) w2.heap.size rfl) (Nat.le_refl _) 0 rfl (by decide))
  have HB3 := Go.Lib.hid hbn
  have HC3 := Go.Lib.hid (cells_below hbn HC2.out)
  have hroom : (Bs ([] : List UInt8)).length + b.length ≤ 140737488355328 := by simp [Bs]; omega
  have hsz3 : w2.heap.size ≤ (w2.alloc (.cells #[] 5)).heap.size := by simp
  clear hbn
  go_wp2_with (first
    | (at_builtin; (with_reducible refine wpList_append_all (s := .tmp 27) (x := .tmp 28) (t := 37) (e := 5) (z := .int .u8 0) (ht := Tryd.underlying37) (hinfo := info8) (base := w2.heap.size) (v := .slice (some ⟨w2.heap.size, 0, none⟩) 0 0) (vs := Bs []) (hown := HO3.out) (hbase := hsz3) (A := A2) (c := c2) (l := b) (hA := HC3.out) (hroom := hroom) (hgd := rfl) (hz := ?_) (ho := ?_) (hs := ?_) (hx := ?_) (h := ?_)); rfl; rfl; rfl; rfl; intro v4 w4 hown4 hb4; have HO4 := Go.Lib.hid hown4; have HB4 := Go.Lib.hid hb4; clear hown4 hb4))
  obtain ⟨A4, c4, hv4, _, _, hc4⟩ := own_slice HO4.out
  have hbl : (Bs ([] : List UInt8) ++ Bs b).length = b.length := by simp [Bs]
  rw [hbl] at hv4
  subst hv4
  have hb24 := HB3.out.trans HB4.out
  have HB04 := Go.Lib.hid (below_then HB02.out hb24)
  have HX4 := Go.Lib.hid (below_heap hb24 HX2.out)
  have HE4 := Go.Lib.hid (e4_below HE3.out hb24)
  have HC4 := Go.Lib.hid (cells_below hb24 HC2.out)
  clear hb24 x0 x1 x2 x3 x4 x5 x6 x7 x8 x9 x10 x11 HC3 HB3 HB4 HO3 HO4 HC2
  refine (HDEC w4 A4 c4 HE4.out hc4).mono ?_
  rintro e w5 ⟨rfl, HB5⟩
  have HB05 := Go.Lib.hid (below_then HB04.out HB5.out)
  have HX5 := Go.Lib.hid (below_heap HB5.out HX4.out)
  have HC5 := Go.Lib.hid (cells_below HB5.out HC4.out)
  have hb6 : Below w5.heap.size w5 (w5.alloc (.cells #[.int .i64 0, .int .i64 9, .int .u64 (n64 at_), .int .u64 (n64 retry), .int .i64 k, .int .u64 (n64 p1), .int .u64 (n64 p2), .int .u64 (n64 p3), .int .u64 (n64 p4), .int .u64 (n64 l1), .int .u64 (n64 l2), .int .u64 (n64 l3)] 36)) := (Below.refl _ _).alloc (Nat.le_refl _) _
  have HX6 := Go.Lib.hid (below_heap hb6 HX5.out)
  have HC6 := Go.Lib.hid (cells_below hb6 HC5.out)
  have HB06 := Go.Lib.hid (below_then HB05.out hb6)
  have HY6 := Go.Lib.hid (heap_here w5 (.cells #[.int .i64 0, .int .i64 9, .int .u64 (n64 at_), .int .u64 (n64 retry), .int .i64 k, .int .u64 (n64 p1), .int .u64 (n64 p2), .int .u64 (n64 p3), .int .u64 (n64 p4), .int .u64 (n64 l1), .int .u64 (n64 l2), .int .u64 (n64 l3)] 36) w5.heap.size rfl)
  obtain ⟨w6, hw6⟩ : ∃ w6, w6 = w5.alloc (.cells #[.int .i64 0, .int .i64 9, .int .u64 (n64 at_), .int .u64 (n64 retry), .int .i64 k, .int .u64 (n64 p1), .int .u64 (n64 p2), .int .u64 (n64 p3), .int .u64 (n64 p4), .int .u64 (n64 l1), .int .u64 (n64 l2), .int .u64 (n64 l3)] 36) := ⟨_, rfl⟩
  rw [← hw6] at HX6 HC6 HB06 HY6
  clear hb6 HX5 HC5 HB05 HX4 HC4 HE4 HB04 hc4
  simp only [ansA]
  go_wp2
  rw [← hw6]
  clear hw6
  obtain ⟨x0, x1, x2, x3, x4, x5, x6, x7, x8, x9, x10, x11⟩ := box12 HX6.out
  obtain ⟨y0, y1, y2, y3, y4, y5, y6, y7, y8, y9, y10, y11⟩ := box12 HY6.out
  have z0 := heap_frozen HX6.out
  have z1 := heap_frozen HY6.out
  have hlx := heap_lt HX6.out
  have hly := heap_lt HY6.out
  have hq : ∀ V : World, (binOp .neq 36 (.agg #[.int .i64 0, .int .i64 9, .int .u64 (n64 at_), .int .u64 (n64 retry), .int .i64 k, .int .u64 (n64 p1), .int .u64 (n64 p2), .int .u64 (n64 p3), .int .u64 (n64 p4), .int .u64 (n64 l1), .int .u64 (n64 l2), .int .u64 (n64 l3)]) (.agg #[.int .i64 0, .int .i64 9, .int .u64 (n64 at_), .int .u64 (n64 retry), .int .i64 k, .int .u64 (n64 p1), .int .u64 (n64 p2), .int .u64 (n64 p3), .int .u64 (n64 p4), .int .u64 (n64 l1), .int .u64 (n64 l2), .int .u64 (n64 l3)])).run Tryd.prog V = .ok (.bool false) V := fun V => by have h := neq_ans ⟨0, ⟨9, at_, retry, ⟨k, p1, p2, p3, p4⟩, ⟨l1, l2, l3⟩⟩⟩ ⟨0, ⟨9, at_, retry, ⟨k, p1, p2, p3, p4⟩, ⟨l1, l2, l3⟩⟩⟩ V; rwa [beq_self_eq_true, Bool.not_true] at h
  obtain ⟨bb, oo, rfl, hcb⟩ := HC6.out.byte 0 (by omega)
  obtain ⟨bb', oo', hAe, hcc⟩ := HC6.out.byte 1 (by omega)
  obtain ⟨rfl, rfl⟩ : bb = bb' ∧ oo = oo' := by simpa using hAe
  rw [Nat.add_zero] at hcb
  have hbu : b[0]'(by omega) = u := by rw [List.getElem?_eq_getElem (by omega)] at hu; exact Option.some.inj hu
  have hbv : b[1]'(by omega) = v := by rw [List.getElem?_eq_getElem (by omega)] at hv; exact Option.some.inj hv
  rw [hbu, huo] at hcb
  rw [hbv, hvo] at hcc
  clear hbu hu huo hbv hv hvo hAe
  have g2 : ¬ ((b.length : Int) < 2) := by omega
  have g3 : (0 : Int) < (b.length : Int) := by omega
  have g4 : (1 : Int) < (b.length : Int) := by omega
  go_quiet (fail)
  go_wp2
  go_ret
  exact ⟨by first | rfl | (simp [q0, q9]; done) | (simp; done), HB06.out.trans (below_drewN _ _ _)⟩

set_option maxRecDepth 100000 in
set_option maxHeartbeats 3200000 in
theorem reply_one (at_ retry : UInt64) (k : Int) (p1 p2 p3 p4 l1 l2 l3 : UInt64) (p : Nat → Addr) (w : World) (hp : E4 w p) (b : List UInt8) (hs : encR ⟨2, ⟨1, at_, retry, ⟨k, p1, p2, p3, p4⟩, ⟨l1, l2, l3⟩⟩⟩ = (b, 0)) (hd : decR b = (⟨2, ⟨1, at_, retry, ⟨k, p1, p2, p3, p4⟩, ⟨l1, l2, l3⟩⟩⟩, 0)) (h1 : 2 ≤ b.length) (h256 : b.length ≤ 256) (u v : UInt8) (hu : b[0]? = some u) (hv : b[1]? = some v) (huo : n8 u = 2) (hvo : n8 v = 1) :
    Calls Tryd.prog 6 #[.agg (ansA ⟨2, ⟨1, at_, retry, ⟨k, p1, p2, p3, p4⟩, ⟨l1, l2, l3⟩⟩⟩)] w fun e w' => e = .returned (.bool true) ∧ Below w.heap.size w w' := by
  have HENC := fun V hV => encR_ok_calls ⟨2, ⟨1, at_, retry, ⟨k, p1, p2, p3, p4⟩, ⟨l1, l2, l3⟩⟩⟩ b p V hV hs
  have HDEC := fun V A c hV hA => decR_ok_calls ⟨2, ⟨1, at_, retry, ⟨k, p1, p2, p3, p4⟩, ⟨l1, l2, l3⟩⟩⟩ b p V A c hV (by omega) hA hd
  clear hs hd
  have hbx : Below w.heap.size w (w.alloc (.cells #[.int .i64 2, .int .i64 1, .int .u64 (n64 at_), .int .u64 (n64 retry), .int .i64 k, .int .u64 (n64 p1), .int .u64 (n64 p2), .int .u64 (n64 p3), .int .u64 (n64 p4), .int .u64 (n64 l1), .int .u64 (n64 l2), .int .u64 (n64 l3)] 36)) := (Below.refl _ _).alloc (Nat.le_refl _) _
  have HBX := Go.Lib.hid hbx
  have HX := Go.Lib.hid (heap_here w (.cells #[.int .i64 2, .int .i64 1, .int .u64 (n64 at_), .int .u64 (n64 retry), .int .i64 k, .int .u64 (n64 p1), .int .u64 (n64 p2), .int .u64 (n64 p3), .int .u64 (n64 p4), .int .u64 (n64 l1), .int .u64 (n64 l2), .int .u64 (n64 l3)] 36) w.heap.size rfl)
  have HE1 := Go.Lib.hid (e4_below hp hbx)
  obtain ⟨W, hW⟩ : ∃ W, W = w.alloc (.cells #[.int .i64 2, .int .i64 1, .int .u64 (n64 at_), .int .u64 (n64 retry), .int .i64 k, .int .u64 (n64 p1), .int .u64 (n64 p2), .int .u64 (n64 p3), .int .u64 (n64 p4), .int .u64 (n64 l1), .int .u64 (n64 l2), .int .u64 (n64 l3)] 36) := ⟨_, rfl⟩
  simp only [ansA]
  go_enter Tryd.func6, Tryd.ntmps6
  go_wp2_with fail
  rw [← hW] at HBX HX HE1 ⊢
  clear hW hbx hp
  refine (awake_calls p W HE1.out).mono ?_
  rintro e w1 ⟨rfl, hb1⟩
  have HB1 := Go.Lib.hid (below_then HBX.out hb1)
  have HX1 := Go.Lib.hid (below_heap hb1 HX.out)
  have HE2 := Go.Lib.hid (e4_below HE1.out hb1)
  clear HBX HX HE1 hb1
  obtain ⟨x0, x1, x2, x3, x4, x5, x6, x7, x8, x9, x10, x11⟩ := box12 HX1.out
  have hsz1 : w.heap.size < w1.heap.size := heap_lt HX1.out
  go_wp2_with fail
  refine (HENC w1 HE2.out).mono ?_
  rintro e w2 ⟨A2, c2, rfl, HC2, HB2⟩
  have HB02 := Go.Lib.hid (below_then HB1.out HB2.out)
  have HX2 := Go.Lib.hid (below_heap HB2.out HX1.out)
  have HE3 := Go.Lib.hid (e4_below HE2.out HB2.out)
  clear x0 x1 x2 x3 x4 x5 x6 x7 x8 x9 x10 x11 hsz1
  obtain ⟨x0, x1, x2, x3, x4, x5, x6, x7, x8, x9, x10, x11⟩ := box12 HX2.out
  have hsz1 : w.heap.size < w2.heap.size := heap_lt HX2.out
  have hbn : Below w2.heap.size w2 (w2.alloc (.cells #[] 5)) := (Below.refl _ _).alloc (Nat.le_refl _) _
  have HO3 := Go.Lib.hid (own_fresh (w := w2.alloc (.cells #[] 5)) (b := w2.heap.size) (g := w2.heap.size) (e := 5) (l := []) (heap_here w2 (.cells #[] 5) w2.heap.size rfl) (Nat.le_refl _) 0 rfl (by decide))
  have HB3 := Go.Lib.hid hbn
  have HC3 := Go.Lib.hid (cells_below hbn HC2.out)
  have hroom : (Bs ([] : List UInt8)).length + b.length ≤ 140737488355328 := by simp [Bs]; omega
  have hsz3 : w2.heap.size ≤ (w2.alloc (.cells #[] 5)).heap.size := by simp
  clear hbn
  go_wp2_with (first
    | (at_builtin; (with_reducible refine wpList_append_all (s := .tmp 27) (x := .tmp 28) (t := 37) (e := 5) (z := .int .u8 0) (ht := Tryd.underlying37) (hinfo := info8) (base := w2.heap.size) (v := .slice (some ⟨w2.heap.size, 0, none⟩) 0 0) (vs := Bs []) (hown := HO3.out) (hbase := hsz3) (A := A2) (c := c2) (l := b) (hA := HC3.out) (hroom := hroom) (hgd := rfl) (hz := ?_) (ho := ?_) (hs := ?_) (hx := ?_) (h := ?_)); rfl; rfl; rfl; rfl; intro v4 w4 hown4 hb4; have HO4 := Go.Lib.hid hown4; have HB4 := Go.Lib.hid hb4; clear hown4 hb4))
  obtain ⟨A4, c4, hv4, _, _, hc4⟩ := own_slice HO4.out
  have hbl : (Bs ([] : List UInt8) ++ Bs b).length = b.length := by simp [Bs]
  rw [hbl] at hv4
  subst hv4
  have hb24 := HB3.out.trans HB4.out
  have HB04 := Go.Lib.hid (below_then HB02.out hb24)
  have HX4 := Go.Lib.hid (below_heap hb24 HX2.out)
  have HE4 := Go.Lib.hid (e4_below HE3.out hb24)
  have HC4 := Go.Lib.hid (cells_below hb24 HC2.out)
  clear hb24 x0 x1 x2 x3 x4 x5 x6 x7 x8 x9 x10 x11 HC3 HB3 HB4 HO3 HO4 HC2
  refine (HDEC w4 A4 c4 HE4.out hc4).mono ?_
  rintro e w5 ⟨rfl, HB5⟩
  have HB05 := Go.Lib.hid (below_then HB04.out HB5.out)
  have HX5 := Go.Lib.hid (below_heap HB5.out HX4.out)
  have HC5 := Go.Lib.hid (cells_below HB5.out HC4.out)
  have hb6 : Below w5.heap.size w5 (w5.alloc (.cells #[.int .i64 2, .int .i64 1, .int .u64 (n64 at_), .int .u64 (n64 retry), .int .i64 k, .int .u64 (n64 p1), .int .u64 (n64 p2), .int .u64 (n64 p3), .int .u64 (n64 p4), .int .u64 (n64 l1), .int .u64 (n64 l2), .int .u64 (n64 l3)] 36)) := (Below.refl _ _).alloc (Nat.le_refl _) _
  have HX6 := Go.Lib.hid (below_heap hb6 HX5.out)
  have HC6 := Go.Lib.hid (cells_below hb6 HC5.out)
  have HB06 := Go.Lib.hid (below_then HB05.out hb6)
  have HY6 := Go.Lib.hid (heap_here w5 (.cells #[.int .i64 2, .int .i64 1, .int .u64 (n64 at_), .int .u64 (n64 retry), .int .i64 k, .int .u64 (n64 p1), .int .u64 (n64 p2), .int .u64 (n64 p3), .int .u64 (n64 p4), .int .u64 (n64 l1), .int .u64 (n64 l2), .int .u64 (n64 l3)] 36) w5.heap.size rfl)
  obtain ⟨w6, hw6⟩ : ∃ w6, w6 = w5.alloc (.cells #[.int .i64 2, .int .i64 1, .int .u64 (n64 at_), .int .u64 (n64 retry), .int .i64 k, .int .u64 (n64 p1), .int .u64 (n64 p2), .int .u64 (n64 p3), .int .u64 (n64 p4), .int .u64 (n64 l1), .int .u64 (n64 l2), .int .u64 (n64 l3)] 36) := ⟨_, rfl⟩
  rw [← hw6] at HX6 HC6 HB06 HY6
  clear hb6 HX5 HC5 HB05 HX4 HC4 HE4 HB04 hc4
  simp only [ansA]
  go_wp2
  rw [← hw6]
  clear hw6
  obtain ⟨x0, x1, x2, x3, x4, x5, x6, x7, x8, x9, x10, x11⟩ := box12 HX6.out
  obtain ⟨y0, y1, y2, y3, y4, y5, y6, y7, y8, y9, y10, y11⟩ := box12 HY6.out
  have z0 := heap_frozen HX6.out
  have z1 := heap_frozen HY6.out
  have hlx := heap_lt HX6.out
  have hly := heap_lt HY6.out
  have hq : ∀ V : World, (binOp .neq 36 (.agg #[.int .i64 2, .int .i64 1, .int .u64 (n64 at_), .int .u64 (n64 retry), .int .i64 k, .int .u64 (n64 p1), .int .u64 (n64 p2), .int .u64 (n64 p3), .int .u64 (n64 p4), .int .u64 (n64 l1), .int .u64 (n64 l2), .int .u64 (n64 l3)]) (.agg #[.int .i64 2, .int .i64 1, .int .u64 (n64 at_), .int .u64 (n64 retry), .int .i64 k, .int .u64 (n64 p1), .int .u64 (n64 p2), .int .u64 (n64 p3), .int .u64 (n64 p4), .int .u64 (n64 l1), .int .u64 (n64 l2), .int .u64 (n64 l3)])).run Tryd.prog V = .ok (.bool false) V := fun V => by have h := neq_ans ⟨2, ⟨1, at_, retry, ⟨k, p1, p2, p3, p4⟩, ⟨l1, l2, l3⟩⟩⟩ ⟨2, ⟨1, at_, retry, ⟨k, p1, p2, p3, p4⟩, ⟨l1, l2, l3⟩⟩⟩ V; rwa [beq_self_eq_true, Bool.not_true] at h
  obtain ⟨bb, oo, rfl, hcb⟩ := HC6.out.byte 0 (by omega)
  obtain ⟨bb', oo', hAe, hcc⟩ := HC6.out.byte 1 (by omega)
  obtain ⟨rfl, rfl⟩ : bb = bb' ∧ oo = oo' := by simpa using hAe
  rw [Nat.add_zero] at hcb
  have hbu : b[0]'(by omega) = u := by rw [List.getElem?_eq_getElem (by omega)] at hu; exact Option.some.inj hu
  have hbv : b[1]'(by omega) = v := by rw [List.getElem?_eq_getElem (by omega)] at hv; exact Option.some.inj hv
  rw [hbu, huo] at hcb
  rw [hbv, hvo] at hcc
  clear hbu hu huo hbv hv hvo hAe
  have g2 : ¬ ((b.length : Int) < 2) := by omega
  have g3 : (0 : Int) < (b.length : Int) := by omega
  have g4 : (1 : Int) < (b.length : Int) := by omega
  go_quiet (fail)
  go_wp2
  go_ret
  exact ⟨by first | rfl | (simp [q0, q9]; done) | (simp; done), HB06.out.trans (below_drewN _ _ _)⟩

set_option maxRecDepth 100000 in
set_option maxHeartbeats 3200000 in
theorem reply_gen (op code : Int) (at_ retry : UInt64) (k : Int) (p1 p2 p3 p4 l1 l2 l3 : UInt64) (p : Nat → Addr) (w : World) (hp : E4 w p) (b : List UInt8) (hs : encR ⟨op, ⟨code, at_, retry, ⟨k, p1, p2, p3, p4⟩, ⟨l1, l2, l3⟩⟩⟩ = (b, 0)) (hd : decR b = (⟨op, ⟨code, at_, retry, ⟨k, p1, p2, p3, p4⟩, ⟨l1, l2, l3⟩⟩⟩, 0)) (h1 : 2 ≤ b.length) (h256 : b.length ≤ 256) (u v : UInt8) (hu : b[0]? = some u) (hv : b[1]? = some v) (huo : n8 u = op) (hvo : n8 v = code) (q0 : (op == 0) = false) (q9 : (code == 9) = false) (q1 : (code == 1) = false) (o1 : 0 ≤ op) (o2 : op ≤ 5) (c1 : 0 ≤ code) (c2' : code ≤ 9) :
    Calls Tryd.prog 6 #[.agg (ansA ⟨op, ⟨code, at_, retry, ⟨k, p1, p2, p3, p4⟩, ⟨l1, l2, l3⟩⟩⟩)] w fun e w' => e = .returned (.bool true) ∧ Below w.heap.size w w' := by
  have HENC := fun V hV => encR_ok_calls ⟨op, ⟨code, at_, retry, ⟨k, p1, p2, p3, p4⟩, ⟨l1, l2, l3⟩⟩⟩ b p V hV hs
  have HDEC := fun V A c hV hA => decR_ok_calls ⟨op, ⟨code, at_, retry, ⟨k, p1, p2, p3, p4⟩, ⟨l1, l2, l3⟩⟩⟩ b p V A c hV (by omega) hA hd
  clear hs hd
  have hbx : Below w.heap.size w (w.alloc (.cells #[.int .i64 op, .int .i64 code, .int .u64 (n64 at_), .int .u64 (n64 retry), .int .i64 k, .int .u64 (n64 p1), .int .u64 (n64 p2), .int .u64 (n64 p3), .int .u64 (n64 p4), .int .u64 (n64 l1), .int .u64 (n64 l2), .int .u64 (n64 l3)] 36)) := (Below.refl _ _).alloc (Nat.le_refl _) _
  have HBX := Go.Lib.hid hbx
  have HX := Go.Lib.hid (heap_here w (.cells #[.int .i64 op, .int .i64 code, .int .u64 (n64 at_), .int .u64 (n64 retry), .int .i64 k, .int .u64 (n64 p1), .int .u64 (n64 p2), .int .u64 (n64 p3), .int .u64 (n64 p4), .int .u64 (n64 l1), .int .u64 (n64 l2), .int .u64 (n64 l3)] 36) w.heap.size rfl)
  have HE1 := Go.Lib.hid (e4_below hp hbx)
  obtain ⟨W, hW⟩ : ∃ W, W = w.alloc (.cells #[.int .i64 op, .int .i64 code, .int .u64 (n64 at_), .int .u64 (n64 retry), .int .i64 k, .int .u64 (n64 p1), .int .u64 (n64 p2), .int .u64 (n64 p3), .int .u64 (n64 p4), .int .u64 (n64 l1), .int .u64 (n64 l2), .int .u64 (n64 l3)] 36) := ⟨_, rfl⟩
  simp only [ansA]
  go_enter Tryd.func6, Tryd.ntmps6
  go_wp2_with fail
  rw [← hW] at HBX HX HE1 ⊢
  clear hW hbx hp
  refine (awake_calls p W HE1.out).mono ?_
  rintro e w1 ⟨rfl, hb1⟩
  have HB1 := Go.Lib.hid (below_then HBX.out hb1)
  have HX1 := Go.Lib.hid (below_heap hb1 HX.out)
  have HE2 := Go.Lib.hid (e4_below HE1.out hb1)
  clear HBX HX HE1 hb1
  obtain ⟨x0, x1, x2, x3, x4, x5, x6, x7, x8, x9, x10, x11⟩ := box12 HX1.out
  have hsz1 : w.heap.size < w1.heap.size := heap_lt HX1.out
  go_wp2_with fail
  refine (HENC w1 HE2.out).mono ?_
  rintro e w2 ⟨A2, c2, rfl, HC2, HB2⟩
  have HB02 := Go.Lib.hid (below_then HB1.out HB2.out)
  have HX2 := Go.Lib.hid (below_heap HB2.out HX1.out)
  have HE3 := Go.Lib.hid (e4_below HE2.out HB2.out)
  clear x0 x1 x2 x3 x4 x5 x6 x7 x8 x9 x10 x11 hsz1
  obtain ⟨x0, x1, x2, x3, x4, x5, x6, x7, x8, x9, x10, x11⟩ := box12 HX2.out
  have hsz1 : w.heap.size < w2.heap.size := heap_lt HX2.out
  have hbn : Below w2.heap.size w2 (w2.alloc (.cells #[] 5)) := (Below.refl _ _).alloc (Nat.le_refl _) _
  have HO3 := Go.Lib.hid (own_fresh (w := w2.alloc (.cells #[] 5)) (b := w2.heap.size) (g := w2.heap.size) (e := 5) (l := []) (heap_here w2 (.cells #[] 5) w2.heap.size rfl) (Nat.le_refl _) 0 rfl (by decide))
  have HB3 := Go.Lib.hid hbn
  have HC3 := Go.Lib.hid (cells_below hbn HC2.out)
  have hroom : (Bs ([] : List UInt8)).length + b.length ≤ 140737488355328 := by simp [Bs]; omega
  have hsz3 : w2.heap.size ≤ (w2.alloc (.cells #[] 5)).heap.size := by simp
  clear hbn
  go_wp2_with (first
    | (at_builtin; (with_reducible refine wpList_append_all (s := .tmp 27) (x := .tmp 28) (t := 37) (e := 5) (z := .int .u8 0) (ht := Tryd.underlying37) (hinfo := info8) (base := w2.heap.size) (v := .slice (some ⟨w2.heap.size, 0, none⟩) 0 0) (vs := Bs []) (hown := HO3.out) (hbase := hsz3) (A := A2) (c := c2) (l := b) (hA := HC3.out) (hroom := hroom) (hgd := rfl) (hz := ?_) (ho := ?_) (hs := ?_) (hx := ?_) (h := ?_)); rfl; rfl; rfl; rfl; intro v4 w4 hown4 hb4; have HO4 := Go.Lib.hid hown4; have HB4 := Go.Lib.hid hb4; clear hown4 hb4))
  obtain ⟨A4, c4, hv4, _, _, hc4⟩ := own_slice HO4.out
  have hbl : (Bs ([] : List UInt8) ++ Bs b).length = b.length := by simp [Bs]
  rw [hbl] at hv4
  subst hv4
  have hb24 := HB3.out.trans HB4.out
  have HB04 := Go.Lib.hid (below_then HB02.out hb24)
  have HX4 := Go.Lib.hid (below_heap hb24 HX2.out)
  have HE4 := Go.Lib.hid (e4_below HE3.out hb24)
  have HC4 := Go.Lib.hid (cells_below hb24 HC2.out)
  clear hb24 x0 x1 x2 x3 x4 x5 x6 x7 x8 x9 x10 x11 HC3 HB3 HB4 HO3 HO4 HC2
  refine (HDEC w4 A4 c4 HE4.out hc4).mono ?_
  rintro e w5 ⟨rfl, HB5⟩
  have HB05 := Go.Lib.hid (below_then HB04.out HB5.out)
  have HX5 := Go.Lib.hid (below_heap HB5.out HX4.out)
  have HC5 := Go.Lib.hid (cells_below HB5.out HC4.out)
  have hb6 : Below w5.heap.size w5 (w5.alloc (.cells #[.int .i64 op, .int .i64 code, .int .u64 (n64 at_), .int .u64 (n64 retry), .int .i64 k, .int .u64 (n64 p1), .int .u64 (n64 p2), .int .u64 (n64 p3), .int .u64 (n64 p4), .int .u64 (n64 l1), .int .u64 (n64 l2), .int .u64 (n64 l3)] 36)) := (Below.refl _ _).alloc (Nat.le_refl _) _
  have HX6 := Go.Lib.hid (below_heap hb6 HX5.out)
  have HC6 := Go.Lib.hid (cells_below hb6 HC5.out)
  have HB06 := Go.Lib.hid (below_then HB05.out hb6)
  have HY6 := Go.Lib.hid (heap_here w5 (.cells #[.int .i64 op, .int .i64 code, .int .u64 (n64 at_), .int .u64 (n64 retry), .int .i64 k, .int .u64 (n64 p1), .int .u64 (n64 p2), .int .u64 (n64 p3), .int .u64 (n64 p4), .int .u64 (n64 l1), .int .u64 (n64 l2), .int .u64 (n64 l3)] 36) w5.heap.size rfl)
  obtain ⟨w6, hw6⟩ : ∃ w6, w6 = w5.alloc (.cells #[.int .i64 op, .int .i64 code, .int .u64 (n64 at_), .int .u64 (n64 retry), .int .i64 k, .int .u64 (n64 p1), .int .u64 (n64 p2), .int .u64 (n64 p3), .int .u64 (n64 p4), .int .u64 (n64 l1), .int .u64 (n64 l2), .int .u64 (n64 l3)] 36) := ⟨_, rfl⟩
  rw [← hw6] at HX6 HC6 HB06 HY6
  clear hb6 HX5 HC5 HB05 HX4 HC4 HE4 HB04 hc4
  simp only [ansA]
  go_wp2
  rw [← hw6]
  clear hw6
  obtain ⟨x0, x1, x2, x3, x4, x5, x6, x7, x8, x9, x10, x11⟩ := box12 HX6.out
  obtain ⟨y0, y1, y2, y3, y4, y5, y6, y7, y8, y9, y10, y11⟩ := box12 HY6.out
  have z0 := heap_frozen HX6.out
  have z1 := heap_frozen HY6.out
  have hlx := heap_lt HX6.out
  have hly := heap_lt HY6.out
  have hq : ∀ V : World, (binOp .neq 36 (.agg #[.int .i64 op, .int .i64 code, .int .u64 (n64 at_), .int .u64 (n64 retry), .int .i64 k, .int .u64 (n64 p1), .int .u64 (n64 p2), .int .u64 (n64 p3), .int .u64 (n64 p4), .int .u64 (n64 l1), .int .u64 (n64 l2), .int .u64 (n64 l3)]) (.agg #[.int .i64 op, .int .i64 code, .int .u64 (n64 at_), .int .u64 (n64 retry), .int .i64 k, .int .u64 (n64 p1), .int .u64 (n64 p2), .int .u64 (n64 p3), .int .u64 (n64 p4), .int .u64 (n64 l1), .int .u64 (n64 l2), .int .u64 (n64 l3)])).run Tryd.prog V = .ok (.bool false) V := fun V => by have h := neq_ans ⟨op, ⟨code, at_, retry, ⟨k, p1, p2, p3, p4⟩, ⟨l1, l2, l3⟩⟩⟩ ⟨op, ⟨code, at_, retry, ⟨k, p1, p2, p3, p4⟩, ⟨l1, l2, l3⟩⟩⟩ V; rwa [beq_self_eq_true, Bool.not_true] at h
  obtain ⟨bb, oo, rfl, hcb⟩ := HC6.out.byte 0 (by omega)
  obtain ⟨bb', oo', hAe, hcc⟩ := HC6.out.byte 1 (by omega)
  obtain ⟨rfl, rfl⟩ : bb = bb' ∧ oo = oo' := by simpa using hAe
  rw [Nat.add_zero] at hcb
  have hbu : b[0]'(by omega) = u := by rw [List.getElem?_eq_getElem (by omega)] at hu; exact Option.some.inj hu
  have hbv : b[1]'(by omega) = v := by rw [List.getElem?_eq_getElem (by omega)] at hv; exact Option.some.inj hv
  rw [hbu, huo] at hcb
  rw [hbv, hvo] at hcc
  clear hbu hu huo hbv hv hvo hAe
  have g2 : ¬ ((b.length : Int) < 2) := by omega
  have g3 : (0 : Int) < (b.length : Int) := by omega
  have g4 : (1 : Int) < (b.length : Int) := by omega
  have hw1 : wrap64 op = op := by unfold wrap64; omega
  have hw2 : wrap64 code = code := by unfold wrap64; omega
  have q1' : (code != 1) = true := by rw [bne, q1]; rfl
  go_quiet (fail)
  go_wp2
  go_ret
  exact ⟨by first | rfl | (simp [q0, q9]; done) | (simp; done), HB06.out.trans (below_drewN _ _ _)⟩

theorem reply_calls (a : Ans) (p : Nat → Addr) (w : World) (hp : E4 w p) :
    Calls Tryd.prog 6 #[.agg (ansA a)] w fun e w' => e = .returned (.bool true) ∧ Below w.heap.size w w' := by
  have hc := encR_cases a
  obtain ⟨op, ⟨code, at_, retry, ⟨k, p1, p2, p3, p4⟩, ⟨l1, l2, l3⟩⟩⟩ := a
  rcases hc with h | ⟨he, hs⟩
  · exact reply_err op code at_ retry k p1 p2 p3 p4 l1 l2 l3 p w hp h
  obtain ⟨hpr, _, _⟩ := sayA_parts _ hs
  obtain ⟨o, c, ho, hc, ho5, hc9, h09, h12⟩ := pair_nat _ _ hpr
  simp only at ho hc
  subst ho; subst hc
  have hb := decR_back _ hs
  have hle := encRBody_le ⟨(o : Int), ⟨(c : Int), at_, retry, ⟨k, p1, p2, p3, p4⟩, ⟨l1, l2, l3⟩⟩⟩
  have hge : 2 ≤ (encRBody ⟨(o : Int), ⟨(c : Int), at_, retry, ⟨k, p1, p2, p3, p4⟩, ⟨l1, l2, l3⟩⟩⟩).length := by rw [encRBody_length]; omega
  have n1 : n8 (b8 (o : Int)) = (o : Int) := by unfold n8; rw [b8_nat o (by omega)]
  have n2 : n8 (b8 (c : Int)) = (c : Int) := by unfold n8; rw [b8_nat c (by omega)]
  by_cases h0 : o = 0
  · obtain rfl := h0
    obtain rfl := h09.1 rfl
    exact reply_zero at_ retry k p1 p2 p3 p4 l1 l2 l3 p w hp _ he hb hge hle _ _ rfl rfl n1 n2
  by_cases h1 : c = 1
  · obtain rfl := h1
    obtain rfl := h12 rfl
    exact reply_one at_ retry k p1 p2 p3 p4 l1 l2 l3 p w hp _ he hb hge hle _ _ rfl rfl n1 n2
  · refine reply_gen o c at_ retry k p1 p2 p3 p4 l1 l2 l3 p w hp _ he hb hge hle _ _ rfl rfl n1 n2 ?_ ?_ ?_ (by omega) (by omega) (by omega) (by omega)
    · rw [beq_eq_false_iff_ne]; omega
    · rw [beq_eq_false_iff_ne]; intro h; apply h0; apply h09.2; omega
    · rw [beq_eq_false_iff_ne]; omega
end Go.Proofs.YtonfeppenhebjaaDoor
