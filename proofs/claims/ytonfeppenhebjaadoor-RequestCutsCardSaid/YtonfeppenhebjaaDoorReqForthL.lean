/- The law RequestForth walked. (Printed by gen_reqforth.py of this session.) -/
import Derived.Test.YtonfeppenhebjaaDoorReqReplyL
namespace Go.Proofs.YtonfeppenhebjaaDoor
open Go Go.RowKit
set_option linter.unusedVariables false
set_option linter.unusedSimpArgs false
attribute [local go_sem] IntKind.wrap_u64 c64_8 c8_64 c16_64 c32_64 c64_16 c64_32 or8 and8 n64_self n8_self beq_n64 beq_n8 bne_n8 bne_n64 beq_n64_0 bne_n64_0 wrap_b8

theorem dec_err (b : List UInt8) (k : Nat) (p : Nat → Addr) (a : Addr) (ha : errv p k = .iface 105 (.pointer (some a))) (V : World) (A : Option Addr) (c : Nat) (hV : E4 V p) (hl : b.length ≤ 140737488351232) (hA : Cells V A (Bs b)) (h : decS b = (reqZ, k)) :
    Calls Tryd.prog 12 #[.slice A b.length c] V fun e w' => e = .returned (.tuple #[.agg #[.int .i64 0, .string ⟨#[]⟩, .int .i64 0, .int .u64 0, .int .u64 0, .int .u64 0, .int .u64 0, .int .u64 0], .iface 105 (.pointer (some a))]) ∧ Hid (Below V.heap.size V w') := by
  refine (decode_calls A c b p V hV hl hA).mono ?_
  rintro e w' ⟨rfl, hb⟩
  exact ⟨by rw [h, ← ha]; rfl, hb⟩
theorem decR_err (b : List UInt8) (k : Nat) (p : Nat → Addr) (a : Addr) (ha : errv p k = .iface 105 (.pointer (some a))) (V : World) (A : Option Addr) (c : Nat) (hV : E4 V p) (hl : b.length ≤ 140737488351232) (hA : Cells V A (Bs b)) (h : decR b = (ansZ, k)) :
    Calls Tryd.prog 14 #[.slice A b.length c] V fun e w' => e = .returned (.tuple #[.agg #[.int .i64 0, .int .i64 0, .int .u64 0, .int .u64 0, .int .i64 0, .int .u64 0, .int .u64 0, .int .u64 0, .int .u64 0, .int .u64 0, .int .u64 0, .int .u64 0], .iface 105 (.pointer (some a))]) ∧ Hid (Below V.heap.size V w') := by
  refine (decR_calls A c b p V hV hl hA).mono ?_
  rintro e w' ⟨rfl, hb⟩
  exact ⟨by rw [h, ← ha]; rfl, hb⟩
theorem same_true (A B : Option Addr) (c d : Nat) (l : List UInt8) (w : World) (hL : l.length ≤ 16777216) (hA : Cells w A (Bs l)) (hB : Cells w B (Bs l)) :
    Calls Tryd.prog 13 #[.slice A l.length c, .slice B l.length d] w fun e w' => e = .returned (.bool true) ∧ Hid (Below w.heap.size w w') := by
  refine (same_calls A B c d l l w (by omega) hA hB).mono ?_
  rintro e w' ⟨rfl, hb⟩
  exact ⟨by simp, hb⟩

set_option maxRecDepth 100000 in
set_option maxHeartbeats 6400000 in
theorem forth_big (A : Option Addr) (c : Nat) (b : List UInt8) (p : Nat → Addr) (w : World) (hp : E4 w p) (hA : Cells w A (Bs b)) (hl : 16777216 < b.length) :
    Calls Tryd.prog 5 #[.slice A b.length c] w fun e w' => e = .returned (.bool true) ∧ Below w.heap.size w w' := by
  go_enter Tryd.func5, Tryd.ntmps5
  go_wp2_with fail
  refine (awake_calls p w hp).mono ?_
  rintro e w1 ⟨rfl, hb1⟩
  have HB := Go.Lib.hid hb1
  clear hb1 hp hA
  go_wp2
  go_ret
  exact ⟨rfl, HB.out⟩

set_option maxRecDepth 100000 in
set_option maxHeartbeats 6400000 in
theorem forth_22 (A : Option Addr) (c : Nat) (b : List UInt8) (p : Nat → Addr) (w : World) (hp : E4 w p) (hA : Cells w A (Bs b)) (hl : b.length ≤ 16777216) (hap : Apart w (p 2) (p 3)) (hd : decS b = (reqZ, 2)) (hr : decR b = (ansZ, 2)) :
    Calls Tryd.prog 5 #[.slice A b.length c] w fun e w' => e = .returned (.bool true) ∧ Below w.heap.size w w' := by
  have HAP0 := Go.Lib.hid hap
  clear hap
  have HDEC := fun V A c hV hA => dec_err b 2 p (p 2) rfl V A c hV (by omega) hA hd
  clear hd
  have HDEA := fun V A c hV hA => decR_err b 2 p (p 2) rfl V A c hV (by omega) hA hr
  clear hr
  have s2 := fun V : World => neq_same V (p 2)
  have s3 := fun V : World => neq_same V (p 3)
  have r2 := fun V : World => eql_same V (p 2)
  have r3 := fun V : World => eql_same V (p 3)
  have hqr : ∀ V : World, (binOp .neq 30 (.agg #[.int .i64 0, .string ⟨#[]⟩, .int .i64 0, .int .u64 0, .int .u64 0, .int .u64 0, .int .u64 0, .int .u64 0]) (.agg #[.int .i64 0, .string ⟨#[]⟩, .int .i64 0, .int .u64 0, .int .u64 0, .int .u64 0, .int .u64 0, .int .u64 0])).run Tryd.prog V = .ok (.bool false) V := fun V => by have h := neq_req reqZ reqZ V; rwa [beq_self_eq_true, Bool.not_true] at h
  have hqa : ∀ V : World, (binOp .eql 36 (.agg #[.int .i64 0, .int .i64 0, .int .u64 0, .int .u64 0, .int .i64 0, .int .u64 0, .int .u64 0, .int .u64 0, .int .u64 0, .int .u64 0, .int .u64 0, .int .u64 0]) (.agg #[.int .i64 0, .int .i64 0, .int .u64 0, .int .u64 0, .int .i64 0, .int .u64 0, .int .u64 0, .int .u64 0, .int .u64 0, .int .u64 0, .int .u64 0, .int .u64 0])).run Tryd.prog V = .ok (.bool true) V := fun V => by have h := eql_ans ansZ ansZ V; rwa [beq_self_eq_true] at h
  have hbl : (Bs ([] : List UInt8) ++ Bs b).length = b.length := by simp [Bs]
  have hroom : (Bs ([] : List UInt8)).length + b.length ≤ 140737488355328 := by simp [Bs]; omega
  have HHL := Go.Lib.hid hl
  go_enter Tryd.func5, Tryd.ntmps5
  go_wp2_with fail
  refine (awake_calls p w hp).mono ?_
  rintro e w1 ⟨rfl, hb1⟩
  have HB := Go.Lib.hid hb1
  have HE := Go.Lib.hid (e4_below hp hb1)
  have HC := Go.Lib.hid (cells_below hb1 hA)
  clear hb1 hp hA
  have hbn : Below w1.heap.size w1 (w1.alloc (.cells #[] 5)) := (Below.refl _ _).alloc (Nat.le_refl _) _
  have HO3 := Go.Lib.hid (own_fresh (w := w1.alloc (.cells #[] 5)) (b := w1.heap.size) (g := w1.heap.size) (e := 5) (l := []) (heap_here w1 (.cells #[] 5) (w1.heap.size) (by simp)) (by simp) 0 rfl (by decide))
  have HB3 := Go.Lib.hid hbn
  have HC3 := Go.Lib.hid (cells_below hbn HC.out)
  have hsz3 : w1.heap.size ≤ (w1.alloc (.cells #[] 5)).heap.size := by simp
  clear hbn
  go_wp2_with (first
    | (at_builtin; (with_reducible refine wpList_append_all (s := .tmp 21) (x := .tmp 22) (t := 37) (e := 5) (z := .int .u8 0) (ht := Tryd.underlying37) (hinfo := info8) (base := w1.heap.size) (v := .slice (some ⟨w1.heap.size, 0, none⟩) 0 0) (vs := Bs []) (hown := HO3.out) (hbase := hsz3) (A := A) (c := c) (l := b) (hA := HC3.out) (hroom := hroom) (hgd := rfl) (hz := ?_) (ho := ?_) (hs := ?_) (hx := ?_) (h := ?_)); rfl; rfl; rfl; rfl; intro v4 w4 hown4 hb4; have HO4 := Go.Lib.hid hown4; have HB4 := Go.Lib.hid hb4; clear hown4 hb4))
  obtain ⟨A4, c4, hv4, _, _, hc4⟩ := own_slice HO4.out
  rw [hbl] at hv4
  subst hv4
  have hb24 := HB3.out.trans HB4.out
  have HBn := Go.Lib.hid (below_then HB.out hb24)
  have HEn := Go.Lib.hid (e4_below HE.out hb24)
  have HCn := Go.Lib.hid (cells_below hb24 HC.out)
  clear hb24 HB HE HC HC3 HO3 HO4 HB3 HB4 hsz3
  refine (HDEC w4 A4 c4 HEn.out hc4).mono ?_
  rintro e w5 ⟨rfl, HB5⟩
  have HC := Go.Lib.hid (cells_below HB5.out HCn.out)
  have hb6 : Below w5.heap.size w5 (w5.alloc (.cells #[.int .i64 0, .string ⟨#[]⟩, .int .i64 0, .int .u64 0, .int .u64 0, .int .u64 0, .int .u64 0, .int .u64 0] 30)) := (Below.refl _ _).alloc (Nat.le_refl _) _
  have HC6 := Go.Lib.hid (cells_below hb6 HC.out)
  have HB6 := Go.Lib.hid (below_then (below_then HBn.out HB5.out) hb6)
  have HE6 := Go.Lib.hid (e4_below HEn.out (below_then HB5.out hb6))
  have HX := Go.Lib.hid (heap_here w5 (.cells #[.int .i64 0, .string ⟨#[]⟩, .int .i64 0, .int .u64 0, .int .u64 0, .int .u64 0, .int .u64 0, .int .u64 0] 30) w5.heap.size rfl)
  have hlt5 : w5.heap.size < (w5.alloc (.cells #[.int .i64 0, .string ⟨#[]⟩, .int .i64 0, .int .u64 0, .int .u64 0, .int .u64 0, .int .u64 0, .int .u64 0] 30)).heap.size := by simp
  obtain ⟨x0, x1, x2, x3, x4, x5, x6, x7⟩ := box8 HX.out
  clear hb6 HC HBn HB5 HEn HCn hc4
  have e2 := HE6.out 2 (by decide) (by decide)
  have e3 := HE6.out 3 (by decide) (by decide)
  simp only [errG, errv] at e2 e3
  have HAP := Go.Lib.hid (apart_below HAP0.out HB6.out)
  have n32 := neq_other (apart_symm HAP.out)
  have n23 := neq_other HAP.out
  have m32 := eql_other (apart_symm HAP.out)
  have m23 := eql_other HAP.out
  have hfz := heap_frozen HX.out
  have HC := HC6
  have HB := HB6
  have HE := HE6
  clear HC6 HB6 HE6
  have hbn : Below (w5.alloc (.cells #[.int .i64 0, .string ⟨#[]⟩, .int .i64 0, .int .u64 0, .int .u64 0, .int .u64 0, .int .u64 0, .int .u64 0] 30)).heap.size (w5.alloc (.cells #[.int .i64 0, .string ⟨#[]⟩, .int .i64 0, .int .u64 0, .int .u64 0, .int .u64 0, .int .u64 0, .int .u64 0] 30)) ((w5.alloc (.cells #[.int .i64 0, .string ⟨#[]⟩, .int .i64 0, .int .u64 0, .int .u64 0, .int .u64 0, .int .u64 0, .int .u64 0] 30)).alloc (.cells #[] 5)) := (Below.refl _ _).alloc (Nat.le_refl _) _
  have HO3 := Go.Lib.hid (own_fresh (w := (w5.alloc (.cells #[.int .i64 0, .string ⟨#[]⟩, .int .i64 0, .int .u64 0, .int .u64 0, .int .u64 0, .int .u64 0, .int .u64 0] 30)).alloc (.cells #[] 5)) (b := (w5.alloc (.cells #[.int .i64 0, .string ⟨#[]⟩, .int .i64 0, .int .u64 0, .int .u64 0, .int .u64 0, .int .u64 0, .int .u64 0] 30)).heap.size) (g := w5.heap.size + 1) (e := 5) (l := []) (heap_here (w5.alloc (.cells #[.int .i64 0, .string ⟨#[]⟩, .int .i64 0, .int .u64 0, .int .u64 0, .int .u64 0, .int .u64 0, .int .u64 0] 30)) (.cells #[] 5) (w5.heap.size + 1) (by simp)) (by simp) 0 rfl (by decide))
  have HB3 := Go.Lib.hid hbn
  have HC3 := Go.Lib.hid (cells_below hbn HC.out)
  have hsz3 : (w5.alloc (.cells #[.int .i64 0, .string ⟨#[]⟩, .int .i64 0, .int .u64 0, .int .u64 0, .int .u64 0, .int .u64 0, .int .u64 0] 30)).heap.size ≤ ((w5.alloc (.cells #[.int .i64 0, .string ⟨#[]⟩, .int .i64 0, .int .u64 0, .int .u64 0, .int .u64 0, .int .u64 0, .int .u64 0] 30)).alloc (.cells #[] 5)).heap.size := by simp
  clear hbn
  go_wp2_with (first
    | (at_builtin; (with_reducible refine wpList_append_all (s := .tmp 60) (x := .tmp 61) (t := 37) (e := 5) (z := .int .u8 0) (ht := Tryd.underlying37) (hinfo := info8) (base := (w5.alloc (.cells #[.int .i64 0, .string ⟨#[]⟩, .int .i64 0, .int .u64 0, .int .u64 0, .int .u64 0, .int .u64 0, .int .u64 0] 30)).heap.size) (v := .slice (some ⟨w5.heap.size + 1, 0, none⟩) 0 0) (vs := Bs []) (hown := HO3.out) (hbase := hsz3) (A := A) (c := c) (l := b) (hA := HC3.out) (hroom := hroom) (hgd := rfl) (hz := ?_) (ho := ?_) (hs := ?_) (hx := ?_) (h := ?_)); rfl; rfl; rfl; rfl; intro v4 w4 hown4 hb4; have HO4 := Go.Lib.hid hown4; have HB4 := Go.Lib.hid hb4; clear hown4 hb4))
  obtain ⟨A4, c4, hv4, _, _, hc4⟩ := own_slice HO4.out
  rw [hbl] at hv4
  subst hv4
  have hb24 := HB3.out.trans HB4.out
  have HBn := Go.Lib.hid (below_then HB.out hb24)
  have HEn := Go.Lib.hid (e4_below HE.out hb24)
  have HCn := Go.Lib.hid (cells_below hb24 HC.out)
  clear hb24 HB HE HC HC3 HO3 HO4 HB3 HB4 hsz3
  clear HX x0 x1 x2 x3 x4 x5 x6 x7 e2 e3 HAP n32 n23 m32 m23 hfz hlt5
  refine (HDEA w4 A4 c4 HEn.out hc4).mono ?_
  rintro e w9 ⟨rfl, HB5⟩
  have HC := Go.Lib.hid (cells_below HB5.out HCn.out)
  have hb6 : Below w9.heap.size w9 (w9.alloc (.cells #[.int .i64 0, .int .i64 0, .int .u64 0, .int .u64 0, .int .i64 0, .int .u64 0, .int .u64 0, .int .u64 0, .int .u64 0, .int .u64 0, .int .u64 0, .int .u64 0] 36)) := (Below.refl _ _).alloc (Nat.le_refl _) _
  have HC6 := Go.Lib.hid (cells_below hb6 HC.out)
  have HB6 := Go.Lib.hid (below_then (below_then HBn.out HB5.out) hb6)
  have HE6 := Go.Lib.hid (e4_below HEn.out (below_then HB5.out hb6))
  have HX := Go.Lib.hid (heap_here w9 (.cells #[.int .i64 0, .int .i64 0, .int .u64 0, .int .u64 0, .int .i64 0, .int .u64 0, .int .u64 0, .int .u64 0, .int .u64 0, .int .u64 0, .int .u64 0, .int .u64 0] 36) w9.heap.size rfl)
  have hlt5 : w9.heap.size < (w9.alloc (.cells #[.int .i64 0, .int .i64 0, .int .u64 0, .int .u64 0, .int .i64 0, .int .u64 0, .int .u64 0, .int .u64 0, .int .u64 0, .int .u64 0, .int .u64 0, .int .u64 0] 36)).heap.size := by simp
  obtain ⟨y0, y1, y2, y3, y4, y5, y6, y7, y8, y9, y10, y11⟩ := box12 HX.out
  clear hb6 HC HBn HB5 HEn HCn hc4
  have e2 := HE6.out 2 (by decide) (by decide)
  have e3 := HE6.out 3 (by decide) (by decide)
  simp only [errG, errv] at e2 e3
  have HAP := Go.Lib.hid (apart_below HAP0.out HB6.out)
  have n32 := neq_other (apart_symm HAP.out)
  have n23 := neq_other HAP.out
  have m32 := eql_other (apart_symm HAP.out)
  have m23 := eql_other HAP.out
  have hfz := heap_frozen HX.out
  go_wp2
  go_ret
  exact ⟨rfl, HB6.out⟩

set_option maxRecDepth 100000 in
set_option maxHeartbeats 6400000 in
theorem forth_23 (A : Option Addr) (c : Nat) (b : List UInt8) (p : Nat → Addr) (w : World) (hp : E4 w p) (hA : Cells w A (Bs b)) (hl : b.length ≤ 16777216) (hap : Apart w (p 2) (p 3)) (hd : decS b = (reqZ, 2)) (hr : decR b = (ansZ, 3)) :
    Calls Tryd.prog 5 #[.slice A b.length c] w fun e w' => e = .returned (.bool true) ∧ Below w.heap.size w w' := by
  have HAP0 := Go.Lib.hid hap
  clear hap
  have HDEC := fun V A c hV hA => dec_err b 2 p (p 2) rfl V A c hV (by omega) hA hd
  clear hd
  have HDEA := fun V A c hV hA => decR_err b 3 p (p 3) rfl V A c hV (by omega) hA hr
  clear hr
  have s2 := fun V : World => neq_same V (p 2)
  have s3 := fun V : World => neq_same V (p 3)
  have r2 := fun V : World => eql_same V (p 2)
  have r3 := fun V : World => eql_same V (p 3)
  have hqr : ∀ V : World, (binOp .neq 30 (.agg #[.int .i64 0, .string ⟨#[]⟩, .int .i64 0, .int .u64 0, .int .u64 0, .int .u64 0, .int .u64 0, .int .u64 0]) (.agg #[.int .i64 0, .string ⟨#[]⟩, .int .i64 0, .int .u64 0, .int .u64 0, .int .u64 0, .int .u64 0, .int .u64 0])).run Tryd.prog V = .ok (.bool false) V := fun V => by have h := neq_req reqZ reqZ V; rwa [beq_self_eq_true, Bool.not_true] at h
  have hqa : ∀ V : World, (binOp .eql 36 (.agg #[.int .i64 0, .int .i64 0, .int .u64 0, .int .u64 0, .int .i64 0, .int .u64 0, .int .u64 0, .int .u64 0, .int .u64 0, .int .u64 0, .int .u64 0, .int .u64 0]) (.agg #[.int .i64 0, .int .i64 0, .int .u64 0, .int .u64 0, .int .i64 0, .int .u64 0, .int .u64 0, .int .u64 0, .int .u64 0, .int .u64 0, .int .u64 0, .int .u64 0])).run Tryd.prog V = .ok (.bool true) V := fun V => by have h := eql_ans ansZ ansZ V; rwa [beq_self_eq_true] at h
  have hbl : (Bs ([] : List UInt8) ++ Bs b).length = b.length := by simp [Bs]
  have hroom : (Bs ([] : List UInt8)).length + b.length ≤ 140737488355328 := by simp [Bs]; omega
  have HHL := Go.Lib.hid hl
  go_enter Tryd.func5, Tryd.ntmps5
  go_wp2_with fail
  refine (awake_calls p w hp).mono ?_
  rintro e w1 ⟨rfl, hb1⟩
  have HB := Go.Lib.hid hb1
  have HE := Go.Lib.hid (e4_below hp hb1)
  have HC := Go.Lib.hid (cells_below hb1 hA)
  clear hb1 hp hA
  have hbn : Below w1.heap.size w1 (w1.alloc (.cells #[] 5)) := (Below.refl _ _).alloc (Nat.le_refl _) _
  have HO3 := Go.Lib.hid (own_fresh (w := w1.alloc (.cells #[] 5)) (b := w1.heap.size) (g := w1.heap.size) (e := 5) (l := []) (heap_here w1 (.cells #[] 5) (w1.heap.size) (by simp)) (by simp) 0 rfl (by decide))
  have HB3 := Go.Lib.hid hbn
  have HC3 := Go.Lib.hid (cells_below hbn HC.out)
  have hsz3 : w1.heap.size ≤ (w1.alloc (.cells #[] 5)).heap.size := by simp
  clear hbn
  go_wp2_with (first
    | (at_builtin; (with_reducible refine wpList_append_all (s := .tmp 21) (x := .tmp 22) (t := 37) (e := 5) (z := .int .u8 0) (ht := Tryd.underlying37) (hinfo := info8) (base := w1.heap.size) (v := .slice (some ⟨w1.heap.size, 0, none⟩) 0 0) (vs := Bs []) (hown := HO3.out) (hbase := hsz3) (A := A) (c := c) (l := b) (hA := HC3.out) (hroom := hroom) (hgd := rfl) (hz := ?_) (ho := ?_) (hs := ?_) (hx := ?_) (h := ?_)); rfl; rfl; rfl; rfl; intro v4 w4 hown4 hb4; have HO4 := Go.Lib.hid hown4; have HB4 := Go.Lib.hid hb4; clear hown4 hb4))
  obtain ⟨A4, c4, hv4, _, _, hc4⟩ := own_slice HO4.out
  rw [hbl] at hv4
  subst hv4
  have hb24 := HB3.out.trans HB4.out
  have HBn := Go.Lib.hid (below_then HB.out hb24)
  have HEn := Go.Lib.hid (e4_below HE.out hb24)
  have HCn := Go.Lib.hid (cells_below hb24 HC.out)
  clear hb24 HB HE HC HC3 HO3 HO4 HB3 HB4 hsz3
  refine (HDEC w4 A4 c4 HEn.out hc4).mono ?_
  rintro e w5 ⟨rfl, HB5⟩
  have HC := Go.Lib.hid (cells_below HB5.out HCn.out)
  have hb6 : Below w5.heap.size w5 (w5.alloc (.cells #[.int .i64 0, .string ⟨#[]⟩, .int .i64 0, .int .u64 0, .int .u64 0, .int .u64 0, .int .u64 0, .int .u64 0] 30)) := (Below.refl _ _).alloc (Nat.le_refl _) _
  have HC6 := Go.Lib.hid (cells_below hb6 HC.out)
  have HB6 := Go.Lib.hid (below_then (below_then HBn.out HB5.out) hb6)
  have HE6 := Go.Lib.hid (e4_below HEn.out (below_then HB5.out hb6))
  have HX := Go.Lib.hid (heap_here w5 (.cells #[.int .i64 0, .string ⟨#[]⟩, .int .i64 0, .int .u64 0, .int .u64 0, .int .u64 0, .int .u64 0, .int .u64 0] 30) w5.heap.size rfl)
  have hlt5 : w5.heap.size < (w5.alloc (.cells #[.int .i64 0, .string ⟨#[]⟩, .int .i64 0, .int .u64 0, .int .u64 0, .int .u64 0, .int .u64 0, .int .u64 0] 30)).heap.size := by simp
  obtain ⟨x0, x1, x2, x3, x4, x5, x6, x7⟩ := box8 HX.out
  clear hb6 HC HBn HB5 HEn HCn hc4
  have e2 := HE6.out 2 (by decide) (by decide)
  have e3 := HE6.out 3 (by decide) (by decide)
  simp only [errG, errv] at e2 e3
  have HAP := Go.Lib.hid (apart_below HAP0.out HB6.out)
  have n32 := neq_other (apart_symm HAP.out)
  have n23 := neq_other HAP.out
  have m32 := eql_other (apart_symm HAP.out)
  have m23 := eql_other HAP.out
  have hfz := heap_frozen HX.out
  have HC := HC6
  have HB := HB6
  have HE := HE6
  clear HC6 HB6 HE6
  have hbn : Below (w5.alloc (.cells #[.int .i64 0, .string ⟨#[]⟩, .int .i64 0, .int .u64 0, .int .u64 0, .int .u64 0, .int .u64 0, .int .u64 0] 30)).heap.size (w5.alloc (.cells #[.int .i64 0, .string ⟨#[]⟩, .int .i64 0, .int .u64 0, .int .u64 0, .int .u64 0, .int .u64 0, .int .u64 0] 30)) ((w5.alloc (.cells #[.int .i64 0, .string ⟨#[]⟩, .int .i64 0, .int .u64 0, .int .u64 0, .int .u64 0, .int .u64 0, .int .u64 0] 30)).alloc (.cells #[] 5)) := (Below.refl _ _).alloc (Nat.le_refl _) _
  have HO3 := Go.Lib.hid (own_fresh (w := (w5.alloc (.cells #[.int .i64 0, .string ⟨#[]⟩, .int .i64 0, .int .u64 0, .int .u64 0, .int .u64 0, .int .u64 0, .int .u64 0] 30)).alloc (.cells #[] 5)) (b := (w5.alloc (.cells #[.int .i64 0, .string ⟨#[]⟩, .int .i64 0, .int .u64 0, .int .u64 0, .int .u64 0, .int .u64 0, .int .u64 0] 30)).heap.size) (g := w5.heap.size + 1) (e := 5) (l := []) (heap_here (w5.alloc (.cells #[.int .i64 0, .string ⟨#[]⟩, .int .i64 0, .int .u64 0, .int .u64 0, .int .u64 0, .int .u64 0, .int .u64 0] 30)) (.cells #[] 5) (w5.heap.size + 1) (by simp)) (by simp) 0 rfl (by decide))
  have HB3 := Go.Lib.hid hbn
  have HC3 := Go.Lib.hid (cells_below hbn HC.out)
  have hsz3 : (w5.alloc (.cells #[.int .i64 0, .string ⟨#[]⟩, .int .i64 0, .int .u64 0, .int .u64 0, .int .u64 0, .int .u64 0, .int .u64 0] 30)).heap.size ≤ ((w5.alloc (.cells #[.int .i64 0, .string ⟨#[]⟩, .int .i64 0, .int .u64 0, .int .u64 0, .int .u64 0, .int .u64 0, .int .u64 0] 30)).alloc (.cells #[] 5)).heap.size := by simp
  clear hbn
  go_wp2_with (first
    | (at_builtin; (with_reducible refine wpList_append_all (s := .tmp 60) (x := .tmp 61) (t := 37) (e := 5) (z := .int .u8 0) (ht := Tryd.underlying37) (hinfo := info8) (base := (w5.alloc (.cells #[.int .i64 0, .string ⟨#[]⟩, .int .i64 0, .int .u64 0, .int .u64 0, .int .u64 0, .int .u64 0, .int .u64 0] 30)).heap.size) (v := .slice (some ⟨w5.heap.size + 1, 0, none⟩) 0 0) (vs := Bs []) (hown := HO3.out) (hbase := hsz3) (A := A) (c := c) (l := b) (hA := HC3.out) (hroom := hroom) (hgd := rfl) (hz := ?_) (ho := ?_) (hs := ?_) (hx := ?_) (h := ?_)); rfl; rfl; rfl; rfl; intro v4 w4 hown4 hb4; have HO4 := Go.Lib.hid hown4; have HB4 := Go.Lib.hid hb4; clear hown4 hb4))
  obtain ⟨A4, c4, hv4, _, _, hc4⟩ := own_slice HO4.out
  rw [hbl] at hv4
  subst hv4
  have hb24 := HB3.out.trans HB4.out
  have HBn := Go.Lib.hid (below_then HB.out hb24)
  have HEn := Go.Lib.hid (e4_below HE.out hb24)
  have HCn := Go.Lib.hid (cells_below hb24 HC.out)
  clear hb24 HB HE HC HC3 HO3 HO4 HB3 HB4 hsz3
  clear HX x0 x1 x2 x3 x4 x5 x6 x7 e2 e3 HAP n32 n23 m32 m23 hfz hlt5
  refine (HDEA w4 A4 c4 HEn.out hc4).mono ?_
  rintro e w9 ⟨rfl, HB5⟩
  have HC := Go.Lib.hid (cells_below HB5.out HCn.out)
  have hb6 : Below w9.heap.size w9 (w9.alloc (.cells #[.int .i64 0, .int .i64 0, .int .u64 0, .int .u64 0, .int .i64 0, .int .u64 0, .int .u64 0, .int .u64 0, .int .u64 0, .int .u64 0, .int .u64 0, .int .u64 0] 36)) := (Below.refl _ _).alloc (Nat.le_refl _) _
  have HC6 := Go.Lib.hid (cells_below hb6 HC.out)
  have HB6 := Go.Lib.hid (below_then (below_then HBn.out HB5.out) hb6)
  have HE6 := Go.Lib.hid (e4_below HEn.out (below_then HB5.out hb6))
  have HX := Go.Lib.hid (heap_here w9 (.cells #[.int .i64 0, .int .i64 0, .int .u64 0, .int .u64 0, .int .i64 0, .int .u64 0, .int .u64 0, .int .u64 0, .int .u64 0, .int .u64 0, .int .u64 0, .int .u64 0] 36) w9.heap.size rfl)
  have hlt5 : w9.heap.size < (w9.alloc (.cells #[.int .i64 0, .int .i64 0, .int .u64 0, .int .u64 0, .int .i64 0, .int .u64 0, .int .u64 0, .int .u64 0, .int .u64 0, .int .u64 0, .int .u64 0, .int .u64 0] 36)).heap.size := by simp
  obtain ⟨y0, y1, y2, y3, y4, y5, y6, y7, y8, y9, y10, y11⟩ := box12 HX.out
  clear hb6 HC HBn HB5 HEn HCn hc4
  have e2 := HE6.out 2 (by decide) (by decide)
  have e3 := HE6.out 3 (by decide) (by decide)
  simp only [errG, errv] at e2 e3
  have HAP := Go.Lib.hid (apart_below HAP0.out HB6.out)
  have n32 := neq_other (apart_symm HAP.out)
  have n23 := neq_other HAP.out
  have m32 := eql_other (apart_symm HAP.out)
  have m23 := eql_other HAP.out
  have hfz := heap_frozen HX.out
  go_wp2
  go_ret
  exact ⟨rfl, HB6.out⟩

set_option maxRecDepth 100000 in
set_option maxHeartbeats 6400000 in
theorem forth_20 (aop code : Int) (at_ retry : UInt64) (k : Int) (p1 p2 p3 p4 l1 l2 l3 : UInt64) (A : Option Addr) (c : Nat) (b : List UInt8) (p : Nat → Addr) (w : World) (hp : E4 w p) (hA : Cells w A (Bs b)) (hl : b.length ≤ 16777216) (hap : Apart w (p 2) (p 3)) (hd : decS b = (reqZ, 2)) (hr : decR b = (⟨aop, ⟨code, at_, retry, ⟨k, p1, p2, p3, p4⟩, ⟨l1, l2, l3⟩⟩⟩, 0)) (hsr : encR ⟨aop, ⟨code, at_, retry, ⟨k, p1, p2, p3, p4⟩, ⟨l1, l2, l3⟩⟩⟩ = (b, 0)) :
    Calls Tryd.prog 5 #[.slice A b.length c] w fun e w' => e = .returned (.bool true) ∧ Below w.heap.size w w' := by
  have HAP0 := Go.Lib.hid hap
  clear hap
  have HDEC := fun V A c hV hA => dec_err b 2 p (p 2) rfl V A c hV (by omega) hA hd
  clear hd
  have HDEA := fun V A c hV hA => decR_ok_calls ⟨aop, ⟨code, at_, retry, ⟨k, p1, p2, p3, p4⟩, ⟨l1, l2, l3⟩⟩⟩ b p V A c hV (by omega) hA hr
  have HENA := fun V hV => encR_ok_calls ⟨aop, ⟨code, at_, retry, ⟨k, p1, p2, p3, p4⟩, ⟨l1, l2, l3⟩⟩⟩ b p V hV hsr
  clear hr hsr
  have s2 := fun V : World => neq_same V (p 2)
  have s3 := fun V : World => neq_same V (p 3)
  have r2 := fun V : World => eql_same V (p 2)
  have r3 := fun V : World => eql_same V (p 3)
  have hqr : ∀ V : World, (binOp .neq 30 (.agg #[.int .i64 0, .string ⟨#[]⟩, .int .i64 0, .int .u64 0, .int .u64 0, .int .u64 0, .int .u64 0, .int .u64 0]) (.agg #[.int .i64 0, .string ⟨#[]⟩, .int .i64 0, .int .u64 0, .int .u64 0, .int .u64 0, .int .u64 0, .int .u64 0])).run Tryd.prog V = .ok (.bool false) V := fun V => by have h := neq_req reqZ reqZ V; rwa [beq_self_eq_true, Bool.not_true] at h
  have hqa : ∀ V : World, (binOp .eql 36 (.agg #[.int .i64 0, .int .i64 0, .int .u64 0, .int .u64 0, .int .i64 0, .int .u64 0, .int .u64 0, .int .u64 0, .int .u64 0, .int .u64 0, .int .u64 0, .int .u64 0]) (.agg #[.int .i64 0, .int .i64 0, .int .u64 0, .int .u64 0, .int .i64 0, .int .u64 0, .int .u64 0, .int .u64 0, .int .u64 0, .int .u64 0, .int .u64 0, .int .u64 0])).run Tryd.prog V = .ok (.bool true) V := fun V => by have h := eql_ans ansZ ansZ V; rwa [beq_self_eq_true] at h
  have hbl : (Bs ([] : List UInt8) ++ Bs b).length = b.length := by simp [Bs]
  have hroom : (Bs ([] : List UInt8)).length + b.length ≤ 140737488355328 := by simp [Bs]; omega
  have HHL := Go.Lib.hid hl
  go_enter Tryd.func5, Tryd.ntmps5
  go_wp2_with fail
  refine (awake_calls p w hp).mono ?_
  rintro e w1 ⟨rfl, hb1⟩
  have HB := Go.Lib.hid hb1
  have HE := Go.Lib.hid (e4_below hp hb1)
  have HC := Go.Lib.hid (cells_below hb1 hA)
  clear hb1 hp hA
  have hbn : Below w1.heap.size w1 (w1.alloc (.cells #[] 5)) := (Below.refl _ _).alloc (Nat.le_refl _) _
  have HO3 := Go.Lib.hid (own_fresh (w := w1.alloc (.cells #[] 5)) (b := w1.heap.size) (g := w1.heap.size) (e := 5) (l := []) (heap_here w1 (.cells #[] 5) (w1.heap.size) (by simp)) (by simp) 0 rfl (by decide))
  have HB3 := Go.Lib.hid hbn
  have HC3 := Go.Lib.hid (cells_below hbn HC.out)
  have hsz3 : w1.heap.size ≤ (w1.alloc (.cells #[] 5)).heap.size := by simp
  clear hbn
  go_wp2_with (first
    | (at_builtin; (with_reducible refine wpList_append_all (s := .tmp 21) (x := .tmp 22) (t := 37) (e := 5) (z := .int .u8 0) (ht := Tryd.underlying37) (hinfo := info8) (base := w1.heap.size) (v := .slice (some ⟨w1.heap.size, 0, none⟩) 0 0) (vs := Bs []) (hown := HO3.out) (hbase := hsz3) (A := A) (c := c) (l := b) (hA := HC3.out) (hroom := hroom) (hgd := rfl) (hz := ?_) (ho := ?_) (hs := ?_) (hx := ?_) (h := ?_)); rfl; rfl; rfl; rfl; intro v4 w4 hown4 hb4; have HO4 := Go.Lib.hid hown4; have HB4 := Go.Lib.hid hb4; clear hown4 hb4))
  obtain ⟨A4, c4, hv4, _, _, hc4⟩ := own_slice HO4.out
  rw [hbl] at hv4
  subst hv4
  have hb24 := HB3.out.trans HB4.out
  have HBn := Go.Lib.hid (below_then HB.out hb24)
  have HEn := Go.Lib.hid (e4_below HE.out hb24)
  have HCn := Go.Lib.hid (cells_below hb24 HC.out)
  clear hb24 HB HE HC HC3 HO3 HO4 HB3 HB4 hsz3
  refine (HDEC w4 A4 c4 HEn.out hc4).mono ?_
  rintro e w5 ⟨rfl, HB5⟩
  have HC := Go.Lib.hid (cells_below HB5.out HCn.out)
  have hb6 : Below w5.heap.size w5 (w5.alloc (.cells #[.int .i64 0, .string ⟨#[]⟩, .int .i64 0, .int .u64 0, .int .u64 0, .int .u64 0, .int .u64 0, .int .u64 0] 30)) := (Below.refl _ _).alloc (Nat.le_refl _) _
  have HC6 := Go.Lib.hid (cells_below hb6 HC.out)
  have HB6 := Go.Lib.hid (below_then (below_then HBn.out HB5.out) hb6)
  have HE6 := Go.Lib.hid (e4_below HEn.out (below_then HB5.out hb6))
  have HX := Go.Lib.hid (heap_here w5 (.cells #[.int .i64 0, .string ⟨#[]⟩, .int .i64 0, .int .u64 0, .int .u64 0, .int .u64 0, .int .u64 0, .int .u64 0] 30) w5.heap.size rfl)
  have hlt5 : w5.heap.size < (w5.alloc (.cells #[.int .i64 0, .string ⟨#[]⟩, .int .i64 0, .int .u64 0, .int .u64 0, .int .u64 0, .int .u64 0, .int .u64 0] 30)).heap.size := by simp
  obtain ⟨x0, x1, x2, x3, x4, x5, x6, x7⟩ := box8 HX.out
  clear hb6 HC HBn HB5 HEn HCn hc4
  have e2 := HE6.out 2 (by decide) (by decide)
  have e3 := HE6.out 3 (by decide) (by decide)
  simp only [errG, errv] at e2 e3
  have HAP := Go.Lib.hid (apart_below HAP0.out HB6.out)
  have n32 := neq_other (apart_symm HAP.out)
  have n23 := neq_other HAP.out
  have m32 := eql_other (apart_symm HAP.out)
  have m23 := eql_other HAP.out
  have hfz := heap_frozen HX.out
  have HC := HC6
  have HB := HB6
  have HE := HE6
  clear HC6 HB6 HE6
  have hbn : Below (w5.alloc (.cells #[.int .i64 0, .string ⟨#[]⟩, .int .i64 0, .int .u64 0, .int .u64 0, .int .u64 0, .int .u64 0, .int .u64 0] 30)).heap.size (w5.alloc (.cells #[.int .i64 0, .string ⟨#[]⟩, .int .i64 0, .int .u64 0, .int .u64 0, .int .u64 0, .int .u64 0, .int .u64 0] 30)) ((w5.alloc (.cells #[.int .i64 0, .string ⟨#[]⟩, .int .i64 0, .int .u64 0, .int .u64 0, .int .u64 0, .int .u64 0, .int .u64 0] 30)).alloc (.cells #[] 5)) := (Below.refl _ _).alloc (Nat.le_refl _) _
  have HO3 := Go.Lib.hid (own_fresh (w := (w5.alloc (.cells #[.int .i64 0, .string ⟨#[]⟩, .int .i64 0, .int .u64 0, .int .u64 0, .int .u64 0, .int .u64 0, .int .u64 0] 30)).alloc (.cells #[] 5)) (b := (w5.alloc (.cells #[.int .i64 0, .string ⟨#[]⟩, .int .i64 0, .int .u64 0, .int .u64 0, .int .u64 0, .int .u64 0, .int .u64 0] 30)).heap.size) (g := w5.heap.size + 1) (e := 5) (l := []) (heap_here (w5.alloc (.cells #[.int .i64 0, .string ⟨#[]⟩, .int .i64 0, .int .u64 0, .int .u64 0, .int .u64 0, .int .u64 0, .int .u64 0] 30)) (.cells #[] 5) (w5.heap.size + 1) (by simp)) (by simp) 0 rfl (by decide))
  have HB3 := Go.Lib.hid hbn
  have HC3 := Go.Lib.hid (cells_below hbn HC.out)
  have hsz3 : (w5.alloc (.cells #[.int .i64 0, .string ⟨#[]⟩, .int .i64 0, .int .u64 0, .int .u64 0, .int .u64 0, .int .u64 0, .int .u64 0] 30)).heap.size ≤ ((w5.alloc (.cells #[.int .i64 0, .string ⟨#[]⟩, .int .i64 0, .int .u64 0, .int .u64 0, .int .u64 0, .int .u64 0, .int .u64 0] 30)).alloc (.cells #[] 5)).heap.size := by simp
  clear hbn
  go_wp2_with (first
    | (at_builtin; (with_reducible refine wpList_append_all (s := .tmp 60) (x := .tmp 61) (t := 37) (e := 5) (z := .int .u8 0) (ht := Tryd.underlying37) (hinfo := info8) (base := (w5.alloc (.cells #[.int .i64 0, .string ⟨#[]⟩, .int .i64 0, .int .u64 0, .int .u64 0, .int .u64 0, .int .u64 0, .int .u64 0] 30)).heap.size) (v := .slice (some ⟨w5.heap.size + 1, 0, none⟩) 0 0) (vs := Bs []) (hown := HO3.out) (hbase := hsz3) (A := A) (c := c) (l := b) (hA := HC3.out) (hroom := hroom) (hgd := rfl) (hz := ?_) (ho := ?_) (hs := ?_) (hx := ?_) (h := ?_)); rfl; rfl; rfl; rfl; intro v4 w4 hown4 hb4; have HO4 := Go.Lib.hid hown4; have HB4 := Go.Lib.hid hb4; clear hown4 hb4))
  obtain ⟨A4, c4, hv4, _, _, hc4⟩ := own_slice HO4.out
  rw [hbl] at hv4
  subst hv4
  have hb24 := HB3.out.trans HB4.out
  have HBn := Go.Lib.hid (below_then HB.out hb24)
  have HEn := Go.Lib.hid (e4_below HE.out hb24)
  have HCn := Go.Lib.hid (cells_below hb24 HC.out)
  clear hb24 HB HE HC HC3 HO3 HO4 HB3 HB4 hsz3
  clear HX x0 x1 x2 x3 x4 x5 x6 x7 e2 e3 HAP n32 n23 m32 m23 hfz hlt5
  refine (HDEA w4 A4 c4 HEn.out hc4).mono ?_
  rintro e w9 ⟨rfl, HB5⟩
  have HC := Go.Lib.hid (cells_below HB5.out HCn.out)
  have hb6 : Below w9.heap.size w9 (w9.alloc (.cells #[.int .i64 aop, .int .i64 code, .int .u64 (n64 at_), .int .u64 (n64 retry), .int .i64 k, .int .u64 (n64 p1), .int .u64 (n64 p2), .int .u64 (n64 p3), .int .u64 (n64 p4), .int .u64 (n64 l1), .int .u64 (n64 l2), .int .u64 (n64 l3)] 36)) := (Below.refl _ _).alloc (Nat.le_refl _) _
  have HC6 := Go.Lib.hid (cells_below hb6 HC.out)
  have HB6 := Go.Lib.hid (below_then (below_then HBn.out HB5.out) hb6)
  have HE6 := Go.Lib.hid (e4_below HEn.out (below_then HB5.out hb6))
  have HX := Go.Lib.hid (heap_here w9 (.cells #[.int .i64 aop, .int .i64 code, .int .u64 (n64 at_), .int .u64 (n64 retry), .int .i64 k, .int .u64 (n64 p1), .int .u64 (n64 p2), .int .u64 (n64 p3), .int .u64 (n64 p4), .int .u64 (n64 l1), .int .u64 (n64 l2), .int .u64 (n64 l3)] 36) w9.heap.size rfl)
  have hlt5 : w9.heap.size < (w9.alloc (.cells #[.int .i64 aop, .int .i64 code, .int .u64 (n64 at_), .int .u64 (n64 retry), .int .i64 k, .int .u64 (n64 p1), .int .u64 (n64 p2), .int .u64 (n64 p3), .int .u64 (n64 p4), .int .u64 (n64 l1), .int .u64 (n64 l2), .int .u64 (n64 l3)] 36)).heap.size := by simp
  obtain ⟨y0, y1, y2, y3, y4, y5, y6, y7, y8, y9, y10, y11⟩ := box12 HX.out
  clear hb6 HC HBn HB5 HEn HCn hc4
  have e2 := HE6.out 2 (by decide) (by decide)
  have e3 := HE6.out 3 (by decide) (by decide)
  simp only [errG, errv] at e2 e3
  have HAP := Go.Lib.hid (apart_below HAP0.out HB6.out)
  have n32 := neq_other (apart_symm HAP.out)
  have n23 := neq_other HAP.out
  have m32 := eql_other (apart_symm HAP.out)
  have m23 := eql_other HAP.out
  simp only [ansA]
  go_wp2_with fail
  refine (HENA _ HE6.out).mono ?_
  rintro e w11 ⟨A7, c7, rfl, HC7, HB7⟩
  have HC := Go.Lib.hid (cells_below HB7.out HC6.out)
  have HB := Go.Lib.hid (below_then HB6.out HB7.out)
  clear HX y0 y1 y2 y3 y4 y5 y6 y7 y8 y9 y10 y11 e2 e3 HAP n32 n23 m32 m23 hlt5 HC6 HB6 HE6 HB7
  go_wp2_with fail
  refine (same_true A A7 c c7 b w11 HHL.out HC.out HC7.out).mono ?_
  rintro e w12 ⟨rfl, HB8⟩
  go_wp2
  go_ret
  exact ⟨rfl, below_then HB.out HB8.out⟩

set_option maxRecDepth 100000 in
set_option maxHeartbeats 6400000 in
theorem forth_32 (A : Option Addr) (c : Nat) (b : List UInt8) (p : Nat → Addr) (w : World) (hp : E4 w p) (hA : Cells w A (Bs b)) (hl : b.length ≤ 16777216) (hap : Apart w (p 2) (p 3)) (hd : decS b = (reqZ, 3)) (hr : decR b = (ansZ, 2)) :
    Calls Tryd.prog 5 #[.slice A b.length c] w fun e w' => e = .returned (.bool true) ∧ Below w.heap.size w w' := by
  have HAP0 := Go.Lib.hid hap
  clear hap
  have HDEC := fun V A c hV hA => dec_err b 3 p (p 3) rfl V A c hV (by omega) hA hd
  clear hd
  have HDEA := fun V A c hV hA => decR_err b 2 p (p 2) rfl V A c hV (by omega) hA hr
  clear hr
  have s2 := fun V : World => neq_same V (p 2)
  have s3 := fun V : World => neq_same V (p 3)
  have r2 := fun V : World => eql_same V (p 2)
  have r3 := fun V : World => eql_same V (p 3)
  have hqr : ∀ V : World, (binOp .neq 30 (.agg #[.int .i64 0, .string ⟨#[]⟩, .int .i64 0, .int .u64 0, .int .u64 0, .int .u64 0, .int .u64 0, .int .u64 0]) (.agg #[.int .i64 0, .string ⟨#[]⟩, .int .i64 0, .int .u64 0, .int .u64 0, .int .u64 0, .int .u64 0, .int .u64 0])).run Tryd.prog V = .ok (.bool false) V := fun V => by have h := neq_req reqZ reqZ V; rwa [beq_self_eq_true, Bool.not_true] at h
  have hqa : ∀ V : World, (binOp .eql 36 (.agg #[.int .i64 0, .int .i64 0, .int .u64 0, .int .u64 0, .int .i64 0, .int .u64 0, .int .u64 0, .int .u64 0, .int .u64 0, .int .u64 0, .int .u64 0, .int .u64 0]) (.agg #[.int .i64 0, .int .i64 0, .int .u64 0, .int .u64 0, .int .i64 0, .int .u64 0, .int .u64 0, .int .u64 0, .int .u64 0, .int .u64 0, .int .u64 0, .int .u64 0])).run Tryd.prog V = .ok (.bool true) V := fun V => by have h := eql_ans ansZ ansZ V; rwa [beq_self_eq_true] at h
  have hbl : (Bs ([] : List UInt8) ++ Bs b).length = b.length := by simp [Bs]
  have hroom : (Bs ([] : List UInt8)).length + b.length ≤ 140737488355328 := by simp [Bs]; omega
  have HHL := Go.Lib.hid hl
  go_enter Tryd.func5, Tryd.ntmps5
  go_wp2_with fail
  refine (awake_calls p w hp).mono ?_
  rintro e w1 ⟨rfl, hb1⟩
  have HB := Go.Lib.hid hb1
  have HE := Go.Lib.hid (e4_below hp hb1)
  have HC := Go.Lib.hid (cells_below hb1 hA)
  clear hb1 hp hA
  have hbn : Below w1.heap.size w1 (w1.alloc (.cells #[] 5)) := (Below.refl _ _).alloc (Nat.le_refl _) _
  have HO3 := Go.Lib.hid (own_fresh (w := w1.alloc (.cells #[] 5)) (b := w1.heap.size) (g := w1.heap.size) (e := 5) (l := []) (heap_here w1 (.cells #[] 5) (w1.heap.size) (by simp)) (by simp) 0 rfl (by decide))
  have HB3 := Go.Lib.hid hbn
  have HC3 := Go.Lib.hid (cells_below hbn HC.out)
  have hsz3 : w1.heap.size ≤ (w1.alloc (.cells #[] 5)).heap.size := by simp
  clear hbn
  go_wp2_with (first
    | (at_builtin; (with_reducible refine wpList_append_all (s := .tmp 21) (x := .tmp 22) (t := 37) (e := 5) (z := .int .u8 0) (ht := Tryd.underlying37) (hinfo := info8) (base := w1.heap.size) (v := .slice (some ⟨w1.heap.size, 0, none⟩) 0 0) (vs := Bs []) (hown := HO3.out) (hbase := hsz3) (A := A) (c := c) (l := b) (hA := HC3.out) (hroom := hroom) (hgd := rfl) (hz := ?_) (ho := ?_) (hs := ?_) (hx := ?_) (h := ?_)); rfl; rfl; rfl; rfl; intro v4 w4 hown4 hb4; have HO4 := Go.Lib.hid hown4; have HB4 := Go.Lib.hid hb4; clear hown4 hb4))
  obtain ⟨A4, c4, hv4, _, _, hc4⟩ := own_slice HO4.out
  rw [hbl] at hv4
  subst hv4
  have hb24 := HB3.out.trans HB4.out
  have HBn := Go.Lib.hid (below_then HB.out hb24)
  have HEn := Go.Lib.hid (e4_below HE.out hb24)
  have HCn := Go.Lib.hid (cells_below hb24 HC.out)
  clear hb24 HB HE HC HC3 HO3 HO4 HB3 HB4 hsz3
  refine (HDEC w4 A4 c4 HEn.out hc4).mono ?_
  rintro e w5 ⟨rfl, HB5⟩
  have HC := Go.Lib.hid (cells_below HB5.out HCn.out)
  have hb6 : Below w5.heap.size w5 (w5.alloc (.cells #[.int .i64 0, .string ⟨#[]⟩, .int .i64 0, .int .u64 0, .int .u64 0, .int .u64 0, .int .u64 0, .int .u64 0] 30)) := (Below.refl _ _).alloc (Nat.le_refl _) _
  have HC6 := Go.Lib.hid (cells_below hb6 HC.out)
  have HB6 := Go.Lib.hid (below_then (below_then HBn.out HB5.out) hb6)
  have HE6 := Go.Lib.hid (e4_below HEn.out (below_then HB5.out hb6))
  have HX := Go.Lib.hid (heap_here w5 (.cells #[.int .i64 0, .string ⟨#[]⟩, .int .i64 0, .int .u64 0, .int .u64 0, .int .u64 0, .int .u64 0, .int .u64 0] 30) w5.heap.size rfl)
  have hlt5 : w5.heap.size < (w5.alloc (.cells #[.int .i64 0, .string ⟨#[]⟩, .int .i64 0, .int .u64 0, .int .u64 0, .int .u64 0, .int .u64 0, .int .u64 0] 30)).heap.size := by simp
  obtain ⟨x0, x1, x2, x3, x4, x5, x6, x7⟩ := box8 HX.out
  clear hb6 HC HBn HB5 HEn HCn hc4
  have e2 := HE6.out 2 (by decide) (by decide)
  have e3 := HE6.out 3 (by decide) (by decide)
  simp only [errG, errv] at e2 e3
  have HAP := Go.Lib.hid (apart_below HAP0.out HB6.out)
  have n32 := neq_other (apart_symm HAP.out)
  have n23 := neq_other HAP.out
  have m32 := eql_other (apart_symm HAP.out)
  have m23 := eql_other HAP.out
  have hfz := heap_frozen HX.out
  have HC := HC6
  have HB := HB6
  have HE := HE6
  clear HC6 HB6 HE6
  have hbn : Below (w5.alloc (.cells #[.int .i64 0, .string ⟨#[]⟩, .int .i64 0, .int .u64 0, .int .u64 0, .int .u64 0, .int .u64 0, .int .u64 0] 30)).heap.size (w5.alloc (.cells #[.int .i64 0, .string ⟨#[]⟩, .int .i64 0, .int .u64 0, .int .u64 0, .int .u64 0, .int .u64 0, .int .u64 0] 30)) ((w5.alloc (.cells #[.int .i64 0, .string ⟨#[]⟩, .int .i64 0, .int .u64 0, .int .u64 0, .int .u64 0, .int .u64 0, .int .u64 0] 30)).alloc (.cells #[] 5)) := (Below.refl _ _).alloc (Nat.le_refl _) _
  have HO3 := Go.Lib.hid (own_fresh (w := (w5.alloc (.cells #[.int .i64 0, .string ⟨#[]⟩, .int .i64 0, .int .u64 0, .int .u64 0, .int .u64 0, .int .u64 0, .int .u64 0] 30)).alloc (.cells #[] 5)) (b := (w5.alloc (.cells #[.int .i64 0, .string ⟨#[]⟩, .int .i64 0, .int .u64 0, .int .u64 0, .int .u64 0, .int .u64 0, .int .u64 0] 30)).heap.size) (g := w5.heap.size + 1) (e := 5) (l := []) (heap_here (w5.alloc (.cells #[.int .i64 0, .string ⟨#[]⟩, .int .i64 0, .int .u64 0, .int .u64 0, .int .u64 0, .int .u64 0, .int .u64 0] 30)) (.cells #[] 5) (w5.heap.size + 1) (by simp)) (by simp) 0 rfl (by decide))
  have HB3 := Go.Lib.hid hbn
  have HC3 := Go.Lib.hid (cells_below hbn HC.out)
  have hsz3 : (w5.alloc (.cells #[.int .i64 0, .string ⟨#[]⟩, .int .i64 0, .int .u64 0, .int .u64 0, .int .u64 0, .int .u64 0, .int .u64 0] 30)).heap.size ≤ ((w5.alloc (.cells #[.int .i64 0, .string ⟨#[]⟩, .int .i64 0, .int .u64 0, .int .u64 0, .int .u64 0, .int .u64 0, .int .u64 0] 30)).alloc (.cells #[] 5)).heap.size := by simp
  clear hbn
  go_wp2_with (first
    | (at_builtin; (with_reducible refine wpList_append_all (s := .tmp 60) (x := .tmp 61) (t := 37) (e := 5) (z := .int .u8 0) (ht := Tryd.underlying37) (hinfo := info8) (base := (w5.alloc (.cells #[.int .i64 0, .string ⟨#[]⟩, .int .i64 0, .int .u64 0, .int .u64 0, .int .u64 0, .int .u64 0, .int .u64 0] 30)).heap.size) (v := .slice (some ⟨w5.heap.size + 1, 0, none⟩) 0 0) (vs := Bs []) (hown := HO3.out) (hbase := hsz3) (A := A) (c := c) (l := b) (hA := HC3.out) (hroom := hroom) (hgd := rfl) (hz := ?_) (ho := ?_) (hs := ?_) (hx := ?_) (h := ?_)); rfl; rfl; rfl; rfl; intro v4 w4 hown4 hb4; have HO4 := Go.Lib.hid hown4; have HB4 := Go.Lib.hid hb4; clear hown4 hb4))
  obtain ⟨A4, c4, hv4, _, _, hc4⟩ := own_slice HO4.out
  rw [hbl] at hv4
  subst hv4
  have hb24 := HB3.out.trans HB4.out
  have HBn := Go.Lib.hid (below_then HB.out hb24)
  have HEn := Go.Lib.hid (e4_below HE.out hb24)
  have HCn := Go.Lib.hid (cells_below hb24 HC.out)
  clear hb24 HB HE HC HC3 HO3 HO4 HB3 HB4 hsz3
  clear HX x0 x1 x2 x3 x4 x5 x6 x7 e2 e3 HAP n32 n23 m32 m23 hfz hlt5
  refine (HDEA w4 A4 c4 HEn.out hc4).mono ?_
  rintro e w9 ⟨rfl, HB5⟩
  have HC := Go.Lib.hid (cells_below HB5.out HCn.out)
  have hb6 : Below w9.heap.size w9 (w9.alloc (.cells #[.int .i64 0, .int .i64 0, .int .u64 0, .int .u64 0, .int .i64 0, .int .u64 0, .int .u64 0, .int .u64 0, .int .u64 0, .int .u64 0, .int .u64 0, .int .u64 0] 36)) := (Below.refl _ _).alloc (Nat.le_refl _) _
  have HC6 := Go.Lib.hid (cells_below hb6 HC.out)
  have HB6 := Go.Lib.hid (below_then (below_then HBn.out HB5.out) hb6)
  have HE6 := Go.Lib.hid (e4_below HEn.out (below_then HB5.out hb6))
  have HX := Go.Lib.hid (heap_here w9 (.cells #[.int .i64 0, .int .i64 0, .int .u64 0, .int .u64 0, .int .i64 0, .int .u64 0, .int .u64 0, .int .u64 0, .int .u64 0, .int .u64 0, .int .u64 0, .int .u64 0] 36) w9.heap.size rfl)
  have hlt5 : w9.heap.size < (w9.alloc (.cells #[.int .i64 0, .int .i64 0, .int .u64 0, .int .u64 0, .int .i64 0, .int .u64 0, .int .u64 0, .int .u64 0, .int .u64 0, .int .u64 0, .int .u64 0, .int .u64 0] 36)).heap.size := by simp
  obtain ⟨y0, y1, y2, y3, y4, y5, y6, y7, y8, y9, y10, y11⟩ := box12 HX.out
  clear hb6 HC HBn HB5 HEn HCn hc4
  have e2 := HE6.out 2 (by decide) (by decide)
  have e3 := HE6.out 3 (by decide) (by decide)
  simp only [errG, errv] at e2 e3
  have HAP := Go.Lib.hid (apart_below HAP0.out HB6.out)
  have n32 := neq_other (apart_symm HAP.out)
  have n23 := neq_other HAP.out
  have m32 := eql_other (apart_symm HAP.out)
  have m23 := eql_other HAP.out
  have hfz := heap_frozen HX.out
  go_wp2
  go_ret
  exact ⟨rfl, HB6.out⟩

set_option maxRecDepth 100000 in
set_option maxHeartbeats 6400000 in
theorem forth_33 (A : Option Addr) (c : Nat) (b : List UInt8) (p : Nat → Addr) (w : World) (hp : E4 w p) (hA : Cells w A (Bs b)) (hl : b.length ≤ 16777216) (hap : Apart w (p 2) (p 3)) (hd : decS b = (reqZ, 3)) (hr : decR b = (ansZ, 3)) :
    Calls Tryd.prog 5 #[.slice A b.length c] w fun e w' => e = .returned (.bool true) ∧ Below w.heap.size w w' := by
  have HAP0 := Go.Lib.hid hap
  clear hap
  have HDEC := fun V A c hV hA => dec_err b 3 p (p 3) rfl V A c hV (by omega) hA hd
  clear hd
  have HDEA := fun V A c hV hA => decR_err b 3 p (p 3) rfl V A c hV (by omega) hA hr
  clear hr
  have s2 := fun V : World => neq_same V (p 2)
  have s3 := fun V : World => neq_same V (p 3)
  have r2 := fun V : World => eql_same V (p 2)
  have r3 := fun V : World => eql_same V (p 3)
  have hqr : ∀ V : World, (binOp .neq 30 (.agg #[.int .i64 0, .string ⟨#[]⟩, .int .i64 0, .int .u64 0, .int .u64 0, .int .u64 0, .int .u64 0, .int .u64 0]) (.agg #[.int .i64 0, .string ⟨#[]⟩, .int .i64 0, .int .u64 0, .int .u64 0, .int .u64 0, .int .u64 0, .int .u64 0])).run Tryd.prog V = .ok (.bool false) V := fun V => by have h := neq_req reqZ reqZ V; rwa [beq_self_eq_true, Bool.not_true] at h
  have hqa : ∀ V : World, (binOp .eql 36 (.agg #[.int .i64 0, .int .i64 0, .int .u64 0, .int .u64 0, .int .i64 0, .int .u64 0, .int .u64 0, .int .u64 0, .int .u64 0, .int .u64 0, .int .u64 0, .int .u64 0]) (.agg #[.int .i64 0, .int .i64 0, .int .u64 0, .int .u64 0, .int .i64 0, .int .u64 0, .int .u64 0, .int .u64 0, .int .u64 0, .int .u64 0, .int .u64 0, .int .u64 0])).run Tryd.prog V = .ok (.bool true) V := fun V => by have h := eql_ans ansZ ansZ V; rwa [beq_self_eq_true] at h
  have hbl : (Bs ([] : List UInt8) ++ Bs b).length = b.length := by simp [Bs]
  have hroom : (Bs ([] : List UInt8)).length + b.length ≤ 140737488355328 := by simp [Bs]; omega
  have HHL := Go.Lib.hid hl
  go_enter Tryd.func5, Tryd.ntmps5
  go_wp2_with fail
  refine (awake_calls p w hp).mono ?_
  rintro e w1 ⟨rfl, hb1⟩
  have HB := Go.Lib.hid hb1
  have HE := Go.Lib.hid (e4_below hp hb1)
  have HC := Go.Lib.hid (cells_below hb1 hA)
  clear hb1 hp hA
  have hbn : Below w1.heap.size w1 (w1.alloc (.cells #[] 5)) := (Below.refl _ _).alloc (Nat.le_refl _) _
  have HO3 := Go.Lib.hid (own_fresh (w := w1.alloc (.cells #[] 5)) (b := w1.heap.size) (g := w1.heap.size) (e := 5) (l := []) (heap_here w1 (.cells #[] 5) (w1.heap.size) (by simp)) (by simp) 0 rfl (by decide))
  have HB3 := Go.Lib.hid hbn
  have HC3 := Go.Lib.hid (cells_below hbn HC.out)
  have hsz3 : w1.heap.size ≤ (w1.alloc (.cells #[] 5)).heap.size := by simp
  clear hbn
  go_wp2_with (first
    | (at_builtin; (with_reducible refine wpList_append_all (s := .tmp 21) (x := .tmp 22) (t := 37) (e := 5) (z := .int .u8 0) (ht := Tryd.underlying37) (hinfo := info8) (base := w1.heap.size) (v := .slice (some ⟨w1.heap.size, 0, none⟩) 0 0) (vs := Bs []) (hown := HO3.out) (hbase := hsz3) (A := A) (c := c) (l := b) (hA := HC3.out) (hroom := hroom) (hgd := rfl) (hz := ?_) (ho := ?_) (hs := ?_) (hx := ?_) (h := ?_)); rfl; rfl; rfl; rfl; intro v4 w4 hown4 hb4; have HO4 := Go.Lib.hid hown4; have HB4 := Go.Lib.hid hb4; clear hown4 hb4))
  obtain ⟨A4, c4, hv4, _, _, hc4⟩ := own_slice HO4.out
  rw [hbl] at hv4
  subst hv4
  have hb24 := HB3.out.trans HB4.out
  have HBn := Go.Lib.hid (below_then HB.out hb24)
  have HEn := Go.Lib.hid (e4_below HE.out hb24)
  have HCn := Go.Lib.hid (cells_below hb24 HC.out)
  clear hb24 HB HE HC HC3 HO3 HO4 HB3 HB4 hsz3
  refine (HDEC w4 A4 c4 HEn.out hc4).mono ?_
  rintro e w5 ⟨rfl, HB5⟩
  have HC := Go.Lib.hid (cells_below HB5.out HCn.out)
  have hb6 : Below w5.heap.size w5 (w5.alloc (.cells #[.int .i64 0, .string ⟨#[]⟩, .int .i64 0, .int .u64 0, .int .u64 0, .int .u64 0, .int .u64 0, .int .u64 0] 30)) := (Below.refl _ _).alloc (Nat.le_refl _) _
  have HC6 := Go.Lib.hid (cells_below hb6 HC.out)
  have HB6 := Go.Lib.hid (below_then (below_then HBn.out HB5.out) hb6)
  have HE6 := Go.Lib.hid (e4_below HEn.out (below_then HB5.out hb6))
  have HX := Go.Lib.hid (heap_here w5 (.cells #[.int .i64 0, .string ⟨#[]⟩, .int .i64 0, .int .u64 0, .int .u64 0, .int .u64 0, .int .u64 0, .int .u64 0] 30) w5.heap.size rfl)
  have hlt5 : w5.heap.size < (w5.alloc (.cells #[.int .i64 0, .string ⟨#[]⟩, .int .i64 0, .int .u64 0, .int .u64 0, .int .u64 0, .int .u64 0, .int .u64 0] 30)).heap.size := by simp
  obtain ⟨x0, x1, x2, x3, x4, x5, x6, x7⟩ := box8 HX.out
  clear hb6 HC HBn HB5 HEn HCn hc4
  have e2 := HE6.out 2 (by decide) (by decide)
  have e3 := HE6.out 3 (by decide) (by decide)
  simp only [errG, errv] at e2 e3
  have HAP := Go.Lib.hid (apart_below HAP0.out HB6.out)
  have n32 := neq_other (apart_symm HAP.out)
  have n23 := neq_other HAP.out
  have m32 := eql_other (apart_symm HAP.out)
  have m23 := eql_other HAP.out
  have hfz := heap_frozen HX.out
  have HC := HC6
  have HB := HB6
  have HE := HE6
  clear HC6 HB6 HE6
  have hbn : Below (w5.alloc (.cells #[.int .i64 0, .string ⟨#[]⟩, .int .i64 0, .int .u64 0, .int .u64 0, .int .u64 0, .int .u64 0, .int .u64 0] 30)).heap.size (w5.alloc (.cells #[.int .i64 0, .string ⟨#[]⟩, .int .i64 0, .int .u64 0, .int .u64 0, .int .u64 0, .int .u64 0, .int .u64 0] 30)) ((w5.alloc (.cells #[.int .i64 0, .string ⟨#[]⟩, .int .i64 0, .int .u64 0, .int .u64 0, .int .u64 0, .int .u64 0, .int .u64 0] 30)).alloc (.cells #[] 5)) := (Below.refl _ _).alloc (Nat.le_refl _) _
  have HO3 := Go.Lib.hid (own_fresh (w := (w5.alloc (.cells #[.int .i64 0, .string ⟨#[]⟩, .int .i64 0, .int .u64 0, .int .u64 0, .int .u64 0, .int .u64 0, .int .u64 0] 30)).alloc (.cells #[] 5)) (b := (w5.alloc (.cells #[.int .i64 0, .string ⟨#[]⟩, .int .i64 0, .int .u64 0, .int .u64 0, .int .u64 0, .int .u64 0, .int .u64 0] 30)).heap.size) (g := w5.heap.size + 1) (e := 5) (l := []) (heap_here (w5.alloc (.cells #[.int .i64 0, .string ⟨#[]⟩, .int .i64 0, .int .u64 0, .int .u64 0, .int .u64 0, .int .u64 0, .int .u64 0] 30)) (.cells #[] 5) (w5.heap.size + 1) (by simp)) (by simp) 0 rfl (by decide))
  have HB3 := Go.Lib.hid hbn
  have HC3 := Go.Lib.hid (cells_below hbn HC.out)
  have hsz3 : (w5.alloc (.cells #[.int .i64 0, .string ⟨#[]⟩, .int .i64 0, .int .u64 0, .int .u64 0, .int .u64 0, .int .u64 0, .int .u64 0] 30)).heap.size ≤ ((w5.alloc (.cells #[.int .i64 0, .string ⟨#[]⟩, .int .i64 0, .int .u64 0, .int .u64 0, .int .u64 0, .int .u64 0, .int .u64 0] 30)).alloc (.cells #[] 5)).heap.size := by simp
  clear hbn
  go_wp2_with (first
    | (at_builtin; (with_reducible refine wpList_append_all (s := .tmp 60) (x := .tmp 61) (t := 37) (e := 5) (z := .int .u8 0) (ht := Tryd.underlying37) (hinfo := info8) (base := (w5.alloc (.cells #[.int .i64 0, .string ⟨#[]⟩, .int .i64 0, .int .u64 0, .int .u64 0, .int .u64 0, .int .u64 0, .int .u64 0] 30)).heap.size) (v := .slice (some ⟨w5.heap.size + 1, 0, none⟩) 0 0) (vs := Bs []) (hown := HO3.out) (hbase := hsz3) (A := A) (c := c) (l := b) (hA := HC3.out) (hroom := hroom) (hgd := rfl) (hz := ?_) (ho := ?_) (hs := ?_) (hx := ?_) (h := ?_)); rfl; rfl; rfl; rfl; intro v4 w4 hown4 hb4; have HO4 := Go.Lib.hid hown4; have HB4 := Go.Lib.hid hb4; clear hown4 hb4))
  obtain ⟨A4, c4, hv4, _, _, hc4⟩ := own_slice HO4.out
  rw [hbl] at hv4
  subst hv4
  have hb24 := HB3.out.trans HB4.out
  have HBn := Go.Lib.hid (below_then HB.out hb24)
  have HEn := Go.Lib.hid (e4_below HE.out hb24)
  have HCn := Go.Lib.hid (cells_below hb24 HC.out)
  clear hb24 HB HE HC HC3 HO3 HO4 HB3 HB4 hsz3
  clear HX x0 x1 x2 x3 x4 x5 x6 x7 e2 e3 HAP n32 n23 m32 m23 hfz hlt5
  refine (HDEA w4 A4 c4 HEn.out hc4).mono ?_
  rintro e w9 ⟨rfl, HB5⟩
  have HC := Go.Lib.hid (cells_below HB5.out HCn.out)
  have hb6 : Below w9.heap.size w9 (w9.alloc (.cells #[.int .i64 0, .int .i64 0, .int .u64 0, .int .u64 0, .int .i64 0, .int .u64 0, .int .u64 0, .int .u64 0, .int .u64 0, .int .u64 0, .int .u64 0, .int .u64 0] 36)) := (Below.refl _ _).alloc (Nat.le_refl _) _
  have HC6 := Go.Lib.hid (cells_below hb6 HC.out)
  have HB6 := Go.Lib.hid (below_then (below_then HBn.out HB5.out) hb6)
  have HE6 := Go.Lib.hid (e4_below HEn.out (below_then HB5.out hb6))
  have HX := Go.Lib.hid (heap_here w9 (.cells #[.int .i64 0, .int .i64 0, .int .u64 0, .int .u64 0, .int .i64 0, .int .u64 0, .int .u64 0, .int .u64 0, .int .u64 0, .int .u64 0, .int .u64 0, .int .u64 0] 36) w9.heap.size rfl)
  have hlt5 : w9.heap.size < (w9.alloc (.cells #[.int .i64 0, .int .i64 0, .int .u64 0, .int .u64 0, .int .i64 0, .int .u64 0, .int .u64 0, .int .u64 0, .int .u64 0, .int .u64 0, .int .u64 0, .int .u64 0] 36)).heap.size := by simp
  obtain ⟨y0, y1, y2, y3, y4, y5, y6, y7, y8, y9, y10, y11⟩ := box12 HX.out
  clear hb6 HC HBn HB5 HEn HCn hc4
  have e2 := HE6.out 2 (by decide) (by decide)
  have e3 := HE6.out 3 (by decide) (by decide)
  simp only [errG, errv] at e2 e3
  have HAP := Go.Lib.hid (apart_below HAP0.out HB6.out)
  have n32 := neq_other (apart_symm HAP.out)
  have n23 := neq_other HAP.out
  have m32 := eql_other (apart_symm HAP.out)
  have m23 := eql_other HAP.out
  have hfz := heap_frozen HX.out
  go_wp2
  go_ret
  exact ⟨rfl, HB6.out⟩

set_option maxRecDepth 100000 in
set_option maxHeartbeats 6400000 in
theorem forth_30 (aop code : Int) (at_ retry : UInt64) (k : Int) (p1 p2 p3 p4 l1 l2 l3 : UInt64) (A : Option Addr) (c : Nat) (b : List UInt8) (p : Nat → Addr) (w : World) (hp : E4 w p) (hA : Cells w A (Bs b)) (hl : b.length ≤ 16777216) (hap : Apart w (p 2) (p 3)) (hd : decS b = (reqZ, 3)) (hr : decR b = (⟨aop, ⟨code, at_, retry, ⟨k, p1, p2, p3, p4⟩, ⟨l1, l2, l3⟩⟩⟩, 0)) (hsr : encR ⟨aop, ⟨code, at_, retry, ⟨k, p1, p2, p3, p4⟩, ⟨l1, l2, l3⟩⟩⟩ = (b, 0)) :
    Calls Tryd.prog 5 #[.slice A b.length c] w fun e w' => e = .returned (.bool true) ∧ Below w.heap.size w w' := by
  have HAP0 := Go.Lib.hid hap
  clear hap
  have HDEC := fun V A c hV hA => dec_err b 3 p (p 3) rfl V A c hV (by omega) hA hd
  clear hd
  have HDEA := fun V A c hV hA => decR_ok_calls ⟨aop, ⟨code, at_, retry, ⟨k, p1, p2, p3, p4⟩, ⟨l1, l2, l3⟩⟩⟩ b p V A c hV (by omega) hA hr
  have HENA := fun V hV => encR_ok_calls ⟨aop, ⟨code, at_, retry, ⟨k, p1, p2, p3, p4⟩, ⟨l1, l2, l3⟩⟩⟩ b p V hV hsr
  clear hr hsr
  have s2 := fun V : World => neq_same V (p 2)
  have s3 := fun V : World => neq_same V (p 3)
  have r2 := fun V : World => eql_same V (p 2)
  have r3 := fun V : World => eql_same V (p 3)
  have hqr : ∀ V : World, (binOp .neq 30 (.agg #[.int .i64 0, .string ⟨#[]⟩, .int .i64 0, .int .u64 0, .int .u64 0, .int .u64 0, .int .u64 0, .int .u64 0]) (.agg #[.int .i64 0, .string ⟨#[]⟩, .int .i64 0, .int .u64 0, .int .u64 0, .int .u64 0, .int .u64 0, .int .u64 0])).run Tryd.prog V = .ok (.bool false) V := fun V => by have h := neq_req reqZ reqZ V; rwa [beq_self_eq_true, Bool.not_true] at h
  have hqa : ∀ V : World, (binOp .eql 36 (.agg #[.int .i64 0, .int .i64 0, .int .u64 0, .int .u64 0, .int .i64 0, .int .u64 0, .int .u64 0, .int .u64 0, .int .u64 0, .int .u64 0, .int .u64 0, .int .u64 0]) (.agg #[.int .i64 0, .int .i64 0, .int .u64 0, .int .u64 0, .int .i64 0, .int .u64 0, .int .u64 0, .int .u64 0, .int .u64 0, .int .u64 0, .int .u64 0, .int .u64 0])).run Tryd.prog V = .ok (.bool true) V := fun V => by have h := eql_ans ansZ ansZ V; rwa [beq_self_eq_true] at h
  have hbl : (Bs ([] : List UInt8) ++ Bs b).length = b.length := by simp [Bs]
  have hroom : (Bs ([] : List UInt8)).length + b.length ≤ 140737488355328 := by simp [Bs]; omega
  have HHL := Go.Lib.hid hl
  go_enter Tryd.func5, Tryd.ntmps5
  go_wp2_with fail
  refine (awake_calls p w hp).mono ?_
  rintro e w1 ⟨rfl, hb1⟩
  have HB := Go.Lib.hid hb1
  have HE := Go.Lib.hid (e4_below hp hb1)
  have HC := Go.Lib.hid (cells_below hb1 hA)
  clear hb1 hp hA
  have hbn : Below w1.heap.size w1 (w1.alloc (.cells #[] 5)) := (Below.refl _ _).alloc (Nat.le_refl _) _
  have HO3 := Go.Lib.hid (own_fresh (w := w1.alloc (.cells #[] 5)) (b := w1.heap.size) (g := w1.heap.size) (e := 5) (l := []) (heap_here w1 (.cells #[] 5) (w1.heap.size) (by simp)) (by simp) 0 rfl (by decide))
  have HB3 := Go.Lib.hid hbn
  have HC3 := Go.Lib.hid (cells_below hbn HC.out)
  have hsz3 : w1.heap.size ≤ (w1.alloc (.cells #[] 5)).heap.size := by simp
  clear hbn
  go_wp2_with (first
    | (at_builtin; (with_reducible refine wpList_append_all (s := .tmp 21) (x := .tmp 22) (t := 37) (e := 5) (z := .int .u8 0) (ht := Tryd.underlying37) (hinfo := info8) (base := w1.heap.size) (v := .slice (some ⟨w1.heap.size, 0, none⟩) 0 0) (vs := Bs []) (hown := HO3.out) (hbase := hsz3) (A := A) (c := c) (l := b) (hA := HC3.out) (hroom := hroom) (hgd := rfl) (hz := ?_) (ho := ?_) (hs := ?_) (hx := ?_) (h := ?_)); rfl; rfl; rfl; rfl; intro v4 w4 hown4 hb4; have HO4 := Go.Lib.hid hown4; have HB4 := Go.Lib.hid hb4; clear hown4 hb4))
  obtain ⟨A4, c4, hv4, _, _, hc4⟩ := own_slice HO4.out
  rw [hbl] at hv4
  subst hv4
  have hb24 := HB3.out.trans HB4.out
  have HBn := Go.Lib.hid (below_then HB.out hb24)
  have HEn := Go.Lib.hid (e4_below HE.out hb24)
  have HCn := Go.Lib.hid (cells_below hb24 HC.out)
  clear hb24 HB HE HC HC3 HO3 HO4 HB3 HB4 hsz3
  refine (HDEC w4 A4 c4 HEn.out hc4).mono ?_
  rintro e w5 ⟨rfl, HB5⟩
  have HC := Go.Lib.hid (cells_below HB5.out HCn.out)
  have hb6 : Below w5.heap.size w5 (w5.alloc (.cells #[.int .i64 0, .string ⟨#[]⟩, .int .i64 0, .int .u64 0, .int .u64 0, .int .u64 0, .int .u64 0, .int .u64 0] 30)) := (Below.refl _ _).alloc (Nat.le_refl _) _
  have HC6 := Go.Lib.hid (cells_below hb6 HC.out)
  have HB6 := Go.Lib.hid (below_then (below_then HBn.out HB5.out) hb6)
  have HE6 := Go.Lib.hid (e4_below HEn.out (below_then HB5.out hb6))
  have HX := Go.Lib.hid (heap_here w5 (.cells #[.int .i64 0, .string ⟨#[]⟩, .int .i64 0, .int .u64 0, .int .u64 0, .int .u64 0, .int .u64 0, .int .u64 0] 30) w5.heap.size rfl)
  have hlt5 : w5.heap.size < (w5.alloc (.cells #[.int .i64 0, .string ⟨#[]⟩, .int .i64 0, .int .u64 0, .int .u64 0, .int .u64 0, .int .u64 0, .int .u64 0] 30)).heap.size := by simp
  obtain ⟨x0, x1, x2, x3, x4, x5, x6, x7⟩ := box8 HX.out
  clear hb6 HC HBn HB5 HEn HCn hc4
  have e2 := HE6.out 2 (by decide) (by decide)
  have e3 := HE6.out 3 (by decide) (by decide)
  simp only [errG, errv] at e2 e3
  have HAP := Go.Lib.hid (apart_below HAP0.out HB6.out)
  have n32 := neq_other (apart_symm HAP.out)
  have n23 := neq_other HAP.out
  have m32 := eql_other (apart_symm HAP.out)
  have m23 := eql_other HAP.out
  have hfz := heap_frozen HX.out
  have HC := HC6
  have HB := HB6
  have HE := HE6
  clear HC6 HB6 HE6
  have hbn : Below (w5.alloc (.cells #[.int .i64 0, .string ⟨#[]⟩, .int .i64 0, .int .u64 0, .int .u64 0, .int .u64 0, .int .u64 0, .int .u64 0] 30)).heap.size (w5.alloc (.cells #[.int .i64 0, .string ⟨#[]⟩, .int .i64 0, .int .u64 0, .int .u64 0, .int .u64 0, .int .u64 0, .int .u64 0] 30)) ((w5.alloc (.cells #[.int .i64 0, .string ⟨#[]⟩, .int .i64 0, .int .u64 0, .int .u64 0, .int .u64 0, .int .u64 0, .int .u64 0] 30)).alloc (.cells #[] 5)) := (Below.refl _ _).alloc (Nat.le_refl _) _
  have HO3 := Go.Lib.hid (own_fresh (w := (w5.alloc (.cells #[.int .i64 0, .string ⟨#[]⟩, .int .i64 0, .int .u64 0, .int .u64 0, .int .u64 0, .int .u64 0, .int .u64 0] 30)).alloc (.cells #[] 5)) (b := (w5.alloc (.cells #[.int .i64 0, .string ⟨#[]⟩, .int .i64 0, .int .u64 0, .int .u64 0, .int .u64 0, .int .u64 0, .int .u64 0] 30)).heap.size) (g := w5.heap.size + 1) (e := 5) (l := []) (heap_here (w5.alloc (.cells #[.int .i64 0, .string ⟨#[]⟩, .int .i64 0, .int .u64 0, .int .u64 0, .int .u64 0, .int .u64 0, .int .u64 0] 30)) (.cells #[] 5) (w5.heap.size + 1) (by simp)) (by simp) 0 rfl (by decide))
  have HB3 := Go.Lib.hid hbn
  have HC3 := Go.Lib.hid (cells_below hbn HC.out)
  have hsz3 : (w5.alloc (.cells #[.int .i64 0, .string ⟨#[]⟩, .int .i64 0, .int .u64 0, .int .u64 0, .int .u64 0, .int .u64 0, .int .u64 0] 30)).heap.size ≤ ((w5.alloc (.cells #[.int .i64 0, .string ⟨#[]⟩, .int .i64 0, .int .u64 0, .int .u64 0, .int .u64 0, .int .u64 0, .int .u64 0] 30)).alloc (.cells #[] 5)).heap.size := by simp
  clear hbn
  go_wp2_with (first
    | (at_builtin; (with_reducible refine wpList_append_all (s := .tmp 60) (x := .tmp 61) (t := 37) (e := 5) (z := .int .u8 0) (ht := Tryd.underlying37) (hinfo := info8) (base := (w5.alloc (.cells #[.int .i64 0, .string ⟨#[]⟩, .int .i64 0, .int .u64 0, .int .u64 0, .int .u64 0, .int .u64 0, .int .u64 0] 30)).heap.size) (v := .slice (some ⟨w5.heap.size + 1, 0, none⟩) 0 0) (vs := Bs []) (hown := HO3.out) (hbase := hsz3) (A := A) (c := c) (l := b) (hA := HC3.out) (hroom := hroom) (hgd := rfl) (hz := ?_) (ho := ?_) (hs := ?_) (hx := ?_) (h := ?_)); rfl; rfl; rfl; rfl; intro v4 w4 hown4 hb4; have HO4 := Go.Lib.hid hown4; have HB4 := Go.Lib.hid hb4; clear hown4 hb4))
  obtain ⟨A4, c4, hv4, _, _, hc4⟩ := own_slice HO4.out
  rw [hbl] at hv4
  subst hv4
  have hb24 := HB3.out.trans HB4.out
  have HBn := Go.Lib.hid (below_then HB.out hb24)
  have HEn := Go.Lib.hid (e4_below HE.out hb24)
  have HCn := Go.Lib.hid (cells_below hb24 HC.out)
  clear hb24 HB HE HC HC3 HO3 HO4 HB3 HB4 hsz3
  clear HX x0 x1 x2 x3 x4 x5 x6 x7 e2 e3 HAP n32 n23 m32 m23 hfz hlt5
  refine (HDEA w4 A4 c4 HEn.out hc4).mono ?_
  rintro e w9 ⟨rfl, HB5⟩
  have HC := Go.Lib.hid (cells_below HB5.out HCn.out)
  have hb6 : Below w9.heap.size w9 (w9.alloc (.cells #[.int .i64 aop, .int .i64 code, .int .u64 (n64 at_), .int .u64 (n64 retry), .int .i64 k, .int .u64 (n64 p1), .int .u64 (n64 p2), .int .u64 (n64 p3), .int .u64 (n64 p4), .int .u64 (n64 l1), .int .u64 (n64 l2), .int .u64 (n64 l3)] 36)) := (Below.refl _ _).alloc (Nat.le_refl _) _
  have HC6 := Go.Lib.hid (cells_below hb6 HC.out)
  have HB6 := Go.Lib.hid (below_then (below_then HBn.out HB5.out) hb6)
  have HE6 := Go.Lib.hid (e4_below HEn.out (below_then HB5.out hb6))
  have HX := Go.Lib.hid (heap_here w9 (.cells #[.int .i64 aop, .int .i64 code, .int .u64 (n64 at_), .int .u64 (n64 retry), .int .i64 k, .int .u64 (n64 p1), .int .u64 (n64 p2), .int .u64 (n64 p3), .int .u64 (n64 p4), .int .u64 (n64 l1), .int .u64 (n64 l2), .int .u64 (n64 l3)] 36) w9.heap.size rfl)
  have hlt5 : w9.heap.size < (w9.alloc (.cells #[.int .i64 aop, .int .i64 code, .int .u64 (n64 at_), .int .u64 (n64 retry), .int .i64 k, .int .u64 (n64 p1), .int .u64 (n64 p2), .int .u64 (n64 p3), .int .u64 (n64 p4), .int .u64 (n64 l1), .int .u64 (n64 l2), .int .u64 (n64 l3)] 36)).heap.size := by simp
  obtain ⟨y0, y1, y2, y3, y4, y5, y6, y7, y8, y9, y10, y11⟩ := box12 HX.out
  clear hb6 HC HBn HB5 HEn HCn hc4
  have e2 := HE6.out 2 (by decide) (by decide)
  have e3 := HE6.out 3 (by decide) (by decide)
  simp only [errG, errv] at e2 e3
  have HAP := Go.Lib.hid (apart_below HAP0.out HB6.out)
  have n32 := neq_other (apart_symm HAP.out)
  have n23 := neq_other HAP.out
  have m32 := eql_other (apart_symm HAP.out)
  have m23 := eql_other HAP.out
  simp only [ansA]
  go_wp2_with fail
  refine (HENA _ HE6.out).mono ?_
  rintro e w11 ⟨A7, c7, rfl, HC7, HB7⟩
  have HC := Go.Lib.hid (cells_below HB7.out HC6.out)
  have HB := Go.Lib.hid (below_then HB6.out HB7.out)
  clear HX y0 y1 y2 y3 y4 y5 y6 y7 y8 y9 y10 y11 e2 e3 HAP n32 n23 m32 m23 hlt5 HC6 HB6 HE6 HB7
  go_wp2_with fail
  refine (same_true A A7 c c7 b w11 HHL.out HC.out HC7.out).mono ?_
  rintro e w12 ⟨rfl, HB8⟩
  go_wp2
  go_ret
  exact ⟨rfl, below_then HB.out HB8.out⟩

set_option maxRecDepth 100000 in
set_option maxHeartbeats 6400000 in
theorem forth_02 (op : Int) (key : List UInt8) (kind : Int) (gap slack limit span units : UInt64) (A : Option Addr) (c : Nat) (b : List UInt8) (p : Nat → Addr) (w : World) (hp : E4 w p) (hA : Cells w A (Bs b)) (hl : b.length ≤ 16777216) (hap : Apart w (p 2) (p 3)) (hd : decS b = (⟨op, key, ⟨kind, gap, slack, limit, span⟩, units⟩, 0)) (hs : encS ⟨op, key, ⟨kind, gap, slack, limit, span⟩, units⟩ = (b, 0)) (hkl : key.length ≤ 9223372036854775807) (hr : decR b = (ansZ, 2)) :
    Calls Tryd.prog 5 #[.slice A b.length c] w fun e w' => e = .returned (.bool true) ∧ Below w.heap.size w w' := by
  have HAP0 := Go.Lib.hid hap
  clear hap
  have HDEC := fun V A c hV hA => dec_ok ⟨op, key, ⟨kind, gap, slack, limit, span⟩, units⟩ b p V A c hV (by omega) hA hd
  have HENC := fun V hV => enc_ok ⟨op, key, ⟨kind, gap, slack, limit, span⟩, units⟩ b p V hV hkl hs
  clear hd hs hkl
  have HDEA := fun V A c hV hA => decR_err b 2 p (p 2) rfl V A c hV (by omega) hA hr
  clear hr
  have s2 := fun V : World => neq_same V (p 2)
  have s3 := fun V : World => neq_same V (p 3)
  have r2 := fun V : World => eql_same V (p 2)
  have r3 := fun V : World => eql_same V (p 3)
  have hqr : ∀ V : World, (binOp .neq 30 (.agg #[.int .i64 0, .string ⟨#[]⟩, .int .i64 0, .int .u64 0, .int .u64 0, .int .u64 0, .int .u64 0, .int .u64 0]) (.agg #[.int .i64 0, .string ⟨#[]⟩, .int .i64 0, .int .u64 0, .int .u64 0, .int .u64 0, .int .u64 0, .int .u64 0])).run Tryd.prog V = .ok (.bool false) V := fun V => by have h := neq_req reqZ reqZ V; rwa [beq_self_eq_true, Bool.not_true] at h
  have hqa : ∀ V : World, (binOp .eql 36 (.agg #[.int .i64 0, .int .i64 0, .int .u64 0, .int .u64 0, .int .i64 0, .int .u64 0, .int .u64 0, .int .u64 0, .int .u64 0, .int .u64 0, .int .u64 0, .int .u64 0]) (.agg #[.int .i64 0, .int .i64 0, .int .u64 0, .int .u64 0, .int .i64 0, .int .u64 0, .int .u64 0, .int .u64 0, .int .u64 0, .int .u64 0, .int .u64 0, .int .u64 0])).run Tryd.prog V = .ok (.bool true) V := fun V => by have h := eql_ans ansZ ansZ V; rwa [beq_self_eq_true] at h
  have hbl : (Bs ([] : List UInt8) ++ Bs b).length = b.length := by simp [Bs]
  have hroom : (Bs ([] : List UInt8)).length + b.length ≤ 140737488355328 := by simp [Bs]; omega
  have HHL := Go.Lib.hid hl
  go_enter Tryd.func5, Tryd.ntmps5
  go_wp2_with fail
  refine (awake_calls p w hp).mono ?_
  rintro e w1 ⟨rfl, hb1⟩
  have HB := Go.Lib.hid hb1
  have HE := Go.Lib.hid (e4_below hp hb1)
  have HC := Go.Lib.hid (cells_below hb1 hA)
  clear hb1 hp hA
  have hbn : Below w1.heap.size w1 (w1.alloc (.cells #[] 5)) := (Below.refl _ _).alloc (Nat.le_refl _) _
  have HO3 := Go.Lib.hid (own_fresh (w := w1.alloc (.cells #[] 5)) (b := w1.heap.size) (g := w1.heap.size) (e := 5) (l := []) (heap_here w1 (.cells #[] 5) (w1.heap.size) (by simp)) (by simp) 0 rfl (by decide))
  have HB3 := Go.Lib.hid hbn
  have HC3 := Go.Lib.hid (cells_below hbn HC.out)
  have hsz3 : w1.heap.size ≤ (w1.alloc (.cells #[] 5)).heap.size := by simp
  clear hbn
  go_wp2_with (first
    | (at_builtin; (with_reducible refine wpList_append_all (s := .tmp 21) (x := .tmp 22) (t := 37) (e := 5) (z := .int .u8 0) (ht := Tryd.underlying37) (hinfo := info8) (base := w1.heap.size) (v := .slice (some ⟨w1.heap.size, 0, none⟩) 0 0) (vs := Bs []) (hown := HO3.out) (hbase := hsz3) (A := A) (c := c) (l := b) (hA := HC3.out) (hroom := hroom) (hgd := rfl) (hz := ?_) (ho := ?_) (hs := ?_) (hx := ?_) (h := ?_)); rfl; rfl; rfl; rfl; intro v4 w4 hown4 hb4; have HO4 := Go.Lib.hid hown4; have HB4 := Go.Lib.hid hb4; clear hown4 hb4))
  obtain ⟨A4, c4, hv4, _, _, hc4⟩ := own_slice HO4.out
  rw [hbl] at hv4
  subst hv4
  have hb24 := HB3.out.trans HB4.out
  have HBn := Go.Lib.hid (below_then HB.out hb24)
  have HEn := Go.Lib.hid (e4_below HE.out hb24)
  have HCn := Go.Lib.hid (cells_below hb24 HC.out)
  clear hb24 HB HE HC HC3 HO3 HO4 HB3 HB4 hsz3
  refine (HDEC w4 A4 c4 HEn.out hc4).mono ?_
  rintro e w5 ⟨rfl, HB5⟩
  have HC := Go.Lib.hid (cells_below HB5.out HCn.out)
  have hb6 : Below w5.heap.size w5 (w5.alloc (.cells #[.int .i64 op, .string ⟨key.toArray⟩, .int .i64 kind, .int .u64 (n64 gap), .int .u64 (n64 slack), .int .u64 (n64 limit), .int .u64 (n64 span), .int .u64 (n64 units)] 30)) := (Below.refl _ _).alloc (Nat.le_refl _) _
  have HC6 := Go.Lib.hid (cells_below hb6 HC.out)
  have HB6 := Go.Lib.hid (below_then (below_then HBn.out HB5.out) hb6)
  have HE6 := Go.Lib.hid (e4_below HEn.out (below_then HB5.out hb6))
  have HX := Go.Lib.hid (heap_here w5 (.cells #[.int .i64 op, .string ⟨key.toArray⟩, .int .i64 kind, .int .u64 (n64 gap), .int .u64 (n64 slack), .int .u64 (n64 limit), .int .u64 (n64 span), .int .u64 (n64 units)] 30) w5.heap.size rfl)
  have hlt5 : w5.heap.size < (w5.alloc (.cells #[.int .i64 op, .string ⟨key.toArray⟩, .int .i64 kind, .int .u64 (n64 gap), .int .u64 (n64 slack), .int .u64 (n64 limit), .int .u64 (n64 span), .int .u64 (n64 units)] 30)).heap.size := by simp
  obtain ⟨x0, x1, x2, x3, x4, x5, x6, x7⟩ := box8 HX.out
  clear hb6 HC HBn HB5 HEn HCn hc4
  have e2 := HE6.out 2 (by decide) (by decide)
  have e3 := HE6.out 3 (by decide) (by decide)
  simp only [errG, errv] at e2 e3
  have HAP := Go.Lib.hid (apart_below HAP0.out HB6.out)
  have n32 := neq_other (apart_symm HAP.out)
  have n23 := neq_other HAP.out
  have m32 := eql_other (apart_symm HAP.out)
  have m23 := eql_other HAP.out
  simp only [reqA, ansA]
  go_wp2_with fail
  refine (HENC _ HE6.out).mono ?_
  rintro e w7 ⟨A7, c7, rfl, HC7, HB7⟩
  have HC := Go.Lib.hid (cells_below HB7.out HC6.out)
  have HB := Go.Lib.hid (below_then HB6.out HB7.out)
  have HE := Go.Lib.hid (e4_below HE6.out HB7.out)
  clear HX x0 x1 x2 x3 x4 x5 x6 x7 e2 e3 HAP n32 n23 m32 m23 hlt5 HC6 HB6 HE6 HB7
  go_wp2_with fail
  refine (same_true A A7 c c7 b w7 HHL.out HC.out HC7.out).mono ?_
  rintro e w8 ⟨rfl, HB8⟩
  have HC' := Go.Lib.hid (cells_below HB8.out HC.out)
  have HB' := Go.Lib.hid (below_then HB.out HB8.out)
  have HE' := Go.Lib.hid (e4_below HE.out HB8.out)
  clear HC HB HE HB8 HC7
  have HC := HC'
  have HB := HB'
  have HE := HE'
  clear HC' HB' HE'
  have hbn : Below w8.heap.size w8 (w8.alloc (.cells #[] 5)) := (Below.refl _ _).alloc (Nat.le_refl _) _
  have HO3 := Go.Lib.hid (own_fresh (w := w8.alloc (.cells #[] 5)) (b := w8.heap.size) (g := w8.heap.size) (e := 5) (l := []) (heap_here w8 (.cells #[] 5) (w8.heap.size) (by simp)) (by simp) 0 rfl (by decide))
  have HB3 := Go.Lib.hid hbn
  have HC3 := Go.Lib.hid (cells_below hbn HC.out)
  have hsz3 : w8.heap.size ≤ (w8.alloc (.cells #[] 5)).heap.size := by simp
  clear hbn
  go_wp2_with (first
    | (at_builtin; (with_reducible refine wpList_append_all (s := .tmp 60) (x := .tmp 61) (t := 37) (e := 5) (z := .int .u8 0) (ht := Tryd.underlying37) (hinfo := info8) (base := w8.heap.size) (v := .slice (some ⟨w8.heap.size, 0, none⟩) 0 0) (vs := Bs []) (hown := HO3.out) (hbase := hsz3) (A := A) (c := c) (l := b) (hA := HC3.out) (hroom := hroom) (hgd := rfl) (hz := ?_) (ho := ?_) (hs := ?_) (hx := ?_) (h := ?_)); rfl; rfl; rfl; rfl; intro v4 w4 hown4 hb4; have HO4 := Go.Lib.hid hown4; have HB4 := Go.Lib.hid hb4; clear hown4 hb4))
  obtain ⟨A4, c4, hv4, _, _, hc4⟩ := own_slice HO4.out
  rw [hbl] at hv4
  subst hv4
  have hb24 := HB3.out.trans HB4.out
  have HBn := Go.Lib.hid (below_then HB.out hb24)
  have HEn := Go.Lib.hid (e4_below HE.out hb24)
  have HCn := Go.Lib.hid (cells_below hb24 HC.out)
  clear hb24 HB HE HC HC3 HO3 HO4 HB3 HB4 hsz3
  refine (HDEA w4 A4 c4 HEn.out hc4).mono ?_
  rintro e w9 ⟨rfl, HB5⟩
  have HC := Go.Lib.hid (cells_below HB5.out HCn.out)
  have hb6 : Below w9.heap.size w9 (w9.alloc (.cells #[.int .i64 0, .int .i64 0, .int .u64 0, .int .u64 0, .int .i64 0, .int .u64 0, .int .u64 0, .int .u64 0, .int .u64 0, .int .u64 0, .int .u64 0, .int .u64 0] 36)) := (Below.refl _ _).alloc (Nat.le_refl _) _
  have HC6 := Go.Lib.hid (cells_below hb6 HC.out)
  have HB6 := Go.Lib.hid (below_then (below_then HBn.out HB5.out) hb6)
  have HE6 := Go.Lib.hid (e4_below HEn.out (below_then HB5.out hb6))
  have HX := Go.Lib.hid (heap_here w9 (.cells #[.int .i64 0, .int .i64 0, .int .u64 0, .int .u64 0, .int .i64 0, .int .u64 0, .int .u64 0, .int .u64 0, .int .u64 0, .int .u64 0, .int .u64 0, .int .u64 0] 36) w9.heap.size rfl)
  have hlt5 : w9.heap.size < (w9.alloc (.cells #[.int .i64 0, .int .i64 0, .int .u64 0, .int .u64 0, .int .i64 0, .int .u64 0, .int .u64 0, .int .u64 0, .int .u64 0, .int .u64 0, .int .u64 0, .int .u64 0] 36)).heap.size := by simp
  obtain ⟨y0, y1, y2, y3, y4, y5, y6, y7, y8, y9, y10, y11⟩ := box12 HX.out
  clear hb6 HC HBn HB5 HEn HCn hc4
  have e2 := HE6.out 2 (by decide) (by decide)
  have e3 := HE6.out 3 (by decide) (by decide)
  simp only [errG, errv] at e2 e3
  have HAP := Go.Lib.hid (apart_below HAP0.out HB6.out)
  have n32 := neq_other (apart_symm HAP.out)
  have n23 := neq_other HAP.out
  have m32 := eql_other (apart_symm HAP.out)
  have m23 := eql_other HAP.out
  have hfz := heap_frozen HX.out
  go_wp2
  go_ret
  exact ⟨rfl, HB6.out⟩

set_option maxRecDepth 100000 in
set_option maxHeartbeats 6400000 in
theorem forth_03 (op : Int) (key : List UInt8) (kind : Int) (gap slack limit span units : UInt64) (A : Option Addr) (c : Nat) (b : List UInt8) (p : Nat → Addr) (w : World) (hp : E4 w p) (hA : Cells w A (Bs b)) (hl : b.length ≤ 16777216) (hap : Apart w (p 2) (p 3)) (hd : decS b = (⟨op, key, ⟨kind, gap, slack, limit, span⟩, units⟩, 0)) (hs : encS ⟨op, key, ⟨kind, gap, slack, limit, span⟩, units⟩ = (b, 0)) (hkl : key.length ≤ 9223372036854775807) (hr : decR b = (ansZ, 3)) :
    Calls Tryd.prog 5 #[.slice A b.length c] w fun e w' => e = .returned (.bool true) ∧ Below w.heap.size w w' := by
  have HAP0 := Go.Lib.hid hap
  clear hap
  have HDEC := fun V A c hV hA => dec_ok ⟨op, key, ⟨kind, gap, slack, limit, span⟩, units⟩ b p V A c hV (by omega) hA hd
  have HENC := fun V hV => enc_ok ⟨op, key, ⟨kind, gap, slack, limit, span⟩, units⟩ b p V hV hkl hs
  clear hd hs hkl
  have HDEA := fun V A c hV hA => decR_err b 3 p (p 3) rfl V A c hV (by omega) hA hr
  clear hr
  have s2 := fun V : World => neq_same V (p 2)
  have s3 := fun V : World => neq_same V (p 3)
  have r2 := fun V : World => eql_same V (p 2)
  have r3 := fun V : World => eql_same V (p 3)
  have hqr : ∀ V : World, (binOp .neq 30 (.agg #[.int .i64 0, .string ⟨#[]⟩, .int .i64 0, .int .u64 0, .int .u64 0, .int .u64 0, .int .u64 0, .int .u64 0]) (.agg #[.int .i64 0, .string ⟨#[]⟩, .int .i64 0, .int .u64 0, .int .u64 0, .int .u64 0, .int .u64 0, .int .u64 0])).run Tryd.prog V = .ok (.bool false) V := fun V => by have h := neq_req reqZ reqZ V; rwa [beq_self_eq_true, Bool.not_true] at h
  have hqa : ∀ V : World, (binOp .eql 36 (.agg #[.int .i64 0, .int .i64 0, .int .u64 0, .int .u64 0, .int .i64 0, .int .u64 0, .int .u64 0, .int .u64 0, .int .u64 0, .int .u64 0, .int .u64 0, .int .u64 0]) (.agg #[.int .i64 0, .int .i64 0, .int .u64 0, .int .u64 0, .int .i64 0, .int .u64 0, .int .u64 0, .int .u64 0, .int .u64 0, .int .u64 0, .int .u64 0, .int .u64 0])).run Tryd.prog V = .ok (.bool true) V := fun V => by have h := eql_ans ansZ ansZ V; rwa [beq_self_eq_true] at h
  have hbl : (Bs ([] : List UInt8) ++ Bs b).length = b.length := by simp [Bs]
  have hroom : (Bs ([] : List UInt8)).length + b.length ≤ 140737488355328 := by simp [Bs]; omega
  have HHL := Go.Lib.hid hl
  go_enter Tryd.func5, Tryd.ntmps5
  go_wp2_with fail
  refine (awake_calls p w hp).mono ?_
  rintro e w1 ⟨rfl, hb1⟩
  have HB := Go.Lib.hid hb1
  have HE := Go.Lib.hid (e4_below hp hb1)
  have HC := Go.Lib.hid (cells_below hb1 hA)
  clear hb1 hp hA
  have hbn : Below w1.heap.size w1 (w1.alloc (.cells #[] 5)) := (Below.refl _ _).alloc (Nat.le_refl _) _
  have HO3 := Go.Lib.hid (own_fresh (w := w1.alloc (.cells #[] 5)) (b := w1.heap.size) (g := w1.heap.size) (e := 5) (l := []) (heap_here w1 (.cells #[] 5) (w1.heap.size) (by simp)) (by simp) 0 rfl (by decide))
  have HB3 := Go.Lib.hid hbn
  have HC3 := Go.Lib.hid (cells_below hbn HC.out)
  have hsz3 : w1.heap.size ≤ (w1.alloc (.cells #[] 5)).heap.size := by simp
  clear hbn
  go_wp2_with (first
    | (at_builtin; (with_reducible refine wpList_append_all (s := .tmp 21) (x := .tmp 22) (t := 37) (e := 5) (z := .int .u8 0) (ht := Tryd.underlying37) (hinfo := info8) (base := w1.heap.size) (v := .slice (some ⟨w1.heap.size, 0, none⟩) 0 0) (vs := Bs []) (hown := HO3.out) (hbase := hsz3) (A := A) (c := c) (l := b) (hA := HC3.out) (hroom := hroom) (hgd := rfl) (hz := ?_) (ho := ?_) (hs := ?_) (hx := ?_) (h := ?_)); rfl; rfl; rfl; rfl; intro v4 w4 hown4 hb4; have HO4 := Go.Lib.hid hown4; have HB4 := Go.Lib.hid hb4; clear hown4 hb4))
  obtain ⟨A4, c4, hv4, _, _, hc4⟩ := own_slice HO4.out
  rw [hbl] at hv4
  subst hv4
  have hb24 := HB3.out.trans HB4.out
  have HBn := Go.Lib.hid (below_then HB.out hb24)
  have HEn := Go.Lib.hid (e4_below HE.out hb24)
  have HCn := Go.Lib.hid (cells_below hb24 HC.out)
  clear hb24 HB HE HC HC3 HO3 HO4 HB3 HB4 hsz3
  refine (HDEC w4 A4 c4 HEn.out hc4).mono ?_
  rintro e w5 ⟨rfl, HB5⟩
  have HC := Go.Lib.hid (cells_below HB5.out HCn.out)
  have hb6 : Below w5.heap.size w5 (w5.alloc (.cells #[.int .i64 op, .string ⟨key.toArray⟩, .int .i64 kind, .int .u64 (n64 gap), .int .u64 (n64 slack), .int .u64 (n64 limit), .int .u64 (n64 span), .int .u64 (n64 units)] 30)) := (Below.refl _ _).alloc (Nat.le_refl _) _
  have HC6 := Go.Lib.hid (cells_below hb6 HC.out)
  have HB6 := Go.Lib.hid (below_then (below_then HBn.out HB5.out) hb6)
  have HE6 := Go.Lib.hid (e4_below HEn.out (below_then HB5.out hb6))
  have HX := Go.Lib.hid (heap_here w5 (.cells #[.int .i64 op, .string ⟨key.toArray⟩, .int .i64 kind, .int .u64 (n64 gap), .int .u64 (n64 slack), .int .u64 (n64 limit), .int .u64 (n64 span), .int .u64 (n64 units)] 30) w5.heap.size rfl)
  have hlt5 : w5.heap.size < (w5.alloc (.cells #[.int .i64 op, .string ⟨key.toArray⟩, .int .i64 kind, .int .u64 (n64 gap), .int .u64 (n64 slack), .int .u64 (n64 limit), .int .u64 (n64 span), .int .u64 (n64 units)] 30)).heap.size := by simp
  obtain ⟨x0, x1, x2, x3, x4, x5, x6, x7⟩ := box8 HX.out
  clear hb6 HC HBn HB5 HEn HCn hc4
  have e2 := HE6.out 2 (by decide) (by decide)
  have e3 := HE6.out 3 (by decide) (by decide)
  simp only [errG, errv] at e2 e3
  have HAP := Go.Lib.hid (apart_below HAP0.out HB6.out)
  have n32 := neq_other (apart_symm HAP.out)
  have n23 := neq_other HAP.out
  have m32 := eql_other (apart_symm HAP.out)
  have m23 := eql_other HAP.out
  simp only [reqA, ansA]
  go_wp2_with fail
  refine (HENC _ HE6.out).mono ?_
  rintro e w7 ⟨A7, c7, rfl, HC7, HB7⟩
  have HC := Go.Lib.hid (cells_below HB7.out HC6.out)
  have HB := Go.Lib.hid (below_then HB6.out HB7.out)
  have HE := Go.Lib.hid (e4_below HE6.out HB7.out)
  clear HX x0 x1 x2 x3 x4 x5 x6 x7 e2 e3 HAP n32 n23 m32 m23 hlt5 HC6 HB6 HE6 HB7
  go_wp2_with fail
  refine (same_true A A7 c c7 b w7 HHL.out HC.out HC7.out).mono ?_
  rintro e w8 ⟨rfl, HB8⟩
  have HC' := Go.Lib.hid (cells_below HB8.out HC.out)
  have HB' := Go.Lib.hid (below_then HB.out HB8.out)
  have HE' := Go.Lib.hid (e4_below HE.out HB8.out)
  clear HC HB HE HB8 HC7
  have HC := HC'
  have HB := HB'
  have HE := HE'
  clear HC' HB' HE'
  have hbn : Below w8.heap.size w8 (w8.alloc (.cells #[] 5)) := (Below.refl _ _).alloc (Nat.le_refl _) _
  have HO3 := Go.Lib.hid (own_fresh (w := w8.alloc (.cells #[] 5)) (b := w8.heap.size) (g := w8.heap.size) (e := 5) (l := []) (heap_here w8 (.cells #[] 5) (w8.heap.size) (by simp)) (by simp) 0 rfl (by decide))
  have HB3 := Go.Lib.hid hbn
  have HC3 := Go.Lib.hid (cells_below hbn HC.out)
  have hsz3 : w8.heap.size ≤ (w8.alloc (.cells #[] 5)).heap.size := by simp
  clear hbn
  go_wp2_with (first
    | (at_builtin; (with_reducible refine wpList_append_all (s := .tmp 60) (x := .tmp 61) (t := 37) (e := 5) (z := .int .u8 0) (ht := Tryd.underlying37) (hinfo := info8) (base := w8.heap.size) (v := .slice (some ⟨w8.heap.size, 0, none⟩) 0 0) (vs := Bs []) (hown := HO3.out) (hbase := hsz3) (A := A) (c := c) (l := b) (hA := HC3.out) (hroom := hroom) (hgd := rfl) (hz := ?_) (ho := ?_) (hs := ?_) (hx := ?_) (h := ?_)); rfl; rfl; rfl; rfl; intro v4 w4 hown4 hb4; have HO4 := Go.Lib.hid hown4; have HB4 := Go.Lib.hid hb4; clear hown4 hb4))
  obtain ⟨A4, c4, hv4, _, _, hc4⟩ := own_slice HO4.out
  rw [hbl] at hv4
  subst hv4
  have hb24 := HB3.out.trans HB4.out
  have HBn := Go.Lib.hid (below_then HB.out hb24)
  have HEn := Go.Lib.hid (e4_below HE.out hb24)
  have HCn := Go.Lib.hid (cells_below hb24 HC.out)
  clear hb24 HB HE HC HC3 HO3 HO4 HB3 HB4 hsz3
  refine (HDEA w4 A4 c4 HEn.out hc4).mono ?_
  rintro e w9 ⟨rfl, HB5⟩
  have HC := Go.Lib.hid (cells_below HB5.out HCn.out)
  have hb6 : Below w9.heap.size w9 (w9.alloc (.cells #[.int .i64 0, .int .i64 0, .int .u64 0, .int .u64 0, .int .i64 0, .int .u64 0, .int .u64 0, .int .u64 0, .int .u64 0, .int .u64 0, .int .u64 0, .int .u64 0] 36)) := (Below.refl _ _).alloc (Nat.le_refl _) _
  have HC6 := Go.Lib.hid (cells_below hb6 HC.out)
  have HB6 := Go.Lib.hid (below_then (below_then HBn.out HB5.out) hb6)
  have HE6 := Go.Lib.hid (e4_below HEn.out (below_then HB5.out hb6))
  have HX := Go.Lib.hid (heap_here w9 (.cells #[.int .i64 0, .int .i64 0, .int .u64 0, .int .u64 0, .int .i64 0, .int .u64 0, .int .u64 0, .int .u64 0, .int .u64 0, .int .u64 0, .int .u64 0, .int .u64 0] 36) w9.heap.size rfl)
  have hlt5 : w9.heap.size < (w9.alloc (.cells #[.int .i64 0, .int .i64 0, .int .u64 0, .int .u64 0, .int .i64 0, .int .u64 0, .int .u64 0, .int .u64 0, .int .u64 0, .int .u64 0, .int .u64 0, .int .u64 0] 36)).heap.size := by simp
  obtain ⟨y0, y1, y2, y3, y4, y5, y6, y7, y8, y9, y10, y11⟩ := box12 HX.out
  clear hb6 HC HBn HB5 HEn HCn hc4
  have e2 := HE6.out 2 (by decide) (by decide)
  have e3 := HE6.out 3 (by decide) (by decide)
  simp only [errG, errv] at e2 e3
  have HAP := Go.Lib.hid (apart_below HAP0.out HB6.out)
  have n32 := neq_other (apart_symm HAP.out)
  have n23 := neq_other HAP.out
  have m32 := eql_other (apart_symm HAP.out)
  have m23 := eql_other HAP.out
  have hfz := heap_frozen HX.out
  go_wp2
  go_ret
  exact ⟨rfl, HB6.out⟩

set_option maxRecDepth 100000 in
set_option maxHeartbeats 6400000 in
theorem forth_00 (op : Int) (key : List UInt8) (kind : Int) (gap slack limit span units : UInt64) (aop code : Int) (at_ retry : UInt64) (k : Int) (p1 p2 p3 p4 l1 l2 l3 : UInt64) (A : Option Addr) (c : Nat) (b : List UInt8) (p : Nat → Addr) (w : World) (hp : E4 w p) (hA : Cells w A (Bs b)) (hl : b.length ≤ 16777216) (hap : Apart w (p 2) (p 3)) (hd : decS b = (⟨op, key, ⟨kind, gap, slack, limit, span⟩, units⟩, 0)) (hs : encS ⟨op, key, ⟨kind, gap, slack, limit, span⟩, units⟩ = (b, 0)) (hkl : key.length ≤ 9223372036854775807) (hr : decR b = (⟨aop, ⟨code, at_, retry, ⟨k, p1, p2, p3, p4⟩, ⟨l1, l2, l3⟩⟩⟩, 0)) (hsr : encR ⟨aop, ⟨code, at_, retry, ⟨k, p1, p2, p3, p4⟩, ⟨l1, l2, l3⟩⟩⟩ = (b, 0)) :
    Calls Tryd.prog 5 #[.slice A b.length c] w fun e w' => e = .returned (.bool true) ∧ Below w.heap.size w w' := by
  have HAP0 := Go.Lib.hid hap
  clear hap
  have HDEC := fun V A c hV hA => dec_ok ⟨op, key, ⟨kind, gap, slack, limit, span⟩, units⟩ b p V A c hV (by omega) hA hd
  have HENC := fun V hV => enc_ok ⟨op, key, ⟨kind, gap, slack, limit, span⟩, units⟩ b p V hV hkl hs
  clear hd hs hkl
  have HDEA := fun V A c hV hA => decR_ok_calls ⟨aop, ⟨code, at_, retry, ⟨k, p1, p2, p3, p4⟩, ⟨l1, l2, l3⟩⟩⟩ b p V A c hV (by omega) hA hr
  have HENA := fun V hV => encR_ok_calls ⟨aop, ⟨code, at_, retry, ⟨k, p1, p2, p3, p4⟩, ⟨l1, l2, l3⟩⟩⟩ b p V hV hsr
  clear hr hsr
  have s2 := fun V : World => neq_same V (p 2)
  have s3 := fun V : World => neq_same V (p 3)
  have r2 := fun V : World => eql_same V (p 2)
  have r3 := fun V : World => eql_same V (p 3)
  have hqr : ∀ V : World, (binOp .neq 30 (.agg #[.int .i64 0, .string ⟨#[]⟩, .int .i64 0, .int .u64 0, .int .u64 0, .int .u64 0, .int .u64 0, .int .u64 0]) (.agg #[.int .i64 0, .string ⟨#[]⟩, .int .i64 0, .int .u64 0, .int .u64 0, .int .u64 0, .int .u64 0, .int .u64 0])).run Tryd.prog V = .ok (.bool false) V := fun V => by have h := neq_req reqZ reqZ V; rwa [beq_self_eq_true, Bool.not_true] at h
  have hqa : ∀ V : World, (binOp .eql 36 (.agg #[.int .i64 0, .int .i64 0, .int .u64 0, .int .u64 0, .int .i64 0, .int .u64 0, .int .u64 0, .int .u64 0, .int .u64 0, .int .u64 0, .int .u64 0, .int .u64 0]) (.agg #[.int .i64 0, .int .i64 0, .int .u64 0, .int .u64 0, .int .i64 0, .int .u64 0, .int .u64 0, .int .u64 0, .int .u64 0, .int .u64 0, .int .u64 0, .int .u64 0])).run Tryd.prog V = .ok (.bool true) V := fun V => by have h := eql_ans ansZ ansZ V; rwa [beq_self_eq_true] at h
  have hbl : (Bs ([] : List UInt8) ++ Bs b).length = b.length := by simp [Bs]
  have hroom : (Bs ([] : List UInt8)).length + b.length ≤ 140737488355328 := by simp [Bs]; omega
  have HHL := Go.Lib.hid hl
  go_enter Tryd.func5, Tryd.ntmps5
  go_wp2_with fail
  refine (awake_calls p w hp).mono ?_
  rintro e w1 ⟨rfl, hb1⟩
  have HB := Go.Lib.hid hb1
  have HE := Go.Lib.hid (e4_below hp hb1)
  have HC := Go.Lib.hid (cells_below hb1 hA)
  clear hb1 hp hA
  have hbn : Below w1.heap.size w1 (w1.alloc (.cells #[] 5)) := (Below.refl _ _).alloc (Nat.le_refl _) _
  have HO3 := Go.Lib.hid (own_fresh (w := w1.alloc (.cells #[] 5)) (b := w1.heap.size) (g := w1.heap.size) (e := 5) (l := []) (heap_here w1 (.cells #[] 5) (w1.heap.size) (by simp)) (by simp) 0 rfl (by decide))
  have HB3 := Go.Lib.hid hbn
  have HC3 := Go.Lib.hid (cells_below hbn HC.out)
  have hsz3 : w1.heap.size ≤ (w1.alloc (.cells #[] 5)).heap.size := by simp
  clear hbn
  go_wp2_with (first
    | (at_builtin; (with_reducible refine wpList_append_all (s := .tmp 21) (x := .tmp 22) (t := 37) (e := 5) (z := .int .u8 0) (ht := Tryd.underlying37) (hinfo := info8) (base := w1.heap.size) (v := .slice (some ⟨w1.heap.size, 0, none⟩) 0 0) (vs := Bs []) (hown := HO3.out) (hbase := hsz3) (A := A) (c := c) (l := b) (hA := HC3.out) (hroom := hroom) (hgd := rfl) (hz := ?_) (ho := ?_) (hs := ?_) (hx := ?_) (h := ?_)); rfl; rfl; rfl; rfl; intro v4 w4 hown4 hb4; have HO4 := Go.Lib.hid hown4; have HB4 := Go.Lib.hid hb4; clear hown4 hb4))
  obtain ⟨A4, c4, hv4, _, _, hc4⟩ := own_slice HO4.out
  rw [hbl] at hv4
  subst hv4
  have hb24 := HB3.out.trans HB4.out
  have HBn := Go.Lib.hid (below_then HB.out hb24)
  have HEn := Go.Lib.hid (e4_below HE.out hb24)
  have HCn := Go.Lib.hid (cells_below hb24 HC.out)
  clear hb24 HB HE HC HC3 HO3 HO4 HB3 HB4 hsz3
  refine (HDEC w4 A4 c4 HEn.out hc4).mono ?_
  rintro e w5 ⟨rfl, HB5⟩
  have HC := Go.Lib.hid (cells_below HB5.out HCn.out)
  have hb6 : Below w5.heap.size w5 (w5.alloc (.cells #[.int .i64 op, .string ⟨key.toArray⟩, .int .i64 kind, .int .u64 (n64 gap), .int .u64 (n64 slack), .int .u64 (n64 limit), .int .u64 (n64 span), .int .u64 (n64 units)] 30)) := (Below.refl _ _).alloc (Nat.le_refl _) _
  have HC6 := Go.Lib.hid (cells_below hb6 HC.out)
  have HB6 := Go.Lib.hid (below_then (below_then HBn.out HB5.out) hb6)
  have HE6 := Go.Lib.hid (e4_below HEn.out (below_then HB5.out hb6))
  have HX := Go.Lib.hid (heap_here w5 (.cells #[.int .i64 op, .string ⟨key.toArray⟩, .int .i64 kind, .int .u64 (n64 gap), .int .u64 (n64 slack), .int .u64 (n64 limit), .int .u64 (n64 span), .int .u64 (n64 units)] 30) w5.heap.size rfl)
  have hlt5 : w5.heap.size < (w5.alloc (.cells #[.int .i64 op, .string ⟨key.toArray⟩, .int .i64 kind, .int .u64 (n64 gap), .int .u64 (n64 slack), .int .u64 (n64 limit), .int .u64 (n64 span), .int .u64 (n64 units)] 30)).heap.size := by simp
  obtain ⟨x0, x1, x2, x3, x4, x5, x6, x7⟩ := box8 HX.out
  clear hb6 HC HBn HB5 HEn HCn hc4
  have e2 := HE6.out 2 (by decide) (by decide)
  have e3 := HE6.out 3 (by decide) (by decide)
  simp only [errG, errv] at e2 e3
  have HAP := Go.Lib.hid (apart_below HAP0.out HB6.out)
  have n32 := neq_other (apart_symm HAP.out)
  have n23 := neq_other HAP.out
  have m32 := eql_other (apart_symm HAP.out)
  have m23 := eql_other HAP.out
  simp only [reqA, ansA]
  go_wp2_with fail
  refine (HENC _ HE6.out).mono ?_
  rintro e w7 ⟨A7, c7, rfl, HC7, HB7⟩
  have HC := Go.Lib.hid (cells_below HB7.out HC6.out)
  have HB := Go.Lib.hid (below_then HB6.out HB7.out)
  have HE := Go.Lib.hid (e4_below HE6.out HB7.out)
  clear HX x0 x1 x2 x3 x4 x5 x6 x7 e2 e3 HAP n32 n23 m32 m23 hlt5 HC6 HB6 HE6 HB7
  go_wp2_with fail
  refine (same_true A A7 c c7 b w7 HHL.out HC.out HC7.out).mono ?_
  rintro e w8 ⟨rfl, HB8⟩
  have HC' := Go.Lib.hid (cells_below HB8.out HC.out)
  have HB' := Go.Lib.hid (below_then HB.out HB8.out)
  have HE' := Go.Lib.hid (e4_below HE.out HB8.out)
  clear HC HB HE HB8 HC7
  have HC := HC'
  have HB := HB'
  have HE := HE'
  clear HC' HB' HE'
  have hbn : Below w8.heap.size w8 (w8.alloc (.cells #[] 5)) := (Below.refl _ _).alloc (Nat.le_refl _) _
  have HO3 := Go.Lib.hid (own_fresh (w := w8.alloc (.cells #[] 5)) (b := w8.heap.size) (g := w8.heap.size) (e := 5) (l := []) (heap_here w8 (.cells #[] 5) (w8.heap.size) (by simp)) (by simp) 0 rfl (by decide))
  have HB3 := Go.Lib.hid hbn
  have HC3 := Go.Lib.hid (cells_below hbn HC.out)
  have hsz3 : w8.heap.size ≤ (w8.alloc (.cells #[] 5)).heap.size := by simp
  clear hbn
  go_wp2_with (first
    | (at_builtin; (with_reducible refine wpList_append_all (s := .tmp 60) (x := .tmp 61) (t := 37) (e := 5) (z := .int .u8 0) (ht := Tryd.underlying37) (hinfo := info8) (base := w8.heap.size) (v := .slice (some ⟨w8.heap.size, 0, none⟩) 0 0) (vs := Bs []) (hown := HO3.out) (hbase := hsz3) (A := A) (c := c) (l := b) (hA := HC3.out) (hroom := hroom) (hgd := rfl) (hz := ?_) (ho := ?_) (hs := ?_) (hx := ?_) (h := ?_)); rfl; rfl; rfl; rfl; intro v4 w4 hown4 hb4; have HO4 := Go.Lib.hid hown4; have HB4 := Go.Lib.hid hb4; clear hown4 hb4))
  obtain ⟨A4, c4, hv4, _, _, hc4⟩ := own_slice HO4.out
  rw [hbl] at hv4
  subst hv4
  have hb24 := HB3.out.trans HB4.out
  have HBn := Go.Lib.hid (below_then HB.out hb24)
  have HEn := Go.Lib.hid (e4_below HE.out hb24)
  have HCn := Go.Lib.hid (cells_below hb24 HC.out)
  clear hb24 HB HE HC HC3 HO3 HO4 HB3 HB4 hsz3
  refine (HDEA w4 A4 c4 HEn.out hc4).mono ?_
  rintro e w9 ⟨rfl, HB5⟩
  have HC := Go.Lib.hid (cells_below HB5.out HCn.out)
  have hb6 : Below w9.heap.size w9 (w9.alloc (.cells #[.int .i64 aop, .int .i64 code, .int .u64 (n64 at_), .int .u64 (n64 retry), .int .i64 k, .int .u64 (n64 p1), .int .u64 (n64 p2), .int .u64 (n64 p3), .int .u64 (n64 p4), .int .u64 (n64 l1), .int .u64 (n64 l2), .int .u64 (n64 l3)] 36)) := (Below.refl _ _).alloc (Nat.le_refl _) _
  have HC6 := Go.Lib.hid (cells_below hb6 HC.out)
  have HB6 := Go.Lib.hid (below_then (below_then HBn.out HB5.out) hb6)
  have HE6 := Go.Lib.hid (e4_below HEn.out (below_then HB5.out hb6))
  have HX := Go.Lib.hid (heap_here w9 (.cells #[.int .i64 aop, .int .i64 code, .int .u64 (n64 at_), .int .u64 (n64 retry), .int .i64 k, .int .u64 (n64 p1), .int .u64 (n64 p2), .int .u64 (n64 p3), .int .u64 (n64 p4), .int .u64 (n64 l1), .int .u64 (n64 l2), .int .u64 (n64 l3)] 36) w9.heap.size rfl)
  have hlt5 : w9.heap.size < (w9.alloc (.cells #[.int .i64 aop, .int .i64 code, .int .u64 (n64 at_), .int .u64 (n64 retry), .int .i64 k, .int .u64 (n64 p1), .int .u64 (n64 p2), .int .u64 (n64 p3), .int .u64 (n64 p4), .int .u64 (n64 l1), .int .u64 (n64 l2), .int .u64 (n64 l3)] 36)).heap.size := by simp
  obtain ⟨y0, y1, y2, y3, y4, y5, y6, y7, y8, y9, y10, y11⟩ := box12 HX.out
  clear hb6 HC HBn HB5 HEn HCn hc4
  have e2 := HE6.out 2 (by decide) (by decide)
  have e3 := HE6.out 3 (by decide) (by decide)
  simp only [errG, errv] at e2 e3
  have HAP := Go.Lib.hid (apart_below HAP0.out HB6.out)
  have n32 := neq_other (apart_symm HAP.out)
  have n23 := neq_other HAP.out
  have m32 := eql_other (apart_symm HAP.out)
  have m23 := eql_other HAP.out
  simp only [ansA]
  go_wp2_with fail
  refine (HENA _ HE6.out).mono ?_
  rintro e w11 ⟨A7, c7, rfl, HC7, HB7⟩
  have HC := Go.Lib.hid (cells_below HB7.out HC6.out)
  have HB := Go.Lib.hid (below_then HB6.out HB7.out)
  clear HX y0 y1 y2 y3 y4 y5 y6 y7 y8 y9 y10 y11 e2 e3 HAP n32 n23 m32 m23 hlt5 HC6 HB6 HE6 HB7
  go_wp2_with fail
  refine (same_true A A7 c c7 b w11 HHL.out HC.out HC7.out).mono ?_
  rintro e w12 ⟨rfl, HB8⟩
  go_wp2
  go_ret
  exact ⟨rfl, below_then HB.out HB8.out⟩

theorem forth_calls (A : Option Addr) (c : Nat) (b : List UInt8) (p : Nat → Addr) (w : World) (hp : E4A w p) (hA : Cells w A (Bs b)) :
    Calls Tryd.prog 5 #[.slice A b.length c] w fun e w' => e = .returned (.bool true) ∧ Below w.heap.size w w' := by
  by_cases hl : 16777216 < b.length
  · exact forth_big A c b p w hp.1 hA hl
  have hl' : b.length ≤ 16777216 := by omega
  have hap := hp.2 2 3 (by decide) (by decide) (by decide) (by decide) (by decide)
  have hd := dec_form b
  have hr := decR_form b
  have hkl : encS (decS b).1 = (b, 0) → (decS b).1.key.length ≤ 9223372036854775807 := fun he => by
    rcases encS_cases (decS b).1 with ⟨h1, h2⟩ | ⟨_, _, h, _⟩
    · rw [he] at h2; simp at h2
    · omega
  generalize hqd : decS b = q at hd hkl
  generalize hqr : decR b = r at hr
  obtain ⟨⟨op, key, ⟨kind, gap, slack, limit, span⟩, units⟩, kq⟩ := q
  obtain ⟨⟨aop, ⟨code, at_, retry, ⟨k, p1, p2, p3, p4⟩, ⟨l1, l2, l3⟩⟩⟩, kr⟩ := r
  rcases hd with ⟨e1, e2 | e2⟩ | ⟨e2, es⟩
  · simp only at e1 e2
    rw [e1, e2] at hqd
    rcases hr with ⟨a1, a2 | a2⟩ | ⟨a2, er⟩
    · simp only at a1 a2
      rw [a1, a2] at hqr
      exact forth_22 A c b p w hp.1 hA hl' hap hqd hqr
    · simp only at a1 a2
      rw [a1, a2] at hqr
      exact forth_23 A c b p w hp.1 hA hl' hap hqd hqr
    · simp only at a2 er
      rw [a2] at hqr
      exact forth_20 aop code at_ retry k p1 p2 p3 p4 l1 l2 l3 A c b p w hp.1 hA hl' hap hqd hqr er
  · simp only at e1 e2
    rw [e1, e2] at hqd
    rcases hr with ⟨a1, a2 | a2⟩ | ⟨a2, er⟩
    · simp only at a1 a2
      rw [a1, a2] at hqr
      exact forth_32 A c b p w hp.1 hA hl' hap hqd hqr
    · simp only at a1 a2
      rw [a1, a2] at hqr
      exact forth_33 A c b p w hp.1 hA hl' hap hqd hqr
    · simp only at a2 er
      rw [a2] at hqr
      exact forth_30 aop code at_ retry k p1 p2 p3 p4 l1 l2 l3 A c b p w hp.1 hA hl' hap hqd hqr er
  · simp only at e2 es
    rw [e2] at hqd
    rcases hr with ⟨a1, a2 | a2⟩ | ⟨a2, er⟩
    · simp only at a1 a2
      rw [a1, a2] at hqr
      exact forth_02 op key kind gap slack limit span units A c b p w hp.1 hA hl' hap hqd es (hkl es) hqr
    · simp only at a1 a2
      rw [a1, a2] at hqr
      exact forth_03 op key kind gap slack limit span units A c b p w hp.1 hA hl' hap hqd es (hkl es) hqr
    · simp only at a2 er
      rw [a2] at hqr
      exact forth_00 op key kind gap slack limit span units aop code at_ retry k p1 p2 p3 p4 l1 l2 l3 A c b p w hp.1 hA hl' hap hqd es (hkl es) hqr er
end Go.Proofs.YtonfeppenhebjaaDoor
