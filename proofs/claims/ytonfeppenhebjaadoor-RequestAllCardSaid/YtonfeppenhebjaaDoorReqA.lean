/- Layer 20's law package: awake. -/
import Derived.Test.YtonfeppenhebjaaDoorReqS
namespace Go.Proofs.YtonfeppenhebjaaDoor
open Go Go.RowKit
set_option linter.unusedVariables false
set_option linter.unusedSimpArgs false
attribute [local go_sem] IntKind.wrap_u64 c64_8 c8_64 c16_64 c32_64 c64_16 c64_32 or8 and8 n64_self n8_self beq_n64 beq_n8 bne_n8 bne_n64 beq_n64_0 bne_n64_0 wrap_b8

theorem awk1 : encS ⟨3, [107], polZ, 0⟩ = ([3, 1, 0, 107], 0) := by decide +kernel
theorem awk2 : decS [3, 1, 0, 107] = (⟨3, [107], polZ, 0⟩, 0) := by decide +kernel
theorem awk3 : encR ⟨2, ⟨0, 7, 0, polZ, levZ⟩⟩ = ([2, 0, 7, 0, 0, 0, 0, 0, 0, 0], 0) := by decide +kernel
theorem awk4 : decR [2, 0, 7, 0, 0, 0, 0, 0, 0, 0] = (⟨2, ⟨0, 7, 0, polZ, levZ⟩⟩, 0) := by decide +kernel
theorem awk5 : frameS [5] = ([165, 1, 0, 5], 0) := by decide +kernel
/-- what a call gave, of a known content -/
theorem gave_lit {p : Nat → Addr} {w w' : World} {e : Ending} {r : List UInt8 × Nat} (h : GaveE p w w' e r) (l : List UInt8) (n : Nat) (hr : r = (l, 0)) (hn : l.length = n) :
    ∃ A c, e = .returned (.tuple #[.slice A n c, .nilIface]) ∧ Hid (Cells w' A (Bs l)) ∧ Hid (Below w.heap.size w w') := by
  obtain ⟨v, rfl, hv, hb⟩ := h
  subst hr
  obtain ⟨A, c, rfl, _, _, hc⟩ := own_slice hv
  exact ⟨A, c, by rw [Bs_length, hn]; rfl, hc, hb⟩
theorem enc_lit (p : Nat → Addr) (w : World) (hp : E4 w p) : Calls Tryd.prog 11 #[.agg #[.int .i64 3, .string ⟨#[107]⟩, .int .i64 0, .int .u64 0, .int .u64 0, .int .u64 0, .int .u64 0, .int .u64 0]] w fun e w' => ∃ A c, e = .returned (.tuple #[.slice A 4 c, .nilIface]) ∧ Hid (Cells w' A (Bs [3, 1, 0, 107])) ∧ Hid (Below w.heap.size w w') :=
  (encode_calls ⟨3, [107], polZ, 0⟩ p w hp (by decide)).mono fun e w' h => gave_lit h _ _ awk1 rfl
theorem encR_lit (p : Nat → Addr) (w : World) (hp : E4 w p) : Calls Tryd.prog 15 #[.agg #[.int .i64 2, .int .i64 0, .int .u64 7, .int .u64 0, .int .i64 0, .int .u64 0, .int .u64 0, .int .u64 0, .int .u64 0, .int .u64 0, .int .u64 0, .int .u64 0]] w fun e w' => ∃ A c, e = .returned (.tuple #[.slice A 10 c, .nilIface]) ∧ Hid (Cells w' A (Bs [2, 0, 7, 0, 0, 0, 0, 0, 0, 0])) ∧ Hid (Below w.heap.size w w') :=
  (encR_calls ⟨2, ⟨0, 7, 0, polZ, levZ⟩⟩ p w hp).mono fun e w' h => gave_lit h _ _ awk3 rfl
theorem frame_lit (A : Option Addr) (c : Nat) (p : Nat → Addr) (w : World) (hp : E4 w p) (hA : Cells w A (Bs [5])) : Calls Tryd.prog 16 #[.slice A 1 c] w fun e w' => ∃ A c, e = .returned (.tuple #[.slice A 4 c, .nilIface]) ∧ Hid (Cells w' A (Bs [165, 1, 0, 5])) ∧ Hid (Below w.heap.size w w') :=
  (frame_calls A c [5] p w hp (by decide) hA).mono fun e w' h => gave_lit h _ _ awk5 rfl
theorem dec_lit (A : Option Addr) (c : Nat) (p : Nat → Addr) (w : World) (hp : E4 w p) (hA : Cells w A (Bs [3, 1, 0, 107])) : Calls Tryd.prog 12 #[.slice A 4 c] w fun e w' => e = .returned (.tuple #[.agg #[.int .i64 3, .string ⟨#[107]⟩, .int .i64 0, .int .u64 0, .int .u64 0, .int .u64 0, .int .u64 0, .int .u64 0], .nilIface]) ∧ Hid (Below w.heap.size w w') := by
  refine (decode_calls A c [3, 1, 0, 107] p w hp (by decide) hA).mono ?_
  rintro e w' ⟨rfl, hb⟩
  exact ⟨by rw [awk2]; rfl, hb⟩
theorem decR_lit (A : Option Addr) (c : Nat) (p : Nat → Addr) (w : World) (hp : E4 w p) (hA : Cells w A (Bs [2, 0, 7, 0, 0, 0, 0, 0, 0, 0])) : Calls Tryd.prog 14 #[.slice A 10 c] w fun e w' => e = .returned (.tuple #[.agg #[.int .i64 2, .int .i64 0, .int .u64 7, .int .u64 0, .int .i64 0, .int .u64 0, .int .u64 0, .int .u64 0, .int .u64 0, .int .u64 0, .int .u64 0, .int .u64 0], .nilIface]) ∧ Hid (Below w.heap.size w w') := by
  refine (decR_calls A c [2, 0, 7, 0, 0, 0, 0, 0, 0, 0] p w hp (by decide) hA).mono ?_
  rintro e w' ⟨rfl, hb⟩
  exact ⟨by rw [awk4]; rfl, hb⟩
theorem same4 (A B : Option Addr) (c d : Nat) (l : List UInt8) (w : World) (hL : l.length = 4) (hA : Cells w A (Bs l)) (hB : Cells w B (Bs l)) :
    Calls Tryd.prog 13 #[.slice A 4 c, .slice B 4 d] w fun e w' => e = .returned (.bool true) ∧ Hid (Below w.heap.size w w') := by
  have h := same_calls A B c d l l w (by omega) hA hB
  rw [hL] at h
  refine h.mono ?_
  rintro e w' ⟨rfl, hb⟩
  exact ⟨by simp, hb⟩

set_option maxRecDepth 100000 in
set_option maxHeartbeats 3200000 in
theorem awake_calls (p : Nat → Addr) (w : World) (hp : E4 w p) : Calls Tryd.prog 8 #[] w fun e w' => e = .returned (.bool true) ∧ Below w.heap.size w w' := by
  have HE := Go.Lib.hid hp
  clear hp
  go_enter Tryd.func8, Tryd.ntmps8
  go_wp2_with fail
  refine (enc_lit p w HE.out).mono ?_
  rintro e w1 ⟨A1, c1, rfl, HC1, HB1⟩
  have HE1 := Go.Lib.hid (e4_below HE.out HB1.out)
  have hb2 : Below w1.heap.size w1 (w1.alloc (.cells #[.int .u8 3, .int .u8 1, .int .u8 0, .int .u8 107] 5)) := (Below.refl _ _).alloc (Nat.le_refl _) _
  have hcb : Cells (w1.alloc (.cells #[.int .u8 3, .int .u8 1, .int .u8 0, .int .u8 107] 5)) (some ⟨w1.heap.size, 0, none⟩) (Bs [3, 1, 0, 107]) := cells_new w1 (Bs [3, 1, 0, 107]) 5 (0, 0)
  obtain ⟨w2, hw2⟩ : ∃ w2, w2 = w1.alloc (.cells #[.int .u8 3, .int .u8 1, .int .u8 0, .int .u8 107] 5) := ⟨_, rfl⟩
  rw [← hw2] at hb2 hcb
  have HB2 := Go.Lib.hid hb2
  have HCB := Go.Lib.hid hcb
  have HC2 := Go.Lib.hid (cells_below hb2 HC1.out)
  clear hb2 hcb
  go_wp2_with fail
  rw [← hw2]
  clear hw2
  refine (same4 A1 _ c1 4 [3, 1, 0, 107] w2 rfl HC2.out HCB.out).mono ?_
  rintro e w3 ⟨rfl, HB3⟩
  have HB03 := Go.Lib.hid (below_then (below_then HB1.out HB2.out) HB3.out)
  have HC3 := Go.Lib.hid (cells_below HB3.out HC2.out)
  have HE3 := Go.Lib.hid (e4_below HE.out HB03.out)
  clear HB1 HB2 HB3 HC1 HC2 HCB HE1
  go_wp2_with fail
  refine (dec_lit A1 c1 p w3 HE3.out HC3.out).mono ?_
  rintro e w4 ⟨rfl, HB4⟩
  have HB04 := Go.Lib.hid (below_then HB03.out HB4.out)
  clear HB03 HB4 HE3 HC3
  go_wp2_with fail
  have hbx : Below w4.heap.size w4 (w4.alloc (.cells #[.int .i64 3, .string ⟨#[107]⟩, .int .i64 0, .int .u64 0, .int .u64 0, .int .u64 0, .int .u64 0, .int .u64 0] 30)) := (Below.refl _ _).alloc (Nat.le_refl _) _
  have HB05 := Go.Lib.hid (below_then HB04.out hbx)
  have HE5 := Go.Lib.hid (e4_below HE.out HB05.out)
  clear hbx HB04
  refine (encR_lit p _ HE5.out).mono ?_
  rintro e w6 ⟨A2, c2, rfl, HC6, HB6⟩
  have HB06 := Go.Lib.hid (below_then HB05.out HB6.out)
  have HE6 := Go.Lib.hid (e4_below HE.out HB06.out)
  clear HB05 HB6 HE5
  go_wp2_with fail
  refine (decR_lit A2 c2 p w6 HE6.out HC6.out).mono ?_
  rintro e w7 ⟨rfl, HB7⟩
  have HB07 := Go.Lib.hid (below_then HB06.out HB7.out)
  clear HB06 HB7 HE6 HC6
  have hbx : Below w7.heap.size w7 (w7.alloc (.cells #[.int .i64 2, .int .i64 0, .int .u64 7, .int .u64 0, .int .i64 0, .int .u64 0, .int .u64 0, .int .u64 0, .int .u64 0, .int .u64 0, .int .u64 0, .int .u64 0] 36)) := (Below.refl _ _).alloc (Nat.le_refl _) _
  have HB08 := Go.Lib.hid (below_then HB07.out hbx)
  have HX := Go.Lib.hid (heap_here w7 (.cells #[.int .i64 2, .int .i64 0, .int .u64 7, .int .u64 0, .int .i64 0, .int .u64 0, .int .u64 0, .int .u64 0, .int .u64 0, .int .u64 0, .int .u64 0, .int .u64 0] 36) w7.heap.size rfl)
  obtain ⟨w8, hw8⟩ : ∃ w8, w8 = w7.alloc (.cells #[.int .i64 2, .int .i64 0, .int .u64 7, .int .u64 0, .int .i64 0, .int .u64 0, .int .u64 0, .int .u64 0, .int .u64 0, .int .u64 0, .int .u64 0, .int .u64 0] 36) := ⟨_, rfl⟩
  have HSZ := Go.Lib.hid (show w8.heap.size = w7.heap.size + 1 by rw [hw8]; simp)
  rw [← hw8] at HB08 HX
  clear hbx
  have hb9 : Below w8.heap.size w8 (w8.alloc (.cells #[.int .u8 5] 5)) := (Below.refl _ _).alloc (Nat.le_refl _) _
  have hc9 : Cells (w8.alloc (.cells #[.int .u8 5] 5)) (some ⟨w8.heap.size, 0, none⟩) (Bs [5]) := cells_new w8 (Bs [5]) 5 (0, 0)
  have HB09 := Go.Lib.hid (below_then HB08.out hb9)
  have HX9 := Go.Lib.hid (below_heap hb9 HX.out)
  have HE9 := Go.Lib.hid (e4_below HE.out HB09.out)
  have HC9 := Go.Lib.hid hc9
  obtain ⟨w9, hw9⟩ : ∃ w9, w9 = w8.alloc (.cells #[.int .u8 5] 5) := ⟨_, rfl⟩
  rw [← hw9] at HB09 HX9 HE9 HC9
  clear hb9 hc9
  go_wp2_with fail
  rw [← hw8, ← hw9]
  have HC9' : Hid (Cells w9 (some ⟨w7.heap.size + 1, 0, none⟩) (Bs [5])) := by rw [← HSZ.out]; exact HC9.out
  refine (frame_lit _ _ p w9 HE9.out HC9'.out).mono ?_
  rintro e w10 ⟨A3, c3, rfl, HC10, HB10⟩
  have HB010 := Go.Lib.hid (below_then HB09.out HB10.out)
  have HX10 := Go.Lib.hid (below_heap HB10.out HX9.out)
  clear HB09 HB10 HX9 HE9 HC9 HC9' HX HB08 HB07 HSZ hw8 hw9
  obtain ⟨x0, x1, x2, x3, x4, x5, x6, x7, x8, x9, x10, x11⟩ := box12 HX10.out
  have hlt : w7.heap.size < w10.heap.size := heap_lt HX10.out
  have hb11 : Below w10.heap.size w10 (w10.alloc (.cells #[.int .u8 165, .int .u8 1, .int .u8 0, .int .u8 5] 5)) := (Below.refl _ _).alloc (Nat.le_refl _) _
  have hc11 : Cells (w10.alloc (.cells #[.int .u8 165, .int .u8 1, .int .u8 0, .int .u8 5] 5)) (some ⟨w10.heap.size, 0, none⟩) (Bs [165, 1, 0, 5]) := cells_new w10 (Bs [165, 1, 0, 5]) 5 (0, 0)
  have HB11 := Go.Lib.hid hb11
  have HC11 := Go.Lib.hid hc11
  clear hb11 hc11
  go_wp2_with fail
  refine (same4 A3 _ c3 4 [165, 1, 0, 5] _ rfl (cells_below HB11.out HC10.out) HC11.out).mono ?_
  rintro e w12 ⟨rfl, HB12⟩
  go_wp2
  go_ret
  exact ⟨rfl, below_then (below_then HB010.out HB11.out) HB12.out⟩
end Go.Proofs.YtonfeppenhebjaaDoor
