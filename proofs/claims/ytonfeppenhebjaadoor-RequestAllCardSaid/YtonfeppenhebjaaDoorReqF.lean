/- Package request: Frame. -/
import Derived.Test.YtonfeppenhebjaaDoorReqDR
namespace Go.Proofs.YtonfeppenhebjaaDoor
open Go Go.RowKit
set_option linter.unusedVariables false
set_option linter.unusedSimpArgs false
attribute [local go_sem] IntKind.wrap_u64 c64_8 c8_64 c16_64 c32_64 c64_16 c64_32 or8 and8 n64_self n8_self beq_n64 beq_n8 bne_n8 bne_n64 beq_n64_0 bne_n64_0 wrap_b8

/-- the frame of a payload -/
def frameS (b : List UInt8) : List UInt8 × Nat := if b.length = 0 then ([], 1) else if 256 < b.length then ([], 4) else ((165 : UInt8) :: (leS (UInt64.ofNat b.length) 2 ++ b), 0)

theorem len_u16 (n : Nat) (h : n ≤ 256) : n16 (UInt16.ofNat n) = (n : Int) := by
  unfold n16
  rw [UInt16.toNat_ofNat', Nat.mod_eq_of_lt (by omega)]
theorem len_u16_64 (n : Nat) (h : n ≤ 256) : (UInt16.ofNat n).toUInt64 = UInt64.ofNat n := by
  apply UInt64.toNat.inj
  rw [UInt16.toNat_toUInt64, UInt16.toNat_ofNat', UInt64.toNat_ofNat', Nat.mod_eq_of_lt (by omega), Nat.mod_eq_of_lt (by omega)]

set_option maxRecDepth 100000 in
set_option maxHeartbeats 1600000 in
theorem frame_calls (A : Option Addr) (c : Nat) (l : List UInt8) (p : Nat → Addr) (w : World) (hp : E4 w p) (hl : l.length ≤ 9223372036854775807) (hA : Cells w A (Bs l)) :
    Calls Tryd.prog 16 #[.slice A l.length c] w fun e w' => GaveE p w w' e (frameS l) := by
  by_cases h0 : l.length = 0
  · have hF : frameS l = ([], 1) := by unfold frameS; rw [if_pos h0]
    rw [hF]
    have e1 := e4_arg hp
    clear hp hF hA
    go_enter Tryd.func16, Tryd.ntmps16
    go_wp2
    go_quiet (fail)
    go_wp2
    go_ret2
    exact ⟨_, rfl, own_nil _ _ _, below_drewN _ _ _⟩
  by_cases hb : 256 < l.length
  · have hF : frameS l = ([], 4) := by unfold frameS; rw [if_neg h0, if_pos hb]
    rw [hF]
    have e4 := e4_lng hp
    clear hp hF hA
    go_enter Tryd.func16, Tryd.ntmps16
    go_wp2
    go_quiet (fail)
    go_wp2
    go_ret2
    exact ⟨_, rfl, own_nil _ _ _, below_drewN _ _ _⟩
  have hF : frameS l = ([(165 : UInt8)] ++ leS (UInt64.ofNat l.length) 2 ++ l, 0) := by unfold frameS; rw [if_neg h0, if_neg hb]; simp
  rw [hF]
  have hbb : Below w.heap.size w (w.alloc (.cells #[.int .u8 (n8 (165 : UInt8))] 5)) := (Below.refl _ _).alloc (Nat.le_refl _) _
  have hcb : Cells (w.alloc (.cells #[.int .u8 (n8 (165 : UInt8))] 5)) (some ⟨w.heap.size, 0, none⟩) (Bs [(165 : UInt8)]) := cells_new w (Bs [(165 : UInt8)]) 5 (0, 0)
  have hpu := putU16_calls (some ⟨w.heap.size, 0, none⟩) 1 [(165 : UInt8)] (UInt16.ofNat l.length) _ (by simp) hcb
  rw [len_u16_64 l.length (by omega), len_u16 l.length (by omega), show ([(165 : UInt8)] : List UInt8).length = 1 from rfl] at hpu
  have HP := Go.Lib.hid hpu
  have HBB := Go.Lib.hid hbb
  have HA1 := Go.Lib.hid (cells_below hbb hA)
  have hroom : ([(165 : UInt8)] ++ leS (UInt64.ofNat l.length) 2).length + l.length ≤ 140737488355328 := by simp [leS_length]; omega
  rw [← Bs_length] at hroom
  obtain ⟨W, hW⟩ : ∃ W, W = w.alloc (.cells #[.int .u8 (n8 (165 : UInt8))] 5) := ⟨_, rfl⟩
  clear hp hF hA hpu hcb hbb
  go_enter Tryd.func16, Tryd.ntmps16
  go_wp2_with fail
  have hWs : w.alloc (.cells #[.int .u8 165] 5) = W := hW.symm
  try rw [hWs]
  rw [← hW] at HP HBB HA1
  refine HP.out.mono ?_
  rintro e w1 ⟨v, rfl, hv, hb1⟩
  have HA2 := Go.Lib.hid (cells_below hb1 HA1.out)
  have HB1 := Go.Lib.hid (below_then HBB.out hb1)
  have HV := Go.Lib.hid (own_mono hv HBB.out.size)
  have hsz := HB1.out.size
  clear hv hb1 HP HBB HA1 hW hWs
  go_wp2_with (first
    | (at_builtin; (with_reducible refine wpList_append_all (W := w1) (s := .tmp 18) (x := .tmp 19) (t := 37) (e := 5) (z := .int .u8 0) (ht := Tryd.underlying37) (hinfo := info8) (base := w.heap.size) (v := v) (vs := Bs ([(165 : UInt8)] ++ leS (UInt64.ofNat l.length) 2)) (hown := HV.out) (hbase := hsz) (A := A) (c := c) (l := l) (hA := HA2.out) (hroom := hroom) (hgd := rfl) (hz := ?_) (ho := ?_) (hs := ?_) (hx := ?_) (h := ?_)); rfl; rfl; rfl; rfl; intro v2 w2 hown2 hb2; have HO := Go.Lib.hid hown2; have HB2 := Go.Lib.hid hb2; clear hown2 hb2))
  go_ret2
  refine ⟨_, rfl, ?_, HB1.out.trans HB2.out⟩
  have := HO.out
  rwa [← Bs_append] at this
end Go.Proofs.YtonfeppenhebjaaDoor
