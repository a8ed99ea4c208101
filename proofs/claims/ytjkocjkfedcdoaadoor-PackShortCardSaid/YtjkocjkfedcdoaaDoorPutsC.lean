/- called and wanted: a Put's answer by both texts. (Printed by gen_putsc.py of this session.) -/
import Derived.Test.YtjkocjkfedcdoaaDoorPuts
namespace Go.Proofs.YtjkocjkfedcdoaaDoor
open Go Go.RowKit
attribute [local go_sem] IntKind.wrap_u64 c64_8 c8_64 c16_64 c32_64 c64_16 c64_32 or8 and8 shr64_7 shr64_8 shl64_8 or64 and64 n64_self n8_self beq_n64 beq_n8 bne_n8 bne_n64

set_option maxRecDepth 100000 in
set_option maxHeartbeats 1600000 in
theorem called_calls (kind : Int) (V : Value) (x : UInt64) (s : List UInt8) (A : Option Addr) (c : Nat) (l : List UInt8) (p : Nat → Addr) (w : World) (hp : LongAt w p) (hl : l.length ≤ 140737488351232) (hA : Cells w A (Bs l)) :
    Calls Tryd.prog 51 #[.agg #[.int .i64 kind, V, .int .u64 (n64 x), .string ⟨s.toArray⟩], .slice A l.length c] w fun e w' => GaveE p w w' e (putS kind x s l) := by
  have hbx : Below w.heap.size w (w.alloc (.cells #[.int .i64 kind, V, .int .u64 (n64 x), .string ⟨s.toArray⟩] 60)) := (Below.refl _ _).alloc (Nat.le_refl _) _
  have HBX := Go.Lib.hid hbx
  have HA := Go.Lib.hid (cells_below hbx hA)
  have HP := Go.Lib.hid (longAt_below hp hbx)
  clear hp
  clear hbx hA
  by_cases k1 : kind = 1
  · subst k1
    rw [show putS 1 x s l = (l ++ leS x.toUInt16.toUInt64 2, 0) from rfl]
    go_enter Tryd.func51, Tryd.ntmps51
    go_wp2_with fail
    refine (putU16_calls A c l x.toUInt16 _ hl HA.out).mono ?_
    rintro e w1 ⟨v, rfl, hv, hb⟩
    have HV := Go.Lib.hid hv
    have HB := Go.Lib.hid hb
    clear hv hb
    go_wp2
    go_ret2
    exact ⟨_, rfl, own_mono HV.out HBX.out.size, below_then HBX.out HB.out⟩
  have b1 : (kind == 1) = false := beq_eq_false_iff_ne.2 k1
  by_cases k2 : kind = 2
  · subst k2
    rw [show putS 2 x s l = (l ++ leS x.toUInt32.toUInt64 4, 0) from rfl]
    clear k1 b1
    go_enter Tryd.func51, Tryd.ntmps51
    go_wp2_with fail
    refine (putU32_calls A c l x.toUInt32 _ hl HA.out).mono ?_
    rintro e w1 ⟨v, rfl, hv, hb⟩
    have HV := Go.Lib.hid hv
    have HB := Go.Lib.hid hb
    clear hv hb
    go_wp2
    go_ret2
    exact ⟨_, rfl, own_mono HV.out HBX.out.size, below_then HBX.out HB.out⟩
  have b2 : (kind == 2) = false := beq_eq_false_iff_ne.2 k2
  by_cases k3 : kind = 3
  · subst k3
    rw [show putS 3 x s l = (l ++ leS x 8, 0) from rfl]
    clear k1 b1
    clear k2 b2
    go_enter Tryd.func51, Tryd.ntmps51
    go_wp2_with fail
    refine (putU64_calls A c l x _ hl HA.out).mono ?_
    rintro e w1 ⟨v, rfl, hv, hb⟩
    have HV := Go.Lib.hid hv
    have HB := Go.Lib.hid hb
    clear hv hb
    go_wp2
    go_ret2
    exact ⟨_, rfl, own_mono HV.out HBX.out.size, below_then HBX.out HB.out⟩
  have b3 : (kind == 3) = false := beq_eq_false_iff_ne.2 k3
  by_cases k4 : kind = 4
  · subst k4
    rw [show putS 4 x s l = textP l s from rfl]
    clear k1 b1
    clear k2 b2
    clear k3 b3
    go_enter Tryd.func51, Tryd.ntmps51
    go_wp2_with fail
    refine (putText_calls A c l s p _ HP.out hl HA.out).mono ?_
    rintro e w1 ⟨v, rfl, hv, hb⟩
    have HV := Go.Lib.hid hv
    have HB := Go.Lib.hid hb
    clear hv hb
    go_wp2
    go_ret2
    exact ⟨_, rfl, own_mono HV.out HBX.out.size, below_then HBX.out HB.out⟩
  have b4 : (kind == 4) = false := beq_eq_false_iff_ne.2 k4
  have hP : putS kind x s l = (l ++ numS x 9, 0) := by unfold putS; rw [if_neg k1, if_neg k2, if_neg k3, if_neg k4]
  rw [hP]
  clear hP k1 k2 k3 k4
  go_enter Tryd.func51, Tryd.ntmps51
  go_wp2_with fail
  refine (putNumber_calls A c l x _ hl HA.out).mono ?_
  rintro e w1 ⟨v, rfl, hv, hb⟩
  have HV := Go.Lib.hid hv
  have HB := Go.Lib.hid hb
  clear hv hb
  go_wp2
  go_ret2
  exact ⟨_, rfl, own_mono HV.out HBX.out.size, below_then HBX.out HB.out⟩

set_option maxRecDepth 100000 in
set_option maxHeartbeats 1600000 in
theorem wanted_calls (kind : Int) (V : Value) (x : UInt64) (s : List UInt8) (A : Option Addr) (c : Nat) (l : List UInt8) (w : World) (hl : l.length ≤ 140737488351232) (hA : Cells w A (Bs l)) :
    Calls Tryd.prog 50 #[.agg #[.int .i64 kind, V, .int .u64 (n64 x), .string ⟨s.toArray⟩], .slice A l.length c] w fun e w' => GaveF w w' e (putS kind x s l) := by
  have hbx : Below w.heap.size w (w.alloc (.cells #[.int .i64 kind, V, .int .u64 (n64 x), .string ⟨s.toArray⟩] 60)) := (Below.refl _ _).alloc (Nat.le_refl _) _
  have HBX := Go.Lib.hid hbx
  have HA := Go.Lib.hid (cells_below hbx hA)
  clear hbx hA
  by_cases k1 : kind = 1
  · subst k1
    rw [show putS 1 x s l = (l ++ leS x.toUInt16.toUInt64 2, 0) from rfl]
    go_enter Tryd.func50, Tryd.ntmps50
    go_wp2_with fail
    refine (rPutU16_calls A c l x.toUInt16 _ hl HA.out).mono ?_
    rintro e w1 ⟨v, rfl, hv, hb⟩
    have HV := Go.Lib.hid hv
    have HB := Go.Lib.hid hb
    clear hv hb
    go_wp2
    go_ret2
    exact ⟨_, rfl, own_mono HV.out HBX.out.size, below_then HBX.out HB.out⟩
  have b1 : (kind == 1) = false := beq_eq_false_iff_ne.2 k1
  by_cases k2 : kind = 2
  · subst k2
    rw [show putS 2 x s l = (l ++ leS x.toUInt32.toUInt64 4, 0) from rfl]
    clear k1 b1
    go_enter Tryd.func50, Tryd.ntmps50
    go_wp2_with fail
    refine (rPutU32_calls A c l x.toUInt32 _ hl HA.out).mono ?_
    rintro e w1 ⟨v, rfl, hv, hb⟩
    have HV := Go.Lib.hid hv
    have HB := Go.Lib.hid hb
    clear hv hb
    go_wp2
    go_ret2
    exact ⟨_, rfl, own_mono HV.out HBX.out.size, below_then HBX.out HB.out⟩
  have b2 : (kind == 2) = false := beq_eq_false_iff_ne.2 k2
  by_cases k3 : kind = 3
  · subst k3
    rw [show putS 3 x s l = (l ++ leS x 8, 0) from rfl]
    clear k1 b1
    clear k2 b2
    go_enter Tryd.func50, Tryd.ntmps50
    go_wp2_with fail
    refine (rPutU64_calls A c l x _ hl HA.out).mono ?_
    rintro e w1 ⟨v, rfl, hv, hb⟩
    have HV := Go.Lib.hid hv
    have HB := Go.Lib.hid hb
    clear hv hb
    go_wp2
    go_ret2
    exact ⟨_, rfl, own_mono HV.out HBX.out.size, below_then HBX.out HB.out⟩
  have b3 : (kind == 3) = false := beq_eq_false_iff_ne.2 k3
  by_cases k4 : kind = 4
  · subst k4
    rw [show putS 4 x s l = textP l s from rfl]
    clear k1 b1
    clear k2 b2
    clear k3 b3
    go_enter Tryd.func50, Tryd.ntmps50
    go_wp2_with fail
    refine (rputText_calls A c l s _ hl HA.out).mono ?_
    rintro e w1 ⟨v, rfl, hv, hb⟩
    have HV := Go.Lib.hid hv
    have HB := Go.Lib.hid hb
    clear hv hb
    go_wp2
    go_ret2
    exact ⟨_, rfl, own_mono HV.out HBX.out.size, below_then HBX.out HB.out⟩
  have b4 : (kind == 4) = false := beq_eq_false_iff_ne.2 k4
  have hP : putS kind x s l = (l ++ numS x 9, 0) := by unfold putS; rw [if_neg k1, if_neg k2, if_neg k3, if_neg k4]
  rw [hP]
  clear hP k1 k2 k3 k4
  go_enter Tryd.func50, Tryd.ntmps50
  go_wp2_with fail
  refine (rputNumber_calls A c l x _ hl HA.out).mono ?_
  rintro e w1 ⟨v, rfl, hv, hb⟩
  have HV := Go.Lib.hid hv
  have HB := Go.Lib.hid hb
  clear hv hb
  go_wp2
  go_ret2
  exact ⟨_, rfl, own_mono HV.out HBX.out.size, below_then HBX.out HB.out⟩

end Go.Proofs.YtjkocjkfedcdoaaDoor
