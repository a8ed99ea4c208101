/- taken: one taking call for what a put has put. (Printed by gen_taken.py of this session.) -/
import Derived.Test.YtjkocjkfedcdoaaDoorPackBackP
import Derived.Deep.RegionHeld3
namespace Go.Proofs.YtjkocjkfedcdoaaDoor
open Go Go.RowKit
attribute [local go_sem] IntKind.wrap_u64 c64_8 c8_64 c16_64 c32_64 c64_16 c64_32 or8 and8 shr64_7 shr64_8 shl64_8 or64 and64 n64_self n8_self beq_n64 beq_n8 bne_n8 bne_n64 beq_n16 beq_n32

/-- what taken gives -/
def GaveT (B g : Nat) (a0 a1 : Addr) (w w' : World) (e : Ending) (r : Bool × List UInt8 × Nat) : Prop := e = .returned (.bool r.1) ∧ Rd w' B g r.2.1 (fv a0 a1 r.2.2) ∧ Below B w w'

set_option maxRecDepth 100000 in
set_option maxHeartbeats 3200000 in
theorem taken_calls (kind : Int) (V : Value) (x : UInt64) (s : List UInt8) (w : World) (B g : Nat) (a0 a1 : Addr) (rest : List UInt8) (f : Nat) (hB : B ≤ w.heap.size) (hg : 1 < g) (hE : Errs w a0 a1) (hR : Rd w B g rest (fv a0 a1 f)) :
    Calls Tryd.prog 40 #[.pointer (some ⟨g, 0, none⟩), .agg #[.int .i64 kind, V, .int .u64 (n64 x), .string ⟨s.toArray⟩]] w fun e w' => GaveT B g a0 a1 w w' e (takenS kind x s rest f) := by
  have hbx : Below w.heap.size w (w.alloc (.cells #[.int .i64 kind, V, .int .u64 (n64 x), .string ⟨s.toArray⟩] 60)) := (Below.refl _ _).alloc (Nat.le_refl _) _
  have hgw : g < w.heap.size := by obtain ⟨_, _, _, h, _⟩ := hR; exact heap_lt h
  have hgw' : w.heap.size ≠ g := by omega
  have hBg : B ≤ g := by obtain ⟨_, _, h, _⟩ := hR; exact h
  have HR0 := Go.Lib.hid (rd_below hR hbx)
  have HE0 := Go.Lib.hid (errs_below hE hbx)
  have HBX0 := Go.Lib.hid (hbx.mono hB)
  clear hR hE hbx
  by_cases k1 : kind = 1
  · subst k1
    rw [show takenS 1 x s rest f = ((fixedS rest f 2).1.toUInt16 == x.toUInt16, (fixedS rest f 2).2) from rfl]
    go_enter Tryd.func40, Tryd.ntmps40
    go_wp2
    obtain ⟨W, hW⟩ : ∃ W, W = w.alloc (.cells #[.int .i64 1, V, .int .u64 (n64 x), .string ⟨s.toArray⟩] 60) := ⟨_, rfl⟩
    have c2 : W.cell? ⟨w.heap.size, 2, none⟩ = some (.int .u64 (n64 x)) := by rw [hW, cell_of_row _ _ _ _ _ _ (heap_here w _ w.heap.size rfl)]; rfl
    have HR := HR0
    have HE := HE0
    have HBX := HBX0
    rw [← hW] at HR HE HBX ⊢
    clear hW HR0 HE0 HBX0
    go_region_held3 (fun w' => w'.cell? ⟨w.heap.size, 2, none⟩ = some (.int .u64 (n64 x)))
      (first | exact c2 | exact (h2.cell (p := ⟨w.heap.size, 2, none⟩) hgw').trans c2)
      (first
        | (go_at_call 58; refine (u16_calls W.drew B g a0 a1 rest f HE.out HR.out).mono ?_; rintro e w1 ⟨rfl, h1, h2⟩))
    all_goals
      go_wp2
      go_ret
      exact ⟨by first | rfl | (show Ending.returned (.bool (n16 (fixedS rest f 2).1.toUInt16 == IntKind.u16.wrap (n64 x))) = _; rw [wrap_u16', c64_16, beq_n16]) | (show Ending.returned (.bool (n32 (fixedS rest f 4).1.toUInt32 == IntKind.u32.wrap (n64 x))) = _; rw [wrap_u32', c64_32, beq_n32]), h1, HBX.out.trans (undrew (h2.below hBg))⟩
  have b1 : (kind == 1) = false := beq_eq_false_iff_ne.2 k1
  by_cases k2 : kind = 2
  · subst k2
    rw [show takenS 2 x s rest f = ((fixedS rest f 4).1.toUInt32 == x.toUInt32, (fixedS rest f 4).2) from rfl]
    clear k1 b1
    go_enter Tryd.func40, Tryd.ntmps40
    go_wp2
    obtain ⟨W, hW⟩ : ∃ W, W = w.alloc (.cells #[.int .i64 2, V, .int .u64 (n64 x), .string ⟨s.toArray⟩] 60) := ⟨_, rfl⟩
    have c2 : W.cell? ⟨w.heap.size, 2, none⟩ = some (.int .u64 (n64 x)) := by rw [hW, cell_of_row _ _ _ _ _ _ (heap_here w _ w.heap.size rfl)]; rfl
    have HR := HR0
    have HE := HE0
    have HBX := HBX0
    rw [← hW] at HR HE HBX ⊢
    clear hW HR0 HE0 HBX0
    go_region_held3 (fun w' => w'.cell? ⟨w.heap.size, 2, none⟩ = some (.int .u64 (n64 x)))
      (first | exact c2 | exact (h2.cell (p := ⟨w.heap.size, 2, none⟩) hgw').trans c2)
      (first
        | (go_at_call 60; refine (u32_calls W.drew B g a0 a1 rest f HE.out HR.out).mono ?_; rintro e w1 ⟨rfl, h1, h2⟩))
    all_goals
      go_wp2
      go_ret
      exact ⟨by first | rfl | (show Ending.returned (.bool (n16 (fixedS rest f 2).1.toUInt16 == IntKind.u16.wrap (n64 x))) = _; rw [wrap_u16', c64_16, beq_n16]) | (show Ending.returned (.bool (n32 (fixedS rest f 4).1.toUInt32 == IntKind.u32.wrap (n64 x))) = _; rw [wrap_u32', c64_32, beq_n32]), h1, HBX.out.trans (undrew (h2.below hBg))⟩
  have b2 : (kind == 2) = false := beq_eq_false_iff_ne.2 k2
  by_cases k3 : kind = 3
  · subst k3
    rw [show takenS 3 x s rest f = ((fixedS rest f 8).1 == x, (fixedS rest f 8).2) from rfl]
    clear k1 b1
    clear k2 b2
    go_enter Tryd.func40, Tryd.ntmps40
    go_wp2
    obtain ⟨W, hW⟩ : ∃ W, W = w.alloc (.cells #[.int .i64 3, V, .int .u64 (n64 x), .string ⟨s.toArray⟩] 60) := ⟨_, rfl⟩
    have c2 : W.cell? ⟨w.heap.size, 2, none⟩ = some (.int .u64 (n64 x)) := by rw [hW, cell_of_row _ _ _ _ _ _ (heap_here w _ w.heap.size rfl)]; rfl
    have HR := HR0
    have HE := HE0
    have HBX := HBX0
    rw [← hW] at HR HE HBX ⊢
    clear hW HR0 HE0 HBX0
    go_region_held3 (fun w' => w'.cell? ⟨w.heap.size, 2, none⟩ = some (.int .u64 (n64 x)))
      (first | exact c2 | exact (h2.cell (p := ⟨w.heap.size, 2, none⟩) hgw').trans c2)
      (first
        | (go_at_call 62; refine (u64_calls W.drew B g a0 a1 rest f HE.out HR.out).mono ?_; rintro e w1 ⟨rfl, h1, h2⟩))
    all_goals
      go_wp2
      go_ret
      exact ⟨by first | rfl | (show Ending.returned (.bool (n16 (fixedS rest f 2).1.toUInt16 == IntKind.u16.wrap (n64 x))) = _; rw [wrap_u16', c64_16, beq_n16]) | (show Ending.returned (.bool (n32 (fixedS rest f 4).1.toUInt32 == IntKind.u32.wrap (n64 x))) = _; rw [wrap_u32', c64_32, beq_n32]), h1, HBX.out.trans (undrew (h2.below hBg))⟩
  have b3 : (kind == 3) = false := beq_eq_false_iff_ne.2 k3
  by_cases k4 : kind = 4
  · subst k4
    rw [show takenS 4 x s rest f = ((textS rest f).1 == s, (textS rest f).2) from rfl]
    clear k1 b1
    clear k2 b2
    clear k3 b3
    go_enter Tryd.func40, Tryd.ntmps40
    go_wp2
    obtain ⟨W, hW⟩ : ∃ W, W = w.alloc (.cells #[.int .i64 4, V, .int .u64 (n64 x), .string ⟨s.toArray⟩] 60) := ⟨_, rfl⟩
    have c2 : W.cell? ⟨w.heap.size, 3, none⟩ = some (.string ⟨s.toArray⟩) := by rw [hW, cell_of_row _ _ _ _ _ _ (heap_here w _ w.heap.size rfl)]; rfl
    have HR := HR0
    have HE := HE0
    have HBX := HBX0
    rw [← hW] at HR HE HBX ⊢
    clear hW HR0 HE0 HBX0
    go_region_held3 (fun w' => w'.cell? ⟨w.heap.size, 3, none⟩ = some (.string ⟨s.toArray⟩))
      (first | exact c2 | exact (h2.cell (p := ⟨w.heap.size, 3, none⟩) hgw').trans c2)
      (first
        | (go_at_call 43; refine (textR_calls W.drew B g a0 a1 rest f hg HE.out HR.out).mono ?_; rintro e w1 ⟨rfl, h1, h2⟩))
    all_goals
      go_wp2
      go_ret
      exact ⟨by first | rfl | (show Ending.returned (.bool (n16 (fixedS rest f 2).1.toUInt16 == IntKind.u16.wrap (n64 x))) = _; rw [wrap_u16', c64_16, beq_n16]) | (show Ending.returned (.bool (n32 (fixedS rest f 4).1.toUInt32 == IntKind.u32.wrap (n64 x))) = _; rw [wrap_u32', c64_32, beq_n32]), h1, HBX.out.trans (undrew (h2.below hBg))⟩
  have b4 : (kind == 4) = false := beq_eq_false_iff_ne.2 k4
  have hT : takenS kind x s rest f = ((numberF rest f).1 == x, (numberF rest f).2) := by unfold takenS; rw [if_neg k1, if_neg k2, if_neg k3, if_neg k4]
  rw [hT]
  clear hT k1 k2 k3 k4
  go_enter Tryd.func40, Tryd.ntmps40
  go_wp2
  obtain ⟨W, hW⟩ : ∃ W, W = w.alloc (.cells #[.int .i64 kind, V, .int .u64 (n64 x), .string ⟨s.toArray⟩] 60) := ⟨_, rfl⟩
  have c2 : W.cell? ⟨w.heap.size, 2, none⟩ = some (.int .u64 (n64 x)) := by rw [hW, cell_of_row _ _ _ _ _ _ (heap_here w _ w.heap.size rfl)]; rfl
  have HR := HR0
  have HE := HE0
  have HBX := HBX0
  rw [← hW] at HR HE HBX ⊢
  clear hW HR0 HE0 HBX0
  go_region_held3 (fun w' => w'.cell? ⟨w.heap.size, 2, none⟩ = some (.int .u64 (n64 x)))
    (first | exact c2 | exact (h2.cell (p := ⟨w.heap.size, 2, none⟩) hgw').trans c2)
    (first
      | (go_at_call 31; refine (number_calls W.drew B g a0 a1 rest f HE.out HR.out).mono ?_; rintro e w1 ⟨rfl, h1, h2⟩))
  all_goals
    go_wp2
    go_ret
    exact ⟨by first | rfl | (show Ending.returned (.bool (n16 (fixedS rest f 2).1.toUInt16 == IntKind.u16.wrap (n64 x))) = _; rw [wrap_u16', c64_16, beq_n16]) | (show Ending.returned (.bool (n32 (fixedS rest f 4).1.toUInt32 == IntKind.u32.wrap (n64 x))) = _; rw [wrap_u32', c64_32, beq_n32]), h1, HBX.out.trans (undrew (h2.below hBg))⟩
end Go.Proofs.YtjkocjkfedcdoaaDoor
