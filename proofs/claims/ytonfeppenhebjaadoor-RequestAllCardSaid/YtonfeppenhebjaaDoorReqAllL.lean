/- Layer 20's law package: RequestAll walked. -/
import Derived.Test.YtonfeppenhebjaaDoorReqAllP
import Derived.Test.YtonfeppenhebjaaDoorOpen
import Derived.Deep.MidRow
namespace Go.Proofs.YtonfeppenhebjaaDoor
open Go Go.RowKit
set_option linter.unusedVariables false
set_option linter.unusedSimpArgs false
attribute [local go_sem] IntKind.wrap_u64 n64_self n8_self beq_n64 beq_n8 bne_n8 bne_n64

def SomeB (e : Ending) : Prop := ∃ bo, e = .returned (.bool bo)
/-- how a call's data lies -/
def OpR (w : World) (cs : List Value) (o : OpQ) : Prop :=
  ∃ Ab cb, cs = opQ o Ab cb ∧ o.r.key.length ≤ 140737488351232 ∧ o.b.length ≤ 140737488351232 ∧ o.b.length ≤ cb ∧ cb ≤ 9223372036854775807 ∧ Cells w Ab (Bs o.b)

set_option maxRecDepth 100000 in
set_option maxHeartbeats 1600000 in
theorem much_calls (A : Option Addr) (c : Nat) (os : List OpQ) (w : World) (hn : os.length ≤ 9223372036854775807) (hA : ElemsOf w 22 (OpR w) A os) :
    Calls Tryd.prog 9 #[.slice A os.length c] w fun e w' => SomeB e ∧ Below w.heap.size w w' := by
  have HA := Go.Lib.hid hA
  clear hA
  go_enter Tryd.func9, Tryd.ntmps9
  go_wp2
  go_loopw [3, 4] (fun s i wr => ∃ (k : Nat) (z : Int), Hid (Below w.heap.size w wr) ∧ k ≤ os.length ∧ 0 ≤ z ∧ z ≤ 562949953421312 ∧ s = .int .i64 z ∧ i = .int .i64 (k : Int)) (fun _ i _ => os.length - (intOf i).toNat)
  case atStart => exact ⟨0, 0, Below.refl _ _, by omega, by omega, by omega, rfl, rfl⟩
  case round =>
    obtain ⟨k, z, HB, hk, hz0, hz1, rfl, rfl⟩ := hrel
    by_cases hlt : k < os.length
    · by_cases hzm : z ≤ 16777216
      · obtain ⟨b, o, hAe, hx⟩ := HA.out (by omega)
        obtain ⟨cs, hl, hc, Ab, cb, rfl, hkl, hbl, _, _, _⟩ := hx k hlt
        have c0 := below_cell HB.out (hc 2 (by rw [hl]; omega))
        have c1 := below_cell HB.out (hc 21 (by rw [hl]; omega))
        generalize os[k] = op at *
        obtain ⟨kd, ⟨rop, key, pol, units⟩, a, bb⟩ := op
        change wr.cell? ⟨b, o + k * 22 + 1 + 1, none⟩ = some (.string ⟨key.toArray⟩) at c0
        change wr.cell? ⟨b, o + k * 22 + 21, none⟩ = some (.slice Ab bb.length cb) at c1
        simp only at hkl hbl
        subst hAe
        clear hx hc hl
        obtain ⟨z1, hz1'⟩ : ∃ z1, z1 = z + (bb.length : Int) := ⟨_, rfl⟩
        obtain ⟨z2, hz2'⟩ : ∃ z2, z2 = z1 + (key.length : Int) := ⟨_, rfl⟩
        have hw1 : IntKind.i64.wrap (z + (bb.length : Int)) = z1 := by rw [IntKind.wrap_i64]; omega
        have hw2 : IntKind.i64.wrap (z1 + (key.length : Int)) = z2 := by rw [IntKind.wrap_i64]; omega
        have hz20 : 0 ≤ z2 := by omega
        have hz21 : z2 ≤ 562949953421312 := by omega
        have hk0 : (0 : Int) ≤ (k : Int) := Int.natCast_nonneg _
        have hk1 : (k : Int) < (os.length : Int) := by omega
        clear hz1' hz2'
        go_wp2
        go_quiet (fail)
        go_wp2
        go_roundw
        case rel => exact ⟨k + 1, z2, HB.out.trans (below_drewN _ _ _), by omega, hz20, hz21, rfl, by go_num⟩
        case measure => simp [intOf]; omega
      · have d1 : decide (z ≤ (16777216 : Int)) = false := decide_eq_false hzm
        have d3 : decide ((16777216 : Int) < z) = true := decide_eq_true (by omega)
        go_wp2
        go_ret
        exact ⟨⟨_, rfl⟩, HB.out⟩
    · go_wp2
      go_ret
      exact ⟨⟨_, rfl⟩, HB.out⟩

theorem opQ_size (o : OpQ) (Ab : Option Addr) (cb : Nat) : (Tryd.prog.info? 39).map (·.size) = some (opQ o Ab cb).length := opsz

set_option maxRecDepth 100000 in
set_option maxHeartbeats 3200000 in
theorem requestAll_calls (A : Option Addr) (c : Nat) (os : List OpQ) (w : World) (p : Nat → Addr) (hp : ErrsAt w p) (hn : os.length ≤ 9223372036854775807) (hA : ElemsOf w 22 (OpR w) A os) :
    Calls Tryd.prog 3 #[.slice A os.length c] w fun e w' => e = .returned (.bool true) ∧ Below w.heap.size w w' := by
  have HP := Go.Lib.hid hp
  have HA := Go.Lib.hid hA
  have HAW := Go.Lib.hid (awake_calls p w (errsAt_e4 hp))
  clear hp hA
  go_enter Tryd.func3, Tryd.ntmps3
  go_wp2_with fail
  refine HAW.out.mono ?_
  rintro e w1 ⟨rfl, hb1⟩
  have HB1 := Go.Lib.hid hb1
  have HA1 : Hid (ElemsOf w1 22 (OpR w1) A os) := by
    show ElemsOf w1 22 (OpR w1) A os
    intro h0
    obtain ⟨b, o, hAe, hx⟩ := HA.out h0
    refine ⟨b, o, hAe, fun i hi => ?_⟩
    obtain ⟨cs, hl, hc, Ab, cb, h1, h2, h3, h4, h5, h6⟩ := hx i hi
    exact ⟨cs, hl, fun j hj => below_cell hb1 (hc j hj), Ab, cb, h1, h2, h3, h4, h5, cells_below hb1 h6⟩
  clear hb1 HAW
  go_wp2_with fail
  refine (much_calls A c os w1 hn HA1.out).mono ?_
  rintro e w2 ⟨⟨bo, rfl⟩, hb2⟩
  have HB2 := Go.Lib.hid (below_then HB1.out hb2)
  clear hb2 HA1 HB1
  cases bo
  · go_wp2
    go_loopw [3, 4] (fun ok i wr => ∃ (k : Nat), Hid (Below w.heap.size w wr) ∧ k ≤ os.length ∧ ok = .bool true ∧ i = .int .i64 (k : Int)) (fun _ i _ => os.length - (intOf i).toNat)
    case atStart => exact ⟨0, HB2, by omega, rfl, rfl⟩
    case round =>
      obtain ⟨k, HB, hk, rfl, rfl⟩ := hrel
      clear HB2
      by_cases hlt : k < os.length
      · obtain ⟨b, o, hAe, hx⟩ := HA.out (by omega)
        obtain ⟨cs, hl, hc, Ab, cb, rfl, hkl, hbl, hbc, hcb, hAb⟩ := hx k hlt
        have HPL := Go.Lib.hid (plays_calls os[k] Ab cb p wr (errsAt_below HP.out HB.out) hkl hbl hbc hcb (cells_below HB.out hAb))
        have HRG : Hid (wr.rangeAt b (o + k * 22) (opQ os[k] Ab cb)) := fun j v hv => by
          obtain ⟨hj, he⟩ := List.getElem?_eq_some_iff.1 hv
          rw [← he]
          exact below_cell HB.out (hc j hj)
        generalize os[k] = op at *
        have hk0 : (0 : Int) ≤ (k : Int) := Int.natCast_nonneg _
        have hk1 : (k : Int) < (os.length : Int) := by omega
        subst hAe
        clear hx hc hl hkl hbl hbc hcb hAb
        go_wp2_with (first | (with_reducible refine wpList_load_mid rfl 39 (.tmp 22) rfl b (o + k * 22) rfl (opQ op Ab cb) _ HRG.out Tryd.underlying39 rfl (opQ_size op Ab cb) ?_))
        refine HPL.out.mono ?_
        rintro e w3 ⟨rfl, hb3⟩
        have HB3 := Go.Lib.hid (below_then HB.out hb3)
        clear hb3 HPL HRG
        go_wp2
        go_roundw
        case rel => exact ⟨k + 1, HB3, by omega, rfl, by go_num⟩
        case measure => simp [intOf]; omega
      · go_wp2
        go_ret
        exact ⟨rfl, HB.out⟩
  · go_wp2
    go_ret
    exact ⟨rfl, HB2.out⟩
end Go.Proofs.YtonfeppenhebjaaDoor
