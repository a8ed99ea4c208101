/- Layer 8's law package: BlockAll walked. -/
import Derived.Test.YtipjdkdonmoojaaDoorBlkAllP
import Derived.Test.YtipjdkdonmoojaaDoorOpen
import Derived.Deep.MidRow
namespace Go.Proofs.YtipjdkdonmoojaaDoor
open Go Go.RowKit
set_option linter.unusedVariables false
set_option linter.unusedSimpArgs false
attribute [local go_sem] n8_self n64_self beq_n8 bne_n8 beq_n64 bne_n64

/-- one call's data -/
structure OpB where
  kind : Int
  first : UInt64
  recs : List (List UInt8)
  b : List UInt8
  bad : List Int
  deriving Inhabited
def opB (o : OpB) (Ar : Option Addr) (cr : Nat) (Ab : Option Addr) (cb : Nat) (Aw : Option Addr) (cw : Nat) : List Value :=
  [.int .i64 o.kind, .int .u64 (n64 o.first), .slice Ar o.recs.length cr, .slice Ab o.b.length cb, .slice Aw o.bad.length cw]
/-- how a call's data lies -/
def OpBR (w : World) (cs : List Value) (o : OpB) : Prop :=
  ∃ Ar cr Ab cb Aw cw, cs = opB o Ar cr Ab cb Aw cw ∧ o.recs.length ≤ 140737488351232 ∧ (∀ r ∈ o.recs, r.length ≤ 140737488351232) ∧ o.recs.length ≤ cr ∧ cr ≤ 9223372036854775807 ∧ RowsB w Ar o.recs ∧
    o.b.length ≤ 140737488351232 ∧ o.b.length ≤ cb ∧ cb ≤ 9223372036854775807 ∧ Cells w Ab (Bs o.b) ∧ o.bad.length ≤ 140737488351232 ∧ Cells w Aw (o.bad.map (Value.int .i64))
/-- small enough to be played -/
def SmallB (o : OpB) : Prop := o.recs.length ≤ 1048576 ∧ o.b.length ≤ 16777216 ∧ o.bad.length ≤ 1048576

set_option maxRecDepth 100000 in
set_option maxHeartbeats 1600000 in
theorem much8_calls (A : Option Addr) (c : Nat) (os : List OpB) (w : World) (hn : os.length ≤ 9223372036854775807) (hA : ElemsOf w 5 (OpBR w) A os) :
    Calls Tryd.prog 10 #[.slice A os.length c] w fun e w' => (∃ bo : Bool, e = .returned (.bool bo) ∧ Hid (bo = false → ∀ o ∈ os, SmallB o)) ∧ Below w.heap.size w w' := by
  have HA := Go.Lib.hid hA
  clear hA
  go_enter Tryd.func10, Tryd.ntmps10
  go_wp2
  go_loopw [3, 4, 5] (fun s t i wr => ∃ (k : Nat) (z y : Nat), Hid (Below w.heap.size w wr) ∧ k ≤ os.length ∧ z ≤ 281474977751042 ∧ y ≤ 281475010256896 ∧ s = .int .i64 (z : Int) ∧ t = .int .i64 (y : Int) ∧ i = .int .i64 (k : Int) ∧ Hid (∀ o ∈ os.take k, o.recs.length ≤ z ∧ o.b.length ≤ y ∧ o.bad.length ≤ z)) (fun _ _ i _ => os.length - (intOf i).toNat)
  case atStart => exact ⟨0, 0, 0, Below.refl _ _, by omega, by omega, by omega, rfl, rfl, rfl, fun o ho => by simp at ho⟩
  case round =>
    obtain ⟨k, z, y, HB, hk, hz1, hy1, rfl, rfl, rfl, HS⟩ := hrel
    by_cases hlt : k < os.length
    · have l1 : decide ((k : Int) < (os.length : Int)) = true := decide_eq_true (by omega)
      by_cases hzm : z ≤ 1048576
      · have d1 : decide ((z : Int) ≤ (1048576 : Int)) = true := decide_eq_true (by omega)
        have d1' : decide (z ≤ 1048576) = true := decide_eq_true hzm
        by_cases hym : y ≤ 16777216
        · have d2 : decide ((y : Int) ≤ (16777216 : Int)) = true := decide_eq_true (by omega)
          have d2' : decide (y ≤ 16777216) = true := decide_eq_true hym
          obtain ⟨b, o, hAe, hx⟩ := HA.out (by omega)
          obtain ⟨cs, hl, hc, Ar, cr, Ab, cb, Aw, cw, rfl, hr1, hr2, _, _, hr5, hb1, _, _, _, hw1, _⟩ := hx k hlt
          have c2 := below_cell HB.out (hc 2 (by rw [hl]; omega))
          have c3 := below_cell HB.out (hc 3 (by rw [hl]; omega))
          have c4 := below_cell HB.out (hc 4 (by rw [hl]; omega))
          have HTK := Go.Lib.hid (show os.take (k + 1) = os.take k ++ [os[k]] from (List.take_append_getElem hlt).symm)
          have HSZ := Go.Lib.hid (size_calls Ar cr os[k].recs wr (by omega) hr2 (rows_below HB.out hr5))
          change wr.cell? ⟨b, o + k * 5 + 2, none⟩ = some (.slice Ar os[k].recs.length cr) at c2
          change wr.cell? ⟨b, o + k * 5 + 3, none⟩ = some (.slice Ab os[k].b.length cb) at c3
          change wr.cell? ⟨b, o + k * 5 + 4, none⟩ = some (.slice Aw os[k].bad.length cw) at c4
          have HSN : Hid (∀ m, ∀ o ∈ os.take (k + 1), o.recs.length ≤ z + 1 + os[k].recs.length + os[k].bad.length ∧ o.b.length ≤ y + m + os[k].b.length ∧ o.bad.length ≤ z + 1 + os[k].recs.length + os[k].bad.length) := fun m o ho => by
            rw [HTK.out, List.mem_append] at ho
            rcases ho with ho | ho
            · obtain ⟨q1, q2, q3⟩ := HS.out o ho
              omega
            · simp at ho
              subst ho
              omega
          generalize os[k].recs.length = nr at *
          generalize os[k].bad.length = nw at *
          generalize os[k].b.length = nb at *
          subst hAe
          have hk0 : (0 : Int) ≤ (k : Int) := Int.natCast_nonneg _
          have hk1 : (k : Int) < (os.length : Int) := by omega
          clear hx hc hl hr2 hr5 HS HTK
          have w1 : IntKind.i64.wrap ((z : Int) + 1) = ((z + 1 : Nat) : Int) := by rw [IntKind.wrap_i64]; omega
          have w2 : IntKind.i64.wrap (((z + 1 : Nat) : Int) + (nr : Int)) = ((z + 1 + nr : Nat) : Int) := by rw [IntKind.wrap_i64]; omega
          have w3 : IntKind.i64.wrap (((z + 1 + nr : Nat) : Int) + (nw : Int)) = ((z + 1 + nr + nw : Nat) : Int) := by rw [IntKind.wrap_i64]; omega
          go_wp2_with fail
          refine HSZ.out.mono ?_
          rintro e w1 ⟨⟨m, rfl, HG, hm⟩, rfl⟩
          clear HG HSZ
          have w4 : IntKind.i64.wrap ((y : Int) + (m : Int)) = ((y + m : Nat) : Int) := by rw [IntKind.wrap_i64]; omega
          have w5 : IntKind.i64.wrap (((y + m : Nat) : Int) + (nb : Int)) = ((y + m + nb : Nat) : Int) := by rw [IntKind.wrap_i64]; omega
          go_wp2
          go_roundw
          case rel => exact ⟨k + 1, z + 1 + nr + nw, y + m + nb, HB, by omega, by omega, by omega, by go_num, by go_num, by go_num, fun o ho => by have := HSN.out m o ho; exact this⟩
          case measure => simp [intOf]; omega
        · have d2 : decide ((y : Int) ≤ (16777216 : Int)) = false := decide_eq_false (by omega)
          have d2' : decide (y ≤ 16777216) = false := decide_eq_false hym
          have d3 : decide ((1048576 : Int) < (z : Int)) = false := decide_eq_false (by omega)
          have d3' : decide (1048576 < z) = false := decide_eq_false (by omega)
          have d4 : decide ((16777216 : Int) < (y : Int)) = true := decide_eq_true (by omega)
          have d4' : decide (16777216 < y) = true := decide_eq_true (by omega)
          go_wp2
          go_ret
          exact ⟨⟨true, rfl, fun h => by simp at h⟩, HB.out⟩
      · have d1 : decide ((z : Int) ≤ (1048576 : Int)) = false := decide_eq_false (by omega)
        have d1' : decide (z ≤ 1048576) = false := decide_eq_false hzm
        have d3 : decide ((1048576 : Int) < (z : Int)) = true := decide_eq_true (by omega)
        have d3' : decide (1048576 < z) = true := decide_eq_true (by omega)
        go_wp2
        go_ret
        exact ⟨⟨true, rfl, fun h => by simp at h⟩, HB.out⟩
    · have l1 : decide ((k : Int) < (os.length : Int)) = false := decide_eq_false (by omega)
      by_cases hzm : 1048576 < z
      · have d3 : decide ((1048576 : Int) < (z : Int)) = true := decide_eq_true (by omega)
        have d3' : decide (1048576 < z) = true := decide_eq_true hzm
        go_wp2
        go_ret
        exact ⟨⟨true, rfl, fun h => by simp at h⟩, HB.out⟩
      have d3 : decide ((1048576 : Int) < (z : Int)) = false := decide_eq_false (by omega)
      have d3' : decide (1048576 < z) = false := decide_eq_false hzm
      by_cases hym : 16777216 < y
      · have d4 : decide ((16777216 : Int) < (y : Int)) = true := decide_eq_true (by omega)
        have d4' : decide (16777216 < y) = true := decide_eq_true hym
        go_wp2
        go_ret
        exact ⟨⟨true, rfl, fun h => by simp at h⟩, HB.out⟩
      have d4 : decide ((16777216 : Int) < (y : Int)) = false := decide_eq_false (by omega)
      have d4' : decide (16777216 < y) = false := decide_eq_false hym
      have HF : Hid (∀ o ∈ os, SmallB o) := fun o ho => by
        have hkn : k = os.length := by omega
        have := HS.out o (by rw [hkn, List.take_length]; exact ho)
        unfold SmallB
        omega
      go_wp2
      go_ret
      exact ⟨⟨false, rfl, fun _ => HF.out⟩, HB.out⟩

theorem oprB_below {w w' : World} {cs : List Value} {o : OpB} (hb : Below w.heap.size w w') (h : OpBR w cs o) : OpBR w' cs o := by
  obtain ⟨Ar, cr, Ab, cb, Aw, cw, h1, h2, h3, h4, h5, h6, h7, h8, h9, h10, h11, h12⟩ := h
  exact ⟨Ar, cr, Ab, cb, Aw, cw, h1, h2, h3, h4, h5, rows_below hb h6, h7, h8, h9, cells_below hb h10, h11, cells_below hb h12⟩
theorem opB_size (o : OpB) (Ar : Option Addr) (cr : Nat) (Ab : Option Addr) (cb : Nat) (Aw : Option Addr) (cw : Nat) : (Tryd.prog.info? 31).map (·.size) = some (opB o Ar cr Ab cb Aw cw).length := by kernel_rfl
theorem plays8_calls (o : OpB) (cs : List Value) (p : Nat → Addr) (w : World) (hT : Tab w) (hp : ErrsAt w p) (hs : SmallB o) (hR : OpBR w cs o) :
    Calls Tryd.prog 11 #[.agg cs.toArray] w fun e w' => e = .returned (.bool true) ∧ Below w.heap.size w w' := by
  obtain ⟨Ar, cr, Ab, cb, Aw, cw, rfl, hr1, hr2, hr3, hr4, hr5, hb1, hb2, hb3, hb4, hw1, hw2⟩ := hR
  obtain ⟨s1, s2, s3⟩ := hs
  obtain ⟨kind, first, recs, b, bad⟩ := o
  simp only at *
  unfold opB
  simp only
  by_cases k1 : kind = 1
  · subst k1; exact plays8_1 first Ar Ab Aw cr cb cw recs b bad p w hT hp (by omega) hr2 hr5
  by_cases k2 : kind = 2
  · subst k2; exact plays8_2 first Ar Ab Aw cr cb cw recs b bad p w hT hp (by omega) hb2 hb3 hb4
  by_cases k3 : kind = 3
  · subst k3; exact plays8_3 first Ar Ab Aw cr cb cw recs b bad p w hT hp (by omega) hr3 hr4 hr2 hr5
  by_cases k4 : kind = 4
  · subst k4; exact plays8_4 first Ar Ab Aw cr cb cw recs b bad p w hT hp (by omega) hb2 hb3 s3 hb4 hw2
  exact plays8_x kind first Ar Ab Aw cr cb cw recs b bad w k1 k2 k3 k4

set_option maxRecDepth 100000 in
set_option maxHeartbeats 3200000 in
theorem blockAll_calls (A : Option Addr) (c : Nat) (os : List OpB) (w : World) (p : Nat → Addr) (hT : Tab w) (hp : ErrsAt w p) (hn : os.length ≤ 9223372036854775807) (hA : ElemsOf w 5 (OpBR w) A os) :
    Calls Tryd.prog 3 #[.slice A os.length c] w fun e w' => e = .returned (.bool true) ∧ Below w.heap.size w w' := by
  have HP := Go.Lib.hid hp
  have HT := Go.Lib.hid hT
  have HA := Go.Lib.hid hA
  have HAW := Go.Lib.hid (awake_calls p w hT (e5_of hp))
  clear hp hA hT
  go_enter Tryd.func3, Tryd.ntmps3
  go_wp2_with fail
  refine HAW.out.mono ?_
  rintro e w1 ⟨rfl, hb1⟩
  have HB1 := Go.Lib.hid hb1
  have HA1 : Hid (ElemsOf w1 5 (OpBR w1) A os) := by
    show ElemsOf w1 5 (OpBR w1) A os
    intro h0
    obtain ⟨b, o, hAe, hx⟩ := HA.out h0
    refine ⟨b, o, hAe, fun i hi => ?_⟩
    obtain ⟨cs, hl, hc, h1⟩ := hx i hi
    exact ⟨cs, hl, fun j hj => below_cell hb1 (hc j hj), oprB_below hb1 h1⟩
  clear hb1 HAW
  go_wp2_with fail
  refine (much8_calls A c os w1 hn HA1.out).mono ?_
  rintro e w2 ⟨⟨bo, rfl, HSM⟩, hb2⟩
  have HB2 := Go.Lib.hid (below_then HB1.out hb2)
  clear hb2 HA1 HB1
  cases bo
  · have HSS : Hid (∀ o ∈ os, SmallB o) := HSM.out rfl
    clear HSM
    go_wp2
    go_loopw [3, 4] (fun ok i wr => ∃ (k : Nat), Hid (Below w.heap.size w wr) ∧ k ≤ os.length ∧ ok = .bool true ∧ i = .int .i64 (k : Int)) (fun _ i _ => os.length - (intOf i).toNat)
    case atStart => exact ⟨0, HB2, by omega, rfl, rfl⟩
    case round =>
      obtain ⟨k, HB, hk, rfl, rfl⟩ := hrel
      clear HB2
      by_cases hlt : k < os.length
      · obtain ⟨b, o, hAe, hx⟩ := HA.out (by omega)
        obtain ⟨cs, hl, hc, hR⟩ := hx k hlt
        have HPL := Go.Lib.hid (plays8_calls os[k] cs p wr (tab_below HT.out HB.out) (errsAt_below HP.out HB.out) (HSS.out _ (List.getElem_mem hlt)) (oprB_below HB.out hR))
        have HRG : Hid (wr.rangeAt b (o + k * 5) cs) := fun j v hv => by
          obtain ⟨hj, he⟩ := List.getElem?_eq_some_iff.1 hv
          rw [← he]
          exact below_cell HB.out (hc j hj)
        obtain ⟨Ar, cr, Ab, cb, Aw, cw, rfl, _⟩ := hR
        have hosz := opB_size os[k] Ar cr Ab cb Aw cw
        generalize os[k] = op at *
        have hk0 : (0 : Int) ≤ (k : Int) := Int.natCast_nonneg _
        have hk1 : (k : Int) < (os.length : Int) := by omega
        subst hAe
        clear hx hc hl
        go_wp2_with (first | (with_reducible refine wpList_load_mid rfl 31 (.tmp 22) rfl b (o + k * 5) rfl (opB op Ar cr Ab cb Aw cw) _ HRG.out Tryd.underlying31 rfl hosz ?_))
        refine HPL.out.mono ?_
        rintro e w3 ⟨rfl, hb3⟩
        have HB3 := Go.Lib.hid (below_then HB.out hb3)
        clear hb3 HPL HRG
        go_wp2
        go_roundw
        case rel => exact ⟨k + 1, HB3, by omega, rfl, by go_num⟩
        case measure => simp [intOf]; omega
      · go_wp2
        go_ret
        exact ⟨rfl, HB.out⟩
  · go_wp2
    go_ret
    exact ⟨rfl, HB2.out⟩
end Go.Proofs.YtipjdkdonmoojaaDoor
