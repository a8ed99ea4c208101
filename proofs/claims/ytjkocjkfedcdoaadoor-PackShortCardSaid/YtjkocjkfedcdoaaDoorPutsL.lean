/- The law PackPuts: its walk. -/
import Derived.Test.YtjkocjkfedcdoaaDoorPutsC
import Derived.Test.YtjkocjkfedcdoaaDoorOpen2
namespace Go.Proofs.YtjkocjkfedcdoaaDoor
open Go Go.RowKit
attribute [local go_sem] IntKind.wrap_u64 n64_self n8_self beq_n64 beq_n8 bne_n8 bne_n64

theorem putS_le (kind : Int) (x : UInt64) (s l : List UInt8) : (putS kind x s l).2 ≤ 15 := by
  unfold putS textP
  repeat' split
  all_goals first | exact Nat.zero_le _ | exact (by decide : 4 ≤ 15)

set_option maxRecDepth 100000 in
set_option maxHeartbeats 800000 in
theorem puts_calls (kind : Int) (x : UInt64) (s : List UInt8) (A : Option Addr) (c : Nat) (l : List UInt8) (p : Nat → Addr) (w : World) (hp : ErrsAt w p) (hl : l.length ≤ 140737488351232) (hA : Cells w A (Bs l)) :
    Calls Tryd.prog 35 #[.agg #[.int .i64 kind, .slice A l.length c, .int .u64 (n64 x), .string ⟨s.toArray⟩]] w fun e w' => e = .returned (.bool true) ∧ Below w.heap.size w w' := by
  have hbx : Below w.heap.size w (w.alloc (.cells #[.int .i64 kind, .slice A l.length c, .int .u64 (n64 x), .string ⟨s.toArray⟩] 60)) := (Below.refl _ _).alloc (Nat.le_refl _) _
  have HBX := Go.Lib.hid hbx
  have HA := Go.Lib.hid (cells_below hbx hA)
  have HP := Go.Lib.hid (errsAt_below hp hbx)
  clear hbx hA hp
  go_enter Tryd.func35, Tryd.ntmps35
  go_wp2_with fail
  refine (wanted_calls kind _ x s A c l _ hl HA.out).mono ?_
  rintro e w1 ⟨v, rfl, hv, hb⟩
  obtain ⟨A1, c1, rfl, _, _, hA1⟩ := own_slice hv
  have HA1 := Go.Lib.hid hA1
  have hsz : w.heap.size < w1.heap.size := by have := hb.size; simp at this; omega
  have HB := Go.Lib.hid (below_then HBX.out hb)
  have HC := Go.Lib.hid (cells_below hb HA.out)
  have HP1 := Go.Lib.hid (errsAt_below HP.out hb)
  have hcell : ∀ o, w1.cell? ⟨w.heap.size, o, none⟩ = (w.alloc (.cells #[.int .i64 kind, .slice A l.length c, .int .u64 (n64 x), .string ⟨s.toArray⟩] 60)).cell? ⟨w.heap.size, o, none⟩ := fun o => hb.cell (p := ⟨w.heap.size, o, none⟩) (by simp)
  have c0 := hcell 0
  have c1' := hcell 1
  have c2 := hcell 2
  have c3 := hcell 3
  clear hv hb hA1 HBX HA HP hcell
  go_wp2_with fail
  refine (called_calls kind _ x s A c l p _ (errsAt_long HP1.out) hl HC.out).mono ?_
  rintro e w2 ⟨v2, rfl, hv2, hb2⟩
  obtain ⟨A2, c2', rfl, _, _, hA2⟩ := own_slice hv2
  have HA2 := Go.Lib.hid hA2
  have HB2 := Go.Lib.hid (below_then HB.out hb2)
  have HA1' := Go.Lib.hid (cells_below hb2 HA1.out)
  have HP2 := Go.Lib.hid (errsAt_below HP1.out hb2)
  clear hv2 hb2 hA2 HB HA1 HP1 HC
  have hk := putS_le kind x s l
  generalize putS kind x s l = r at *
  go_wp2_with fail
  refine (alike_same A2 A1 c2' c1 _ _ r.1 r.1 _ true (by simp) (by rw [Bs_length]) (by rw [Bs_length]) HA2.out HA1'.out).mono ?_
  rintro e w3 ⟨rfl, rfl⟩
  go_wp2_with fail
  refine (is_yes _ p r.2 _ rfl hk HP2.out).mono ?_
  rintro e w4 ⟨rfl, rfl⟩
  go_wp2
  go_ret
  exact ⟨rfl, HB2.out⟩

/-- a put of the list -/
structure PutD where
  kind : Int
  b : List UInt8
  x : UInt64
  s : List UInt8
  deriving Inhabited
/-- its four cells -/
def PutR (w : World) (cs : List Value) (o : PutD) : Prop :=
  ∃ A c, cs = [.int .i64 o.kind, .slice A o.b.length c, .int .u64 (n64 o.x), .string ⟨o.s.toArray⟩] ∧ (-9223372036854775808 ≤ o.kind ∧ o.kind ≤ 9223372036854775807) ∧ o.b.length ≤ 140737488351232 ∧ o.s.length ≤ 140737488351232 ∧ Cells w A (Bs o.b)
theorem putR_below {w w1 : World} (hb : Below w.heap.size w w1) {cs : List Value} {o : PutD} (h : PutR w cs o) : PutR w1 cs o := by
  obtain ⟨A, c, h1, h2, h3, h4, h5⟩ := h
  exact ⟨A, c, h1, h2, h3, h4, cells_below hb h5⟩

set_option maxRecDepth 100000 in
set_option maxHeartbeats 1600000 in
theorem packPuts_calls (A : Option Addr) (c : Nat) (os : List PutD) (w : World) (p : Nat → Addr) (hp : ErrsAt w p) (hn : os.length ≤ 9223372036854775807) (hA : ElemsOf w 4 (PutR w) A os) :
    Calls Tryd.prog 11 #[.slice A os.length c] w fun e w' => e = .returned (.bool true) ∧ Below w.heap.size w w' := by
  have HP := Go.Lib.hid hp
  have HA := Go.Lib.hid hA
  clear hp hA
  go_enter Tryd.func11, Tryd.ntmps11
  go_wp2_with fail
  refine (lives_calls w _ _ (errsAt_two HP.out)).mono ?_
  rintro e w1 ⟨rfl, hb1⟩
  have HB1 := Go.Lib.hid hb1
  have HP1 := Go.Lib.hid (errsAt_below HP.out hb1)
  clear hb1 HP
  go_wp2_with fail
  refine (show Calls Tryd.prog 35 #[.agg #[.int .i64 4, .slice none 0 0, .int .u64 0, .string ⟨#[97, 98]⟩]] w1 _ from puts_calls 4 0 [97, 98] none 0 [] p w1 HP1.out (by decide) (fun h => absurd h (by simp [Bs]))).mono ?_
  rintro e w2 ⟨rfl, hb2⟩
  have HB2 := Go.Lib.hid (below_then HB1.out hb2)
  have HP2 := Go.Lib.hid (errsAt_below HP1.out hb2)
  clear hb2 HB1 HP1
  go_wp2
  go_loopw [3] (fun i wr => ∃ (k : Nat), k ≤ os.length ∧ i = .int .i64 (k : Int) ∧ Hid (ErrsAt wr p) ∧ Hid (Below w.heap.size w wr)) (fun i _ => os.length - (intOf i).toNat)
  case atStart => exact ⟨0, by omega, rfl, HP2, HB2⟩
  case round =>
    obtain ⟨k, hk, rfl, HP, HB⟩ := hrel
    clear HP2 HB2
    by_cases hlt : k < os.length
    · obtain ⟨b, o, rfl, hx⟩ := HA.out (by omega)
      obtain ⟨cs, hl, hc, ho⟩ := hx k hlt
      have ho' := putR_below HB.out ho
      obtain ⟨Ab, cb, rfl, _, hbl, _, hbc⟩ := ho'
      have c0 := below_cell HB.out (hc 0 (by simp))
      have c1 := below_cell HB.out (hc 1 (by simp))
      have c2 := below_cell HB.out (hc 2 (by simp))
      have c3 := below_cell HB.out (hc 3 (by simp))
      simp only [List.getElem_cons_zero, List.getElem_cons_succ, Nat.add_zero] at c0 c1 c2 c3
      have HC := Go.Lib.hid hbc
      clear ho hx hc hbc
      generalize os[k] = op at *
      go_wp2_with fail
      refine (puts_calls op.kind op.x op.s Ab cb op.b p _ HP.out hbl HC.out).mono ?_
      rintro e w3 ⟨rfl, hb3⟩
      have HB3 := Go.Lib.hid (below_then HB.out hb3)
      have HP3 := Go.Lib.hid (errsAt_below HP.out hb3)
      clear hb3
      go_wp2
      go_roundw
      case rel => exact ⟨k + 1, by omega, by go_num, HP3, HB3⟩
      case measure => simp [intOf]; omega
    · go_wp2
      go_ret
      exact ⟨rfl, HB.out⟩
end Go.Proofs.YtjkocjkfedcdoaaDoor
