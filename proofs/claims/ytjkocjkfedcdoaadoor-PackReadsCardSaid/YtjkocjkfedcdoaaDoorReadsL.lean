/- The law PackReads: its walk. -/
import Derived.Test.YtjkocjkfedcdoaaDoorTakes
import Derived.Test.YtjkocjkfedcdoaaDoorOpen2
namespace Go.Proofs.YtjkocjkfedcdoaaDoor
open Go Go.RowKit
attribute [local go_sem] IntKind.wrap_u64 n64_self n8_self beq_n64 beq_n8 bne_n8 bne_n64

theorem rd_mono {w : World} {B B' g : Nat} {l : List UInt8} {f : Value} (h : Rd w B g l f) (hb : B' ≤ B) : Rd w B' g l f := by
  obtain ⟨A, c, h1, h2, h3, h4, h5, h6⟩ := h
  exact ⟨A, c, Nat.le_trans hb h1, h2, h3, h4, h5, fun ad ha => ⟨Nat.le_trans hb (h6 ad ha).1, (h6 ad ha).2⟩⟩
theorem rr_mono {w : World} {B B' g : Nat} {l : List UInt8} {f : Value} (h : Rr w B g l f) (hb : B' ≤ B) : Rr w B' g l f := by
  obtain ⟨A, c, h1, h2, h3, h4, h5, h6⟩ := h
  exact ⟨A, c, Nat.le_trans hb h1, h2, h3, h4, h5, fun ad ha => ⟨Nat.le_trans hb (h6 ad ha).1, (h6 ad ha).2⟩⟩

/-- a slice of ints, as a list -/
def IntsAt (w : World) (A : Option Addr) (l : List Int) : Prop := Cells w A (l.map fun z => .int .i64 z)
theorem ints_of {w : World} {A : Option Addr} {l : List Int} (h : ElemsOf w 1 (fun cs (a : Int) => cs = [.int .i64 a] ∧ -9223372036854775808 ≤ a ∧ a ≤ 9223372036854775807) A l) : IntsAt w A l := by
  intro h0
  obtain ⟨b, o, ha, hx⟩ := h (by simpa using h0)
  refine ⟨b, o, ha, fun i hi => ?_⟩
  obtain ⟨cs, _, hc, rfl, _⟩ := hx i (by simpa using hi)
  have := hc 0 (by simp)
  simpa using this

set_option maxRecDepth 100000 in
set_option maxHeartbeats 1600000 in
theorem packReads_calls (A : Option Addr) (c : Nat) (l : List UInt8) (A' : Option Addr) (c' : Nat) (ks : List Int) (w : World) (p : Nat → Addr) (hp : ErrsAt w p) (hl : l.length ≤ 140737488351232) (hk : ks.length ≤ 9223372036854775807) (hA : Cells w A (Bs l)) (hA' : IntsAt w A' ks) :
    Calls Tryd.prog 12 #[.slice A l.length c, .slice A' ks.length c'] w fun e w' => e = .returned (.bool true) ∧ Below w.heap.size w w' := by
  have HP := Go.Lib.hid hp
  have HA := Go.Lib.hid hA
  have HK := Go.Lib.hid hA'
  clear hp hA hA'
  go_enter Tryd.func12, Tryd.ntmps12
  go_wp2_with fail
  refine (lives_calls w _ _ (errsAt_two HP.out)).mono ?_
  rintro e w1 ⟨rfl, hb1⟩
  have HB1 := Go.Lib.hid hb1
  clear hb1
  go_wp2_with fail
  refine (newReader_calls A c l w1 (by omega) (cells_below HB1.out HA.out)).mono ?_
  rintro e w2 ⟨gr, rfl, hr2, hb2⟩
  have HB2 := Go.Lib.hid (below_then HB1.out hb2)
  have HR2 := Go.Lib.hid (rd_mono hr2 HB1.out.size)
  clear hr2 hb2 HB1
  go_wp2_with fail
  refine (rnewReader_calls A c l w2 (by omega) (cells_below HB2.out HA.out)).mono ?_
  rintro e w3 ⟨gs, rfl, hs3, hb3⟩
  have HPP : Hid (Pair w w3 p gr gs l 0) := ⟨HP.out, below_then HB2.out hb3, rd_below HR2.out hb3, rr_mono hs3 HB2.out.size⟩
  clear hs3 hb3 HB2 HR2 HP
  go_wp2_with fail
  refine (told_calls w w3 p gr gs l 0 HPP.out).mono ?_
  rintro e w4 ⟨rfl, rfl⟩
  go_wp2
  go_loopw [9] (fun i wr => ∃ (k : Nat) (rest : List UInt8) (f : Nat), k ≤ ks.length ∧ i = .int .i64 (k : Int) ∧ Hid (Pair w wr p gr gs rest f)) (fun i _ => ks.length - (intOf i).toNat)
  case atStart => exact ⟨0, l, 0, by omega, rfl, HPP⟩
  case round =>
    obtain ⟨k, rest, f, hk', rfl, HQ⟩ := hrel
    clear HPP
    by_cases hlt : k < ks.length
    · obtain ⟨b, o, hAe, hcell⟩ := HK.out (by simpa using Nat.lt_of_le_of_lt (Nat.zero_le _) hlt)
      have hck0 : w.cell? ⟨b, o + k, none⟩ = some (.int .i64 ks[k]) := by
        rw [hcell k (by simpa using hlt)]
        simp
      have hck := below_cell HQ.out.2.1 hck0
      have HCK := Go.Lib.hid hck0
      clear hck0
      subst hAe
      have hk1 : (k : Int) < (ks.length : Int) := by omega
      clear hcell
      generalize ks[k] = kind at *
      go_wp2_with fail
      refine (takes_calls kind w wr p gr gs rest f HQ.out).mono ?_
      rintro e w5 ⟨rfl, rest', f', hq⟩
      have HQ' := Go.Lib.hid hq
      have hck' := below_cell HQ'.out.2.1 HCK.out
      clear hq HQ
      go_wp2_with fail
      refine (told_calls w w5 p gr gs rest' f' HQ'.out).mono ?_
      rintro e w6 ⟨rfl, rfl⟩
      go_wp2_with fail
      refine (takes_nil kind w6).mono ?_
      rintro e w7 ⟨rfl, rfl⟩
      go_wp2
      go_roundw
      case rel => exact ⟨k + 1, rest', f', by omega, by go_num, HQ'⟩
      case measure => simp [intOf]; omega
    · go_wp2_with fail
      refine (told_nil wr p (pair_errs HQ.out)).mono ?_
      rintro e w6 ⟨rfl, rfl⟩
      go_wp2
      go_ret
      exact ⟨rfl, HQ.out.2.1⟩
end Go.Proofs.YtjkocjkfedcdoaaDoor
