/- The law PackBack: its walk. -/
import Derived.Test.YtjkocjkfedcdoaaDoorRowL
namespace Go.Proofs.YtjkocjkfedcdoaaDoor
open Go Go.RowKit
attribute [local go_sem] IntKind.wrap_u64 n64_self n8_self beq_n64 beq_n8 bne_n8 bne_n64

theorem rowB_cons (os : List PutD) (k : Nat) (hk : k < os.length) : rowB (os.drop k) = putB os[k].kind os[k].x os[k].s ++ rowB (os.drop (k + 1)) := by
  unfold rowB
  rw [List.drop_eq_getElem_cons hk, List.flatMap_cons]
theorem errs_size {w : World} {a0 a1 : Addr} (h : Errs w a0 a1) : 1 < w.heap.size := by
  have a := World.block_lt_of_cell? w _ h.1
  have b := World.block_lt_of_cell? w _ h.2
  simp only at a b
  omega

set_option maxRecDepth 100000 in
set_option maxHeartbeats 3200000 in
theorem packBack_calls (A : Option Addr) (c : Nat) (os : List PutD) (w : World) (p : Nat → Addr) (a0 a1 : Addr) (hE : Errs w a0 a1) (hp : LongAt w p) (hn : os.length ≤ 9223372036854775807) (hA : ElemsOf w 4 (PutR w) A os) :
    Calls Tryd.prog 13 #[.slice A os.length c] w fun e w' => e = .returned (.bool true) ∧ Below w.heap.size w w' := by
  have HP := Go.Lib.hid hp
  have HA := Go.Lib.hid hA
  have HE := Go.Lib.hid hE
  clear hp hA hE
  go_enter Tryd.func13, Tryd.ntmps13
  go_wp2_with fail
  refine (lives_calls w a0 a1 HE.out).mono ?_
  rintro e w1 ⟨rfl, hb1⟩
  have HB1 := Go.Lib.hid hb1
  clear hb1
  go_wp2_with fail
  refine (row_calls A c os w1 p (longAt_below HP.out HB1.out) hn ?_).mono ?_
  · intro h0
    obtain ⟨b, o, ha, hx⟩ := HA.out h0
    refine ⟨b, o, ha, fun i hi => ?_⟩
    obtain ⟨cs, h1, h2, h3⟩ := hx i hi
    exact ⟨cs, h1, fun j hj => below_cell HB1.out (h2 j hj), putR_below HB1.out h3⟩
  rintro e w2 hrow
  rcases hrow with ⟨rfl, hb2⟩ | ⟨v1, v2, rfl, hv1, _, hok, hle, hb2⟩
  · have HB2 := Go.Lib.hid (below_then HB1.out hb2)
    clear hb2
    go_wp2
    go_ret
    exact ⟨rfl, HB2.out⟩
  · have HB2 := Go.Lib.hid (below_then HB1.out hb2)
    have hlen : (rowB os).length ≤ 140737488355328 := by have := rowB_length os hok; omega
    obtain ⟨A1, cap1, rfl, _, _, hcells⟩ := own_slice hv1
    rw [Bs_length]
    have HC := Go.Lib.hid hcells
    have HOK := Go.Lib.hid hok
    clear hb2 hv1 hcells hok HB1
    go_wp2_with fail
    refine (newReader_calls A1 cap1 (rowB os) w2 hlen HC.out).mono ?_
    rintro e w3 ⟨g, rfl, hr3, hb3⟩
    have HB3 := Go.Lib.hid (below_then HB2.out hb3)
    have HR3 : Hid (Rd w3 w.heap.size g (rowB os) (fv a0 a1 0)) := by
      obtain ⟨A', c', h1, h2, h3, h4, h5, h6⟩ := hr3
      exact ⟨A', c', Nat.le_trans HB2.out.size h1, h2, h3, h4, h5, fun ad ha => ⟨Nat.le_trans HB2.out.size (h6 ad ha).1, (h6 ad ha).2⟩⟩
    have hg : 1 < g := by have := errs_size HE.out; obtain ⟨_, _, h, _⟩ := HR3.out; omega
    clear hr3 hb3 HB2 HC
    go_wp2
    go_loopw [7] (fun i wr => ∃ (k : Nat), k ≤ os.length ∧ i = .int .i64 (k : Int) ∧ Hid (Rd wr w.heap.size g (rowB (os.drop k)) (fv a0 a1 0)) ∧ Hid (Below w.heap.size w wr)) (fun i _ => os.length - (intOf i).toNat)
    case atStart => exact ⟨0, by omega, rfl, HR3, HB3⟩
    case round =>
      obtain ⟨k, hk, rfl, HR, HB⟩ := hrel
      clear HR3 HB3
      by_cases hlt : k < os.length
      · obtain ⟨b, o, hAe, hx⟩ := HA.out (by omega)
        obtain ⟨cs, hl, hc, ho⟩ := hx k hlt
        obtain ⟨Ab, cb, rfl, _, hbl, hsl, hbc⟩ := ho
        have c0 := below_cell HB.out (hc 0 (by simp))
        have c1 := below_cell HB.out (hc 1 (by simp))
        have c2 := below_cell HB.out (hc 2 (by simp))
        have c3 := below_cell HB.out (hc 3 (by simp))
        simp only [List.getElem_cons_zero, List.getElem_cons_succ, Nat.add_zero] at c0 c1 c2 c3
        have hr := HR.out
        rw [rowB_cons os k hlt] at hr
        have HT := Go.Lib.hid (taken_back os[k].kind os[k].x os[k].s (rowB (os.drop (k + 1))) (HOK.out _ (List.getElem_mem hlt)))
        have HR' := Go.Lib.hid hr
        have hsz := HB.out.size
        subst hAe
        clear hx hc hbc hr HR
        generalize os[k] = op at *
        go_wp2_with fail
        refine (taken_calls op.kind _ op.x op.s wr w.heap.size g a0 a1 _ 0 hsz hg (errs_below HE.out HB.out) HR'.out).mono ?_
        rintro e w4 ⟨rfl, hr4, hb4⟩
        rw [HT.out] at hr4 ⊢
        have HR4 := Go.Lib.hid hr4
        have HB4 := Go.Lib.hid (HB.out.trans hb4)
        clear hr4 hb4
        go_wp2_with fail
        refine (err_calls w4 w.heap.size g _ _ HR4.out).mono ?_
        rintro e w5 ⟨rfl, rfl⟩
        simp only [fv]
        go_wp2
        go_roundw
        case rel => exact ⟨k + 1, by omega, by go_num, HR4, HB4⟩
        case measure => simp [intOf]; omega
      · have hr := HR.out
        rw [List.drop_of_length_le (by omega)] at hr
        have HR' : Hid (Rd wr w.heap.size g [] (fv a0 a1 0)) := hr
        clear hr HR
        go_wp2_with fail
        refine (left_calls wr w.heap.size g _ _ HR'.out).mono ?_
        rintro e w5 ⟨rfl, rfl⟩
        go_wp2_with fail
        refine (end_calls w5 w.heap.size g a0 a1 _ 0 (errs_below HE.out HB.out) HR'.out).mono ?_
        rintro e w6 ⟨rfl, rfl⟩
        rw [lives_plain.2.2]
        simp only [fv]
        go_wp2
        go_ret
        exact ⟨rfl, HB.out⟩
end Go.Proofs.YtjkocjkfedcdoaaDoor
