/- The law CrcAll: its walk. -/
import Derived.Test.YtjkocjkfedcdoaaDoorCrcAllW
namespace Go.Proofs.YtjkocjkfedcdoaaDoor
open Go Go.RowKit
attribute [local go_sem] beq_n32_0 bne_n32_0 n32_self mod32_2 div32_2 beq_n32_1 xor32_poly xor32 and32 or32 not32 shr32_4 shr32_1 and32_15 and32_1 c8_32 n32_nonneg n32_and15_lt beq_n32

set_option maxRecDepth 100000 in
set_option maxHeartbeats 1600000 in
theorem crcAll_calls (A : Option Addr) (c : Nat) (os : List OpD) (w : World) (hT : Tab w) (hn : os.length ≤ 9223372036854775807) (hA : ElemsOf w 6 (OpR w) A os) :
    Calls Tryd.prog 3 #[.slice A os.length c] w fun e w' => e = .returned (.bool true) ∧ Below w.heap.size w w' := by
  have HT := Go.Lib.hid hT
  clear hT
  go_enter Tryd.func3, Tryd.ntmps3
  go_wp2_with fail
  refine (awake_calls _ HT.out).mono ?_
  rintro e w1 ⟨rfl, hb1⟩
  have HB1 := Go.Lib.hid hb1
  clear hb1
  go_wp2_with fail
  refine (much_calls A c os _ hn ?_).mono ?_
  · intro h0
    obtain ⟨b, o, ha, hx⟩ := hA h0
    refine ⟨b, o, ha, fun i hi => ?_⟩
    obtain ⟨cs, h1, h2, h3⟩ := hx i hi
    exact ⟨cs, h1, fun j hj => below_cell HB1.out (h2 j hj), opr_below HB1.out h3⟩
  rintro e w2 ⟨b, rfl, hb2⟩
  have HB2 := Go.Lib.hid (below_then HB1.out hb2)
  clear hb2
  cases b
  · go_wp2
    go_loopw [3, 4] (fun x i wr => x = .bool true ∧ ∃ (k : Nat), k ≤ os.length ∧ i = .int .i64 (k : Int) ∧ Below w.heap.size w wr) (fun _ i _ => os.length - (intOf i).toNat)
    case atStart => exact ⟨rfl, 0, by omega, rfl, HB2.out⟩
    case round =>
      obtain ⟨rfl, k, hk, rfl, hb⟩ := hrel
      by_cases hlt : k < os.length
      · obtain ⟨b, o, rfl, hx⟩ := hA (by omega)
        obtain ⟨cs, hl, hc, ho⟩ := hx k hlt
        have hT' := tab_below hb HT.out
        have ho' := opr_below hb ho
        have ho2 := ho'
        obtain ⟨Ab, cb, Ap, cp, rfl, _⟩ := ho2
        have c0 := below_cell hb (hc 0 (by simp))
        have c1 := below_cell hb (hc 1 (by simp))
        have c2 := below_cell hb (hc 2 (by simp))
        have c3 := below_cell hb (hc 3 (by simp))
        have c4 := below_cell hb (hc 4 (by simp))
        have c5 := below_cell hb (hc 5 (by simp))
        simp only [List.getElem_cons_zero, List.getElem_cons_succ, Nat.add_zero] at c0 c1 c2 c3 c4 c5
        have HO := Go.Lib.hid ho'
        have HT' := Go.Lib.hid hT'
        have HB := Go.Lib.hid hb
        clear hT' ho' ho hx hc hA hb
        generalize os[k] = op at *
        go_wp2_with fail
        refine (plays_calls _ op _ HT'.out HO.out).mono ?_
        rintro e w3 ⟨rfl, hb3⟩
        have HB3 := Go.Lib.hid (below_then HB.out hb3)
        clear hb3
        go_wp2
        go_roundw
        case rel => exact ⟨rfl, k + 1, by omega, by go_num, HB3.out⟩
        case measure => simp [intOf]; omega
      · go_wp2
        go_ret
        exact ⟨rfl, hb⟩
  · go_wp2
    go_ret
    exact ⟨rfl, HB2.out⟩
end Go.Proofs.YtjkocjkfedcdoaaDoor
