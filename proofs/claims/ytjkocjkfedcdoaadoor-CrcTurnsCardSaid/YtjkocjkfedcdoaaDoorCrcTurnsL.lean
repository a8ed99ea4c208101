/- The law CrcTurns: its walk. -/
import Derived.Test.YtjkocjkfedcdoaaDoorCrcMovesL
import Derived.Test.YtjkocjkfedcdoaaDoorHeap2
namespace Go.Proofs.YtjkocjkfedcdoaaDoor
open Go Go.RowKit
attribute [local go_sem] beq_n32_0 bne_n32_0 bne_n32 n32_self mod32_2 div32_2 beq_n32_1 xor32_poly xor32 xor8 and32 or32 not32 shr32_4 shr32_1 shr32_8 shr32_16 shr32_24 and32_15 and32_1 c8_32 c32_8 n32_nonneg n32_and15_lt beq_n32 beq_n8

theorem size8 : (Tryd.prog.info? 5).map (·.size) = some 1 := by kernel_rfl
/-- what is turned so far: the bytes before 'a' and from 'a + k' on stand; 'same' is true, or some byte is another -/
def Turned (l : List UInt8) (a k : Nat) (m : List UInt8) (same : Bool) : Prop :=
  m.length = l.length ∧ m.take a = l.take a ∧ m.drop (a + k) = l.drop (a + k) ∧ (same = true ∨ ∃ j, j < a + k ∧ m[j]? ≠ l[j]?)
theorem turned_zero (l : List UInt8) (a : Nat) : Turned l a 0 l true := ⟨rfl, rfl, rfl, .inl rfl⟩
theorem turned_next {l m : List UInt8} {a k : Nat} {same : Bool} (h : Turned l a k m same) (hk : a + k < l.length) (u : UInt8) :
    Turned l a (k + 1) (m.set (a + k) u) (same && (u == l[a + k])) := by
  obtain ⟨h1, h2, h3, h4⟩ := h
  refine ⟨by simp [h1], by rw [List.take_set_of_le (by omega), h2], ?_, ?_⟩
  · rw [List.drop_set_of_lt (by omega)]
    have := congrArg (List.drop 1) h3
    rw [List.drop_drop, List.drop_drop] at this
    exact this
  · rcases h4 with rfl | ⟨j, hj, hne⟩
    · by_cases hu : u = l[a + k]
      · left; simp [hu]
      · right
        refine ⟨a + k, by omega, ?_⟩
        rw [List.getElem?_set_self (by omega), List.getElem?_eq_getElem hk]
        simpa using hu
    · right
      refine ⟨j, by omega, ?_⟩
      rw [List.getElem?_set_ne (by omega)]
      exact hne
theorem turned_sum {l m : List UInt8} {a k : Nat} {same : Bool} (h : Turned l a k m same) (hk : a + k ≤ l.length) (h4 : k ≤ 4) : (same || (addS 0 m != addS 0 l)) = true := by
  cases same
  · obtain ⟨h1, h2, h3, hd⟩ := h
    have hne : m ≠ l := by
      rcases hd with h | ⟨j, _, hj⟩
      · cases h
      · rintro rfl; exact hj rfl
    have e : ∀ x : List UInt8, x = x.take a ++ (x.drop a).take k ++ x.drop (a + k) := by
      intro x
      rw [List.append_assoc, ← List.drop_drop, List.take_append_drop, List.take_append_drop]
    have hm := e m
    have hl := e l
    rw [h2, h3] at hm
    have hsum : addS 0 m ≠ addS 0 l := by
      rw [addS_eq, addS_eq, hm]
      conv => rhs; rw [hl]
      refine turned _ _ _ _ (by simp; omega) (by simp; omega) ?_
      intro heq
      apply hne
      rw [hm, heq, ← hl]
    simpa [bne] using hsum
  · rfl

set_option maxRecDepth 100000 in
set_option maxHeartbeats 1600000 in
theorem crcTurns_calls (A : Option Addr) (c : Nat) (l : List UInt8) (at_ : Int) (x : UInt32) (w : World) (hT : Tab w) (hl : l.length ≤ 140737488351232) (hA : Cells w A (Bs l)) (hn1 : -9223372036854775808 ≤ at_) (hn2 : at_ ≤ 9223372036854775807) :
    Calls Tryd.prog 5 #[.slice A l.length c, .int .i64 at_, .int .u32 (n32 x)] w fun e w' => e = .returned (.bool true) ∧ Below w.heap.size w w' := by
  have HT := Go.Lib.hid hT
  clear hT
  go_enter Tryd.func5, Tryd.ntmps5
  go_wp2_with fail
  refine (awake_calls _ HT.out).mono ?_
  rintro e w1 ⟨rfl, hb1⟩
  have HB1 := Go.Lib.hid hb1
  have HT1 := Go.Lib.hid (tab_below hb1 HT.out)
  have hA1 := cells_below hb1 hA
  clear hb1 HT
  by_cases hbad : at_ < 0 ∨ (l.length : Int) ≤ at_
  · go_wp2_with fail
    all_goals first | (exfalso; omega) | skip
    all_goals (go_ret; exact ⟨rfl, HB1.out⟩)
  obtain ⟨a, rfl⟩ := Int.eq_ofNat_of_zero_le (show 0 ≤ at_ by omega)
  have ha : a < l.length := by omega
  have d0 : decide ((a : Int) < 0) = false := decide_eq_false (by omega)
  have d1 : decide ((l.length : Int) ≤ (a : Int)) = false := decide_eq_false (by omega)
  clear hbad
  go_wp2_with (first
    | ((with_reducible refine wpList_make_row _ rfl (.tmp 27) (.tmp 27) 26 rfl 5 (.int .u8 0) 1 Tryd.underlying26 info8 rfl l.length rfl rfl (by omega) (by omega) ?_); intro w2 hw2 hb2)
    | ((with_reducible refine wpList_copy_all rfl (.tmp 29) (.tmp 30) 26 26 rfl 5 Tryd.underlying26 size8 w1.heap.size l.length l.length A c l rfl rfl _ 5 hw2 (Nat.le_refl _) (by simp) (cells_below hb2 hA1) w1.heap.size w1 hb2 (Nat.le_refl _) ?_); intro w3 hw3 hb3; clear hw2 hb2))
  have h3 : w3.heap[w1.heap.size]? = some (.cells (Bs l).toArray 5 (0, 0)) := by
    have := hw3.out
    simpa using this
  clear hw3
  go_loopw [9, 10] (fun sm i wr => ∃ (k : Nat) (m : List UInt8) (same : Bool), k ≤ 4 ∧ a + k ≤ l.length ∧ i = .int .i64 (k : Int) ∧ sm = .bool same ∧ Hid (Turned l a k m same) ∧ wr.heap[w1.heap.size]? = some (.cells (Bs m).toArray 5 (0, 0)) ∧ Below w1.heap.size w1 wr) (fun _ i _ => 4 - (intOf i).toNat)
  case atStart => exact ⟨0, l, true, by omega, by omega, rfl, rfl, turned_zero l a, h3, hb3⟩
  case round =>
    obtain ⟨k, m, same, hk4, hkl, rfl, rfl, HK, hh, hb⟩ := hrel
    clear h3 hb3
    have hA4 := cells_below hb hA1
    have hml : m.length = l.length := HK.out.1
    have HM := Go.Lib.hid hml
    clear hml
    by_cases hlt : k < 4 ∧ a + k < l.length
    · obtain ⟨hk, hkl'⟩ := hlt
      obtain ⟨b, o, rfl, hcell⟩ := hA4.byte (a + k) hkl'
      have hc2 : wr.cell? ⟨w1.heap.size, a + k, none⟩ = some (.int .u8 (n8 (m[a + k]'(by have := HM.out; omega)))) := by
        rw [cell_of_row _ _ _ _ _ _ hh]; have := HM.out; simp [Bs, this, hkl']
      have hf2 := heap_frozen hh (a + k)
      have H0 := Go.Lib.hid hh
      have g1 : (k : Int) < 4 := by omega
      have g2 : (a : Int) + (k : Int) < (l.length : Int) := by omega
      have g3 : (0 : Int) ≤ (a : Int) + (k : Int) := by omega
      have hbl : b ≠ w1.heap.size := by
        obtain ⟨b', o', hab, hc'⟩ := hA1.byte (a + k) hkl'
        simp only [Option.some.injEq, Addr.mk.injEq, and_true] at hab
        obtain ⟨rfl, rfl⟩ := hab
        have := World.block_lt_of_cell? w1 _ hc'
        exact Nat.ne_of_lt this
      obtain ⟨u, hu⟩ : ∃ u, (n32 x / 2 ^ (8 * k)) % 256 = n8 u := n8_of (Int.emod_nonneg _ (by decide)) (Int.emod_lt_of_pos _ (by decide))
      have hmk : a + k < m.length := by have := HM.out; omega
      have hx1 : ∀ v : UInt8, (wr.setCell ⟨w1.heap.size, a + k, none⟩ (.int .u8 (n8 v))).cell? ⟨w1.heap.size, a + k, none⟩ = some (.int .u8 (n8 v)) := fun v => World.cell?_setCell_same _ _ _ hc2
      have hx2 : ∀ v : UInt8, (wr.setCell ⟨w1.heap.size, a + k, none⟩ (.int .u8 (n8 v))).cell? ⟨b, o + (a + k), none⟩ = some (.int .u8 (n8 l[a + k])) := fun v => far_cell (by exact hbl) hcell
      have hx3 : ∀ v : UInt8, (wr.setCell ⟨w1.heap.size, a + k, none⟩ (.int .u8 (n8 v))).heap[w1.heap.size]? = some (.cells (Bs (m.set (a + k) v)).toArray 5 (0, 0)) := fun v => by
        rw [heap_setCell_same wr w1.heap.size (a + k) _ _ _ H0.out]
        simp [Bs, List.map_set]
      have hx4 : ∀ v : UInt8, Below w1.heap.size w1 (wr.setCell ⟨w1.heap.size, a + k, none⟩ (.int .u8 (n8 v))) := fun v => hb.setCell (Nat.le_refl _) _
      have HX1 := Go.Lib.hid hx1
      have HX2 := Go.Lib.hid hx2
      have HX3 := Go.Lib.hid hx3
      have HX4 := Go.Lib.hid hx4
      clear hA hA1 hA4 hh hx1 hx2 hx3 hx4 hb
      go_wp2
      have y1 := HX1.out (m[a + k] ^^^ u)
      have y2 := HX2.out (m[a + k] ^^^ u)
      have Y3 := Go.Lib.hid (HX3.out (m[a + k] ^^^ u))
      have Y4 := Go.Lib.hid (HX4.out (m[a + k] ^^^ u))
      clear HX1 HX2 HX3 HX4 hc2 hf2 hcell H0 hu
      generalize wr.setCell ⟨w1.heap.size, a + k, none⟩ (.int .u8 (n8 (m[a + k] ^^^ u))) = w5 at *
      generalize m[a + k] ^^^ u = v at *
      have HN := Go.Lib.hid (turned_next HK.out hkl' v)
      cases same
      · go_quiet (fail)
        go_wp2
        go_roundw
        case rel => exact ⟨k + 1, _, false, by omega, by omega, by go_num, rfl, HN.out, Y3.out, ⟨Y4.out.os, Y4.out.tape, Y4.out.output, Y4.out.size, Y4.out.block⟩⟩
        case measure => simp [intOf]; omega
      · go_quiet (fail)
        go_wp2
        go_roundw
        case rel => exact ⟨k + 1, _, (v == l[a + k]), by omega, by omega, by go_num, rfl, HN.out, Y3.out, ⟨Y4.out.os, Y4.out.tape, Y4.out.output, Y4.out.size, Y4.out.block⟩⟩
        case measure => simp [intOf]; omega
    · have HS := Go.Lib.hid (turned_sum HK.out hkl hk4)
      have H4 := Go.Lib.hid (cells_at hh)
      have HT4 := Go.Lib.hid (tab_below hb HT1.out)
      have HB := Go.Lib.hid hb
      have hA5 := Go.Lib.hid hA4
      clear hh hb hA hA1 hA4
      have C1 := Go.Lib.hid (sum_calls A c l wr (by omega) HT4.out hA5.out)
      have c2 := sum_calls (some ⟨w1.heap.size, 0, none⟩) l.length m wr (by have := HM.out; omega) HT4.out H4.out
      rw [HM.out] at c2
      have C2 := Go.Lib.hid c2
      clear c2
      by_cases hk : k < 4
      · have g1 : (k : Int) < 4 := by omega
        have g2 : ¬ ((a : Int) + (k : Int) < (l.length : Int)) := by omega
        cases same
        · (go_wp2_with fail
           refine C1.out.mono ?_
           rintro e w6 ⟨rfl, rfl⟩
           go_wp2_with fail
           refine C2.out.mono ?_
           rintro e w7 ⟨rfl, rfl⟩
           have hs : (addS 0 m != addS 0 l) = true := by simpa using HS.out
           go_wp2
           go_ret
           exact ⟨rfl, below_then HB1.out HB.out⟩)
        · (go_wp2_with fail
           refine C1.out.mono ?_
           rintro e w6 ⟨rfl, rfl⟩
           go_wp2
           go_ret
           exact ⟨rfl, below_then HB1.out HB.out⟩)
      · have g1 : ¬ ((k : Int) < 4) := by omega
        cases same
        · (go_wp2_with fail
           refine C1.out.mono ?_
           rintro e w6 ⟨rfl, rfl⟩
           go_wp2_with fail
           refine C2.out.mono ?_
           rintro e w7 ⟨rfl, rfl⟩
           have hs : (addS 0 m != addS 0 l) = true := by simpa using HS.out
           go_wp2
           go_ret
           exact ⟨rfl, below_then HB1.out HB.out⟩)
        · (go_wp2_with fail
           refine C1.out.mono ?_
           rintro e w6 ⟨rfl, rfl⟩
           go_wp2
           go_ret
           exact ⟨rfl, below_then HB1.out HB.out⟩)
end Go.Proofs.YtjkocjkfedcdoaaDoor
