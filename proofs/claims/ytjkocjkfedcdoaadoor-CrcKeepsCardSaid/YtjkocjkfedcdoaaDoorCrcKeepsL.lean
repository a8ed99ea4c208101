/- The law CrcKeeps: its walk. -/
import Derived.Test.YtjkocjkfedcdoaaDoorCrcKeepsP
import Derived.StillTailTactics
import Derived.Deep.QuietTactic
import Derived.BigQuiet
namespace Go.Proofs.YtjkocjkfedcdoaaDoor
open Go Go.RowKit
attribute [local go_sem] beq_n32_0 bne_n32_0 bne_n32 n32_self mod32_2 div32_2 beq_n32_1 xor32_poly xor32 xor8 and32 or32 not32 shr32_4 shr32_1 shr32_8 shr32_16 shr32_24 and32_15 and32_1 c8_32 c32_8 n32_nonneg n32_and15_lt beq_n32 beq_n8 bne_n8

theorem info24' : (Tryd.prog.info? 26).map (fun i => (i.zero, i.size, i.bytes)) = some (some (.slice none 0 0), 1, 24) := by kernel_rfl

theorem xor8_92 (u : UInt8) : bits .xor .u8 (n8 u) 92 = n8 (u ^^^ 0x5c) := xor8 u 0x5c
attribute [local go_sem] xor8_92
theorem sum_callsR (A : Option Addr) (c : Nat) (l : List UInt8) (w : World) (hn : l.length ≤ 9223372036854775807) (hT : Tab w) (hA : Cells w A (Bs l)) :
    Calls Tryd.prog 18 #[.slice A l.length c] w fun e w' => e = .returned (.int .u32 (n32 (addR 0 l))) ∧ w' = w := by
  rw [← addS_eq]; exact sum_calls A c l w hn hT hA

set_option maxRecDepth 100000 in
set_option maxHeartbeats 4000000 in
theorem crcKeeps_calls (A : Option Addr) (c : Nat) (ps : List (List UInt8)) (w : World) (hT : Tab w) (hn : ps.length * 24 ≤ 140737488351232) (hs : ∀ p ∈ ps, p.length ≤ 140737488351232) (hA : RowsB w A ps) :
    Calls Tryd.prog 8 #[.slice A ps.length c] w fun e w' => e = .returned (.bool true) ∧ Below w.heap.size w w' := by
  have HT := Go.Lib.hid hT
  have HA := Go.Lib.hid hA
  have HS := Go.Lib.hid hs
  clear hT hA hs
  have hn' : ps.length ≤ 5864062014635 := by omega
  clear hn
  go_enter Tryd.func8, Tryd.ntmps8
  go_wp2_with fail
  refine (awake_calls _ HT.out).mono ?_
  rintro e w1 ⟨rfl, hb1⟩
  have HB1 := Go.Lib.hid hb1
  clear hb1
  go_wp2_with fail
  have hb1a : Below w1.heap.size w1 (w1.alloc (.cells #[.int .i64 0, .slice none 0 0, .int .u32 0, .int .u32 0, .int .i64 0, .slice A ps.length c] 30)) := (Below.refl _ _).alloc (Nat.le_refl _) _
  have HB1a := Go.Lib.hid hb1a
  clear hb1a
  refine (much_calls (some ⟨w1.heap.size, 0, none⟩) 1 [⟨0, [], 0, 0, 0, ps⟩] _ (by simp) ?_).mono ?_
  · intro _
    refine ⟨w1.heap.size, 0, rfl, fun i hi => ?_⟩
    obtain rfl : i = 0 := by simpa using hi
    refine ⟨[.int .i64 0, .slice none 0 0, .int .u32 0, .int .u32 0, .int .i64 0, .slice A ps.length c], rfl, fun j hj => ?_, ?_⟩
    · rw [Nat.zero_mul, Nat.zero_add, cell_of_row _ _ _ _ _ _ (heap_here w1 _ _ rfl)]
      simp at hj
      simp [hj]
    · exact ⟨none, 0, A, c, rfl, ⟨show (-9223372036854775808 : Int) ≤ 0 by decide, show (0 : Int) ≤ 9223372036854775807 by decide⟩, show 0 ≤ 9223372036854775807 by decide, fun h => absurd h (by simp [Bs]), ⟨show (-9223372036854775808 : Int) ≤ 0 by decide, show (0 : Int) ≤ 9223372036854775807 by decide⟩, show ps.length ≤ 9223372036854775807 by omega, rows_below HB1a.out (rows_below HB1.out HA.out)⟩
  rintro e w2 ⟨b, rfl, hb2⟩
  have HB2 := Go.Lib.hid (below_then (below_then HB1.out HB1a.out) hb2)
  clear hb2 HB1a HB1
  cases b
  case true =>
    go_wp2
    go_ret
    exact ⟨rfl, HB2.out⟩
  go_wp2_with (first
    | ((with_reducible refine wpList_make_row _ rfl (.tmp 27) (.tmp 27) 28 rfl 26 (.slice none 0 0) 24 Tryd.underlying28 info24' rfl ps.length rfl rfl (by omega) (by omega) ?_); intro w3 hw3 hb3; have HF3 : Hid (w3.heap[w2.heap.size]? = some (.cells (List.replicate ps.length nilS).toArray 26 (0, 0))) := hw3; have HB3 := Go.Lib.hid hb3; clear hw3 hb3)
    | ((with_reducible refine wpList_make_row _ rfl (.tmp 30) (.tmp 30) 28 rfl 26 (.slice none 0 0) 24 Tryd.underlying28 info24' rfl ps.length rfl rfl (by omega) (by omega) ?_); intro w4 hw4 hb4; have HG4 : Hid (w4.heap[w3.heap.size]? = some (.cells (List.replicate ps.length nilS).toArray 26 (0, 0))) := hw4; have HB4 := Go.Lib.hid hb4; clear hw4 hb4))
  have HF4 := Go.Lib.hid (below_heap HB4.out HF3.out)
  have HBB := Go.Lib.hid (below_then HB2.out (below_then HB3.out HB4.out))
  have hF0 : w.heap.size ≤ w2.heap.size := HB2.out.size
  have hFG : w2.heap.size < w3.heap.size := heap_lt HF3.out
  have hGB : w3.heap.size < w4.heap.size := heap_lt HG4.out
  clear HF3 HB3 HB2 HB4
  generalize w2.heap.size = F at *
  generalize w3.heap.size = G at *
  obtain ⟨B, hB⟩ : ∃ B, B = w4.heap.size := ⟨_, rfl⟩
  have hGB' : G < B := by omega
  have HB4 := Go.Lib.hid hB
  clear hB hGB
  go_loopw [6] (fun i wr => ∃ (k : Nat) (gs : List Nat), k ≤ ps.length ∧ i = .int .i64 (k : Int) ∧ B ≤ wr.heap.size ∧ Hid (gs.length = k) ∧ Hid (wr.heap[F]? = some (.cells (fullVs gs ps ++ List.replicate (ps.length - gs.length) nilS).toArray 26 (0, 0))) ∧
      Hid (wr.heap[G]? = some (.cells (givenVs gs ps ++ List.replicate (ps.length - gs.length) nilS).toArray 26 (0, 0))) ∧ Hid (Laid wr B gs ((ps.take k).map filled)) ∧ Hid (Below w.heap.size w wr)) (fun i _ => ps.length - (intOf i).toNat)
  case atStart =>
    exact ⟨0, [], by omega, rfl, by rw [HB4.out]; omega, rfl, by simpa [fullVs] using HF4, by simpa [givenVs] using HG4, laid_nil _ _, HBB⟩
  case round =>
    obtain ⟨k, gs, hk, rfl, hBr, HK, HF, HG, HL, HB⟩ := hrel
    clear HF4 HG4 HBB HB4
    obtain ⟨wo, rfl⟩ : ∃ wo : World, wo = wr := ⟨_, rfl⟩
    by_cases hlt : k < ps.length
    · obtain ⟨b, o, hAe, A', c', hl', hcell0, hrow⟩ := HA.out.row k hlt
      subst hAe
      have HRW := Go.Lib.hid hrow
      have hsz := HS.out _ (List.getElem_mem hlt)
      have hbw : b < w.heap.size := World.block_lt_of_cell? w _ hcell0
      have hcell := below_cell HB.out hcell0
      clear hcell0
      have hcF : wo.cell? ⟨F, k, none⟩ = some (.slice none 0 0) := by
        rw [cell_of_row _ _ _ _ _ _ HF.out]
        have := HK.out
        subst this
        have e : (fullVs gs ps ++ List.replicate (ps.length - gs.length) nilS)[gs.length]? = some nilS := zip_nil hlt
        rw [List.getElem?_toArray]
        exact e
      have hfF := heap_frozen HF.out k
      have HP := Go.Lib.hid (show ps[k] = ps[k] from rfl)
      clear hrow
      obtain ⟨p, hp⟩ : ∃ p, p = ps[k] := ⟨_, rfl⟩
      rw [← hp] at hcell HRW hsz hl'
      have HPE := Go.Lib.hid hp
      clear hp HP
      go_wp2_with (first
        | ((with_reducible refine wpList_make_row' _ rfl (.tmp 45) (.tmp 45) 26 rfl 5 (.int .u8 0) 1 Tryd.underlying26 info8 rfl (p.length + 8) _ rfl rfl (by omega) (by omega) (by omega) ?_); intro w5 hw5 hb5; have H5 := Go.Lib.hid hw5; have HB5 := Go.Lib.hid hb5; have x1 := below_cell hb5 hcF; have x2 := below_frozen hb5 hcF hfF; clear hw5 hb5))
      obtain ⟨g, hg⟩ : ∃ g, g = wo.heap.size := ⟨_, rfl⟩
      rw [← hg] at hBr
      have HGE := Go.Lib.hid hg
      have H6g := Go.Lib.hid (far_heap (a := ⟨F, k, none⟩) (v := fullV g p) (by show g ≠ F; omega) (show w5.heap[g]? = some (.cells (List.replicate (p.length + 8) (.int .u8 0)).toArray 5 (0, 0)) by rw [hg]; exact H5.out))
      have H6F : Hid ((w5.setCell ⟨F, k, none⟩ (fullV g p)).heap[F]? = some (.cells (fullVs (gs ++ [g]) ps ++ List.replicate (ps.length - (gs ++ [g]).length) nilS).toArray 26 (0, 0))) := by
        have e := heap_setCell_same w5 F k _ _ (fullV g p) (below_heap HB5.out HF.out)
        have hk' := HK.out
        subst hk'
        rw [HPE.out] at e ⊢
        rw [show fullVs gs ps = List.zipWith fullV gs ps from rfl, row_next g hlt] at e
        exact e
      have H6k : Hid (∀ x, x < g → x ≠ F → (w5.setCell ⟨F, k, none⟩ (fullV g p)).heap[x]? = wo.heap[x]?) := by
        intro x hx hne
        rw [Below.heap_setCell _ _ _ _ (by show x ≠ F; exact hne)]
        exact HB5.out.block x (by rw [← hg]; exact hx)
      have HB6 := Go.Lib.hid ((below_then HB.out HB5.out).setCell (p := ⟨F, k, none⟩) hF0 (fullV g p))
      have y1 : (w5.setCell ⟨F, k, none⟩ (fullV g p)).cell? ⟨F, k, none⟩ = some (fullV g p) := World.cell?_setCell_same _ _ _ x1
      have y2 : (w5.setCell ⟨F, k, none⟩ (fullV g p)).cell? ⟨b, o + k, none⟩ = some (.slice A' p.length c') := far_cell (by show b ≠ F; omega) (below_cell HB5.out hcell)
      have hRW6 := cells_below HB6.out HRW.out
      rw [← hg]
      clear x1 x2 H5 HB5 HF hcF hfF hcell hg
      unfold fullV at y1 y2 H6g H6F H6k HB6 hRW6
      generalize w5.setCell ⟨F, k, none⟩ (.slice (some ⟨g, 0, none⟩) (p.length + 8) (p.length + 8)) = w6 at *
      have hk0 : (0 : Int) ≤ (k : Int) := Int.natCast_nonneg _
      have hk1 : (k : Int) < (ps.length : Int) := by omega
      go_still_tail 8, (by kernel_rfl)
      refine wpList_copy_all (w := w6.drew) (d := .tmp 51) (s := .tmp 55) (dT := 26) (sT := 26) (elem := 5) (hu := Tryd.underlying26) (hsz := size8') (g := g) (n := p.length + 8) (dCap := p.length + 8) (sp := A') (sCap := c') (l := p)
        (hgd := rfl) (ho := rfl) (hd := rfl) (hs := rfl) (hg := H6g.out) (hn := by omega) (hfit := by simp) (hA := hRW6) (B := g) (w0 := w6) (hb := (Below.refl _ _).drew) (hBg := Nat.le_refl _) (h := ?_)
      intro w7 hw7 hb7
      have H7g : Hid (w7.heap[g]? = some (.cells (Bs (p ++ List.replicate 0 0xa7 ++ List.replicate 8 0)).toArray 5 (0, 0))) := by
        have := hw7.out
        rw [List.drop_replicate, Nat.add_sub_cancel_left, zeros_bytes, ← Bs_append] at this
        show w7.heap[g]? = _
        simpa using this
      have z1 : w7.cell? ⟨F, k, none⟩ = some (.slice (some ⟨g, 0, none⟩) (p.length + 8) (p.length + 8)) := (hb7.cell (p := ⟨F, k, none⟩) (by show F < g; omega)).trans y1
      have z2 : w7.cell? ⟨b, o + k, none⟩ = some (.slice A' p.length c') := (hb7.cell (p := ⟨b, o + k, none⟩) (by show b < g; omega)).trans y2
      have HB7 := Go.Lib.hid hb7
      have Y1 := Go.Lib.hid y1
      have Y2 := Go.Lib.hid y2
      clear hw7 hb7 H6g hRW6 y1 y2
      go_wp2
      clear z1 z2
      go_loopw [7] (fun j wq => ∃ m : Nat, m ≤ 8 ∧ j = .int .i64 ((p.length : Int) + (m : Int)) ∧ Hid (wq.heap[g]? = some (.cells (Bs (p ++ List.replicate m 0xa7 ++ List.replicate (8 - m) 0)).toArray 5 (0, 0))) ∧ Hid (Below g w6 wq)) (fun j _ => p.length + 8 - (intOf j).toNat)
      case atStart => exact ⟨0, by omega, by simp, H7g, HB7⟩
      case round =>
        obtain ⟨m, hm, rfl, HQ, HBQ⟩ := hrel
        clear H7g HB7
        have z1 : wr.cell? ⟨F, k, none⟩ = some (.slice (some ⟨g, 0, none⟩) (p.length + 8) (p.length + 8)) := (HBQ.out.cell (p := ⟨F, k, none⟩) (by show F < g; omega)).trans Y1.out
        by_cases hm8 : m < 8
        · have z2 : wr.cell? ⟨g, p.length + m, none⟩ = some (.int .u8 0) := by
            rw [cell_of_row _ _ _ _ _ _ HQ.out, ← zeros_cell p m hm8]
          have z3 := heap_frozen HQ.out (p.length + m)
          go_wp2
          go_roundw
          case rel =>
            have hh := heap_setCell_same wr g (p.length + m) _ _ (.int .u8 167) HQ.out
            rw [fill_step p m hm8] at hh
            exact ⟨m + 1, by omega, by congr 1, hh, HBQ.out.setCell (Nat.le_refl _) _⟩
          case measure => simp [intOf]; omega
        · have hm8' : m = 8 := by omega
          have H8 : Hid (wr.heap[g]? = some (.cells (Bs (filled p)).toArray 5 (0, 0))) := by
            have := HQ.out
            rw [hm8'] at this
            show wr.heap[g]? = _
            simpa [filled] using this
          have z2 : wr.cell? ⟨b, o + k, none⟩ = some (.slice A' p.length c') := (HBQ.out.cell (p := ⟨b, o + k, none⟩) (by show b < g; omega)).trans Y2.out
          clear HQ hm8'
          have hGg : G < g := by omega
          have H8G : Hid (wr.heap[G]? = some (.cells (givenVs gs ps ++ List.replicate (ps.length - gs.length) nilS).toArray 26 (0, 0))) := ((HBQ.out.block G hGg).trans (H6k.out G hGg (by omega))).trans HG.out
          have hcG : wr.cell? ⟨G, k, none⟩ = some (.slice none 0 0) := by
            rw [cell_of_row _ _ _ _ _ _ H8G.out]
            have := HK.out
            subst this
            have e : (givenVs gs ps ++ List.replicate (ps.length - gs.length) nilS)[gs.length]? = some nilS := zip_nil hlt
            rw [List.getElem?_toArray]
            exact e
          have hfG := heap_frozen H8G.out k
          have hcut := run_cut_h (P := Tryd.prog) 26 5 Tryd.underlying26 size8' (some ⟨g, 0, none⟩) (p.length + 8) (p.length + 8) p.length (by omega)
          go_wp2
          go_still_tail 13, (by kernel_rfl)
          have hcG' : wr.drew.cell? ⟨G, k, none⟩ = some (.slice none 0 0) := hcG
          have hfG' : wr.drew.frozen? ⟨G, k, none⟩ = false := hfG
          clear hcG hfG hcut z1 z2
          go_wp2
          go_roundw
          case rel =>
            have eG := heap_setCell_same wr.drew G k _ _ (givenV g p) H8G.out
            have hkk := HK.out
            subst hkk
            refine ⟨gs.length + 1, gs ++ [g], by omega, by go_num, ?_, by show (gs ++ [g]).length = _; simp, ?_, ?_, ?_, ?_⟩
            · have := HBQ.out.size
              have := heap_lt H8.out
              have e : ∀ v, (wr.setCell ⟨G, gs.length, none⟩ v).drew.heap.size = wr.heap.size := fun v => by show (wr.setCell _ _).heap.size = _; simp [World.setCell]
              rw [e]
              omega
            · exact far_heap (by show F ≠ G; omega) ((HBQ.out.block F (by omega)).trans H6F.out)
            · rw [HPE.out] at eG ⊢
              rw [show givenVs gs ps = List.zipWith givenV gs ps from rfl, row_next g hlt] at eG
              exact eG
            · have hLB := HL.out
              have hgs : ∀ x ∈ gs, B ≤ x ∧ x < g := fun x hx => by have := hLB.2.2.1 x hx; rw [← HGE.out] at this; exact this
              have hkeep : Laid (wr.drew.setCell ⟨G, gs.length, none⟩ (givenV g p)) B gs ((ps.take gs.length).map filled) := by
                refine laid_keep hLB ?_ ?_
                · have := HBQ.out.size
                  have := heap_lt H8.out
                  have e : ∀ v, (wr.drew.setCell ⟨G, gs.length, none⟩ v).heap.size = wr.heap.size := fun v => by show (wr.setCell _ _).heap.size = _; simp [World.setCell]
                  rw [e, ← HGE.out]; omega
                · intro x hx
                  have := hgs x hx
                  rw [Below.heap_setCell _ _ _ _ (by show x ≠ G; omega)]
                  exact (HBQ.out.block x this.2).trans (H6k.out x this.2 (by omega))
              have := laid_snoc hkeep hBr (fun x hx => (hgs x hx).2) (c := filled p) (far_heap (by show g ≠ G; omega) H8.out)
              have hfp : filled ps[gs.length] = filled p := by rw [HPE.out]
              rw [List.take_succ_eq_append_getElem hlt, List.map_append, List.map_singleton, hfp]
              exact this
            · have hb2 : Below w.heap.size w wr := HB6.out.trans (HBQ.out.mono (by omega))
              exact (hb2.drew).setCell (p := ⟨G, gs.length, none⟩) (by show w.heap.size ≤ G; omega) _
          case measure => simp [intOf]; omega
    · have hkn : k = ps.length := by omega
      have hgn : gs.length = ps.length := by rw [HK.out, hkn]
      have HGN := Go.Lib.hid hgn
      have HF' : Hid (wo.heap[F]? = some (.cells (fullVs gs ps).toArray 26 (0, 0))) := by
        have := HF.out
        rw [hgn, Nat.sub_self, List.replicate_zero, List.append_nil] at this
        exact this
      have HG' : Hid (wo.heap[G]? = some (.cells (givenVs gs ps).toArray 26 (0, 0))) := by
        have := HG.out
        rw [hgn, Nat.sub_self, List.replicate_zero, List.append_nil] at this
        exact this
      have HL' : Hid (Laid wo B gs (ps.map filled)) := by
        have := HL.out
        rw [hkn, List.take_length] at this
        exact this
      clear hgn hkn HF HG HL HK
      have HTl := Go.Lib.hid (tab_below HB.out HT.out)
      have HAl := Go.Lib.hid (rows_below HB.out HA.out)
      have HGR := Go.Lib.hid (given_rows HG'.out HL'.out HGN.out HS.out ps rfl (fun i h1 h2 h3 => ⟨rfl, List.replicate 8 0xa7, by simp [filled]⟩))
      have hn63 : ps.length ≤ 9223372036854775807 := by omega
      go_wp2_with fail
      refine (sumOf_calls (some ⟨G, 0, none⟩) ps.length ps _ hn63 HTl.out HGR.out).mono ?_
      rintro e w8 ⟨rfl, rfl⟩
      go_wp2_with fail
      refine (sumOf_calls (some ⟨G, 0, none⟩) ps.length ps _ hn63 HTl.out HGR.out).mono ?_
      rintro e w9 ⟨rfl, rfl⟩
      go_wp2_with fail
      refine (sumOfR_calls A c ps _ hn63 HAl.out).mono ?_
      rintro e w10 ⟨rfl, rfl⟩
      have hsum : (sumOfS ps == sumOfR ps) = true := by rw [sumOfS_eq]; simp
      have HSUM := Go.Lib.hid hsum
      clear hsum
      generalize sumOfS ps = sps at *
      generalize sumOfR ps = spr at *
      obtain ⟨wo, rfl⟩ : ∃ wo : World, wo = w10 := ⟨_, rfl⟩
      have HF2 := Go.Lib.hid (show wo.heap[F]? = some (.cells (fullVs gs ps).toArray 26 (0, 0)) from HF'.out)
      have HFG' := Go.Lib.hid (show F < G ∧ G < B from ⟨hFG, hGB'⟩)
      clear HF' hFG hGB'
      go_wp2
      go_loopw [11] (fun i wr => ∃ (k : Nat), k ≤ ps.length ∧ i = .int .i64 (k : Int) ∧ Hid (∃ n, wr = wo.drewN n)) (fun i _ => ps.length - (intOf i).toNat)
      case atStart => exact ⟨0, by omega, rfl, ⟨0, rfl⟩⟩
      case round =>
        obtain ⟨k, hk, rfl, HD⟩ := hrel
        by_cases hlt : k < ps.length
        · have hgk : k < gs.length := by rw [HGN.out]; exact hlt
          obtain ⟨b, o, hAe, A', c', hl', hcell, hrow⟩ := HAl.out.row k hlt
          subst hAe
          have hsz := HS.out _ (List.getElem_mem hlt)
          have hgl := HL'.out.2.2.2 k hgk (by simpa using hlt)
          have hcG : wo.cell? ⟨G, k, none⟩ = some (givenV gs[k] ps[k]) := by
            rw [cell_of_row _ _ _ _ _ _ HG'.out, List.getElem?_toArray]
            have := zip_get (f := givenV) (gs := gs) (ps := ps) (rest := []) k hgk hlt
            rw [List.append_nil] at this
            exact this
          have hcF : wo.cell? ⟨F, k, none⟩ = some (fullV gs[k] ps[k]) := by
            rw [cell_of_row _ _ _ _ _ _ HF2.out, List.getElem?_toArray]
            have := zip_get (f := fullV) (gs := gs) (ps := ps) (rest := []) k hgk hlt
            rw [List.append_nil] at this
            exact this
          rw [List.getElem_map] at hgl
          unfold givenV at hcG
          unfold fullV at hcF
          generalize gs[k] = g at *
          generalize ps[k] = p at *
          have hcs : Cells wo (some ⟨g, 0, none⟩) (Bs p) := fun h0 => ⟨g, 0, rfl, fun j hj' => by
            rw [Nat.zero_add, cell_of_row wo _ _ _ _ _ hgl]
            have : (Bs (filled p))[j]? = some (Bs p)[j] := by rw [filled, Bs_append, List.getElem?_append_left hj', List.getElem?_eq_getElem hj']
            simpa using this⟩
          have HGL := Go.Lib.hid hgl
          have HROW := Go.Lib.hid hrow
          have HCS := Go.Lib.hid hcs
          have x1 : wr.cell? ⟨G, k, none⟩ = some (.slice (some ⟨g, 0, none⟩) p.length (p.length + 8)) := by obtain ⟨n, rfl⟩ := HD.out; exact hcG
          have x2 : wr.cell? ⟨b, o + k, none⟩ = some (.slice A' p.length c') := by obtain ⟨n, rfl⟩ := HD.out; exact hcell
          have HTr : Hid (Tab wr) := by obtain ⟨n, rfl⟩ := HD.out; exact HTl.out
          have HCSr : Hid (Cells wr (some ⟨g, 0, none⟩) (Bs p)) := by obtain ⟨n, rfl⟩ := HD.out; exact hcs
          have HROWr : Hid (Cells wr A' (Bs p)) := by obtain ⟨n, rfl⟩ := HD.out; exact hrow
          have HCF := Go.Lib.hid hcF
          have HCE := Go.Lib.hid hcell
          clear hgl hrow hcs hcF hcG hcell
          have hk0 : (0 : Int) ≤ (k : Int) := Int.natCast_nonneg _
          have hk1 : (k : Int) < (ps.length : Int) := by omega
          go_wp2_with fail
          go_quiet (first
            | (go_at_call 18; exact Calls.quiet_of_same (sum_callsR _ _ _ _ (by omega) HTr.out HCSr.out))
            | (go_at_call 23; exact Calls.quiet_of_same (sumR_calls _ _ _ _ (by omega) HROWr.out)))
          go_wp2
          clear x1 x2 HTr HCSr HROWr
          have HD1 : Hid (∃ n, wr.drewN nq = wo.drewN n) := by obtain ⟨n, rfl⟩ := HD.out; exact ⟨n + nq, World.drewN_drewN ..⟩
          clear HD
          go_loopw [12] (fun j wq => ∃ (m : Nat), m ≤ p.length + 8 ∧ j = .int .i64 (m : Int) ∧ Hid (∃ n, wq = wo.drewN n)) (fun j _ => p.length + 8 - (intOf j).toNat)
          case atStart => exact ⟨0, by omega, rfl, HD1⟩
          case round =>
            obtain ⟨m, hm, rfl, HQ⟩ := hrel
            clear HD1
            have x3 : wr.cell? ⟨F, k, none⟩ = some (.slice (some ⟨g, 0, none⟩) (p.length + 8) (p.length + 8)) := by obtain ⟨n, rfl⟩ := HQ.out; exact HCF.out
            have x4 : wr.cell? ⟨b, o + k, none⟩ = some (.slice A' p.length c') := by obtain ⟨n, rfl⟩ := HQ.out; exact HCE.out
            by_cases hm8 : m < p.length + 8
            · have hcm : ∀ v, (Bs (filled p))[m]? = some v → wr.cell? ⟨g, m, none⟩ = some v := fun v hv => by
                obtain ⟨n, rfl⟩ := HQ.out
                show wo.cell? _ = _
                rw [cell_of_row wo _ _ _ _ _ HGL.out, List.getElem?_toArray, hv]
              have HX3 := Go.Lib.hid x3
              clear x3
              by_cases hmp : m < p.length
              · obtain ⟨b', o', hAe, hcell'⟩ := HROW.out (by rw [Bs_length]; omega)
                have x5 : wr.cell? ⟨b', o' + m, none⟩ = some (.int .u8 (n8 p[m])) := by
                  obtain ⟨n, rfl⟩ := HQ.out
                  show wo.cell? _ = _
                  rw [hcell' m (by rw [Bs_length]; omega)]
                  simp [Bs]
                have x6 : wr.cell? ⟨g, m, none⟩ = some (.int .u8 (n8 p[m])) := hcm _ (by
                  rw [filled, Bs_append, List.getElem?_append_left (by rw [Bs_length]; omega)]
                  simp [Bs, hmp])
                subst hAe
                clear hcell' hcm
                have x3 := HX3.out
                have d1 : decide ((m : Int) < (p.length : Int)) = true := decide_eq_true (by omega)
                have d2 : decide (p.length ≤ m) = false := decide_eq_false (by omega)
                have hm0 : (0 : Int) ≤ (m : Int) := Int.natCast_nonneg _
                have hm1 : (m : Int) < ((p.length + 8 : Nat) : Int) := by omega
                generalize p[m] = u at *
                go_wp2_with fail
                go_quiet (fail)
                go_wp2
                go_roundw
                case rel => exact ⟨m + 1, by omega, by go_num, by obtain ⟨n, rfl⟩ := HQ.out; exact ⟨_, World.drewN_drewN ..⟩⟩
                case measure => simp [intOf]; omega
              · have x6 : wr.cell? ⟨g, m, none⟩ = some (.int .u8 167) := hcm _ (by
                  rw [filled, Bs_append, List.getElem?_append_right (by rw [Bs_length]; omega), Bs_length]
                  simp only [Bs, List.map_replicate]
                  rw [List.getElem?_replicate, if_pos (by omega)]
                  rfl)
                clear hcm
                have x3 := HX3.out
                have d1 : decide ((m : Int) < (p.length : Int)) = false := decide_eq_false (by omega)
                have d2 : decide (p.length ≤ m) = true := decide_eq_true (by omega)
                have hm0 : (0 : Int) ≤ (m : Int) := Int.natCast_nonneg _
                have hm1 : (m : Int) < ((p.length + 8 : Nat) : Int) := by omega
                go_wp2_with fail
                go_quiet (fail)
                go_wp2
                go_roundw
                case rel => exact ⟨m + 1, by omega, by go_num, by obtain ⟨n, rfl⟩ := HQ.out; exact ⟨_, World.drewN_drewN ..⟩⟩
                case measure => simp [intOf]; omega
            · go_wp2
              go_roundw
              case rel => exact ⟨k + 1, by omega, by go_num, HQ⟩
              case measure => simp [intOf]; omega
        · have HGr : Hid (wr.heap[G]? = some (.cells (givenVs gs ps).toArray 26 (0, 0))) := by obtain ⟨n, rfl⟩ := HD.out; exact HG'.out
          have HLr : Hid (Laid wr B gs (ps.map filled)) := by obtain ⟨n, rfl⟩ := HD.out; exact HL'.out
          have HBr : Hid (Below w.heap.size w wr) := by obtain ⟨n, rfl⟩ := HD.out; exact ⟨HB.out.os, HB.out.tape, HB.out.output, HB.out.size, HB.out.block⟩
          have HTr : Hid (Tab wr) := by obtain ⟨n, rfl⟩ := HD.out; exact HTl.out
          obtain ⟨wt, rfl⟩ : ∃ wt : World, wt = wr := ⟨_, rfl⟩
          have hss : sps = spr := by simpa using HSUM.out
          subst hss
          clear HF2 HG' HL' HB HD HGR HSUM HTl
          go_wp2
          clear hk hlt
          go_loopw [13, 14] (fun l i wr => ∃ (k : Nat), k ≤ ps.length ∧ i = .int .i64 (k : Int) ∧ l = .int .u32 (n32 (lastR ps k)) ∧ Hid (wr.heap[G]? = some (.cells (givenVs gs ps).toArray 26 (0, 0))) ∧ Hid (Laid wr B gs (mixAt ps k)) ∧ Hid (Below w.heap.size w wr)) (fun _ i _ => ps.length - (intOf i).toNat)
          case atStart => exact ⟨0, by omega, rfl, rfl, HGr, by rw [mixAt_none]; exact HLr, HBr⟩
          case round =>
            obtain ⟨k, hk, rfl, rfl, HG, HL, HB⟩ := hrel
            clear HGr HLr HBr HTr
            by_cases hlt : k < ps.length
            · have hgk : k < gs.length := by rw [HGN.out]; exact hlt
              have hsz := HS.out _ (List.getElem_mem hlt)
              have hgl := HL.out.2.2.2 k hgk (by rw [mixAt_length]; exact hlt)
              have hgB := (HL.out.2.2.1 gs[k] (List.getElem_mem hgk))
              have hcG : wr.cell? ⟨G, k, none⟩ = some (givenV gs[k] ps[k]) := by
                rw [cell_of_row _ _ _ _ _ _ HG.out, List.getElem?_toArray]
                have := zip_get (f := givenV) (gs := gs) (ps := ps) (rest := []) k hgk hlt
                rw [List.append_nil] at this
                exact this
              rw [mixAt_get _ _ hlt] at hgl
              have HGK := Go.Lib.hid (show gs[k] = gs[k] from rfl)
              obtain ⟨g, hg⟩ : ∃ g, g = gs[k] := ⟨_, rfl⟩
              obtain ⟨p, hp⟩ : ∃ p, p = ps[k] := ⟨_, rfl⟩
              rw [← hg, ← hp] at hcG hgl
              rw [← hg] at hgB
              rw [← hp] at hsz
              unfold givenV at hcG
              have HGL := Go.Lib.hid hgl
              have HGE := Go.Lib.hid hg
              have HPE := Go.Lib.hid hp
              have HCG := Go.Lib.hid hcG
              clear hgl hcG hg hp HGK
              obtain ⟨wo, rfl⟩ : ∃ wo : World, wo = wr := ⟨_, rfl⟩
              go_wp2
              go_loopw [15] (fun j wq => ∃ m : Nat, m ≤ p.length ∧ j = .int .i64 (m : Int) ∧ Hid (wq.heap[g]? = some (.cells (Bs (mixTo p m)).toArray 5 (0, 0))) ∧ Hid (∀ x, x ≠ g → wq.heap[x]? = wo.heap[x]?) ∧ Hid (Below w.heap.size w wq) ∧ Hid (wo.heap.size ≤ wq.heap.size)) (fun j _ => p.length - (intOf j).toNat)
              case atStart => exact ⟨0, by omega, rfl, by rw [mix_none]; exact HGL, fun _ _ => rfl, HB, Nat.le_refl _⟩
              case round =>
                obtain ⟨m, hm, rfl, HQ, HX, HBQ, HZ⟩ := hrel
                clear HGL
                have hcG : wr.cell? ⟨G, k, none⟩ = some (.slice (some ⟨g, 0, none⟩) p.length (p.length + 8)) := by
                  have e := (HX.out G (by have := HFG'.out; omega)).trans HG.out
                  rw [cell_of_row _ _ _ _ _ _ e, ← cell_of_row _ _ _ _ _ _ HG.out]
                  exact HCG.out
                by_cases hmp : m < p.length
                · have hc := (cell_of_row wr g m _ _ _ HQ.out).trans (mix_at p m hmp)
                  have hf := heap_frozen HQ.out m
                  have H1 := Go.Lib.hid (mix_set p m hmp)
                  generalize p[m] = u at *
                  have hm0 : (0 : Int) ≤ (m : Int) := Int.natCast_nonneg _
                  have hm1 : (m : Int) < (p.length : Int) := by omega
                  go_wp2
                  go_still_tail 14, (by kernel_rfl)
                  have hc' : wr.drew.cell? ⟨g, m, none⟩ = some (.int .u8 (n8 u)) := hc
                  have hf' : wr.drew.frozen? ⟨g, m, none⟩ = false := hf
                  clear hc hf hcG
                  go_wp2
                  go_roundw
                  case rel =>
                    have hh := heap_setCell_same wr.drew g m _ _ (.int .u8 (n8 (u ^^^ 0x5c))) HQ.out
                    rw [H1.out] at hh
                    exact ⟨m + 1, by omega, by go_num, hh, fun x hx => (Below.heap_setCell _ _ _ _ hx).trans (HX.out x hx),
                      (HBQ.out.drew).setCell (p := ⟨g, m, none⟩) (by have := HFG'.out; show w.heap.size ≤ g; omega) _,
                      Nat.le_trans HZ.out ((Below.refl 0 wr).drew.setCell (p := ⟨g, m, none⟩) (Nat.zero_le _) (.int .u8 (n8 (u ^^^ 0x5c)))).size⟩
                  case measure => simp [intOf]; omega
                · have hmp' : m = p.length := by omega
                  subst hmp'
                  have hgk' : k < gs.length := by rw [HGN.out]; exact hlt
                  have HLn : Hid (Laid wr B gs (mixAt ps (k + 1))) := by
                    have e := HQ.out
                    rw [mix_all, HPE.out] at e
                    rw [← mixAt_set ps k hlt]
                    exact laid_set HL.out hgk' HZ.out (fun x hx => HX.out x (by rw [HGE.out]; exact hx)) (by rw [← HGE.out]; exact e)
                  have HGn : Hid (wr.heap[G]? = some (.cells (givenVs gs ps).toArray 26 (0, 0))) := (HX.out G (by have := HFG'.out; omega)).trans HG.out
                  have hcs : Cells wr (some ⟨g, 0, none⟩) (Bs (xs p)) := fun h0 => ⟨g, 0, rfl, fun j hj' => by
                    rw [Nat.zero_add, cell_of_row wr _ _ _ _ _ HQ.out, mix_all]
                    have : (Bs (mixed p))[j]? = some (Bs (xs p))[j] := by rw [mixed, Bs_append, List.getElem?_append_left hj', List.getElem?_eq_getElem hj']
                    simpa using this⟩
                  have HADD := Go.Lib.hid (fun s : UInt32 => addR_calls s (some ⟨g, 0, none⟩) (p.length + 8) (xs p) wr (by rw [xs_length]; omega) hcs)
                  have HSTEP := Go.Lib.hid (lastR_step ps k hlt)
                  rw [← HPE.out] at HSTEP
                  clear hcs
                  go_wp2_with fail
                  have hadd := HADD.out (lastR ps k)
                  rw [xs_length, HSTEP.out] at hadd
                  refine hadd.mono ?_
                  rintro e w8 ⟨rfl, rfl⟩
                  clear hadd HADD HSTEP
                  go_wp2
                  go_roundw
                  case rel => exact ⟨k + 1, by omega, by go_num, rfl, HGn, HLn, HBQ⟩
                  case measure => simp [intOf]; omega
            · have hkn : k = ps.length := by omega
              subst hkn
              have HGR := Go.Lib.hid (given_rows HG.out HL.out HGN.out HS.out (ps.map xs) (by simp) (fun i h1 h2 h3 => by
                rw [List.getElem_map, xs_length]
                exact ⟨rfl, List.replicate 8 0xa7, by simp [mixAt_all, mixed]⟩))
              have hsum := sumOf_calls (some ⟨G, 0, none⟩) ps.length (ps.map xs) wr (by rw [List.length_map]; omega) (tab_below HB.out HT.out) HGR.out
              rw [List.length_map, ← lastR_all] at hsum
              have HSUM := Go.Lib.hid hsum
              clear hsum HGR
              go_wp2_with fail
              refine HSUM.out.mono ?_
              rintro e w8 ⟨rfl, rfl⟩
              go_wp2
              go_ret
              exact ⟨rfl, HB.out⟩
end Go.Proofs.YtjkocjkfedcdoaaDoor
