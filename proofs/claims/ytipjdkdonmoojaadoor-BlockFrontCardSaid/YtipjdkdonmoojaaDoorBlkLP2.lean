/- Layer 8's law BlockPacks: the walk. (Printed by gen_blklp.py.) -/
import Derived.Test.YtipjdkdonmoojaaDoorBlkLP
namespace Go.Proofs.YtipjdkdonmoojaaDoor
open Go Go.RowKit
set_option linter.unusedVariables false
set_option linter.unusedSimpArgs false
attribute [local go_sem] n8_self n64_self beq_n8 bne_n8 beq_n64 bne_n64

set_option maxRecDepth 100000 in
set_option maxHeartbeats 1600000 in
theorem blockPacks_calls (first : UInt64) (A : Option Addr) (c : Nat) (rs : List (List UInt8)) (p : Nat → Addr) (w : World) (hT : Tab w) (hE : E5A w p) (hl : rs.length ≤ 9223372036854775807) (h2 : ∀ r ∈ rs, r.length ≤ 140737488351232) (hA : RowsB w A rs) :
    Calls Tryd.prog 7 #[.int .u64 (n64 first), .slice A rs.length c] w fun e w' => e = .returned (.bool true) ∧ Below w.heap.size w w' := by
  have HAW := Go.Lib.hid (awake_calls p w hT hE.1)
  have HT := Go.Lib.hid hT
  have HE := Go.Lib.hid hE
  have HA := Go.Lib.hid hA
  have H2 := Go.Lib.hid h2
  clear hT hE hA h2
  go_enter Tryd.func7, Tryd.ntmps7
  go_wp2_with fail
  refine HAW.out.mono ?_
  rintro e w1 ⟨rfl, hb1⟩
  have HB1 := Go.Lib.hid hb1
  have HM := Go.Lib.hid (many_calls A c rs w1 hl H2.out (rows_below hb1 HA.out))
  clear HAW hb1
  go_wp2_with fail
  refine HM.out.mono ?_
  rintro e w2 ⟨⟨bb, rfl, HBB⟩, rfl⟩
  clear HM
  cases bb
  case true =>
    go_wp2
    go_ret
    exact ⟨rfl, HB1.out⟩
  obtain ⟨hn, htot⟩ := HBB.out rfl
  have HCP := Go.Lib.hid (copied_calls A c rs w2 (by omega) H2.out (rows_below HB1.out HA.out))
  clear HBB htot
  go_wp2_with fail
  refine HCP.out.mono ?_
  rintro e w3 ⟨g, rfl, HR3, HB3⟩
  have HB03 := Go.Lib.hid (below_then HB1.out HB3.out)
  have HPK := Go.Lib.hid (bPack_calls (some ⟨g, 0, none⟩) rs.length rs first p w3 (fun x => below_cell HB03.out (HT.out x)) (e5_below HE.out.1 HB03.out) (by omega) (Nat.le_refl _) (by omega) HR3.out)
  clear HCP HB3 HB1 HR3
  rcases pack_three first rs with ⟨h0, he⟩ | ⟨h0, he | he⟩ | ⟨h0, cs, hcs, he, hok, hflat⟩
  · rw [he] at HPK
    have H00 := Go.Lib.hid h0
    have hr0 : ((rs.length : Int) == 0) = true := by rw [beq_iff_eq]; omega
    clear he h0
    go_wp2_with fail
    refine HPK.out.mono ?_
    rintro e w4 ⟨v4, rfl, ho4, hb4⟩
    have HB04 := Go.Lib.hid (below_then HB03.out hb4)
    obtain ⟨A4, c4, rfl, HO4, HC4⟩ := own_open ho4
    clear ho4 hb4 HPK
    simp only [errv, List.length_nil]
    have hbn5 : Below w4.heap.size w4 (w4.alloc (.cells #[] 5)) := (Below.refl _ _).alloc (Nat.le_refl _) _
    have HO5 := Go.Lib.hid (own_nil8 (w := w4.alloc (.cells #[] 5)) (b := w4.heap.size) (g := w4.heap.size) (heap_here w4 (.cells #[] 5) (w4.heap.size) (by simp)) (Nat.le_refl _))
    have HC5 := Go.Lib.hid (cells_below hbn5 (HC4.out))
    have hsz5 : w4.heap.size ≤ (w4.alloc (.cells #[] 5)).heap.size := hbn5.size
    have hroom5 : (Bs []).length + (([] : List UInt8)).length ≤ 140737488355328 := by rw [Bs_length]; simp only [List.length_nil]; decide
    have HBN5 := Go.Lib.hid hbn5
    clear hbn5
    go_wp2_with (first
      | (at_builtin; (with_reducible refine wpList_append_all (s := .tmp 53) (x := .tmp 54) (t := 28) (e := 5) (z := .int .u8 0) (ht := Tryd.underlying28) (hinfo := info8) (base := w4.heap.size) (v := .slice (some ⟨w4.heap.size, 0, none⟩) 0 0) (vs := Bs []) (hown := HO5.out) (hbase := hsz5) (A := A4) (c := c4) (l := ([] : List UInt8)) (hA := HC5.out) (hroom := hroom5) (hgd := rfl) (hz := ?_) (ho := ?_) (hs := ?_) (hx := ?_) (h := ?_)); rfl; rfl; rfl; go_must (rfl); intro v6 w6 hown6 hb6; go_must (obtain ⟨A6, c6, rfl, hc61, hc62, HO6, HC6⟩ := own_open2 (show Own w6 w4.heap.size 5 v6 (Bs []) from hown6)); have HB6 := Go.Lib.hid (HBN5.out.trans hb6); clear hown6 hb6))
    have HB06 := Go.Lib.hid (below_then HB04.out HB6.out)
    have hsc : scanB [] [] first = ([], 0) := rfl
    have HSC := Go.Lib.hid (bScan_calls A6 c6 [] none 0 [] first p w6 (fun x => below_cell HB06.out (HT.out x)) (e5_below HE.out.1 HB06.out) (by decide) hc61 hc62 HC6.out (by simp) (fun h => absurd h (by simp)))
    rw [hsc] at HSC
    clear hsc HO5 HC5 HBN5 HO6 HC6 HB6
    refine (show Calls Tryd.prog 19 #[.slice A6 0 c6, .slice none 0 0, .int .u64 (n64 first)] w6 _ from HSC.out).mono ?_
    rintro e w7 ⟨v7, vs7, rfl, ho7, ha7, hb7⟩
    have HB07 := Go.Lib.hid (below_then HB06.out hb7)
    obtain ⟨A7, c7, rfl, _, _, hr7⟩ := rows_of_all ho7 ha7
    clear ho7 ha7 hb7 hr7 HSC
    simp only [List.length_nil]
    go_wp2
    go_ret
    exact ⟨rfl, HB07.out⟩
  · rw [he] at HPK
    have hr0 : decide ((0 : Int) < (rs.length : Int)) = true := decide_eq_true (by omega)
    clear he
    go_wp2_with fail
    refine HPK.out.mono ?_
    rintro e w4 ⟨v4, rfl, ho4, hb4⟩
    have HB04 := Go.Lib.hid (below_then HB03.out hb4)
    obtain ⟨A4, c4, rfl, HO4, HC4⟩ := own_open ho4
    have e1 := e5_arg (e5_below HE.out.1 HB04.out)
    have e4 := e5_long (e5_below HE.out.1 HB04.out)
    have hq := eql_same w4 (p 1)
    clear ho4 hb4 HPK HO4 HC4
    simp only [errv, List.length_nil]
    go_wp2
    go_ret
    exact ⟨rfl, HB04.out⟩
  · rw [he] at HPK
    have hr0 : decide ((0 : Int) < (rs.length : Int)) = true := decide_eq_true (by omega)
    clear he
    go_wp2_with fail
    refine HPK.out.mono ?_
    rintro e w4 ⟨v4, rfl, ho4, hb4⟩
    have HB04 := Go.Lib.hid (below_then HB03.out hb4)
    obtain ⟨A4, c4, rfl, HO4, HC4⟩ := own_open ho4
    have e1 := e5_arg (e5_below HE.out.1 HB04.out)
    have e4 := e5_long (e5_below HE.out.1 HB04.out)
    have hq := eql_same w4 (p 4)
    have hq2 := eql_other ((e5a_below HE.out HB04.out).2 4 1 (by decide) (by decide) (by decide) (by decide) (by decide))
    clear ho4 hb4 HPK HO4 HC4
    simp only [errv, List.length_nil]
    go_wp2
    go_ret
    exact ⟨rfl, HB04.out⟩
  · rw [he] at HPK
    have HCS := Go.Lib.hid hcs
    have HFL := Go.Lib.hid hflat
    have HSA := Go.Lib.hid (scan_all hok)
    have HLEN := Go.Lib.hid (packC_length cs first hok)
    have HAT := Go.Lib.hid (fun i hi => packC_at cs first i hi hok)
    have HMEM := Go.Lib.hid (fun k hk => chain_mem cs first k hk hok)
    have hM : cs.length ≤ 1048576 := by have := chunks_len rs.length rs; rw [← hcs] at this; omega
    clear he hcs hflat hok
    have d0 : ((rs.length : Int) == 0) = false := by rw [beq_eq_false_iff_ne]; omega
    generalize packC first cs = pk at *
    have hpl : pk.length ≤ 536870912 := by rw [HLEN.out]; omega
    go_wp2_with fail
    refine HPK.out.mono ?_
    rintro e w4 ⟨v4, rfl, ho4, hb4⟩
    have HB04 := Go.Lib.hid (below_then HB03.out hb4)
    simp only at ho4
    obtain ⟨A4, c4, rfl, hc41, hc42, HO4, HC4⟩ := own_open2 ho4
    clear ho4 hb4 HPK HO4
    simp only [errv]
    have hbn5 : Below w4.heap.size w4 (w4.alloc (.cells #[] 5)) := (Below.refl _ _).alloc (Nat.le_refl _) _
    have HO5 := Go.Lib.hid (own_nil8 (w := w4.alloc (.cells #[] 5)) (b := w4.heap.size) (g := w4.heap.size) (heap_here w4 (.cells #[] 5) (w4.heap.size) (by simp)) (Nat.le_refl _))
    have HC5 := Go.Lib.hid (cells_below hbn5 (HC4.out))
    have hsz5 : w4.heap.size ≤ (w4.alloc (.cells #[] 5)).heap.size := hbn5.size
    have hroom5 : (Bs []).length + (pk).length ≤ 140737488355328 := by rw [Bs_length]; simp only [List.length_nil]; omega
    have HBN5 := Go.Lib.hid hbn5
    clear hbn5
    go_wp2_with (first
      | (at_builtin; (with_reducible refine wpList_append_all (s := .tmp 53) (x := .tmp 54) (t := 28) (e := 5) (z := .int .u8 0) (ht := Tryd.underlying28) (hinfo := info8) (base := w4.heap.size) (v := .slice (some ⟨w4.heap.size, 0, none⟩) 0 0) (vs := Bs []) (hown := HO5.out) (hbase := hsz5) (A := A4) (c := c4) (l := pk) (hA := HC5.out) (hroom := hroom5) (hgd := rfl) (hz := ?_) (ho := ?_) (hs := ?_) (hx := ?_) (h := ?_)); rfl; rfl; rfl; go_must (rfl); intro v6 w6 hown6 hb6; go_must (obtain ⟨A6, c6, rfl, hc61, hc62, HO6, HC6⟩ := own_open2 (show Own w6 w4.heap.size 5 v6 (Bs pk) from hown6)); have HB6 := Go.Lib.hid (HBN5.out.trans hb6); clear hown6 hb6))
    have HB06 := Go.Lib.hid (below_then HB04.out HB6.out)
    have HP6 := Go.Lib.hid (cells_below HB6.out HC4.out)
    have hsc := bScan_calls A6 c6 pk none 0 [] first p w6 (fun x => below_cell HB06.out (HT.out x)) (e5_below HE.out.1 HB06.out) (by omega) hc61 hc62 HC6.out (by simp) (fun h => absurd h (by simp))
    rw [HSA.out, HFL.out] at hsc
    have HSC := Go.Lib.hid hsc
    clear hsc HO5 HC5 HBN5 HO6 HC6 HB6 HC4 HSA hroom5 hsz5 HB04
    refine (show Calls Tryd.prog 19 #[.slice A6 pk.length c6, .slice none 0 0, .int .u64 (n64 first)] w6 _ from HSC.out).mono ?_
    rintro e w7 ⟨v7, vs7, rfl, ho7, ha7, hb7⟩
    have HB07 := Go.Lib.hid (below_then HB06.out hb7)
    obtain ⟨A7, c7, rfl, hl7, hc7, hr7⟩ := rows_of_all ho7 ha7
    simp only at hl7 hr7
    have HP7 := Go.Lib.hid (cells_below hb7 HP6.out)
    have HAL := Go.Lib.hid (alike_calls A7 A c7 c rs rs w7 hl hr7 (rows_below HB07.out HA.out))
    rw [show (rs == rs) = true by simp] at HAL
    clear ho7 ha7 hb7 hr7 HSC HP6 HB06
    have hrem : (pk.length : Int).tmod 512 = 0 := by rw [Int.tmod_eq_emod_of_nonneg (by omega)]; have := HLEN.out; omega
    have hquo : (pk.length : Int).tdiv 512 = (cs.length : Int) := by rw [Int.tdiv_eq_ediv_of_nonneg (by omega)]; have := HLEN.out; omega
    simp only
    go_wp2_with fail
    refine HAL.out.mono ?_
    rintro e w8 ⟨rfl, hd8⟩
    have HB08 := Go.Lib.hid (HB07.out.trans (drN_below hd8 _))
    have HP8 := Go.Lib.hid (cells_below (drN_below hd8 _) HP7.out)
    clear hd8 HAL HP7 HB07 hrem hquo
    go_wp2
    go_loopw [10, 11] (fun a i wr => ∃ k z : Nat, k ≤ cs.length ∧ i = .int .i64 (k : Int) ∧ a = .int .i64 (z : Int) ∧ z ≤ rs.length ∧ Hid (z = (cs.take k).flatten.length) ∧ Hid (Below w8.heap.size w8 wr)) (fun _ i _ => cs.length - (intOf i).toNat)
    case atStart => exact ⟨0, 0, Nat.zero_le _, rfl, rfl, Nat.zero_le _, rfl, Below.refl _ _⟩
    case round =>
      obtain ⟨k, z, hk, rfl, rfl, hz, HZ, HBR⟩ := hrel
      by_cases hlt : k < cs.length
      · have hk0 : (0 : Int) ≤ (k : Int) := Int.natCast_nonneg _
        have hk1 : (k : Int) < (cs.length : Int) := by omega
        have hkp : 512 * k + 512 ≤ pk.length := by rw [HLEN.out]; omega
        have hcut : ∀ W : World, (Instr.slice 28 (.slice A4 pk.length c4) (some (.int .i64 (512 * (k : Int)))) (some (.int .i64 (512 * (k : Int) + 512))) none).run Tryd.prog W = .ok (.slice (cutA A4 c4 (512 * k)) 512 (c4 - 512 * k)) W := by
          have h := run_cut_lh (P := Tryd.prog) 28 5 Tryd.underlying28 size8' A4 pk.length c4 (512 * k) (512 * k + 512) (by omega) (by omega)
          rw [show 512 * k + 512 - 512 * k = 512 by omega, show ((512 * k : Nat) : Int) = 512 * (k : Int) by omega, show ((512 * k + 512 : Nat) : Int) = 512 * (k : Int) + 512 by omega] at h
          exact h
        have y1 : 512 * (k : Int) + 512 ≤ (c4 : Int) := by omega
        have y2 : 512 * (k : Int) ≤ 512 * (k : Int) + 512 := by omega
        have y3 : (0 : Int) ≤ 512 * (k : Int) := by omega
        have hsl : ((pk.drop (512 * k)).take 512).length = 512 := by rw [List.length_take, List.length_drop]; omega
        have hcs : Cells wr (cutA A4 c4 (512 * k)) (Bs ((pk.drop (512 * k)).take 512)) := by rw [Bs_take, Bs_drop]; exact cells_take (cells_drop (cells_below HBR.out HP8.out) c4 (512 * k) (by rw [Bs_length]; exact hc41)) 512
        obtain ⟨f, hdec⟩ := HAT.out k hlt
        have hmem := HMEM.out k hlt
        have HFT := Go.Lib.hid (flat_take cs k hlt)
        have HFLE := Go.Lib.hid (flat_take_le cs (k + 1))
        have HCF : Hid (∀ r, rs[(cs.take (k + 1)).flatten.length]? = some r → 494 < (bodyB cs[k]).length + 2 + r.length) := fun r hr => by
          have h := HCS.out
          refine chunk_full rs.length rs k cs[k] r ?_ ?_
          · rw [← h]; exact List.getElem?_eq_getElem hlt
          · rw [← h]; exact hr
        generalize (pk.drop (512 * k)).take 512 = sec at *
        generalize cs[k] = q at *
        have HSL := Go.Lib.hid hsl
        have hsl2 : sec.length ≤ 512 := by omega
        have HDE := Go.Lib.hid hdec
        clear hsl hdec
        have hbn9 : Below wr.heap.size wr (wr.alloc (.cells #[] 5)) := (Below.refl _ _).alloc (Nat.le_refl _) _
        have HO9 := Go.Lib.hid (own_nil8 (w := wr.alloc (.cells #[] 5)) (b := wr.heap.size) (g := wr.heap.size) (heap_here wr (.cells #[] 5) (wr.heap.size) (by simp)) (Nat.le_refl _))
        have HC9 := Go.Lib.hid (cells_below hbn9 hcs)
        have hsz9 : wr.heap.size ≤ (wr.alloc (.cells #[] 5)).heap.size := hbn9.size
        have hroom9 : (Bs []).length + sec.length ≤ 140737488355328 := by rw [Bs_length]; simp only [List.length_nil]; omega
        have HBN9 := Go.Lib.hid hbn9
        clear hbn9 hcs
        go_wp2_with (first
          | (at_builtin; (with_reducible refine wpList_append_all (s := .tmp 98) (x := .tmp 105) (t := 28) (e := 5) (z := .int .u8 0) (ht := Tryd.underlying28) (hinfo := info8) (base := wr.heap.size) (v := .slice (some ⟨wr.heap.size, 0, none⟩) 0 0) (vs := Bs []) (hown := HO9.out) (hbase := hsz9) (A := cutA A4 c4 (512 * k)) (c := c4 - 512 * k) (l := sec) (hA := HC9.out) (hroom := hroom9) (hgd := rfl) (hz := ?_) (ho := ?_) (hs := ?_) (hx := ?_) (h := ?_)); rfl; rfl; rfl; go_must (first | rfl | (rw [HSL.out]; rfl)); intro v10 w10 hown10 hb10; go_must (obtain ⟨A10, c10, rfl, hc101, hc102, HO10, HC10⟩ := own_open2 (show Own w10 wr.heap.size 5 v10 (Bs sec) from hown10)); have HBW := Go.Lib.hid (HBN9.out.trans hb10); clear hown10 hb10))
        have HB10 := Go.Lib.hid (below_then HBR.out HBW.out)
        have HB010 := Go.Lib.hid (HB08.out.trans (HB10.out.mono HB08.out.size))
        have hdc := bDecode_calls A10 c10 sec p w10 (fun x => below_cell HB010.out (HT.out x)) (e5_below HE.out.1 HB010.out) hc101 hc102 HC10.out
        rw [HDE.out] at hdc
        have HDC := Go.Lib.hid hdc
        clear hdc HO9 HC9 hsz9 hroom9 HBN9 HO10 HC10 HBW
        refine HDC.out.mono ?_
        rintro e w11 ⟨v11, vs11, rfl, ho11, ha11, hb11⟩
        have HB11 := Go.Lib.hid (below_then HB10.out hb11)
        have HB011 := Go.Lib.hid (below_then HB010.out hb11)
        obtain ⟨A11, c11, rfl, hl11, hc11, hr11⟩ := rows_of_all ho11 ha11
        simp only at hl11 hr11
        obtain ⟨hq0, hqS⟩ := hmem
        have hq200 := (longS_false hqS).1
        have hqb := (longS_false hqS).2
        have hbt := body_tot q
        have HSZ := Go.Lib.hid (size_calls A11 c11 q w11 (by omega) (fun r hr => by have := hq200 r hr; omega) hr11)
        have dq : ((q.length : Int) == 0) = false := by rw [beq_eq_false_iff_ne]; omega
        have hzq : z + q.length ≤ rs.length := by have h1 := HFT.out; have h2 := HFLE.out; have h3 := HZ.out; rw [HFL.out] at h2; omega
        have HZ2 : Hid (z + q.length = (cs.take (k + 1)).flatten.length) := by show _ = _; rw [HFT.out, HZ.out]
        rw [← HZ2.out] at HCF
        have hq2 : q.length ≤ 247 := by omega
        have HBT : Hid ((bodyB q).length = 2 * q.length + totB q ∧ (bodyB q).length ≤ 494) := ⟨hbt, hqb⟩
        clear ho11 ha11 hb11 hr11 hqS hq200 hqb hbt HFT HFLE HZ HDC HDE HB010 HB10 HMEM HAT
        simp only [errv]
        go_wp2_with fail
        refine HSZ.out.mono ?_
        rintro e w12 ⟨⟨m, rfl, HSG, hm⟩, rfl⟩
        have hmt : m = totB q := by rcases HSG.out with h | h <;> have := HBT.out <;> omega
        have hm2 : m ≤ 494 := by have := HBT.out; omega
        by_cases hend : z + q.length < rs.length
        · obtain ⟨b2, o2, hAe, A12, c12, hl12, hck, _⟩ := (rows_below HB011.out HA.out).row (z + q.length) hend
          have hr200 := H2.out _ (List.getElem_mem hend)
          have hfull : 494 < 2 * q.length + m + 2 + rs[z + q.length].length := by
            have h1 := HCF.out _ (List.getElem?_eq_getElem hend)
            have h2 := HBT.out.1
            omega
          have x0 : (0 : Int) ≤ ((z : Int) + (q.length : Int)) := by omega
          have x1 : ((z : Int) + (q.length : Int)) < (rs.length : Int) := by omega
          have hcko : wr.heap.size = wr.heap.size := rfl
          subst hAe
          generalize rs[z + q.length].length = y at *
          have xx : ((z + q.length : Nat) : Int) = (z : Int) + (q.length : Int) := by omega
          have hnn : ((z : Int) + (q.length : Int)).toNat = z + q.length := by omega
          have dl : decide (2 * (q.length : Int) + (m : Int) + 2 + (y : Int) ≤ 494) = false := decide_eq_false (by omega)
          have nl : ¬ (2 * (q.length : Int) + (m : Int) + 2 + (y : Int) ≤ 494) := by omega
          have HMT := Go.Lib.hid hmt
          clear HSG HSZ hmt HCF
          go_wp2
          go_roundw
          case rel => exact ⟨k + 1, z + q.length, by omega, by go_num, by go_num, by omega, HZ2, HB11⟩
          case measure => simp [intOf]; omega
        · have x1 : ¬ (((z : Int) + (q.length : Int)) < (rs.length : Int)) := by omega
          have dl : decide (((z : Int) + (q.length : Int)) < (rs.length : Int)) = false := decide_eq_false x1
          have HMT := Go.Lib.hid hmt
          clear HSG HSZ hmt HCF
          go_wp2
          go_roundw
          case rel => exact ⟨k + 1, z + q.length, by omega, by go_num, by go_num, by omega, HZ2, HB11⟩
          case measure => simp [intOf]; omega
      · have hkn : k = cs.length := by omega
        have hzl : z = rs.length := by have h1 := HZ.out; rw [hkn, List.take_length, HFL.out] at h1; exact h1
        subst hzl
        have HBF := Go.Lib.hid (HB08.out.trans (HBR.out.mono HB08.out.size))
        clear hkn HZ
        go_wp2
        go_ret
        exact ⟨by simp, HBF.out⟩
end Go.Proofs.YtipjdkdonmoojaaDoor
