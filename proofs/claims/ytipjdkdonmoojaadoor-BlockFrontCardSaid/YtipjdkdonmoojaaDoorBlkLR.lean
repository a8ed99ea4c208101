/- Layer 8's law BlockFront: the walk. (Printed by gen_blklr.py.) -/
import Derived.Test.YtipjdkdonmoojaaDoorBlkLQ
namespace Go.Proofs.YtipjdkdonmoojaaDoor
open Go Go.RowKit
set_option linter.unusedVariables false
set_option linter.unusedSimpArgs false
attribute [local go_sem] n8_self n64_self beq_n8 bne_n8 beq_n64 bne_n64

theorem fresh8 {W : World} {A : Option Addr} {l : List UInt8} (h : Cells W A (Bs l)) (hl : l.length ≤ 140737488355328) :
    Hid (Own (W.alloc (.cells #[] 5)) W.heap.size 5 (.slice (some ⟨W.heap.size, 0, none⟩) 0 0) (Bs [])) ∧ Hid (Cells (W.alloc (.cells #[] 5)) A (Bs l)) ∧ W.heap.size ≤ (W.alloc (.cells #[] 5)).heap.size ∧ Hid (Below W.heap.size W (W.alloc (.cells #[] 5))) ∧ (Bs []).length + l.length ≤ 140737488355328 := by
  have hb : Below W.heap.size W (W.alloc (.cells #[] 5)) := (Below.refl _ _).alloc (Nat.le_refl _) _
  exact ⟨own_nil8 (heap_here W (.cells #[] 5) (W.heap.size) (by simp)) (Nat.le_refl _), cells_below hb h, hb.size, hb, by rw [Bs_length]; simp only [List.length_nil]; omega⟩
set_option maxRecDepth 100000 in
set_option maxHeartbeats 1600000 in
theorem blockFront_calls (first : UInt64) (A : Option Addr) (c : Nat) (rs : List (List UInt8)) (at_ : Int) (A3 : Option Addr) (c3 : Nat) (junk : List UInt8) (p : Nat → Addr) (w : World) (hT : Tab w) (hE : E5A w p) (hl : rs.length ≤ 9223372036854775807) (hrc : rs.length ≤ c) (hcc : c ≤ 9223372036854775807) (h2 : ∀ r ∈ rs, r.length ≤ 140737488351232) (hA : RowsB w A rs) (lo : -9223372036854775808 ≤ at_) (hi : at_ ≤ 9223372036854775807) (hjc : junk.length ≤ c3) (hjc3 : c3 ≤ 9223372036854775807) (hJ : Cells w A3 (Bs junk)) :
    Calls Tryd.prog 8 #[.int .u64 (n64 first), .slice A rs.length c, .int .i64 at_, .slice A3 junk.length c3] w fun e w' => e = .returned (.bool true) ∧ Below w.heap.size w w' := by
  have HAW := Go.Lib.hid (awake_calls p w hT hE.1)
  have HT := Go.Lib.hid hT
  have HE := Go.Lib.hid hE
  have HA := Go.Lib.hid hA
  have H2 := Go.Lib.hid h2
  have HJ := Go.Lib.hid hJ
  clear hT hE hA h2 hJ
  go_enter Tryd.func8, Tryd.ntmps8
  go_wp2_with fail
  refine HAW.out.mono ?_
  rintro e w1 ⟨rfl, hb1⟩
  have HB1 := Go.Lib.hid hb1
  have HM := Go.Lib.hid (many_calls A c rs w1 hl H2.out (rows_below hb1 HA.out))
  clear HAW hb1
  go_wp2_with fail
  refine HM.out.mono ?_
  rintro e w2 ⟨⟨bb, rfl, HBB⟩, rfl⟩
  clear HM
  cases bb
  case true =>
    go_wp2
    go_ret
    exact ⟨rfl, HB1.out⟩
  obtain ⟨hn, htot⟩ := HBB.out rfl
  clear HBB htot
  by_cases hjl : 16777216 < junk.length
  · have dj : decide ((16777216 : Int) < (junk.length : Int)) = true := decide_eq_true (by omega)
    have nj : (16777216 : Int) < (junk.length : Int) := by omega
    go_wp2
    go_ret
    exact ⟨rfl, HB1.out⟩
  have dj : decide ((16777216 : Int) < (junk.length : Int)) = false := decide_eq_false (by omega)
  have nj : ¬ ((16777216 : Int) < (junk.length : Int)) := by omega
  have HCP := Go.Lib.hid (copied_calls A c rs w2 (by omega) H2.out (rows_below HB1.out HA.out))
  go_wp2_with fail
  refine HCP.out.mono ?_
  rintro e w3 ⟨g, rfl, HR3, HB3⟩
  have HB03 := Go.Lib.hid (below_then HB1.out HB3.out)
  have HPK := Go.Lib.hid (bPack_calls (some ⟨g, 0, none⟩) rs.length rs first p w3 (fun x => below_cell HB03.out (HT.out x)) (e5_below HE.out.1 HB03.out) (by omega) (Nat.le_refl _) (by omega) HR3.out)
  clear HCP HB3 HB1 HR3 dj
  rcases pack_three first rs with ⟨h0, he⟩ | ⟨h0, he | he⟩ | ⟨h0, cs, hcs, he, hok, hflat⟩
  · rw [he] at HPK
    clear he h0
    go_wp2_with fail
    refine HPK.out.mono ?_
    rintro e w4 ⟨v4, rfl, ho4, hb4⟩
    have HB04 := Go.Lib.hid (below_then HB03.out hb4)
    obtain ⟨A4, c4, rfl, HO4, HC4⟩ := own_open ho4
    clear ho4 hb4 HPK HO4 HC4
    simp only [errv, List.length_nil]
    go_wp2
    go_ret
    exact ⟨rfl, HB04.out⟩
  · rw [he] at HPK
    clear he h0
    go_wp2_with fail
    refine HPK.out.mono ?_
    rintro e w4 ⟨v4, rfl, ho4, hb4⟩
    have HB04 := Go.Lib.hid (below_then HB03.out hb4)
    obtain ⟨A4, c4, rfl, HO4, HC4⟩ := own_open ho4
    clear ho4 hb4 HPK HO4 HC4
    simp only [errv, List.length_nil]
    go_wp2
    go_ret
    exact ⟨rfl, HB04.out⟩
  · rw [he] at HPK
    clear he h0
    go_wp2_with fail
    refine HPK.out.mono ?_
    rintro e w4 ⟨v4, rfl, ho4, hb4⟩
    have HB04 := Go.Lib.hid (below_then HB03.out hb4)
    obtain ⟨A4, c4, rfl, HO4, HC4⟩ := own_open ho4
    clear ho4 hb4 HPK HO4 HC4
    simp only [errv, List.length_nil]
    go_wp2
    go_ret
    exact ⟨rfl, HB04.out⟩
  · rw [he] at HPK
    have HFL := Go.Lib.hid hflat
    have HLEN := Go.Lib.hid (packC_length cs first hok)
    have HF1 := Go.Lib.hid (fun i hi => front1 hok i hi)
    have HF2 := Go.Lib.hid (fun i hi => front2 hok i hi)
    have HF3 := Go.Lib.hid (fun i hi junk hj => front3 hok i hi junk hj)
    have hM : cs.length ≤ 1048576 := by have := chunks_len rs.length rs; rw [← hcs] at this; omega
    have hM0 : 0 < cs.length := by
      rcases cs with _ | ⟨x, l⟩
      · rw [← hflat] at h0; simp at h0
      · simp
    clear he hcs hflat hok
    generalize packC first cs = pk at *
    have hpl : pk.length ≤ 536870912 := by rw [HLEN.out]; omega
    have hp0 : ((pk.length : Int) == 0) = false := by rw [beq_eq_false_iff_ne, HLEN.out]; omega
    have hquo : (pk.length : Int).tdiv 512 = (cs.length : Int) := by rw [Int.tdiv_eq_ediv_of_nonneg (by omega)]; have := HLEN.out; omega
    go_wp2_with fail
    refine HPK.out.mono ?_
    rintro e w4 ⟨v4, rfl, ho4, hb4⟩
    have HB04 := Go.Lib.hid (below_then HB03.out hb4)
    simp only at ho4
    obtain ⟨A4, c4, rfl, hc41, hc42, HO4, HC4⟩ := own_open2 ho4
    clear ho4 hb4 HPK HO4
    simp only [errv]
    by_cases c1 : at_ < 0
    · have d1 : decide (at_ < 0) = true := decide_eq_true c1
      go_wp2
      go_ret
      exact ⟨rfl, HB04.out⟩
    obtain ⟨i, rfl⟩ : ∃ i : Nat, at_ = (i : Int) := ⟨at_.toNat, by omega⟩
    have d1 : decide ((i : Int) < 0) = false := decide_eq_false (by omega)
    by_cases c2 : cs.length ≤ i
    · have d2 : decide ((cs.length : Int) ≤ (i : Int)) = true := decide_eq_true (by omega)
      have n2 : (cs.length : Int) ≤ (i : Int) := by omega
      clear c1
      go_wp2
      go_ret
      exact ⟨rfl, HB04.out⟩
    have hic : i < cs.length := by omega
    have d2 : decide ((cs.length : Int) ≤ (i : Int)) = false := decide_eq_false (by omega)
    have n2 : ¬ ((cs.length : Int) ≤ (i : Int)) := by omega
    have hpi : 512 * i ≤ pk.length := by rw [HLEN.out]; omega
    have hf1 := HF1.out i hic
    have hf2 := HF2.out i hic
    have hf3 := HF3.out i hic junk
    have hfp : rs.take (cs.take i).flatten.length = (cs.take i).flatten := by rw [← HFL.out]; exact flat_pre cs i
    have hfl2 : (cs.take i).flatten.length ≤ rs.length := by rw [← HFL.out]; exact flat_take_le cs i
    generalize (cs.take i).flatten = C at *
    have hTl : (pk.take (512 * i)).length = 512 * i := by rw [List.length_take]; omega
    have hCT : Cells w4 A4 (Bs (pk.take (512 * i))) := by rw [Bs_take]; exact cells_take HC4.out _
    obtain ⟨T, hTT⟩ : ∃ T, pk.take (512 * i) = T := ⟨_, rfl⟩
    rw [hTT] at hTl hCT hf1 hf3
    have HTT := Go.Lib.hid hTT
    clear hTT
    have hcut : ∀ W : World, (Instr.slice 28 (.slice A4 pk.length c4) none (some (.int .i64 (512 * (i : Int)))) none).run Tryd.prog W = .ok (.slice A4 T.length c4) W := by
      have h := run_cut_h (P := Tryd.prog) 28 5 Tryd.underlying28 size8' A4 pk.length c4 (512 * i) (by omega)
      rw [← hTl, show ((T.length : Nat) : Int) = 512 * (i : Int) by omega] at h
      exact h
    have y1 : 512 * (i : Int) ≤ (c4 : Int) := by omega
    have y3 : (0 : Int) ≤ 512 * (i : Int) := by omega
    have hcut2 : ∀ W : World, (Instr.slice 27 (.slice A rs.length c) none (some (.int .i64 (C.length : Int))) none).run Tryd.prog W = .ok (.slice A C.length c) W := run_cut_h (P := Tryd.prog) 27 28 Tryd.underlying27 sizeRow A rs.length c C.length (by omega)
    have y4 : (C.length : Int) ≤ (c : Int) := by omega
    have y5 : ¬ ((rs.length : Int) < (C.length : Int)) := by omega
    have d5 : decide ((rs.length : Int) < (C.length : Int)) = false := decide_eq_false y5
    have HTL := Go.Lib.hid hTl
    have htl2 : T.length ≤ 536870912 := by omega
    have HCT := Go.Lib.hid hCT
    have HX1 := Go.Lib.hid hf1
    have HX2 := Go.Lib.hid hf2
    have HX3 := Go.Lib.hid hf3
    have HFP := Go.Lib.hid hfp
    clear hTl hCT hf1 hf2 hf3 hfp HF1 HF2 HF3 c1 c2
    obtain ⟨HO5, HC5, hsz5, HBN5, hroom5⟩ := fresh8 HCT.out (by omega)
    go_wp2_with (first
      | (at_builtin; (with_reducible refine wpList_append_all (s := .tmp 62) (x := .tmp 66) (t := 28) (e := 5) (z := .int .u8 0) (ht := Tryd.underlying28) (hinfo := info8) (base := w4.heap.size) (v := .slice (some ⟨w4.heap.size, 0, none⟩) 0 0) (vs := Bs []) (hown := HO5.out) (hbase := hsz5) (A := A4) (c := c4) (l := T) (hA := HC5.out) (hroom := hroom5) (hgd := rfl) (hz := ?_) (ho := ?_) (hs := ?_) (hx := ?_) (h := ?_)); rfl; rfl; rfl; go_must (rfl); intro v6 w6 hown6 hb6; go_must (obtain ⟨A6, c6, rfl, hc61, hc62, HO6, HC6⟩ := own_open2 (show Own w6 w4.heap.size 5 v6 (Bs T) from hown6)); have HB6 := Go.Lib.hid (HBN5.out.trans hb6); clear hown6 hb6))
    have HB06 := Go.Lib.hid (below_then HB04.out HB6.out)
    have hsc := bScan_calls A6 c6 T none 0 [] first p w6 (fun x => below_cell HB06.out (HT.out x)) (e5_below HE.out.1 HB06.out) (by omega) hc61 hc62 HC6.out (by simp) (fun h => absurd h (by simp))
    rw [HX1.out] at hsc
    have HSC := Go.Lib.hid hsc
    have HP6 := Go.Lib.hid (cells_below HB6.out HC4.out)
    clear hsc HO5 HC5 HBN5 HO6 HC6 HB6 HC4 hroom5 hsz5 HCT
    refine (show Calls Tryd.prog 19 #[.slice A6 T.length c6, .slice none 0 0, .int .u64 (n64 first)] w6 _ from HSC.out).mono ?_
    rintro e w7 ⟨v7, vs7, rfl, ho7, ha7, hb7⟩
    have HB07 := Go.Lib.hid (below_then HB06.out hb7)
    obtain ⟨A7, c7, rfl, hl7, hc7, hr7⟩ := rows_of_all ho7 ha7
    simp only at hl7 hr7
    have HP7 := Go.Lib.hid (cells_below hb7 HP6.out)
    have HR7 := Go.Lib.hid hr7
    clear ho7 ha7 hb7 hr7 HSC HP6 HB06 HB04
    simp only
    obtain ⟨HO8, HC8, hsz8, HBN8, hroom8⟩ := fresh8 HP7.out (by omega)
    go_wp2_with (first
      | (at_builtin; (with_reducible refine wpList_append_all (s := .tmp 73) (x := .tmp 74) (t := 28) (e := 5) (z := .int .u8 0) (ht := Tryd.underlying28) (hinfo := info8) (base := w7.heap.size) (v := .slice (some ⟨w7.heap.size, 0, none⟩) 0 0) (vs := Bs []) (hown := HO8.out) (hbase := hsz8) (A := A4) (c := c4) (l := pk) (hA := HC8.out) (hroom := hroom8) (hgd := rfl) (hz := ?_) (ho := ?_) (hs := ?_) (hx := ?_) (h := ?_)); rfl; rfl; rfl; go_must (rfl); intro v9 w9 hown9 hb9; go_must (obtain ⟨A9, c9, rfl, hc91, hc92, HO9, HC9⟩ := own_open2 (show Own w9 w7.heap.size 5 v9 (Bs pk) from hown9)); have HB9 := Go.Lib.hid (HBN8.out.trans hb9); clear hown9 hb9))
    obtain ⟨W10, hW10⟩ : ∃ W, W = w9.alloc (.cells #[.int .i64 (i : Int), .int .i64 (-1), .int .i64 (i : Int)] 3) := ⟨_, rfl⟩
    have hb10 : Below w9.heap.size w9 W10 := by rw [hW10]; exact (Below.refl _ _).alloc (Nat.le_refl _) _
    have hcb : Cells W10 (some ⟨w9.heap.size, 0, none⟩) ([(i : Int), -1, (i : Int)].map (Value.int .i64)) := by rw [hW10]; exact cells_at (heap_here w9 _ _ rfl)
    have HB79 := Go.Lib.hid (below_then HB9.out hb10)
    have HB010 := Go.Lib.hid (below_then HB07.out HB79.out)
    have hsc := bScan_calls A9 c9 pk (some ⟨w9.heap.size, 0, none⟩) 3 [(i : Int), -1, (i : Int)] first p W10 (fun x => below_cell HB010.out (HT.out x)) (e5_below HE.out.1 HB010.out) (by omega) hc91 hc92 (cells_below hb10 HC9.out) (by simp) hcb
    rw [HX2.out] at hsc
    have HSC := Go.Lib.hid hsc
    have HP10 := Go.Lib.hid (cells_below HB79.out HP7.out)
    have HR10 := Go.Lib.hid (rows_below HB79.out HR7.out)
    clear hsc hb10 hcb HO8 HC8 HBN8 HO9 HC9 HB9 hroom8 hsz8 HB79 HP7 HR7 HB07
    rw [← hW10]
    refine (show Calls Tryd.prog 19 #[.slice A9 pk.length c9, .slice (some ⟨w9.heap.size, 0, none⟩) 3 3, .int .u64 (n64 first)] W10 _ from HSC.out).mono ?_
    rintro e w11 ⟨v11, vs11, rfl, ho11, ha11, hb11⟩
    have HB011 := Go.Lib.hid (below_then HB010.out hb11)
    obtain ⟨A11, c11, rfl, hl11, hc11, hr11⟩ := rows_of_all ho11 ha11
    simp only at hl11 hr11
    have HP11 := Go.Lib.hid (cells_below hb11 HP10.out)
    have hr7' := rows_below hb11 HR10.out
    have HAL := Go.Lib.hid (alike_calls A7 A11 c7 c11 C C w11 (by omega) hr7' hr11)
    rw [show (C == C) = true by simp] at HAL
    have HR11 := Go.Lib.hid hr7'
    clear ho11 ha11 hb11 hr11 HSC HP10 HR10 HB010 hr7' hW10
    simp only
    go_wp2_with fail
    refine HAL.out.mono ?_
    rintro e w12 ⟨rfl, hd12⟩
    have hb12 := drN_below hd12 w11.heap.size
    have HB012 := Go.Lib.hid (below_then HB011.out hb12)
    have hrt := rows_take (rows_below HB012.out HA.out) C.length
    rw [HFP.out] at hrt
    have HAL2 := Go.Lib.hid (alike_calls A7 A c7 c C C w12 (by omega) (rows_below hb12 HR11.out) hrt)
    rw [show (C == C) = true by simp] at HAL2
    have HP12 := Go.Lib.hid (cells_below hb12 HP11.out)
    have HR12 := Go.Lib.hid (rows_below hb12 HR11.out)
    clear hd12 hb12 hrt HAL HP11 HR11 HB011
    go_wp2_with fail
    refine HAL2.out.mono ?_
    rintro e w13 ⟨rfl, hd13⟩
    have hb13 := drN_below hd13 w12.heap.size
    have HB013 := Go.Lib.hid (below_then HB012.out hb13)
    have HP13 := Go.Lib.hid (cells_below hb13 HP12.out)
    have HR13 := Go.Lib.hid (rows_below hb13 HR12.out)
    have HJ13 := Go.Lib.hid (cells_below HB013.out HJ.out)
    clear hd13 hb13 HAL2 HP12 HR12 HB012
    have hCT : Cells w13 A4 (Bs T) := by
      have h := cells_take HP13.out (512 * i)
      rw [← HTT.out, Bs_take]
      exact h
    obtain ⟨due, hdue⟩ : ∃ due, due = first + UInt64.ofNat C.length := ⟨_, rfl⟩
    have x1 : IntKind.u64.wrap (C.length : Int) = (C.length : Int) := u64w _ (by omega) (by omega)
    have x2 := u64_addN first C.length (by omega)
    rw [← hdue] at x2 HX3
    obtain ⟨HO14, HC14, hsz14, HBN14, hroom14⟩ := fresh8 hCT (by omega)
    have hroom15 : (Bs T).length + junk.length ≤ 140737488355328 := by rw [Bs_length]; omega
    have HDUE := Go.Lib.hid hdue
    clear hCT hdue HP13
    by_cases hj5 : junk.length < 512
    · have n5 : ¬ ((512 : Int) ≤ (junk.length : Int)) := by omega
      have dj5 : decide ((512 : Int) ≤ (junk.length : Int)) = false := decide_eq_false n5
      go_wp2_with (first
        | (go_at_call 19; fail)
        | (at_builtin; (with_reducible refine wpList_append_all (s := .tmp 113) (x := .tmp 117) (t := 28) (e := 5) (z := .int .u8 0) (ht := Tryd.underlying28) (hinfo := info8) (base := w13.heap.size) (v := .slice (some ⟨w13.heap.size, 0, none⟩) 0 0) (vs := Bs []) (hown := HO14.out) (hbase := hsz14) (A := A4) (c := c4) (l := T) (hA := HC14.out) (hroom := hroom14) (hgd := rfl) (hz := ?_) (ho := ?_) (hs := ?_) (hx := ?_) (h := ?_)); rfl; rfl; rfl; go_must (rfl); intro v14 w14 hown14 hb14; go_must (obtain ⟨A14, c14, rfl, hc141, hc142, HO14b, HC14b⟩ := own_open2 (show Own w14 w13.heap.size 5 v14 (Bs T) from hown14)); have HB14 := Go.Lib.hid (HBN14.out.trans hb14); have HJ14 := Go.Lib.hid (cells_below HB14.out HJ13.out); have hsz14b := HB14.out.size; clear hown14 hb14)
        | (at_builtin; (with_reducible refine wpList_append_all (s := .tmp 119) (x := .tmp 120) (t := 28) (e := 5) (z := .int .u8 0) (ht := Tryd.underlying28) (hinfo := info8) (base := w13.heap.size) (v := .slice A14 T.length c14) (vs := Bs T) (hown := HO14b.out) (hbase := hsz14b) (A := A3) (c := c3) (l := junk) (hA := HJ14.out) (hroom := hroom15) (hgd := rfl) (hz := ?_) (ho := ?_) (hs := ?_) (hx := ?_) (h := ?_)); rfl; rfl; rfl; go_must (rfl); intro v15 w15 hown15 hb15; obtain ⟨Q, hQ⟩ : ∃ Q, Hid (Q = T ++ junk) := ⟨_, rfl⟩; go_must (obtain ⟨A15, c15, rfl, hc151, hc152, HO15, HC15⟩ := own_open2 (show Own w15 w13.heap.size 5 v15 (Bs Q) by rw [hQ.out, Bs_append]; exact hown15)); have HB15 := Go.Lib.hid (HB14.out.trans hb15); clear hown15 hb15))
      have HB015 := Go.Lib.hid (below_then HB013.out HB15.out)
      have hx3 := HX3.out (.inl hj5)
      rw [← hQ.out] at hx3
      have hql : Q.length ≤ 4294967296 := by rw [hQ.out, List.length_append]; omega
      have hsc := bScan_calls A15 c15 Q none 0 [] first p w15 (fun x => below_cell HB015.out (HT.out x)) (e5_below HE.out.1 HB015.out) hql hc151 hc152 HC15.out (by simp) (fun h => absurd h (by simp))
      rw [hx3] at hsc
      have HSC := Go.Lib.hid hsc
      have HBX := Go.Lib.hid (HB015.out)
      have HRX := Go.Lib.hid (rows_below HB15.out HR13.out)
      clear hsc hx3 HX3
      refine (show Calls Tryd.prog 19 #[.slice A15 Q.length c15, .slice none 0 0, .int .u64 (n64 first)] w15 _ from HSC.out).mono ?_
      rintro e w20 ⟨v20, vs20, rfl, ho20, ha20, hb20⟩
      have HB020 := Go.Lib.hid (below_then HBX.out hb20)
      obtain ⟨A20, c20, rfl, hl20, hc20, hr20⟩ := rows_of_all ho20 ha20
      simp only at hl20 hr20
      have HAL := Go.Lib.hid (alike_calls A20 A7 c20 c7 C C w20 (by omega) hr20 (rows_below hb20 HRX.out))
      rw [show (C == C) = true by simp] at HAL
      clear ho20 ha20 hb20 hr20 HSC
      simp only
      go_wp2_with fail
      refine HAL.out.mono ?_
      rintro e w21 ⟨rfl, hd21⟩
      have HB021 := Go.Lib.hid (HB020.out.trans (drN_below hd21 _))
      clear hd21
      go_wp2
      go_ret
      exact ⟨rfl, HB021.out⟩
    · have n5 : (512 : Int) ≤ (junk.length : Int) := by omega
      have dj5 : decide ((512 : Int) ≤ (junk.length : Int)) = true := decide_eq_true n5
      have hJl : (junk.take 512).length = 512 := by rw [List.length_take]; omega
      have hJC : Cells w13 A3 (Bs (junk.take 512)) := by rw [Bs_take]; exact cells_take HJ13.out _
      obtain ⟨J5, hJ5⟩ : ∃ J, junk.take 512 = J := ⟨_, rfl⟩
      rw [hJ5] at hJl hJC HX3
      have HJ5 := Go.Lib.hid hJC
      have hj5l : J5.length ≤ 140737488355328 := by omega
      have hcutj : ∀ W : World, (Instr.slice 28 (.slice A3 junk.length c3) none (some (.int .i64 512)) none).run Tryd.prog W = .ok (.slice A3 J5.length c3) W := by
        have h := run_cut_h (P := Tryd.prog) 28 5 Tryd.underlying28 size8' A3 junk.length c3 512 (by omega)
        rw [hJl]
        exact h
      have y7 : (512 : Int) ≤ (c3 : Int) := by omega
      clear hJl hJC hJ5
      go_wp2_with (first
        | (at_builtin; (with_reducible refine wpList_append_all (s := .tmp 113) (x := .tmp 117) (t := 28) (e := 5) (z := .int .u8 0) (ht := Tryd.underlying28) (hinfo := info8) (base := w13.heap.size) (v := .slice (some ⟨w13.heap.size, 0, none⟩) 0 0) (vs := Bs []) (hown := HO14.out) (hbase := hsz14) (A := A4) (c := c4) (l := T) (hA := HC14.out) (hroom := hroom14) (hgd := rfl) (hz := ?_) (ho := ?_) (hs := ?_) (hx := ?_) (h := ?_)); rfl; rfl; rfl; go_must (rfl); intro v14 w14 hown14 hb14; go_must (obtain ⟨A14, c14, rfl, hc141, hc142, HO14b, HC14b⟩ := own_open2 (show Own w14 w13.heap.size 5 v14 (Bs T) from hown14)); have HB14 := Go.Lib.hid (HBN14.out.trans hb14); have HJ14 := Go.Lib.hid (cells_below HB14.out HJ13.out); have hsz14b := HB14.out.size; clear hown14 hb14)
        | (at_builtin; (with_reducible refine wpList_append_all (s := .tmp 119) (x := .tmp 120) (t := 28) (e := 5) (z := .int .u8 0) (ht := Tryd.underlying28) (hinfo := info8) (base := w13.heap.size) (v := .slice A14 T.length c14) (vs := Bs T) (hown := HO14b.out) (hbase := hsz14b) (A := A3) (c := c3) (l := junk) (hA := HJ14.out) (hroom := hroom15) (hgd := rfl) (hz := ?_) (ho := ?_) (hs := ?_) (hx := ?_) (h := ?_)); rfl; rfl; rfl; go_must (rfl); intro v15 w15 hown15 hb15; obtain ⟨Q, hQ⟩ : ∃ Q, Hid (Q = T ++ junk) := ⟨_, rfl⟩; go_must (obtain ⟨A15, c15, rfl, hc151, hc152, HO15, HC15⟩ := own_open2 (show Own w15 w13.heap.size 5 v15 (Bs Q) by rw [hQ.out, Bs_append]; exact hown15)); have HB15 := Go.Lib.hid (HB14.out.trans hb15); clear hown15 hb15; go_must (have hCJ : Cells w15 A3 (Bs J5) := cells_below HB15.out HJ5.out); go_must (obtain ⟨HO16, HC16, hsz16, HBN16, hroom16⟩ := fresh8 hCJ hj5l); clear hCJ)
        | (at_builtin; (with_reducible refine wpList_append_all (s := .tmp 131) (x := .tmp 133) (t := 28) (e := 5) (z := .int .u8 0) (ht := Tryd.underlying28) (hinfo := info8) (base := w15.heap.size) (v := .slice (some ⟨w15.heap.size, 0, none⟩) 0 0) (vs := Bs []) (hown := HO16.out) (hbase := hsz16) (A := A3) (c := c3) (l := J5) (hA := HC16.out) (hroom := hroom16) (hgd := rfl) (hz := ?_) (ho := ?_) (hs := ?_) (hx := ?_) (h := ?_)); rfl; rfl; rfl; go_must (rfl); intro v17 w17 hown17 hb17; go_must (obtain ⟨A17, c17, rfl, hc171, hc172, HO17, HC17⟩ := own_open2 (show Own w17 w15.heap.size 5 v17 (Bs J5) from hown17)); have HB17 := Go.Lib.hid (HBN16.out.trans hb17); clear hown17 hb17))
      have HB015 := Go.Lib.hid (below_then HB013.out HB15.out)
      have HB017 := Go.Lib.hid (below_then HB015.out HB17.out)
      have HDC := Go.Lib.hid (bDecode_calls A17 c17 J5 p w17 (fun x => below_cell HB017.out (HT.out x)) (e5_below HE.out.1 HB017.out) hc171 hc172 HC17.out)
      clear HO16 HC16 hsz16 HBN16 hroom16 HO17 HC17
      refine HDC.out.mono ?_
      rintro e w18 ⟨v18, vs18, rfl, ho18, ha18, hb18⟩
      have HB018 := Go.Lib.hid (below_then HB017.out hb18)
      have HB158 := Go.Lib.hid (below_then HB17.out hb18)
      have HR18 := Go.Lib.hid (rows_below (below_then HB15.out HB158.out) HR13.out)
      have HC18 := Go.Lib.hid (cells_below HB158.out HC15.out)
      clear ho18 ha18 hb18 HDC HB017 HB17 HB015 HC15 HB158
      generalize decB J5 = dd at *
      obtain ⟨da, dl, de⟩ := dd
      simp only at HX3
      cases de with
      | succ j =>
        simp only [errv]
        have hx3 := HX3.out (.inr (.inl (by simp)))
        rw [← hQ.out] at hx3
        have hql : Q.length ≤ 4294967296 := by rw [hQ.out, List.length_append]; omega
        have hsc := bScan_calls A15 c15 Q none 0 [] first p w18 (fun x => below_cell HB018.out (HT.out x)) (e5_below HE.out.1 HB018.out) hql hc151 hc152 HC18.out (by simp) (fun h => absurd h (by simp))
        rw [hx3] at hsc
        have HSC := Go.Lib.hid hsc
        have HBX := Go.Lib.hid (HB018.out)
        have HRX := Go.Lib.hid (HR18.out)
        clear hsc hx3 HX3
        go_wp2_with fail
        refine (show Calls Tryd.prog 19 #[.slice A15 Q.length c15, .slice none 0 0, .int .u64 (n64 first)] w18 _ from HSC.out).mono ?_
        rintro e w20 ⟨v20, vs20, rfl, ho20, ha20, hb20⟩
        have HB020 := Go.Lib.hid (below_then HBX.out hb20)
        obtain ⟨A20, c20, rfl, hl20, hc20, hr20⟩ := rows_of_all ho20 ha20
        simp only at hl20 hr20
        have HAL := Go.Lib.hid (alike_calls A20 A7 c20 c7 C C w20 (by omega) hr20 (rows_below hb20 HRX.out))
        rw [show (C == C) = true by simp] at HAL
        clear ho20 ha20 hb20 hr20 HSC
        simp only
        go_wp2_with fail
        refine HAL.out.mono ?_
        rintro e w21 ⟨rfl, hd21⟩
        have HB021 := Go.Lib.hid (HB020.out.trans (drN_below hd21 _))
        clear hd21
        go_wp2
        go_ret
        exact ⟨rfl, HB021.out⟩
      | zero =>
        simp only [errv]
        by_cases hda : da = due
        · subst hda
          go_wp2
          go_ret
          exact ⟨rfl, HB018.out⟩
        · have hb1 : (da == due) = false := beq_eq_false_iff_ne.2 hda
          have hx3 := HX3.out (.inr (.inr hda))
          rw [← hQ.out] at hx3
          have hql : Q.length ≤ 4294967296 := by rw [hQ.out, List.length_append]; omega
          have hsc := bScan_calls A15 c15 Q none 0 [] first p w18 (fun x => below_cell HB018.out (HT.out x)) (e5_below HE.out.1 HB018.out) hql hc151 hc152 HC18.out (by simp) (fun h => absurd h (by simp))
          rw [hx3] at hsc
          have HSC := Go.Lib.hid hsc
          have HBX := Go.Lib.hid (HB018.out)
          have HRX := Go.Lib.hid (HR18.out)
          clear hsc hx3 HX3
          go_wp2_with fail
          refine (show Calls Tryd.prog 19 #[.slice A15 Q.length c15, .slice none 0 0, .int .u64 (n64 first)] w18 _ from HSC.out).mono ?_
          rintro e w20 ⟨v20, vs20, rfl, ho20, ha20, hb20⟩
          have HB020 := Go.Lib.hid (below_then HBX.out hb20)
          obtain ⟨A20, c20, rfl, hl20, hc20, hr20⟩ := rows_of_all ho20 ha20
          simp only at hl20 hr20
          have HAL := Go.Lib.hid (alike_calls A20 A7 c20 c7 C C w20 (by omega) hr20 (rows_below hb20 HRX.out))
          rw [show (C == C) = true by simp] at HAL
          clear ho20 ha20 hb20 hr20 HSC
          simp only
          go_wp2_with fail
          refine HAL.out.mono ?_
          rintro e w21 ⟨rfl, hd21⟩
          have HB021 := Go.Lib.hid (HB020.out.trans (drN_below hd21 _))
          clear hd21
          go_wp2
          go_ret
          exact ⟨rfl, HB021.out⟩
end Go.Proofs.YtipjdkdonmoojaaDoor
