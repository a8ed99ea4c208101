/- Layer 8's law BlockBack. (Printed by gen_blklb.py.) -/
import Derived.Test.YtipjdkdonmoojaaDoorBlkLF
namespace Go.Proofs.YtipjdkdonmoojaaDoor
open Go Go.RowKit
set_option linter.unusedVariables false
set_option linter.unusedSimpArgs false
attribute [local go_sem] n8_self n64_self beq_n8 bne_n8 beq_n64 bne_n64

theorem longS_eq (rs : List (List UInt8)) (m : Nat) (hm : m = totB rs) : longS rs = (decide (494 < 2 * rs.length + m) || rs.any (fun r => decide (200 < r.length))) := by
  unfold longS
  rw [body_tot, hm, Bool.or_comm]
theorem any_take {rs : List (List UInt8)} {k : Nat} (hk : k < rs.length) : (rs.take (k + 1)).any (fun r => decide (200 < r.length)) = ((rs.take k).any (fun r => decide (200 < r.length)) || decide (200 < rs[k].length)) := by
  rw [List.take_succ_eq_append_getElem hk, List.any_append]
  simp
theorem enc_bad {first : UInt64} {rs : List (List UInt8)} (h : rs.length = 0 ∨ numOK first rs.length = false) : encB first rs = ([], 1) := by unfold encB; rw [if_pos h]
theorem enc_good {first : UInt64} {rs : List (List UInt8)} (h0 : rs.length ≠ 0) (h1 : numOK first rs.length = true) : encB first rs = if longS rs = true then ([], 4) else (blockB first rs, 0) := by unfold encB; rw [if_neg (by rw [h1]; simp; exact fun h => h0 (by rw [h]; rfl))]
set_option maxRecDepth 100000 in
set_option maxHeartbeats 1200000 in
theorem blockBack_calls (first : UInt64) (A : Option Addr) (c : Nat) (rs : List (List UInt8)) (p : Nat → Addr) (w : World) (hT : Tab w) (hE : E5A w p) (hl : rs.length ≤ 9223372036854775807) (h2 : ∀ r ∈ rs, r.length ≤ 140737488351232) (hA : RowsB w A rs) :
    Calls Tryd.prog 4 #[.int .u64 (n64 first), .slice A rs.length c] w fun e w' => e = .returned (.bool true) ∧ Below w.heap.size w w' := by
  have HAW := Go.Lib.hid (awake_calls p w hT hE.1)
  have HT := Go.Lib.hid hT
  have HE := Go.Lib.hid hE
  have HA := Go.Lib.hid hA
  have H2 := Go.Lib.hid h2
  obtain ⟨f, hf, hfz⟩ : ∃ f : Nat, f = first.toNat ∧ n64 first = (f : Int) := ⟨_, rfl, rfl⟩
  have hflt : f < 18446744073709551616 := by rw [hf]; exact first.toNat_lt
  have HF := Go.Lib.hid hf
  have HFZ := Go.Lib.hid hfz
  rw [hfz]
  clear hT hE hA h2 hf hfz
  go_enter Tryd.func4, Tryd.ntmps4
  go_wp2_with fail
  refine HAW.out.mono ?_
  rintro e w1 ⟨rfl, hb1⟩
  have HB1 := Go.Lib.hid hb1
  have HM := Go.Lib.hid (many_calls A c rs w1 hl H2.out (rows_below hb1 HA.out))
  clear HAW hb1
  go_wp2_with fail
  refine HM.out.mono ?_
  rintro e w2 ⟨⟨bb, rfl, HBB⟩, rfl⟩
  clear HM
  cases bb
  case true =>
    go_wp2
    go_ret
    exact ⟨rfl, HB1.out⟩
  obtain ⟨hn, htot⟩ := HBB.out rfl
  have HTOT := Go.Lib.hid htot
  have HCP := Go.Lib.hid (copied_calls A c rs w2 (by omega) H2.out (rows_below HB1.out HA.out))
  clear HBB htot
  go_wp2_with fail
  refine HCP.out.mono ?_
  rintro e w3 ⟨g, rfl, HR3, HB3⟩
  have HB03 := Go.Lib.hid (below_then HB1.out HB3.out)
  have HEN : Hid (Calls Tryd.prog 13 #[.int .u64 (f : Int), .slice (some ⟨g, 0, none⟩) rs.length rs.length] w3 (fun e w' => GaveE p w3 w' e (encB first rs))) := by
    have h := bEncode_calls (some ⟨g, 0, none⟩) rs.length rs first p w3 (fun x => below_cell HB03.out (HT.out x)) (e5_below HE.out.1 HB03.out) hl HR3.out
    rw [HFZ.out] at h
    exact h
  clear HCP HB3 HB1 HR3
  by_cases c0 : rs.length = 0
  · have hx := HEN.out
    rw [enc_bad (.inl c0)] at hx
    have HX := Go.Lib.hid hx
    clear hx HEN
    have d0 : ((rs.length : Int) == 0) = true := by rw [beq_iff_eq]; omega
    have HCC := Go.Lib.hid c0
    clear c0
    go_wp2_with fail
    refine HX.out.mono ?_
    rintro e w4 ⟨v4, rfl, ho4, hb4⟩
    obtain ⟨A4, c4, rfl, HO4, HC4⟩ := own_open ho4
    have HB04 := Go.Lib.hid (below_then HB03.out hb4)
    have e1 := e5_arg (e5_below HE.out.1 HB04.out)
    have hq := eql_same w4 (p 1)
    clear ho4 hb4 HX HO4 HC4
    simp only [errv, List.length_nil]
    go_wp2
    go_ret
    exact ⟨rfl, HB04.out⟩
  have d0 : ((rs.length : Int) == 0) = false := by rw [beq_eq_false_iff_ne]; omega
  by_cases c1 : f = 0
  · have hx := HEN.out
    rw [enc_bad (.inr (by have h := HF.out; unfold numOK; exact decide_eq_false (by omega)))] at hx
    have HX := Go.Lib.hid hx
    clear hx HEN
    have d1 : ((f : Int) == 0) = true := by rw [beq_iff_eq]; omega
    have HCC := Go.Lib.hid c1
    clear c1
    go_wp2_with fail
    refine HX.out.mono ?_
    rintro e w4 ⟨v4, rfl, ho4, hb4⟩
    obtain ⟨A4, c4, rfl, HO4, HC4⟩ := own_open ho4
    have HB04 := Go.Lib.hid (below_then HB03.out hb4)
    have e1 := e5_arg (e5_below HE.out.1 HB04.out)
    have hq := eql_same w4 (p 1)
    clear ho4 hb4 HX HO4 HC4
    simp only [errv, List.length_nil]
    go_wp2
    go_ret
    exact ⟨rfl, HB04.out⟩
  have d1 : ((f : Int) == 0) = false := by rw [beq_eq_false_iff_ne]; omega
  by_cases c2 : 4611686018427387904 < f
  · have hx := HEN.out
    rw [enc_bad (.inr (by have h := HF.out; unfold numOK; exact decide_eq_false (by omega)))] at hx
    have HX := Go.Lib.hid hx
    clear hx HEN
    have d2 : decide ((4611686018427387904 : Int) < (f : Int)) = true := decide_eq_true (by omega)
    go_wp2_with fail
    refine HX.out.mono ?_
    rintro e w4 ⟨v4, rfl, ho4, hb4⟩
    obtain ⟨A4, c4, rfl, HO4, HC4⟩ := own_open ho4
    have HB04 := Go.Lib.hid (below_then HB03.out hb4)
    have e1 := e5_arg (e5_below HE.out.1 HB04.out)
    have hq := eql_same w4 (p 1)
    clear ho4 hb4 HX HO4 HC4
    simp only [errv, List.length_nil]
    go_wp2
    go_ret
    exact ⟨rfl, HB04.out⟩
  have d2 : decide ((4611686018427387904 : Int) < (f : Int)) = false := decide_eq_false (by omega)
  obtain ⟨m1, hm1⟩ : ∃ m, m = rs.length - 1 := ⟨_, rfl⟩
  obtain ⟨r1, hr1⟩ : ∃ r, r = 4611686018427387904 - f := ⟨_, rfl⟩
  have x1 : IntKind.u64.wrap (rs.length : Int) = (rs.length : Int) := u64w _ (by omega) (by omega)
  have x2 : IntKind.u64.wrap ((rs.length : Int) - 1) = (m1 : Int) := by rw [u64w _ (by omega) (by omega)]; omega
  have x3 : IntKind.u64.wrap (4611686018427387904 - (f : Int)) = (r1 : Int) := by rw [u64w _ (by omega) (by omega)]; omega
  have HM1 := Go.Lib.hid hm1
  have HR1 := Go.Lib.hid hr1
  clear hm1 hr1
  by_cases c3 : r1 < m1
  · have hx := HEN.out
    rw [enc_bad (.inr (by have h2 := HM1.out; have h3 := HR1.out; have h := HF.out; unfold numOK; exact decide_eq_false (by omega)))] at hx
    have HX := Go.Lib.hid hx
    clear hx HEN
    have d3 : decide ((r1 : Int) < (m1 : Int)) = true := decide_eq_true (by omega)
    have d4 : decide (r1 < m1) = true := decide_eq_true c3
    go_wp2_with fail
    refine HX.out.mono ?_
    rintro e w4 ⟨v4, rfl, ho4, hb4⟩
    obtain ⟨A4, c4, rfl, HO4, HC4⟩ := own_open ho4
    have HB04 := Go.Lib.hid (below_then HB03.out hb4)
    have e1 := e5_arg (e5_below HE.out.1 HB04.out)
    have hq := eql_same w4 (p 1)
    clear ho4 hb4 HX HO4 HC4
    simp only [errv, List.length_nil]
    go_wp2
    go_ret
    exact ⟨rfl, HB04.out⟩
  have d3 : decide ((r1 : Int) < (m1 : Int)) = false := decide_eq_false (by omega)
  have d4 : decide (r1 < m1) = false := decide_eq_false c3
  have hN : numOK first rs.length = true := by have h := HF.out; have h2 := HM1.out; have h3 := HR1.out; unfold numOK; exact decide_eq_true (by omega)
  have HG := Go.Lib.hid (enc_good c0 hN)
  have HNN := Go.Lib.hid hN
  have HLS := Go.Lib.hid (longS_eq rs (totB rs) rfl)
  have HEN2 : Hid (Calls Tryd.prog 13 #[.int .u64 (f : Int), .slice (some ⟨g, 0, none⟩) rs.length rs.length] w3 (fun e w' => GaveE p w3 w' e (if longS rs = true then ([], 4) else (blockB first rs, 0)))) := by
    have hx := HEN.out
    rw [HG.out] at hx
    exact hx
  have HC0 := Go.Lib.hid c0
  clear HEN hN HG c0
  cases hS : longS rs
  · rw [hS] at HEN2
    simp only [Bool.false_eq_true, if_false] at HEN2
    generalize hblk : blockB first rs = blk at *
    have HBL := Go.Lib.hid (show blk.length = 512 by rw [← hblk]; exact blockB_length first rs (longS_false hS).2)
    have HDB := Go.Lib.hid (show decB blk = (first, rs, 0) by rw [← hblk]; exact dec_block first rs HC0.out HNN.out hS)
    clear hblk
    go_wp2_with fail
    refine HEN2.out.mono ?_
    rintro e w4 ⟨v4, rfl, ho4, hb4⟩
    simp only [] at ho4
    obtain ⟨A4, c4, rfl, HO4, HC4⟩ := own_open ho4
    have HB04 := Go.Lib.hid (below_then HB03.out hb4)
    have HSZ := Go.Lib.hid (size_calls A c rs w4 hl H2.out (rows_below HB04.out HA.out))
    clear ho4 hb4 HEN2 HO4
    simp only [errv, List.length_nil]
    go_wp2_with fail
    refine HSZ.out.mono ?_
    rintro e w5 ⟨⟨m, rfl, HSG, hm⟩, rfl⟩
    have hmt : m = totB rs := by rcases HSG.out with h | h <;> have := HTOT.out <;> omega
    have hmb : m ≤ 16777216 := by have := HTOT.out; omega
    rw [← hmt] at HLS
    have HLO : Hid (longS rs = (decide ((494 : Int) < 2 * (rs.length : Int) + (m : Int)) || rs.any (fun r => decide (200 < r.length)))) := by
      rw [Hid, HLS.out]
      congr 1
      exact decide_eq_decide.2 ⟨fun h => by omega, fun h => by omega⟩
    clear HSZ HSG HLS hmt
    generalize hlb : decide ((494 : Int) < 2 * (rs.length : Int) + (m : Int)) = lb at *
    go_wp2
    go_loop [10, 11] (fun b i => ∃ k : Nat, k ≤ rs.length ∧ i = .int .i64 (k : Int) ∧ ∃ q : Bool, b = .bool q ∧ Hid (q = (lb || (rs.take k).any (fun r => decide (200 < r.length))))) (fun _ i => rs.length - (intOf i).toNat)
    case atStart => exact ⟨0, Nat.zero_le _, rfl, lb, (by first | rfl | (rw [← hlb])), by simp [Hid]⟩
    case round =>
      obtain ⟨k, hk, rfl, q, rfl, HQ⟩ := hrel
      by_cases hlt : k < rs.length
      · obtain ⟨b, o, hAe, A9, c9, hl9, hck, _⟩ := (rows_below HB04.out HA.out).row k hlt
        have hk0 : (0 : Int) ≤ (k : Int) := Int.natCast_nonneg _
        have hk1 : (k : Int) < (rs.length : Int) := by omega
        have HAT := Go.Lib.hid (any_take hlt)
        subst hAe
        generalize rs[k].length = z at *
        have hdz : decide ((200 : Int) < (z : Int)) = decide (200 < z) := decide_eq_decide.2 ⟨fun h => by omega, fun h => by omega⟩
        have HQ2 : Hid ((q || decide (200 < z)) = (lb || (rs.take (k + 1)).any (fun r => decide (200 < r.length)))) := by rw [Hid, HAT.out, HQ.out, Bool.or_assoc]
        clear HQ HAT
        generalize hdd : decide (200 < z) = dz at *
        cases q
        · cases dz <;>
            (go_wp2
             go_round
             case rel => exact ⟨k + 1, by omega, by go_num, _, rfl, HQ2⟩
             case measure => simp [intOf]; omega)
        · go_wp2
          go_round
          case rel => exact ⟨k + 1, by omega, by go_num, true, rfl, by have := HQ2.out; simpa [Hid] using this⟩
          case measure => simp [intOf]; omega
      · have hkn : k = rs.length := by omega
        have hqv : q = false := by
          have h1 := HQ.out
          have h2 := HLO.out
          rw [hkn, List.take_length] at h1
          rw [← h1, hS] at h2
          exact h2.symm
        subst hqv
        clear HQ
        have hblen : blk.length ≤ 512 := by rw [HBL.out]; exact Nat.le_refl _
        have hbn : Below w5.heap.size w5 (w5.alloc (.cells #[] 5)) := (Below.refl _ _).alloc (Nat.le_refl _) _
        have HO5 := Go.Lib.hid (own_nil8 (w := w5.alloc (.cells #[] 5)) (b := w5.heap.size) (g := w5.heap.size) (heap_here w5 (.cells #[] 5) (w5.heap.size) (by simp)) (Nat.le_refl _))
        have HC5 := Go.Lib.hid (cells_below hbn HC4.out)
        have hsz5 : w5.heap.size ≤ (w5.alloc (.cells #[] 5)).heap.size := hbn.size
        have hroom : (Bs []).length + blk.length ≤ 140737488355328 := by rw [Bs_length]; simp only [List.length_nil]; omega
        have HBN := Go.Lib.hid hbn
        clear hbn
        go_wp2_with (first
          | (at_builtin; go_must (refine wpList_append_all (s := .tmp 93) (x := .tmp 94) (t := 28) (e := 5) (z := .int .u8 0) (ht := Tryd.underlying28) (hinfo := info8) (base := w5.heap.size) (v := .slice (some ⟨w5.heap.size, 0, none⟩) 0 0) (vs := Bs []) (hown := HO5.out) (hbase := hsz5) (A := A4) (c := c4) (l := blk) (hA := HC5.out) (hroom := hroom) (hgd := rfl) (hz := ?_) (ho := ?_) (hs := ?_) (hx := ?_) (h := ?_)); rfl; rfl; rfl; rfl; intro v6 w6 hown6 hb6; obtain ⟨A6, c6, rfl, hc61, hc62, HO6, HC6⟩ := own_open2 (show Own w6 w5.heap.size 5 v6 (Bs blk) from hown6); have HB6 := Go.Lib.hid (HBN.out.trans hb6); clear hown6 hb6))
        have HB06 := Go.Lib.hid (below_then HB04.out HB6.out)
        have hdc := bDecode_calls A6 c6 blk p w6 (fun x => below_cell HB06.out (HT.out x)) (e5_below HE.out.1 HB06.out) hc61 hc62 HC6.out
        rw [HDB.out] at hdc
        refine hdc.mono ?_
        rintro e w7 ⟨v7, vs7, rfl, ho7, ha7, hb7⟩
        have HB07 := Go.Lib.hid (below_then HB06.out hb7)
        obtain ⟨A7, c7, rfl, hl7, hc7, hr7⟩ := rows_of_all ho7 ha7
        simp only at hl7 hr7
        have HAL := Go.Lib.hid (alike_calls A7 A c7 c rs rs w7 hl hr7 (rows_below HB07.out HA.out))
        rw [show (rs == rs) = true by simp] at HAL
        have hbl2 : blk.length = 512 := HBL.out
        clear HO5 HC5 HBN hsz5 hroom hc61 hc62 HO6 HC6 HB6 HB06 hdc ho7 ha7 hb7 hr7 HDB HBL
        simp only [errv, HFZ.out]
        go_wp2_with fail
        refine HAL.out.mono ?_
        rintro e w8 ⟨rfl, hd8⟩
        have HB08 := Go.Lib.hid (HB07.out.trans (drN_below hd8 _))
        clear hd8
        go_wp2
        go_ret
        exact ⟨rfl, HB08.out⟩
  · rw [hS] at HEN2
    simp only [if_true] at HEN2
    go_wp2_with fail
    refine HEN2.out.mono ?_
    rintro e w4 ⟨v4, rfl, ho4, hb4⟩
    simp only [List.length_nil] at ho4
    obtain ⟨A4, c4, rfl, HO4, HC4⟩ := own_open ho4
    have HB04 := Go.Lib.hid (below_then HB03.out hb4)
    have HSZ := Go.Lib.hid (size_calls A c rs w4 hl H2.out (rows_below HB04.out HA.out))
    clear ho4 hb4 HEN2 HO4
    simp only [errv, List.length_nil]
    go_wp2_with fail
    refine HSZ.out.mono ?_
    rintro e w5 ⟨⟨m, rfl, HSG, hm⟩, rfl⟩
    have hmt : m = totB rs := by rcases HSG.out with h | h <;> have := HTOT.out <;> omega
    have hmb : m ≤ 16777216 := by have := HTOT.out; omega
    rw [← hmt] at HLS
    have HLO : Hid (longS rs = (decide ((494 : Int) < 2 * (rs.length : Int) + (m : Int)) || rs.any (fun r => decide (200 < r.length)))) := by
      rw [Hid, HLS.out]
      congr 1
      exact decide_eq_decide.2 ⟨fun h => by omega, fun h => by omega⟩
    clear HSZ HSG HLS hmt
    generalize hlb : decide ((494 : Int) < 2 * (rs.length : Int) + (m : Int)) = lb at *
    go_wp2
    go_loop [10, 11] (fun b i => ∃ k : Nat, k ≤ rs.length ∧ i = .int .i64 (k : Int) ∧ ∃ q : Bool, b = .bool q ∧ Hid (q = (lb || (rs.take k).any (fun r => decide (200 < r.length))))) (fun _ i => rs.length - (intOf i).toNat)
    case atStart => exact ⟨0, Nat.zero_le _, rfl, lb, (by first | rfl | (rw [← hlb])), by simp [Hid]⟩
    case round =>
      obtain ⟨k, hk, rfl, q, rfl, HQ⟩ := hrel
      by_cases hlt : k < rs.length
      · obtain ⟨b, o, hAe, A9, c9, hl9, hck, _⟩ := (rows_below HB04.out HA.out).row k hlt
        have hk0 : (0 : Int) ≤ (k : Int) := Int.natCast_nonneg _
        have hk1 : (k : Int) < (rs.length : Int) := by omega
        have HAT := Go.Lib.hid (any_take hlt)
        subst hAe
        generalize rs[k].length = z at *
        have hdz : decide ((200 : Int) < (z : Int)) = decide (200 < z) := decide_eq_decide.2 ⟨fun h => by omega, fun h => by omega⟩
        have HQ2 : Hid ((q || decide (200 < z)) = (lb || (rs.take (k + 1)).any (fun r => decide (200 < r.length)))) := by rw [Hid, HAT.out, HQ.out, Bool.or_assoc]
        clear HQ HAT
        generalize hdd : decide (200 < z) = dz at *
        cases q
        · cases dz <;>
            (go_wp2
             go_round
             case rel => exact ⟨k + 1, by omega, by go_num, _, rfl, HQ2⟩
             case measure => simp [intOf]; omega)
        · go_wp2
          go_round
          case rel => exact ⟨k + 1, by omega, by go_num, true, rfl, by have := HQ2.out; simpa [Hid] using this⟩
          case measure => simp [intOf]; omega
      · have hkn : k = rs.length := by omega
        have hqv : q = true := by
          have h1 := HQ.out
          have h2 := HLO.out
          rw [hkn, List.take_length] at h1
          rw [← h1, hS] at h2
          exact h2.symm
        subst hqv
        clear HQ
        have e4 := e5_long (e5_below HE.out.1 HB04.out)
        have hq := eql_same w5 (p 4)
        go_wp2
        go_ret
        exact ⟨rfl, HB04.out⟩
end Go.Proofs.YtipjdkdonmoojaaDoor
