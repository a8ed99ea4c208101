/- Layer 8's law BlockTurned. -/
import Derived.Test.YtipjdkdonmoojaaDoorBlkLB
namespace Go.Proofs.YtipjdkdonmoojaaDoor
open Go Go.RowKit
set_option linter.unusedVariables false
set_option linter.unusedSimpArgs false
attribute [local go_sem] n8_self n64_self beq_n8 bne_n8 beq_n64 bne_n64 xor8

theorem enc_three (first : UInt64) (rs : List (List UInt8)) : (∃ k, k ≤ 3 ∧ encB first rs = ([], k + 1)) ∨ (longS rs = false ∧ rs.length ≠ 0 ∧ numOK first rs.length = true ∧ encB first rs = (blockB first rs, 0) ∧ (blockB first rs).length = 512) := by
  by_cases h : rs.length = 0 ∨ numOK first rs.length = false
  · exact .inl ⟨0, by decide, enc_bad h⟩
  · have h0 : rs.length ≠ 0 := fun e => h (.inl e)
    have hN : numOK first rs.length = true := by
      cases hN : numOK first rs.length
      · exact absurd (.inr hN) h
      · rfl
    cases hS : longS rs
    · exact .inr ⟨rfl, h0, hN, by rw [enc_good h0 hN, hS]; simp, blockB_length first rs (longS_false hS).2⟩
    · exact .inl ⟨3, by decide, by rw [enc_good h0 hN, hS]; simp⟩
theorem scan_one {c : List UInt8} {first : UInt64} (hl : c.length = 512) (hd : (decB c).2.2 ≠ 0) : scanB c [] first = ([], 0) := by
  unfold scanB
  exact scanF_stop _ _ _ _ _ (.inl (by rw [List.take_of_length_le (by omega)]; exact hd))
theorem xor_ne {a x : UInt8} (hx : x ≠ 0) : a ^^^ x ≠ a := by
  intro h
  apply hx
  have : a ^^^ (a ^^^ x) = a ^^^ a := by rw [h]
  rw [← UInt8.xor_assoc, UInt8.xor_self, UInt8.zero_xor] at this
  exact this
theorem bs_set {cur : List Value} {L : List UInt8} {n i : Nat} {y : UInt8} (h : cur.take n = Bs L) (hi : i < n) : (cur.set i (.int .u8 (n8 y))).take n = Bs (L.set i y) := by
  rw [List.take_set, h]
  unfold Bs
  rw [List.map_set]
theorem own_block {w : World} {base : Nat} {v : Value} {L : List UInt8} (h : Own w base 5 v (Bs L)) (hL : L.length = 512) : ∃ g cap cur, v = .slice (some ⟨g, 0, none⟩) 512 cap ∧ base ≤ g ∧ Hid (w.heap[g]? = some (.cells cur 5 (0, 0))) ∧ 512 ≤ cap ∧ cap ≤ 9223372036854775807 ∧ Hid (cur.size = cap) ∧ Hid (cur.toList.take 512 = Bs L) := by
  rcases h.2 with ⟨_, h0⟩ | ⟨g, cap, cur, hv, hb, hh, hn, hc, hsz, htk⟩
  · rw [Bs_length, hL] at h0; omega
  · rw [Bs_length, hL] at hv hn htk
    unfold maxLen at hc
    rw [Nat.mul_one] at hsz htk
    exact ⟨g, cap, cur, hv, hb, hh, hn, hc, hsz, htk⟩
theorem block_cell {w : World} {g i : Nat} {cur : Array Value} {L : List UInt8} (h : w.heap[g]? = some (.cells cur 5 (0, 0))) (ht : cur.toList.take 512 = Bs L) (hi : i < L.length) (hi2 : i < 512) : w.cell? ⟨g, i, none⟩ = some (.int .u8 (n8 L[i])) := by
  rw [cell_of_row _ _ _ _ _ _ h]
  have h1 : (cur.toList.take 512)[i]? = some (.int .u8 (n8 L[i])) := by
    rw [ht]; simp [Bs, hi]
  rw [List.getElem?_take_of_lt hi2] at h1
  rw [← Array.getElem?_toList]
  exact h1
theorem turn_own {w : World} {base g cap i : Nat} {cur : Array Value} {L : List UInt8} {y : UInt8} (hb : base ≤ g) (hh : w.heap[g]? = some (.cells cur 5 (0, 0))) (h1 : 512 ≤ cap) (h2 : cap ≤ 9223372036854775807) (hs : cur.size = cap) (ht : cur.toList.take 512 = Bs L) (hL : L.length = 512) (hi : i < 512) : Own (w.setCell ⟨g, i, none⟩ (.int .u8 (n8 y))) base 5 (.slice (some ⟨g, 0, none⟩) 512 cap) (Bs (L.set i y)) :=
  own_of_row (heap_setCell_same w g i _ _ _ hh) hb (by simp [hL]) h1 h2 (by simp [hs]) (by rw [Array.toList_setIfInBounds]; exact bs_set ht hi)
theorem own_cells8 {w : World} {b e n c : Nat} {A : Option Addr} {vs : List Value} (h : Own w b e (.slice A n c) vs) : Cells w A vs := by
  obtain ⟨A1, c1, hv, _, _, hc⟩ := own_slice h
  cases hv
  exact hc
theorem setCell_size (w : World) (a : Addr) (v : Value) : (w.setCell a v).heap.size = w.heap.size := by simp [World.setCell]
set_option maxRecDepth 100000 in
set_option maxHeartbeats 1600000 in
theorem blockTurned_calls (first : UInt64) (A : Option Addr) (c : Nat) (rs : List (List UInt8)) (at_ : Int) (x : UInt8) (p : Nat → Addr) (w : World) (hT : Tab w) (hE : E5A w p) (hl : rs.length ≤ 9223372036854775807) (h2 : ∀ r ∈ rs, r.length ≤ 140737488351232) (hA : RowsB w A rs) (lo : -9223372036854775808 ≤ at_) (hi : at_ ≤ 9223372036854775807) :
    Calls Tryd.prog 6 #[.int .u64 (n64 first), .slice A rs.length c, .int .i64 at_, .int .u8 (n8 x)] w fun e w' => e = .returned (.bool true) ∧ Below w.heap.size w w' := by
  have HAW := Go.Lib.hid (awake_calls p w hT hE.1)
  have HT := Go.Lib.hid hT
  have HE := Go.Lib.hid hE
  have HA := Go.Lib.hid hA
  have H2 := Go.Lib.hid h2
  clear hT hE hA h2
  go_enter Tryd.func6, Tryd.ntmps6
  go_wp2_with fail
  refine HAW.out.mono ?_
  rintro e w1 ⟨rfl, hb1⟩
  have HB1 := Go.Lib.hid hb1
  have HM := Go.Lib.hid (many_calls A c rs w1 hl H2.out (rows_below hb1 HA.out))
  clear HAW hb1
  go_wp2_with fail
  refine HM.out.mono ?_
  rintro e w2 ⟨⟨bb, rfl, HBB⟩, rfl⟩
  clear HM
  cases bb
  case true =>
    go_wp2
    go_ret
    exact ⟨rfl, HB1.out⟩
  obtain ⟨hn, htot⟩ := HBB.out rfl
  have HCP := Go.Lib.hid (copied_calls A c rs w2 (by omega) H2.out (rows_below HB1.out HA.out))
  clear HBB htot
  go_wp2_with fail
  refine HCP.out.mono ?_
  rintro e w3 ⟨g, rfl, HR3, HB3⟩
  have HB03 := Go.Lib.hid (below_then HB1.out HB3.out)
  have HEN := Go.Lib.hid (bEncode_calls (some ⟨g, 0, none⟩) rs.length rs first p w3 (fun x => below_cell HB03.out (HT.out x)) (e5_below HE.out.1 HB03.out) hl HR3.out)
  clear HCP HB3 HB1 HR3
  rcases enc_three first rs with ⟨k, hk, he⟩ | ⟨hS, hr0, hN, he, hbl⟩
  · rw [he] at HEN
    clear he
    go_wp2_with fail
    refine HEN.out.mono ?_
    rintro e w4 ⟨v4, rfl, ho4, hb4⟩
    have HB04 := Go.Lib.hid (below_then HB03.out hb4)
    clear ho4 hb4 HEN
    simp only [errv]
    go_wp2
    go_ret
    exact ⟨rfl, HB04.out⟩
  rw [he] at HEN
  have HTU := Go.Lib.hid (fun i y => dec_turned first rs hS i y)
  clear he hS hr0 hN
  generalize blockB first rs = blk at *
  have HBL := Go.Lib.hid hbl
  clear hbl
  go_wp2_with fail
  refine HEN.out.mono ?_
  rintro e w4 ⟨v4, rfl, ho4, hb4⟩
  have HB04 := Go.Lib.hid (below_then HB03.out hb4)
  obtain ⟨A4, c4, rfl, HO4, HC4⟩ := own_open ho4
  have hb512 : blk.length = 512 := HBL.out
  have hbl2 : blk.length ≤ 512 := by omega
  rw [hb512]
  clear ho4 hb4 HEN HO4 hb512
  simp only [errv]
  by_cases c1 : at_ < 0
  · have d1 : decide (at_ < 0) = true := decide_eq_true c1
    go_wp2
    go_ret
    exact ⟨rfl, HB04.out⟩
  obtain ⟨i, rfl⟩ : ∃ i : Nat, at_ = (i : Int) := ⟨at_.toNat, by omega⟩
  have d1 : decide ((i : Int) < 0) = false := decide_eq_false (by omega)
  by_cases c2 : 512 ≤ i
  · have d2 : decide ((512 : Int) ≤ (i : Int)) = true := decide_eq_true (by omega)
    have n2 : (512 : Int) ≤ (i : Int) := by omega
    clear c1
    go_wp2
    go_ret
    exact ⟨rfl, HB04.out⟩
  have d2 : decide ((512 : Int) ≤ (i : Int)) = false := decide_eq_false (by omega)
  have n2 : ¬ ((512 : Int) ≤ (i : Int)) := by omega
  by_cases c3 : x = 0
  · have HX0 := Go.Lib.hid c3
    have d3 : (n8 x == 0) = true := by rw [c3]; rfl
    clear c1 c2 c3
    go_wp2
    go_ret
    exact ⟨rfl, HB04.out⟩
  have d3 : (n8 x == 0) = false := by rw [beq_eq_false_iff_ne]; intro h; exact c3 (n8_inj (b := 0) h)
  have HX0 := Go.Lib.hid c3
  have hbn : Below w4.heap.size w4 (w4.alloc (.cells #[] 5)) := (Below.refl _ _).alloc (Nat.le_refl _) _
  have HO5 := Go.Lib.hid (own_nil8 (w := w4.alloc (.cells #[] 5)) (b := w4.heap.size) (g := w4.heap.size) (heap_here w4 (.cells #[] 5) (w4.heap.size) (by simp)) (Nat.le_refl _))
  have HC5 := Go.Lib.hid (cells_below hbn HC4.out)
  have hsz5 : w4.heap.size ≤ (w4.alloc (.cells #[] 5)).heap.size := hbn.size
  have hroom : (Bs []).length + blk.length ≤ 140737488355328 := by rw [Bs_length]; simp only [List.length_nil]; omega
  have HBN := Go.Lib.hid hbn
  have hi512 : i < 512 := by omega
  have hib : i < blk.length := by have := HBL.out; omega
  obtain ⟨y0, hy0⟩ : ∃ y, Hid (∀ h : i < blk.length, y = blk[i]) := ⟨blk[i], fun _ => rfl⟩
  have hk0 : (0 : Int) ≤ (i : Int) := Int.natCast_nonneg _
  have hk1 : (i : Int) < 512 := by omega
  have HI := Go.Lib.hid hib
  clear hbn c3 hib
  go_wp2_with (first
    | (at_builtin; (with_reducible refine wpList_append_all (s := .tmp 49) (x := .tmp 50) (t := 28) (e := 5) (z := .int .u8 0) (ht := Tryd.underlying28) (hinfo := info8) (base := w4.heap.size) (v := .slice (some ⟨w4.heap.size, 0, none⟩) 0 0) (vs := Bs []) (hown := HO5.out) (hbase := hsz5) (A := A4) (c := c4) (l := blk) (hA := HC5.out) (hroom := hroom) (hgd := rfl) (hz := ?_) (ho := ?_) (hs := ?_) (hx := ?_) (h := ?_)); rfl; rfl; rfl; (first | rfl | (rw [HBL.out]; rfl)); intro v6 w6 hown6 hb6; go_must (obtain ⟨g6, c6, cur, rfl, hg6, HH6, hc61, hc62, HS6, HT6⟩ := own_block (show Own w6 w4.heap.size 5 v6 (Bs blk) from hown6) HBL.out); have HB6 := Go.Lib.hid (HBN.out.trans hb6); go_must (have hck := block_cell HH6.out HT6.out HI.out hi512); rw [← hy0.out] at hck; have hfk := heap_frozen HH6.out i; clear hown6 hb6; go_must (have HO7 := Go.Lib.hid (turn_own (y := y0 ^^^ x) hg6 HH6.out hc61 hc62 HS6.out HT6.out HBL.out hi512)); have HB7 := Go.Lib.hid (HB6.out.setCell (p := ⟨g6, i, none⟩) hg6 (.int .u8 (n8 (y0 ^^^ x)))); go_must (obtain ⟨cc, hcc⟩ : ∃ cc, Hid (cc = blk.set i (y0 ^^^ x)) := ⟨_, rfl⟩); rw [← hcc.out] at HO7; have HC7 := Go.Lib.hid (own_cells8 HO7.out); go_must (have HL7 : Hid (cc.length = 512) := by rw [hcc.out, Hid, List.length_set]; exact HBL.out); have hbn7 : Below (w6.setCell ⟨g6, i, none⟩ (.int .u8 (n8 (y0 ^^^ x)))).heap.size (w6.setCell ⟨g6, i, none⟩ (.int .u8 (n8 (y0 ^^^ x)))) ((w6.setCell ⟨g6, i, none⟩ (.int .u8 (n8 (y0 ^^^ x)))).alloc (.cells #[] 5)) := (Below.refl _ _).alloc (Nat.le_refl _) _; go_must (have HO8 := Go.Lib.hid (own_nil8 (w := (w6.setCell ⟨g6, i, none⟩ (.int .u8 (n8 (y0 ^^^ x)))).alloc (.cells #[] 5)) (b := (w6.setCell ⟨g6, i, none⟩ (.int .u8 (n8 (y0 ^^^ x)))).heap.size) (g := (w6.setCell ⟨g6, i, none⟩ (.int .u8 (n8 (y0 ^^^ x)))).heap.size) (heap_here _ (.cells #[] 5) _ rfl) (Nat.le_refl _))); have HC8 := Go.Lib.hid (cells_below hbn7 HC7.out); have hsz8 := hbn7.size; have HBN7 := Go.Lib.hid hbn7; go_must (have hroom8 : (Bs []).length + cc.length ≤ 140737488355328 := by rw [Bs_length, HL7.out]; decide); clear hbn7)
    | (at_builtin; go_must (refine wpList_append_all (s := .tmp 62) (x := .tmp 63) (t := 28) (e := 5) (z := .int .u8 0) (ht := Tryd.underlying28) (hinfo := info8) (vs := Bs []) (hown := HO8.out) (hbase := hsz8) (A := some ⟨g6, 0, none⟩) (c := c6) (l := cc) (hA := HC8.out) (hroom := hroom8) (hgd := rfl) (hz := ?_) (ho := ?_) (hs := ?_) (hx := ?_) (h := ?_)); rfl; rfl; go_must (first | rfl | (rw [setCell_size]; rfl)); go_must (first | rfl | (rw [HL7.out]; rfl)); intro v9 w9 hown9 hb9; go_must (obtain ⟨A9, c9, rfl, hc91, hc92, HO9, HC9⟩ := own_open2 (show Own w9 _ 5 v9 (Bs cc) from hown9)); have HB79 := Go.Lib.hid (HBN7.out.trans hb9); have HB9 := Go.Lib.hid (HB7.out.trans (HB79.out.mono HB7.out.size)); have HCD := Go.Lib.hid (cells_below HB79.out HC7.out); clear hown9 hb9))
  have HB09 := Go.Lib.hid (below_then HB04.out HB9.out)
  have hne : ∀ h : i < blk.length, y0 ^^^ x ≠ blk[i] := fun h => by rw [← hy0.out h]; exact xor_ne HX0.out
  have htu := HTU.out i (y0 ^^^ x) HI.out (hne HI.out)
  rw [← hcc.out] at htu
  have HDT := Go.Lib.hid htu
  have HDC := Go.Lib.hid (bDecode_calls A9 c9 cc p w9 (fun x => below_cell HB09.out (HT.out x)) (e5_below HE.out.1 HB09.out) hc91 hc92 HC9.out)
  clear htu hne HO5 HC5 hsz5 hroom HBN HO7 HO8 HC8 hsz8 HBN7 hroom8 HO9 HC9 HB9 HB79 HB7 HB6 HH6 HS6 HT6 HC7 HTU
  refine HDC.out.mono ?_
  rintro e w10 ⟨v10, vs10, rfl, ho10, ha10, hb10⟩
  have HB010 := Go.Lib.hid (below_then HB09.out hb10)
  obtain ⟨A10, c10, rfl, hl10, hc10, hr10⟩ := rows_of_all ho10 ha10
  have HCX := Go.Lib.hid (cells_below hb10 HCD.out)
  have hsc : scanB cc [] first = ([], 0) := scan_one HL7.out (by rcases HDT.out with h | h <;> rw [h] <;> simp)
  have HSC : Hid (Calls Tryd.prog 19 #[.slice (some ⟨g6, 0, none⟩) 512 c6, .slice none 0 0, .int .u64 (n64 first)] w10 (fun e w' => GaveN w10 w' e ([], 0))) := by
    have h := bScan_calls (some ⟨g6, 0, none⟩) c6 cc none 0 [] first p w10 (fun x => below_cell HB010.out (HT.out x)) (e5_below HE.out.1 HB010.out) (by rw [HL7.out]; decide) (by rw [HL7.out]; exact hc61) hc62 HCX.out (by simp) (fun h => absurd h (by simp))
    rw [hsc, HL7.out] at h
    exact h
  clear hsc ho10 ha10 hb10 hr10 HCD HDC
  rcases HDT.out with hd | hd
  · rw [hd] at hl10 ⊢
    clear hl10
    simp only [errv, List.length_nil]
    go_wp2_with fail
    refine HSC.out.mono ?_
    rintro e w11 ⟨v11, vs11, rfl, ho11, ha11, hb11⟩
    have HB011 := Go.Lib.hid (below_then HB010.out hb11)
    obtain ⟨A11, c11, rfl, hl11, hc11, hr11⟩ := rows_of_all ho11 ha11
    have e3 := e5_form (e5_below HE.out.1 HB011.out)
    have hq := eql_same w11 (p 3)
    clear ho11 ha11 hb11 hr11 HSC hl11
    simp only [List.length_nil]
    go_wp2
    go_ret
    exact ⟨rfl, HB011.out⟩
  · rw [hd] at hl10 ⊢
    clear hl10
    simp only [errv, List.length_nil]
    go_wp2_with fail
    refine HSC.out.mono ?_
    rintro e w11 ⟨v11, vs11, rfl, ho11, ha11, hb11⟩
    have HB011 := Go.Lib.hid (below_then HB010.out hb11)
    obtain ⟨A11, c11, rfl, hl11, hc11, hr11⟩ := rows_of_all ho11 ha11
    have e3 := e5_form (e5_below HE.out.1 HB011.out)
    have e5 := e5_sum (e5_below HE.out.1 HB011.out)
    have hq := eql_same w11 (p 5)
    have hq2 := eql_other ((e5a_below HE.out HB011.out).2 5 3 (by decide) (by decide) (by decide) (by decide) (by decide))
    clear ho11 ha11 hb11 hr11 HSC hl11
    simp only [List.length_nil]
    go_wp2
    go_ret
    exact ⟨rfl, HB011.out⟩
end Go.Proofs.YtipjdkdonmoojaaDoor
