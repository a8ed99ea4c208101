/- Layer 8's law BlockForth. -/
import Derived.Test.YtipjdkdonmoojaaDoorBlkRow
namespace Go.Proofs.YtipjdkdonmoojaaDoor
open Go Go.RowKit
set_option linter.unusedVariables false
set_option linter.unusedSimpArgs false
attribute [local go_sem] n8_self n64_self beq_n8 bne_n8 beq_n64 bne_n64

theorem e5a_below {w w1 : World} {p : Nat → Addr} (h : E5A w p) (hb : Below w.heap.size w w1) : E5A w1 p :=
  ⟨e5_below h.1 hb, fun i j h1 h2 h3 h4 h5 => apart_below (h.2 i j h1 h2 h3 h4 h5) hb⟩
theorem own_open2 {w : World} {base : Nat} {v : Value} {L : List UInt8} (h : Own w base 5 v (Bs L)) : ∃ A c, v = .slice A L.length c ∧ L.length ≤ c ∧ c ≤ 9223372036854775807 ∧ Hid (Own w base 5 (.slice A L.length c) (Bs L)) ∧ Hid (Cells w A (Bs L)) := by
  obtain ⟨A, c, rfl, h1, h2, hc⟩ := own_slice h
  rw [Bs_length] at h h1 ⊢
  exact ⟨A, c, rfl, h1, h2, h, hc⟩
theorem forth_plain (b : List UInt8) : (∃ k, decB b = (0, [], k) ∧ (k = 2 ∧ b.length < 512 ∨ k = 3 ∧ ¬ b.length < 512 ∨ k = 5 ∧ ¬ b.length < 512)) ∨ ∃ f l, decB b = (f, l, 0) ∧ encB f l = (b, 0) := by
  rcases decB_cases b with h | ⟨l, q, hd, _⟩
  · exact .inl h
  · exact .inr ⟨_, _, hd, enc_back hd⟩
set_option maxRecDepth 100000 in
set_option maxHeartbeats 3200000 in
theorem forth_calls (A : Option Addr) (c : Nat) (b : List UInt8) (p : Nat → Addr) (w : World) (hT : Tab w) (hE : E5A w p) (hl : b.length ≤ 140737488351232) (hA : Cells w A (Bs b)) :
    Calls Tryd.prog 5 #[.slice A b.length c] w fun e w' => e = .returned (.bool true) ∧ Below w.heap.size w w' := by
  have HAW := Go.Lib.hid (awake_calls p w hT hE.1)
  have HT := Go.Lib.hid hT
  have HE := Go.Lib.hid hE
  have HA := Go.Lib.hid hA
  clear hT hE hA
  go_enter Tryd.func5, Tryd.ntmps5
  go_wp2_with fail
  refine HAW.out.mono ?_
  rintro e w1 ⟨rfl, hb1⟩
  have HB1 := Go.Lib.hid hb1
  have hbn : Below w1.heap.size w1 (w1.alloc (.cells #[] 5)) := (Below.refl _ _).alloc (Nat.le_refl _) _
  have HO3 := Go.Lib.hid (own_nil8 (w := w1.alloc (.cells #[] 5)) (b := w1.heap.size) (g := w1.heap.size) (heap_here w1 (.cells #[] 5) (w1.heap.size) (by simp)) (Nat.le_refl _))
  have HC3 := Go.Lib.hid (cells_below hbn (cells_below HB1.out HA.out))
  have hsz3 : w1.heap.size ≤ (w1.alloc (.cells #[] 5)).heap.size := hbn.size
  have hroom : (Bs []).length + b.length ≤ 140737488355328 := by rw [Bs_length]; simp only [List.length_nil]; omega
  have HBN := Go.Lib.hid hbn
  clear HAW hb1 hbn
  go_wp2_with (first
    | (at_builtin; go_must (refine wpList_append_all (s := .tmp 13) (x := .tmp 14) (t := 28) (e := 5) (z := .int .u8 0) (ht := Tryd.underlying28) (hinfo := info8) (base := w1.heap.size) (v := .slice (some ⟨w1.heap.size, 0, none⟩) 0 0) (vs := Bs []) (hown := HO3.out) (hbase := hsz3) (A := A) (c := c) (l := b) (hA := HC3.out) (hroom := hroom) (hgd := rfl) (hz := ?_) (ho := ?_) (hs := ?_) (hx := ?_) (h := ?_)); rfl; rfl; rfl; rfl; intro v4 w4 hown4 hb4; obtain ⟨A4, c4, rfl, hc41, hc42, HO4, HC4⟩ := own_open2 (show Own w4 w1.heap.size 5 v4 (Bs b) from hown4); have HB4 := Go.Lib.hid (HBN.out.trans hb4); clear hown4 hb4))
  have HB04 := Go.Lib.hid (below_then HB1.out HB4.out)
  refine (bDecode_calls A4 c4 b p w4 (fun x => below_cell HB04.out (HT.out x)) (e5_below HE.out.1 HB04.out) hc41 hc42 HC4.out).mono ?_
  rintro e w5 ⟨v5, vs5, rfl, ho5, ha5, hb5⟩
  have HB05 := Go.Lib.hid (below_then HB04.out hb5)
  have HE5 := Go.Lib.hid (e5a_below HE.out HB05.out)
  obtain ⟨A5, c5, rfl, hl5, hc5, hr5⟩ := rows_of_all ho5 ha5
  have HP := Go.Lib.hid (forth_plain b)
  clear HO3 HC3 HB1 HBN hsz3 hroom HO4 HC4 HB4 hc41 hc42 HB04 ho5 ha5 hb5
  have e2 := e5_short HE5.out.1
  rcases HP.out with ⟨k, hk, hcase⟩ | ⟨f, l, hk, henc⟩
  · rw [hk] at hl5 hr5 ⊢
    clear HP hk hr5 hl5
    rcases hcase with ⟨rfl, hlt⟩ | ⟨rfl, hlt⟩ | ⟨rfl, hlt⟩
    · have hq := eql_same w5 (p 2)
      have d1 : decide ((b.length : Int) < 512) = true := decide_eq_true (by omega)
      simp only [errv, List.length_nil]
      go_wp2
      go_ret
      exact ⟨rfl, HB05.out⟩
    · have hq := eql_other (HE5.out.2 3 2 (by decide) (by decide) (by decide) (by decide) (by decide))
      have d1 : decide ((b.length : Int) < 512) = false := decide_eq_false (by omega)
      simp only [errv, List.length_nil]
      go_wp2
      go_ret
      exact ⟨rfl, HB05.out⟩
    · have hq := eql_other (HE5.out.2 5 2 (by decide) (by decide) (by decide) (by decide) (by decide))
      have d1 : decide ((b.length : Int) < 512) = false := decide_eq_false (by omega)
      simp only [errv, List.length_nil]
      go_wp2
      go_ret
      exact ⟨rfl, HB05.out⟩
  · rw [hk] at hl5 hr5 ⊢
    simp only at hl5 hr5
    have HEN : Hid (Calls Tryd.prog 13 #[.int .u64 (n64 f), .slice A5 l.length c5] w5 (fun e w' => GaveE p w5 w' e (b, 0))) := by
      have h := bEncode_calls A5 c5 l f p w5 (fun x => below_cell HB05.out (HT.out x)) HE5.out.1 (by omega) hr5
      rw [henc] at h
      exact h
    clear HP hk hr5 henc e2
    simp only [errv]
    go_wp2_with fail
    refine HEN.out.mono ?_
    rintro e w6 ⟨v6, rfl, ho6, hb6⟩
    obtain ⟨A6, c6, rfl, HO6, HC6⟩ := own_open ho6
    have HB06 := Go.Lib.hid (below_then HB05.out hb6)
    have HS := Go.Lib.hid (same_calls A A6 c c6 b b w6 (by omega) (cells_below HB06.out HA.out) HC6.out)
    rw [show (b == b) = true by simp] at HS
    clear ho6 hb6 HEN HO6 HC6
    simp only [errv]
    go_wp2_with fail
    refine HS.out.mono ?_
    rintro e w7 ⟨rfl, hd7⟩
    have HB07 := Go.Lib.hid (HB06.out.trans (drN_below hd7 _))
    clear hd7
    go_wp2
    go_ret
    exact ⟨rfl, HB07.out⟩
end Go.Proofs.YtipjdkdonmoojaaDoor
