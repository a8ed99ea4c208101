/- Package turnstileref08: inside, Decode. -/
import Derived.Test.YtipjdkdonmoojaaDoorBlk8E
namespace Go.Proofs.YtipjdkdonmoojaaDoor
open Go Go.RowKit
set_option linter.unusedVariables false
set_option linter.unusedSimpArgs false
attribute [local go_sem] IntKind.wrap_u64 c64_8 c8_64 c32_64 c64_32 n64_self n8_self n32_self beq_n64 beq_n8 bne_n8 bne_n64

theorem textS_few (rest : List UInt8) (h : rest.length < 2) : (textS rest 0).2.2 ≠ 0 := by
  have e : fixedS rest 0 2 = (0, rest, 1) := by unfold fixedS takeS; rw [if_pos rfl, if_pos h]
  unfold textS takeS
  rw [e]
  simp
theorem textS_some (rest : List UInt8) (h : 2 ≤ rest.length) (N : Nat) (hN : N = (leV (rest.take 2)).toNat) :
    (rest.length - 2 < N → (textS rest 0).2.2 ≠ 0) ∧ (¬ rest.length - 2 < N → textS rest 0 = ((rest.drop 2).take N, (rest.drop 2).drop N, 0)) := by
  have e : fixedS rest 0 2 = (leV (rest.take 2), rest.drop 2, 0) := by unfold fixedS takeS; rw [if_pos rfl, if_neg (by omega)]
  refine ⟨fun h1 => ?_, fun h1 => ?_⟩
  · unfold textS takeS
    rw [e]
    simp only [← hN, List.length_drop]
    rw [if_pos h1]
    simp
  · unfold textS takeS
    rw [e]
    simp only [← hN, List.length_drop]
    rw [if_neg h1]
    simp
/-- a block's records, as 'inside' tells them -/
def insB (n : Nat) (R : List UInt8) : Option (List (List UInt8)) :=
  match takeRecs n R with
  | none => none
  | some (l, q) => if q.all (· == 0) = true then some l else none
theorem insB_none {n : Nat} {R : List UInt8} (h : takeRecs n R = none) : insB n R = none := by unfold insB; rw [h]
theorem insB_some {n : Nat} {R q : List UInt8} {l : List (List UInt8)} (h : takeRecs n R = some (l, q)) : insB n R = if q.all (· == 0) = true then some l else none := by unfold insB; rw [h]
def GaveI (w w' : World) (e : Ending) (d : Option (List (List UInt8))) : Prop :=
  (match d with
  | none => e = .returned (.tuple #[.slice none 0 0, .bool false])
  | some l => ∃ v vs, e = .returned (.tuple #[v, .bool true]) ∧ Own w' w.heap.size 28 v vs ∧ AllT w' vs l) ∧ Below w.heap.size w w'
theorem gaveI_none {w w' : World} (h : Below w.heap.size w w') : GaveI w w' (.returned (.tuple #[.slice none 0 0, .bool false])) none := ⟨rfl, h⟩
theorem gaveI_some {w w' : World} {v : Value} {vs : List Value} {l : List (List UInt8)} (ho : Own w' w.heap.size 28 v vs) (ha : AllT w' vs l) (h : Below w.heap.size w w') : GaveI w w' (.returned (.tuple #[v, .bool true])) (some l) := ⟨⟨v, vs, rfl, ho, ha⟩, h⟩
theorem own_nilRow {w : World} {g b : Nat} (hg : w.heap[g]? = some (.cells #[] 28 (0, 0))) (hb : b ≤ g) : Own w b 28 (.slice (some ⟨g, 0, none⟩) 0 0) [] :=
  ⟨rfl, .inr ⟨g, 0, #[], rfl, hb, hg, Nat.le_refl _, by unfold maxLen; omega, rfl, rfl⟩⟩

set_option maxRecDepth 100000 in
set_option maxHeartbeats 3200000 in
theorem inside8_calls (A : Option Addr) (c : Nat) (b : List UInt8) (n : Nat) (w : World) (hl : b.length = 512) (hc : 512 ≤ c) (hc2 : c ≤ 9223372036854775807) (hn : n ≤ 65535) (hA : Cells w A (Bs b)) :
    Calls Tryd.prog 45 #[.slice A 512 c, .int .i64 (n : Int)] w fun e w' => GaveI w w' e (insB n (b.drop 18)) := by
  have HA := Go.Lib.hid hA
  have HL := Go.Lib.hid hl
  obtain ⟨R, hR⟩ : ∃ R, R = b.drop 18 := ⟨_, rfl⟩
  rw [← hR]
  have HR := Go.Lib.hid hR
  obtain ⟨ans, hans⟩ : ∃ ans, ans = insB n R := ⟨_, rfl⟩
  rw [← hans]
  have HANS := Go.Lib.hid hans
  obtain ⟨W, hW⟩ : ∃ W, W = w.alloc (.cells #[] 28) := ⟨_, rfl⟩
  have HBW : Hid (Below w.heap.size w W) := by rw [hW]; exact (Below.refl _ _).alloc (Nat.le_refl _) _
  have HOW : Hid (Own W w.heap.size 28 (.slice (some ⟨w.heap.size, 0, none⟩) 0 0) []) := own_nilRow (by rw [hW]; exact heap_here w _ w.heap.size rfl) (Nat.le_refl _)
  clear hA hR hans hl
  go_enter Tryd.func45, Tryd.ntmps45
  go_wp2
  rw [← hW]
  clear hW
  go_loopw [6, 7, 8] (fun v p i wr => ∃ (k q : Nat) (acc : List (List UInt8)) (vs : List Value), k ≤ n ∧ i = .int .i64 (k : Int) ∧ p = .int .i64 (q : Int) ∧ 18 ≤ q ∧ q ≤ 512 ∧ Hid (TKr n k R (b.drop q) acc) ∧ Hid (Own wr w.heap.size 28 v vs) ∧ Hid (AllT wr vs acc) ∧ vs.length ≤ k ∧ Hid (Below w.heap.size w wr)) (fun _ _ i _ => n - (intOf i).toNat)
  case atStart => exact ⟨0, 18, [], [], by omega, rfl, rfl, by omega, by omega, by rw [← HR.out]; exact tk_zero n R, HOW, allT_nil _, Nat.le_refl _, HBW⟩
  case round =>
    obtain ⟨k, q, acc, vs, hk, rfl, rfl, hq1, hq2, HTK, HO, HAT, hvs, HB⟩ := hrel
    clear HOW HBW
    by_cases hlt : k < n
    · have hrl : (b.drop q).length = 512 - q := by rw [List.length_drop, HL.out]
      have wq2 : IntKind.i64.wrap ((q : Int) + 2) = ((q + 2 : Nat) : Int) := by rw [IntKind.wrap_i64]; omega
      by_cases hfew : 512 < q + 2
      · have HE : Hid (ans = none) := HANS.out.trans (insB_none (tk_bad HTK.out hlt (.inl (textS_few _ (by rw [hrl]; omega)))))
        have d1 : decide ((512 : Int) < ((q + 2 : Nat) : Int)) = true := decide_eq_true (by omega)
        have d2 : decide (512 < q + 2) = true := decide_eq_true hfew
        clear HTK hrl
        go_wp2
        go_ret2
        rw [HE.out]
        exact gaveI_none HB.out
      have d1 : decide ((512 : Int) < ((q + 2 : Nat) : Int)) = false := decide_eq_false (by omega)
      have d2 : decide (512 < q + 2) = false := decide_eq_false hfew
      have hnum := number8_calls A c b q 2 2 (q : Int) (by decide) rfl wr (by omega) (by omega) (by rw [HL.out]; omega) (by rw [HL.out]; omega) (cells_below HB.out HA.out)
      rw [HL.out] at hnum
      have HNUM := Go.Lib.hid hnum
      obtain ⟨N, hN⟩ : ∃ N, N = (leV ((b.drop q).take 2)).toNat := ⟨_, rfl⟩
      have hNlt : N < 65536 := by rw [hN]; exact leV_lt _ (by rw [List.length_take]; omega)
      have hNi : IntKind.i64.wrap (n64 (leV ((b.drop q).take 2))) = (N : Int) := by unfold n64; rw [IntKind.wrap_i64, ← hN]; omega
      obtain ⟨HT1, HT2⟩ := textS_some (b.drop q) (by rw [hrl]; omega) N hN
      have HTT1 := Go.Lib.hid HT1
      have HTT2 := Go.Lib.hid HT2
      generalize leV ((b.drop q).take 2) = nv at *
      clear hnum hN HT1 HT2
      by_cases hbad : 200 < N ∨ 512 < q + 2 + N
      · have HE : Hid (ans = none) := by
          refine HANS.out.trans (insB_none (tk_bad HTK.out hlt ?_))
          by_cases h2 : (b.drop q).length - 2 < N
          · exact .inl (HTT1.out h2)
          · rw [HTT2.out h2]
            right
            simp only [List.length_take, List.length_drop, HL.out]
            rw [hrl] at h2
            omega
        clear HTK hrl HTT1 HTT2
        by_cases h200 : 200 < N
        · have d3 : decide ((200 : Int) < (N : Int)) = true := decide_eq_true (by omega)
          have d4 : decide (200 < N) = true := decide_eq_true h200
          go_wp2_with fail
          refine HNUM.out.mono ?_
          rintro e w3 ⟨rfl, hd3⟩
          have HB3 := Go.Lib.hid (HB.out.trans (drN_below hd3 _))
          clear HNUM hd3
          go_wp2
          go_ret2
          rw [HE.out]
          exact gaveI_none HB3.out
        · have d3 : decide ((200 : Int) < (N : Int)) = false := decide_eq_false (by omega)
          have d4 : decide (200 < N) = false := decide_eq_false h200
          have h5 : 512 < q + 2 + N := by omega
          have wq3 : IntKind.i64.wrap (((q + 2 : Nat) : Int) + (N : Int)) = ((q + 2 + N : Nat) : Int) := by rw [IntKind.wrap_i64]; omega
          have d5 : decide ((512 : Int) < ((q + 2 + N : Nat) : Int)) = true := decide_eq_true (by omega)
          have d6 : decide (512 < q + 2 + N) = true := decide_eq_true h5
          go_wp2_with fail
          refine HNUM.out.mono ?_
          rintro e w3 ⟨rfl, hd3⟩
          have HB3 := Go.Lib.hid (HB.out.trans (drN_below hd3 _))
          clear HNUM hd3
          go_wp2
          go_ret2
          rw [HE.out]
          exact gaveI_none HB3.out
      have h200 : ¬ 200 < N := fun h => hbad (.inl h)
      have h512 : ¬ 512 < q + 2 + N := fun h => hbad (.inr h)
      have d3 : decide ((200 : Int) < (N : Int)) = false := decide_eq_false (by omega)
      have d4 : decide (200 < N) = false := decide_eq_false h200
      have wq3 : IntKind.i64.wrap (((q + 2 : Nat) : Int) + (N : Int)) = ((q + 2 + N : Nat) : Int) := by rw [IntKind.wrap_i64]; omega
      have d5 : decide ((512 : Int) < ((q + 2 + N : Nat) : Int)) = false := decide_eq_false (by omega)
      have d6 : decide (512 < q + 2 + N) = false := decide_eq_false h512
      have hts := HTT2.out (by rw [hrl]; omega)
      have hstep := tk_step HTK.out hlt (by rw [hts]) (by rw [hts]; simp only [List.length_take]; omega)
      rw [hts] at hstep
      simp only [List.drop_drop] at hstep
      have HST := Go.Lib.hid hstep
      obtain ⟨P, hP⟩ : ∃ P, P = q + 2 := ⟨_, rfl⟩
      rw [← hP] at HST wq2 wq3 d1 d2 d5 d6 h512 hfew
      have hPq : 20 ≤ P := by omega
      clear hts hstep HTK HTT1 HTT2 hrl hbad hP
      go_wp2_with fail
      refine HNUM.out.mono ?_
      rintro e w3 ⟨rfl, hd3⟩
      have HB3 := Go.Lib.hid (HB.out.trans (drN_below hd3 _))
      have HO3 := Go.Lib.hid (own_drewless HO.out (drN_below hd3 _))
      have HAT3 := Go.Lib.hid (allT_keep HAT.out (keepB_below (drN_below hd3 _)))
      obtain ⟨W4, hW4⟩ : ∃ W4, W4 = w3.alloc (.cells #[] 5) := ⟨_, rfl⟩
      have HB4 : Hid (Below w3.heap.size w3 W4) := by rw [hW4]; exact (Below.refl _ _).alloc (Nat.le_refl _) _
      have HO4 : Hid (Own W4 w3.heap.size 5 (.slice (some ⟨w3.heap.size, 0, none⟩) 0 0) (Bs [])) := own_nil8 (by rw [hW4]; exact heap_here w3 _ w3.heap.size rfl) (Nat.le_refl _)
      have HW4 := Go.Lib.hid hW4
      clear HNUM hd3 HO HAT HB hW4
      go_wp2
      rw [← HW4.out]
      clear HW4
      go_loopw [10, 11] (fun v j wr => ∃ m : Nat, m ≤ N ∧ j = .int .i64 (m : Int) ∧ Hid (Own wr w3.heap.size 5 v (Bs ((b.drop P).take m))) ∧ Hid (Below w3.heap.size w3 wr)) (fun _ j _ => N - (intOf j).toNat)
      case atStart => exact ⟨0, by omega, rfl, by rw [List.take_zero]; exact HO4, HB4⟩
      case round =>
        obtain ⟨m, hm, rfl, HOm, HBm⟩ := hrel
        clear HO4 HB4
        have HDL := Go.Lib.hid (show (b.drop P).length = 512 - P by rw [List.length_drop, HL.out])
        by_cases hmn : m < N
        · obtain ⟨K, hK⟩ : ∃ K, K = P + m := ⟨_, rfl⟩
          have hKl : K < 512 := by omega
          have hKb : K < b.length := by rw [HL.out]; exact hKl
          obtain ⟨bb, o, rfl, hcell⟩ := HA.out.byte K hKb
          have hck := below_cell HBm.out (below_cell HB3.out hcell)
          have hwk : IntKind.i64.wrap ((P : Int) + (m : Int)) = (K : Int) := by rw [IntKind.wrap_i64]; omega
          have hK0 : (0 : Int) ≤ (K : Int) := Int.natCast_nonneg _
          have hK1 : (K : Int) < 512 := by omega
          have hm' : m < (b.drop P).length := by rw [HDL.out]; omega
          have HTX : Hid ((b.drop P).take (m + 1) = (b.drop P).take m ++ [b[K]]) := by
            show _ = _
            rw [List.take_succ_eq_append_getElem hm', List.getElem_drop]
            simp only [hK]
          generalize b[K] = x at *
          obtain ⟨q2, hq2'⟩ : ∃ q2, q2 = (b.drop P).take m := ⟨_, rfl⟩
          have hq2l : q2.length ≤ 1000 := by rw [hq2', List.length_take]; omega
          rw [← hq2'] at HOm HTX
          have hsz := HBm.out.size
          have hroom : (((Bs q2).length + 1) + ((Bs q2).length + 1) / 4 + 192) * 1 ≤ 281474976710656 := by rw [Bs_length]; omega
          have hmax : (Bs q2).length + 1 ≤ 9223372036854775807 := by rw [Bs_length]; omega
          clear hq2' hcell hm' hK hKb
          go_wp2_with (first
            | (at_builtin; (with_reducible refine wpList_append_val (W := wr) (u := .int .u8 (n8 x)) (base := w3.heap.size) (vs := Bs q2) (s := .tmp 41) (x := .tmp 48) (t := 28) (e := 5) (z := .int .u8 0) (bytes := 1) (hinfo := info8) (ht := Tryd.underlying28) (hown := HOm.out) (hbase := hsz) (hgd := rfl) (ho := ?_) (hz := ?_) (hs := ?_) (hu := ?_) (hx := ?_) (hroom := hroom) (hmax := hmax) (h := ?_)); rfl; rfl; rfl; rfl; rfl; intro v1 wn hown1 hgr; have HON := Go.Lib.hid hown1; have HBN := Go.Lib.hid (below_grown HBm.out HOm.out hgr (Nat.le_refl _) hsz); clear hown1 hgr))
          go_roundw
          case rel =>
            refine ⟨m + 1, by omega, by go_num, ?_, HBN⟩
            have e := HON.out
            rw [Bs_snoc, ← HTX.out] at e
            exact e
          case measure => simp [intOf]; omega
        · have hmN : m = N := by omega
          have ho := HOm.out
          rw [hmN] at ho
          have HOR := Go.Lib.hid ho
          have HSLT := Go.Lib.hid (slT_own HOR.out)
          have hkb := keepB_below HBm.out
          have HAT5 := Go.Lib.hid (allT_keep HAT3.out hkb)
          have HO5 := Go.Lib.hid (own_drewless HO3.out HBm.out)
          have HB5 := Go.Lib.hid (HB3.out.trans (HBm.out.mono HB3.out.size))
          have hs5 := HB5.out.size
          have hroom : ((vs.length + 1) + (vs.length + 1) / 4 + 192) * 24 ≤ 281474976710656 := by omega
          have hmax : vs.length + 1 ≤ 9223372036854775807 := by omega
          obtain ⟨A9, c9, hv9, _, _, _⟩ := own_slice HOR.out
          rw [hv9] at HSLT ⊢
          clear ho HOm HBm hkb HAT3 HO3 HB3 HOR hv9
          go_wp2_with (first
            | (at_builtin; (with_reducible refine wpList_append_val (W := wr) (u := .slice A9 (Bs ((b.drop P).take N)).length c9) (base := w.heap.size) (vs := vs) (s := .tmp 50) (x := .tmp 52) (t := 27) (e := 28) (z := .slice none 0 0) (bytes := 24) (hinfo := infoRow) (ht := Tryd.underlying27) (hown := HO5.out) (hbase := hs5) (hgd := rfl) (ho := ?_) (hz := ?_) (hs := ?_) (hu := ?_) (hx := ?_) (hroom := hroom) (hmax := hmax) (h := ?_)); rfl; rfl; rfl; rfl; rfl; intro v6 w6 hown6 hgr6; have HO6 := Go.Lib.hid hown6; have HB6 := Go.Lib.hid (below_grown HB5.out HO5.out hgr6 (Nat.le_refl _) hs5); have HK6 := Go.Lib.hid (keepB_grown HO5.out (by decide) hgr6); clear hown6 hgr6))
          have HAT6 := Go.Lib.hid (allT_keep (allT_snoc HAT5.out HSLT.out) HK6.out)
          clear HAT5 HSLT HK6 HO5 HB5
          go_wp2
          go_roundw
          case rel => exact ⟨k + 1, P + N, _, _, by omega, by go_num, by go_num, by omega, by omega, HST, HO6, HAT6, by simp; omega, HB6⟩
          case measure => simp [intOf]; omega
    · have hkn : k = n := by omega
      have htk := HTK.out
      rw [hkn] at htk
      have HEND := Go.Lib.hid (HANS.out.trans (insB_some (tk_end htk)))
      obtain ⟨z0, hz0⟩ : ∃ z0, z0 = (b.drop q).all (· == 0) := ⟨_, rfl⟩
      rw [← hz0] at HEND
      have HZ0 := Go.Lib.hid hz0
      clear htk HTK hz0
      obtain ⟨A8, c8, rfl, _, _, _⟩ := own_slice HO.out
      go_wp2
      go_loopw [7] (fun p wr => ∃ j : Nat, j ≤ 512 ∧ p = .int .i64 (j : Int) ∧ Hid (z0 = (b.drop j).all (· == 0)) ∧ Hid (Own wr w.heap.size 28 (.slice A8 vs.length c8) vs) ∧ Hid (AllT wr vs acc) ∧ Hid (Below w.heap.size w wr)) (fun p _ => 512 - (intOf p).toNat)
      case atStart => exact ⟨q, hq2, rfl, HZ0, HO, HAT, HB⟩
      case round =>
        obtain ⟨j, hj, rfl, HZ, HOj, HATj, HBj⟩ := hrel
        clear HZ0 HO HAT HB
        by_cases hj5 : j < 512
        · have hjb : j < b.length := by rw [HL.out]; exact hj5
          obtain ⟨bb, o, rfl, hcell⟩ := HA.out.byte j hjb
          have hck := below_cell HBj.out hcell
          have hj0 : (0 : Int) ≤ (j : Int) := Int.natCast_nonneg _
          have hj1 : (j : Int) < 512 := by omega
          have HZX : Hid (z0 = ((b[j] == 0) && (b.drop (j + 1)).all (· == 0))) := by
            show z0 = _
            rw [HZ.out, List.drop_eq_getElem_cons hjb, List.all_cons]
          generalize b[j] = x at *
          clear hcell HZ hjb
          have hx8 : (n8 x == 0) = (x == 0) := by have := beq_n8 x 0; rw [← this]; rfl
          cases hx : (x == 0)
          · rw [hx] at hx8
            have hx9 : (n8 x != 0) = true := by unfold bne; rw [hx8]; rfl
            have HE : Hid (ans = none) := by
              show ans = none
              rw [HEND.out, if_neg]
              rw [HZX.out, hx]
              simp
            clear HEND HZX
            go_wp2
            go_ret2
            rw [HE.out]
            exact gaveI_none HBj.out
          · rw [hx] at hx8
            have hx9 : (n8 x != 0) = false := by unfold bne; rw [hx8]; rfl
            have HZN : Hid (z0 = (b.drop (j + 1)).all (· == 0)) := by
              show z0 = _
              rw [HZX.out, hx, Bool.true_and]
            clear HZX
            go_wp2
            go_roundw
            case rel => exact ⟨j + 1, by omega, by go_num, HZN, HOj, HATj, HBj⟩
            case measure => simp [intOf]; omega
        · have hj512 : j = 512 := by omega
          have HE : Hid (ans = some acc) := by
            show ans = _
            rw [HEND.out, if_pos]
            rw [HZ.out, List.drop_eq_nil_of_le (by rw [HL.out]; omega)]
            rfl
          clear HEND HZ
          go_wp2
          go_ret2
          rw [HE.out]
          exact gaveI_some HOj.out HATj.out HBj.out
end Go.Proofs.YtipjdkdonmoojaaDoor
