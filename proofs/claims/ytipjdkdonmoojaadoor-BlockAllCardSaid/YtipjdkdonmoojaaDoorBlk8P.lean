/- Package turnstileref08: Pack. -/
import Derived.Test.YtipjdkdonmoojaaDoorBlk8F
namespace Go.Proofs.YtipjdkdonmoojaaDoor
open Go Go.RowKit
set_option linter.unusedVariables false
set_option linter.unusedSimpArgs false
attribute [local go_sem] c64_8 c8_64 c32_64 c64_32 n64_self n8_self n32_self beq_n64 beq_n8 bne_n8 bne_n64

set_option maxRecDepth 100000 in
set_option maxHeartbeats 3200000 in
theorem pack8_calls (A : Option Addr) (c : Nat) (rs : List (List UInt8)) (first : UInt64) (w : World) (hn : rs.length ≤ 2097152) (hnc : rs.length ≤ c) (hc : c ≤ 9223372036854775807) (hA : RowsB w A rs) :
    Calls Tryd.prog 24 #[.int .u64 (n64 first), .slice A rs.length c] w fun e w' => Gave8 w w' e (packB first rs) := by
  obtain ⟨W, hW⟩ : ∃ W, W = w.alloc (.cells #[] 5) := ⟨_, rfl⟩
  have HBW : Hid (Below w.heap.size w W) := by rw [hW]; exact (Below.refl _ _).alloc (Nat.le_refl _) _
  have HOW : Hid (Own W w.heap.size 5 (.slice (some ⟨w.heap.size, 0, none⟩) 0 0) (Bs [])) := own_nil8 (by rw [hW]; exact heap_here w _ w.heap.size rfl) (Nat.le_refl _)
  by_cases h0 : rs.length = 0
  · rw [show packB first rs = ([], 0) by unfold packB; rw [if_pos h0], h0]
    clear hA
    go_enter Tryd.func24, Tryd.ntmps24
    go_wp2
    rw [← hW]
    go_ret2
    exact ⟨_, rfl, HOW.out, HBW.out⟩
  have d0 : ((rs.length : Int) == 0) = false := by rw [beq_eq_false_iff_ne]; omega
  have HC := Go.Lib.hid (numbered8_calls first rs.length W (by omega) (by omega))
  have HA := Go.Lib.hid hA
  have HW := Go.Lib.hid hW
  clear hA hW
  cases hN : numOK first rs.length
  · rw [show packB first rs = ([], 1) by unfold packB; rw [if_neg h0, hN, if_pos rfl]]
    rw [hN] at HC
    go_enter Tryd.func24, Tryd.ntmps24
    go_wp2_with fail
    rw [← HW.out]
    refine HC.out.mono ?_
    rintro e w1 ⟨rfl, rfl⟩
    go_wp2
    go_ret2
    exact ⟨_, rfl, own8_nil _ _, HBW.out⟩
  rw [hN] at HC
  have HX4 : Hid ((∃ r ∈ rs, 200 < r.length) → packB first rs = ([], 4)) := fun ⟨r, hr, hl⟩ => by
    unfold packB
    rw [if_neg h0, hN, if_neg (by simp), if_pos (List.any_eq_true.2 ⟨r, hr, decide_eq_true hl⟩)]
  have HX0 : Hid ((∀ r ∈ rs, r.length ≤ 200) → packB first rs = (packC first (chunks rs.length rs), 0)) := fun h => by
    unfold packB
    rw [if_neg h0, hN, if_neg (by simp), if_neg]
    rw [List.any_eq_true]
    rintro ⟨r, hr, hl⟩
    have := h r hr
    have := of_decide_eq_true hl
    omega
  have HN := Go.Lib.hid hN
  clear hN
  generalize packB first rs = ans at *
  go_enter Tryd.func24, Tryd.ntmps24
  go_wp2_with fail
  rw [← HW.out]
  refine HC.out.mono ?_
  rintro e w1 ⟨rfl, rfl⟩
  clear HC HW
  go_wp2
  go_loop [7] (fun i => ∃ k : Nat, k ≤ rs.length ∧ i = .int .i64 (k : Int) ∧ Hid (∀ r ∈ rs.take k, r.length ≤ 200)) (fun i => rs.length - (intOf i).toNat)
  case atStart => exact ⟨0, Nat.zero_le _, rfl, fun r hr => by simp at hr⟩
  case round =>
    obtain ⟨k, hk, rfl, H200⟩ := hrel
    by_cases hlt : k < rs.length
    · obtain ⟨b, o, hAe, A', c', hl', hck0, _⟩ := HA.out.row k hlt
      have hck := below_cell HBW.out hck0
      have hk0 : (0 : Int) ≤ (k : Int) := Int.natCast_nonneg _
      have hk1 : (k : Int) < (rs.length : Int) := by omega
      subst hAe
      clear hck0
      by_cases h200 : 200 < rs[k].length
      · have HL := Go.Lib.hid (HX4.out ⟨rs[k], List.getElem_mem hlt, h200⟩)
        have d1 : decide ((200 : Int) < (rs[k].length : Int)) = true := decide_eq_true (by omega)
        generalize rs[k].length = m at *
        go_wp2
        go_ret2
        rw [HL.out]
        exact ⟨_, rfl, own8_nil _ _, HBW.out⟩
      · have d1 : decide ((200 : Int) < (rs[k].length : Int)) = false := decide_eq_false (by omega)
        have H2 : Hid (∀ r ∈ rs.take (k + 1), r.length ≤ 200) := fun r hr => by
          rw [List.take_succ_eq_append_getElem hlt, List.mem_append] at hr
          rcases hr with hr | hr
          · exact H200.out r hr
          · simp at hr; subst hr; omega
        clear H200
        generalize rs[k].length = m at *
        go_wp2
        go_round
        case rel => exact ⟨k + 1, by omega, by go_num, H2⟩
        case measure => simp [intOf]; omega
    · have hkn : k = rs.length := by omega
      have h200 := H200.out
      rw [hkn, List.take_length] at h200
      have HAll := Go.Lib.hid h200
      have HANS := Go.Lib.hid (HX0.out h200)
      have HN0 := HN.out
      have HPK0 := Go.Lib.hid (pk_zero HN0)
      subst hkn
      clear h200 H200 HX4 HX0 HN HN0
      go_wp2
      go_loopw [6, 8] (fun v i wr => ∃ (d : Nat) (L : List UInt8), i = .int .i64 (d : Int) ∧ d ≤ rs.length ∧ Hid (PkR first rs (first + UInt64.ofNat d) d L) ∧ Hid (Own wr w.heap.size 5 v (Bs L)) ∧ Hid (Below w.heap.size w wr)) (fun _ i _ => rs.length - (intOf i).toNat)
      case atStart => exact ⟨0, [], rfl, by omega, by rw [show first + UInt64.ofNat 0 = first by simp]; exact HPK0, HOW, HBW⟩
      case round =>
        obtain ⟨d, L, rfl, hd, HPK, HO, HB⟩ := hrel
        clear HPK0 HOW HBW
        have HR := Go.Lib.hid (rows_below HB.out HA.out)
        have hd0 : (0 : Int) ≤ (d : Int) := Int.natCast_nonneg _
        by_cases hlt : d < rs.length
        · have hq1 : (d : Int) < (rs.length : Int) := by omega
          obtain ⟨A8, c8, rfl, HO8, _⟩ := own_open HO.out
          clear HO
          go_wp2
          go_loop [9, 10] (fun j room => ∃ (k m : Nat), j = .int .i64 (k : Int) ∧ room = .int .i64 (m : Int) ∧ d ≤ k ∧ k ≤ rs.length ∧ m ≤ 494 ∧ Hid (fitN (rs.drop d) 0 = (k - d) + fitN (rs.drop k) m)) (fun j _ => rs.length - (intOf j).toNat)
          case atStart => exact ⟨d, 0, rfl, rfl, Nat.le_refl _, by omega, by omega, by show _ = _; simp⟩
          case round =>
            obtain ⟨k, m, rfl, rfl, hdk, hk, hm, HF⟩ := hrel
            have hk0 : (0 : Int) ≤ (k : Int) := Int.natCast_nonneg _
            by_cases hgo : ∃ (h : k < rs.length), m + 2 + rs[k].length ≤ 494
            · obtain ⟨hkl, hfit⟩ := hgo
              obtain ⟨b, o, hAe, A2, c2, hl2, hck, _⟩ := HR.out.row k hkl
              have HF2 : Hid (fitN (rs.drop d) 0 = (k + 1 - d) + fitN (rs.drop (k + 1)) (m + 2 + rs[k].length)) := by show _ = _; rw [HF.out, fit_step hkl hfit]; omega
              have hk1 : (k : Int) < (rs.length : Int) := by omega
              have d1 : decide ((k : Int) < (rs.length : Int)) = true := decide_eq_true hk1
              subst hAe
              clear HF
              generalize rs[k].length = z at *
              have w1' : IntKind.i64.wrap ((m : Int) + 2) = ((m + 2 : Nat) : Int) := by rw [IntKind.wrap_i64]; omega
              have w2' : IntKind.i64.wrap (((m + 2 : Nat) : Int) + (z : Int)) = ((m + 2 + z : Nat) : Int) := by rw [IntKind.wrap_i64]; omega
              have d2 : decide (((m + 2 + z : Nat) : Int) ≤ 494) = true := decide_eq_true (by omega)
              have d3 : decide (m + 2 + z ≤ 494) = true := decide_eq_true hfit
              go_wp2
              go_round
              case rel => exact ⟨k + 1, m + 2 + z, by go_num, by go_num, by omega, by omega, by omega, HF2⟩
              case measure => simp [intOf]; omega
            · have hfk : fitN (rs.drop d) 0 = k - d := by
                by_cases hkl : k < rs.length
                · rw [HF.out, fit_stop hkl (fun h => hgo ⟨hkl, h⟩)]; omega
                · rw [HF.out, fit_end (by omega)]; omega
              obtain ⟨hs1, hs2, hs3, hs4, hs5⟩ := pk_step HPK.out HAll.out hlt hfk
              have hkd : d + (k - d) = k := by omega
              rw [u64_add, hkd] at hs5
              have hlen : ((rs.drop d).take (k - d)).length = k - d := by rw [List.length_take, List.length_drop]; omega
              have HE : Hid (Calls Tryd.prog 21 #[.int .u64 (n64 (first + UInt64.ofNat d)), .slice (cutA A c d) (k - d) (c - d)] wr (fun e w' => Gave8 wr w' e (blockB (first + UInt64.ofNat d) ((rs.drop d).take (k - d)), 0))) := by
                have h := encode8_calls (cutA A c d) (c - d) ((rs.drop d).take (k - d)) (first + UInt64.ofNat d) wr (by rw [hlen]; omega) (rows_take (rows_drop HR.out c d hnc) (k - d))
                rw [hs3, hlen] at h
                exact h
              have hcut : ∀ W : World, (Instr.slice 27 (.slice A rs.length c) (some (.int .i64 (d : Int))) (some (.int .i64 (k : Int))) none).run Tryd.prog W = .ok (.slice (cutA A c d) (k - d) (c - d)) W := run_cut_lh (P := Tryd.prog) 27 28 Tryd.underlying27 sizeRow A rs.length c d k hdk (by omega)
              have hkc : (k : Int) ≤ (c : Int) := by omega
              have hdki : (d : Int) ≤ (k : Int) := by omega
              have hw1 : IntKind.u64.wrap (d : Int) = (d : Int) := u64w _ (by omega) (by omega)
              have hw2 := u64_addN first d (by omega)
              have HS5 := Go.Lib.hid hs5
              have hLl : L.length ≤ 1073741824 := by have := HPK.out.len; omega
              have hdk1 : d + 1 ≤ k := by omega
              clear hs3 hs5 HF hfk hlen
              have hcase : (∃ (h : k < rs.length), 494 < m + 2 + rs[k].length) ∨ k = rs.length := by
                by_cases hkl : k < rs.length
                · exact .inl ⟨hkl, by have : ¬ _ := fun h => hgo ⟨hkl, h⟩; omega⟩
                · exact .inr (by omega)
              clear hgo
              rcases hcase with hcase | hcase
              case' inl =>
                obtain ⟨hkl, hbig⟩ := hcase
                obtain ⟨b, o, hAe, A2, c2, hl2, hck, _⟩ := HR.out.row k hkl
                have hk1 : (k : Int) < (rs.length : Int) := by omega
                have d1 : decide ((k : Int) < (rs.length : Int)) = true := decide_eq_true hk1
                have hz2 : rs[k].length ≤ 200 := HAll.out _ (List.getElem_mem hkl)
                generalize rs[k].length = z at *
                have w1' : IntKind.i64.wrap ((m : Int) + 2) = ((m + 2 : Nat) : Int) := by rw [IntKind.wrap_i64]; omega
                have w2' : IntKind.i64.wrap (((m + 2 : Nat) : Int) + (z : Int)) = ((m + 2 + z : Nat) : Int) := by rw [IntKind.wrap_i64]; omega
                have d2 : decide (((m + 2 + z : Nat) : Int) ≤ 494) = false := decide_eq_false (by omega)
                have d3 : decide (m + 2 + z ≤ 494) = false := decide_eq_false (by omega)
                subst hAe
                go_wp2_with fail
              case' inr =>
                have d1 : decide ((k : Int) < (rs.length : Int)) = false := decide_eq_false (by omega)
                have n1 : ¬ ((k : Int) < (rs.length : Int)) := by omega
                have n2 : ¬ (k < rs.length) := by omega
                have d2 : True := trivial
                have d3 : True := trivial
                have HCA := Go.Lib.hid hcase
                clear hcase
                go_wp2_with fail
              all_goals
                have HS4 := Go.Lib.hid hs4
                have hb4 : (blockB (first + UInt64.ofNat d) ((rs.drop d).take (k - d))).length ≤ 512 := by omega
                clear d1 d2 d3 hs4
                refine HE.out.mono ?_
                rintro e w2 ⟨v2, rfl, ho2, hb2⟩
                simp only at ho2
                clear HE
                generalize hblk : blockB (first + UInt64.ofNat d) ((rs.drop d).take (k - d)) = blk at *
                obtain ⟨A5, c5, rfl, HO5, HC5⟩ := own_open ho2
                have HB5 := Go.Lib.hid (HB.out.trans (hb2.mono HB.out.size))
                have HOL := Go.Lib.hid (own_drewless HO8.out hb2)
                have hsz5 := HB5.out.size
                have hroom5 : (Bs L).length + blk.length ≤ 140737488355328 := by rw [Bs_length]; omega
                clear ho2 hb2 hblk HO5
                go_wp2_with (first
                  | (at_builtin; (with_reducible refine wpList_append_all (W := w2) (s := .tmp 80) (x := .tmp 81) (t := 28) (e := 5) (z := .int .u8 0) (ht := Tryd.underlying28) (hinfo := info8) (base := w.heap.size) (v := .slice A8 L.length c8) (vs := Bs L) (hown := HOL.out) (hbase := hsz5) (A := A5) (c := c5) (l := blk) (hA := HC5.out) (hroom := hroom5) (hgd := rfl) (hz := ?_) (ho := ?_) (hs := ?_) (hx := ?_) (h := ?_)); rfl; rfl; rfl; rfl; intro v6 w6 hown6 hb6; have HO6 := Go.Lib.hid hown6; have HB6 := Go.Lib.hid (HB5.out.trans hb6); clear hown6 hb6))
                go_wp2
                go_roundw
                case rel =>
                  refine ⟨k, L ++ blk, rfl, by omega, HS5, ?_, HB6⟩
                  have h := HO6.out
                  rw [← Bs_append] at h
                  exact h
                case measure => simp [intOf]; omega
        · have hdn : d = rs.length := by omega
          have HL := Go.Lib.hid (pk_end HPK.out (by omega))
          clear hdn
          go_wp2
          go_ret2
          rw [HANS.out, HL.out]
          exact ⟨_, rfl, HO.out, HB.out⟩
end Go.Proofs.YtipjdkdonmoojaaDoor
