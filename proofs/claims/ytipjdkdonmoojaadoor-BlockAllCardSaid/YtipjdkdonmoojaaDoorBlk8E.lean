/- Package turnstileref08: Encode. -/
import Derived.Test.YtipjdkdonmoojaaDoorBlk8A
namespace Go.Proofs.YtipjdkdonmoojaaDoor
open Go Go.RowKit
set_option linter.unusedVariables false
set_option linter.unusedSimpArgs false
attribute [local go_sem] IntKind.wrap_u64 c64_8 c8_64 c32_64 c64_32 n64_self n8_self n32_self beq_n64 beq_n8 bne_n8 bne_n64

/-- what the reference's Encode and Pack give -/
def Gave8 (w w' : World) (e : Ending) (d : List UInt8 × Nat) : Prop := ∃ v, e = .returned (.tuple #[v, .int .i64 (d.2 : Int)]) ∧ Own w' w.heap.size 5 v (Bs d.1) ∧ Below w.heap.size w w'
theorem own8_nil (w : World) (b : Nat) : Own w b 5 (.slice none 0 0) (Bs []) := World.ownsRow_nil _ _ _ 1
theorem own_setc {w : World} {base e n cap g : Nat} {vs : List Value} {x : Value} {j : Nat} (h : Own w base e (.slice (some ⟨g, 0, none⟩) n cap) vs) (hj : j < vs.length) : Own (w.setCell ⟨g, j, none⟩ x) base e (.slice (some ⟨g, 0, none⟩) n cap) (vs.set j x) := by
  obtain ⟨h1, h2⟩ := h
  refine ⟨by rw [List.length_set]; exact h1, ?_⟩
  rcases h2 with ⟨hv, _⟩ | ⟨g', cap', cur, hv, hg, hh, hn, hc, hsz, htk⟩
  · cases hv
  · simp only [Value.slice.injEq, Option.some.injEq, Addr.mk.injEq, and_true, true_and] at hv
    obtain ⟨rfl, rfl, rfl⟩ := hv
    refine .inr ⟨g, cap, cur.setIfInBounds j x, by rw [List.length_set], hg, heap_setCell_same w g j _ _ x hh, by rw [List.length_set]; exact hn, hc, by rw [Array.size_setIfInBounds]; exact hsz, ?_⟩
    rw [List.length_set, Array.toList_setIfInBounds, List.take_set, htk]
theorem own_cell {w : World} {base e n cap g : Nat} {vs : List Value} (h : Own w base e (.slice (some ⟨g, 0, none⟩) n cap) vs) {j : Nat} (hj : j < vs.length) : ∃ v, w.cell? ⟨g, j, none⟩ = some v := by
  obtain ⟨A, c, hv, _, _, hc⟩ := own_slice h
  cases hv
  obtain ⟨b, o, hA, hcc⟩ := hc (by omega)
  cases hA
  exact ⟨_, by have := hcc j hj; simpa using this⟩
theorem own_free {w : World} {base e n cap g : Nat} {vs : List Value} (h : Own w base e (.slice (some ⟨g, 0, none⟩) n cap) vs) (j : Nat) : w.frozen? ⟨g, j, none⟩ = false ∧ base ≤ g ∧ vs.length ≤ cap := by
  rcases h.2 with ⟨hv, _⟩ | ⟨g', cap', cur, hv, hg, hh, hn, hc, hsz, htk⟩
  · cases hv
  · simp only [Value.slice.injEq, Option.some.injEq, Addr.mk.injEq, and_true, true_and] at hv
    obtain ⟨rfl, _, rfl⟩ := hv
    exact ⟨heap_frozen hh j, hg, hn⟩
theorem own_block {w : World} {base e : Nat} {v : Value} {vs : List Value} (h : Own w base e v vs) (h0 : 0 < vs.length) : ∃ g cap, v = .slice (some ⟨g, 0, none⟩) vs.length cap ∧ base ≤ g ∧ vs.length ≤ cap ∧ cap ≤ 9223372036854775807 := by
  rcases h.2 with ⟨_, h1⟩ | ⟨g, cap, cur, hv, hg, hh, hn, hc, hsz, htk⟩
  · omega
  · unfold maxLen at hc
    exact ⟨g, cap, hv, hg, hn, by omega⟩

theorem own_lt {w : World} {base e n cap g : Nat} {vs : List Value} (h : Own w base e (.slice (some ⟨g, 0, none⟩) n cap) vs) : g < w.heap.size := by
  rcases h.2 with ⟨hv, _⟩ | ⟨g', cap', cur, hv, hg, hh, _⟩
  · cases hv
  · simp only [Value.slice.injEq, Option.some.injEq, Addr.mk.injEq, and_true, true_and] at hv
    obtain ⟨rfl, _, rfl⟩ := hv
    exact heap_lt hh
theorem own_belowB {w w' : World} {base e n cap g B : Nat} {vs : List Value} (h : Own w base e (.slice (some ⟨g, 0, none⟩) n cap) vs) (hb : Below B w w') (hg : g < B) : Own w' base e (.slice (some ⟨g, 0, none⟩) n cap) vs := by
  refine ⟨h.1, ?_⟩
  rcases h.2 with ⟨hv, h0⟩ | ⟨g', cap', cur, hv, hg', hh, r⟩
  · exact .inl ⟨hv, h0⟩
  · have hv' := hv
    simp only [Value.slice.injEq, Option.some.injEq, Addr.mk.injEq, and_true, true_and] at hv
    obtain ⟨rfl, _, rfl⟩ := hv
    exact .inr ⟨g, cap, cur, hv', hg', (hb.block g hg).trans hh, r⟩
theorem cells_setne {w : World} {g g' o : Nat} {vs : List Value} {v : Value} (h : Cells w (some ⟨g, 0, none⟩) vs) (hne : g ≠ g') : Cells (w.setCell ⟨g', o, none⟩ v) (some ⟨g, 0, none⟩) vs := fun h0 => by
  obtain ⟨b, o', ha, hc⟩ := h h0
  cases ha
  exact ⟨g, 0, rfl, fun i hi => far_cell hne (hc i hi)⟩
theorem splice_next {q s : List UInt8} {m : Nat} (hq : q.length = 512) (hs : s.length = 4) (hm : m < 4) : (Bs (q.take 14 ++ s.take m ++ q.drop (14 + m))).set (14 + m) (.int .u8 (n8 (s[m]'(by omega)))) = Bs (q.take 14 ++ s.take (m + 1) ++ q.drop (14 + (m + 1))) := by
  have hl : (q.take 14 ++ s.take m).length = 14 + m := by rw [List.length_append, List.length_take, List.length_take]; omega
  have e1 : (Bs (q.take 14 ++ s.take m ++ q.drop (14 + m))).set (14 + m) (.int .u8 (n8 (s[m]'(by omega)))) = Bs ((q.take 14 ++ s.take m ++ q.drop (14 + m)).set (14 + m) (s[m]'(by omega))) := by
    unfold Bs
    rw [List.map_set]
  rw [e1, ← hl, List.set_append_right _ _ (Nat.le_refl _), Nat.sub_self, hl, List.drop_eq_getElem_cons (by omega), List.set_cons_zero, List.take_succ_eq_append_getElem (l := s) (i := m) (by omega)]
  simp only [List.append_assoc, List.singleton_append, List.cons_append, List.nil_append, Nat.add_assoc]

set_option maxRecDepth 100000 in
set_option maxHeartbeats 1600000 in
theorem encode8_arg (A : Option Addr) (c : Nat) (rs : List (List UInt8)) (first : UInt64) (w : World) (hn : rs.length ≤ 9223372036854775807) (h : rs.length = 0 ∨ numOK first rs.length = false) :
    Calls Tryd.prog 21 #[.int .u64 (n64 first), .slice A rs.length c] w fun e w' => Gave8 w w' e ([], 1) := by
  by_cases h0 : rs.length = 0
  · rw [h0]
    clear h
    go_enter Tryd.func21, Tryd.ntmps21
    go_wp2
    go_ret2
    exact ⟨_, rfl, own8_nil _ _, Below.refl _ _⟩
  · have hN := Go.Lib.hid (h.resolve_left h0)
    have HC := Go.Lib.hid (numbered8_calls first rs.length w (by omega) hn)
    have d0 : ((rs.length : Int) == 0) = false := by rw [beq_eq_false_iff_ne]; omega
    clear h
    rw [hN.out] at HC
    generalize rs.length = n at *
    go_enter Tryd.func21, Tryd.ntmps21
    go_wp2_with fail
    refine HC.out.mono ?_
    rintro e w1 ⟨rfl, rfl⟩
    go_wp2
    go_ret2
    exact ⟨_, rfl, own8_nil _ _, Below.refl _ _⟩

/-- what the first loop has counted -/
def UsedR (rs : List (List UInt8)) (k used : Nat) : Prop := (∀ r ∈ rs.take k, r.length ≤ 200) ∧ (used = (bodyB (rs.take k)).length ∨ 494 < used ∧ 494 < (bodyB (rs.take k)).length)
theorem used_zero (rs : List (List UInt8)) : UsedR rs 0 0 := ⟨fun r hr => by simp at hr, .inl (by simp [bodyB])⟩
theorem used_next {rs : List (List UInt8)} {k used : Nat} (h : UsedR rs k used) (hk : k < rs.length) (h200 : rs[k].length ≤ 200) : UsedR rs (k + 1) (if used ≤ 494 then used + 2 + rs[k].length else used) := by
  have hbt := body_take rs k hk
  have hbl : (bodyB (rs.take (k + 1))).length = (bodyB (rs.take k)).length + (2 + rs[k].length) := by rw [hbt, List.length_append, recB_length]
  refine ⟨fun r hr => ?_, ?_⟩
  · rw [List.take_succ_eq_append_getElem hk, List.mem_append] at hr
    rcases hr with hr | hr
    · exact h.1 r hr
    · simp at hr; subst hr; omega
  · rcases h.2 with he | ⟨h1, h2⟩
    · by_cases hu : used ≤ 494
      · rw [if_pos hu]; left; omega
      · rw [if_neg hu]; right; omega
    · rw [if_neg (by omega)]; right; omega

set_option maxRecDepth 100000 in
set_option maxHeartbeats 1600000 in
theorem encode8_main (A : Option Addr) (c : Nat) (rs : List (List UInt8)) (first : UInt64) (w : World) (hn : rs.length ≤ 9223372036854775807) (h0 : rs.length ≠ 0) (hN : numOK first rs.length = true) (hA : RowsB w A rs) :
    Calls Tryd.prog 21 #[.int .u64 (n64 first), .slice A rs.length c] w fun e w' => Gave8 w w' e (encB first rs) := by
  have HE4 : Hid (longS rs = true → encB first rs = ([], 4)) := fun h => by unfold encB; rw [if_neg (by rw [hN]; simp; intro h; exact h0 (by rw [h]; rfl)), if_pos h]
  have HE0 : Hid (longS rs = false → encB first rs = (blockB first rs, 0)) := fun h => by unfold encB; rw [if_neg (by rw [hN]; simp; intro h; exact h0 (by rw [h]; rfl)), if_neg (by rw [h]; simp)]
  obtain ⟨ans, hans⟩ : ∃ ans, ans = encB first rs := ⟨_, rfl⟩
  rw [← hans] at HE4 HE0 ⊢
  clear hans
  have HC := Go.Lib.hid (numbered8_calls first rs.length w (by omega) hn)
  have d0 : ((rs.length : Int) == 0) = false := by rw [beq_eq_false_iff_ne]; omega
  have HA := Go.Lib.hid hA
  have HN := Go.Lib.hid hN
  rw [hN] at HC
  clear hA hN
  go_enter Tryd.func21, Tryd.ntmps21
  go_wp2_with fail
  refine HC.out.mono ?_
  rintro e w1 ⟨rfl, rfl⟩
  clear HC
  go_wp2
  go_loop [6, 7] (fun used i => ∃ k u : Nat, k ≤ rs.length ∧ i = .int .i64 (k : Int) ∧ used = .int .i64 (u : Int) ∧ u ≤ 700 ∧ Hid (UsedR rs k u)) (fun _ i => rs.length - (intOf i).toNat)
  case atStart => exact ⟨0, 0, Nat.zero_le _, rfl, rfl, by omega, used_zero rs⟩
  case round =>
    obtain ⟨k, u, hk, rfl, rfl, hu, HU⟩ := hrel
    by_cases hlt : k < rs.length
    · obtain ⟨b, o, hAe, A', c', hl', hck, _⟩ := HA.out.row k hlt
      have hk0 : (0 : Int) ≤ (k : Int) := Int.natCast_nonneg _
      have hk1 : (k : Int) < (rs.length : Int) := by omega
      subst hAe
      by_cases h200 : 200 < rs[k].length
      · have HL := Go.Lib.hid (longS_rec hlt h200)
        have d1 : decide ((200 : Int) < (rs[k].length : Int)) = true := decide_eq_true (by omega)
        generalize rs[k].length = m at *
        go_wp2
        go_ret2
        rw [HE4.out HL.out]
        exact ⟨_, rfl, own8_nil _ _, Below.refl _ _⟩
      · have d1 : decide ((200 : Int) < (rs[k].length : Int)) = false := decide_eq_false (by omega)
        have HNX := Go.Lib.hid (used_next HU.out hlt (by omega))
        have hm200 : rs[k].length ≤ 200 := by omega
        generalize rs[k].length = m at *
        clear h200 HU
        by_cases hbig : u ≤ 494
        · rw [if_pos hbig] at HNX
          have d2 : decide ((u : Int) ≤ (494 : Int)) = true := decide_eq_true (by omega)
          have d3 : decide (u ≤ 494) = true := decide_eq_true hbig
          have w1' : IntKind.i64.wrap ((u : Int) + 2) = ((u + 2 : Nat) : Int) := by rw [IntKind.wrap_i64]; omega
          have w2' : IntKind.i64.wrap (((u + 2 : Nat) : Int) + (m : Int)) = ((u + 2 + m : Nat) : Int) := by rw [IntKind.wrap_i64]; omega
          go_wp2
          go_round
          case rel => exact ⟨k + 1, u + 2 + m, by omega, by go_num, by go_num, by omega, HNX⟩
          case measure => simp [intOf]; omega
        · rw [if_neg hbig] at HNX
          have d2 : decide ((u : Int) ≤ (494 : Int)) = false := decide_eq_false (by omega)
          have d3 : decide (u ≤ 494) = false := decide_eq_false hbig
          go_wp2
          go_round
          case rel => exact ⟨k + 1, u, by omega, by go_num, rfl, by omega, HNX⟩
          case measure => simp [intOf]; omega
    · have hkn : k = rs.length := by omega
      have hu' := HU.out
      rw [hkn] at hu'
      unfold UsedR at hu'
      rw [List.take_length] at hu'
      have HUE := Go.Lib.hid hu'
      clear hu' HU
      by_cases hbig : 494 < u
      · have HL : Hid (longS rs = true) := longS_body (rs := rs) rs.length (by rw [List.take_length]; rcases HUE.out.2 with h | h <;> omega)
        have d2 : decide ((494 : Int) < (u : Int)) = true := decide_eq_true (by omega)
        have d3 : decide (494 < u) = true := decide_eq_true hbig
        go_wp2
        go_ret2
        rw [HE4.out HL.out]
        exact ⟨_, rfl, own8_nil _ _, Below.refl _ _⟩
      have d2 : decide ((494 : Int) < (u : Int)) = false := decide_eq_false (by omega)
      have d3 : decide (494 < u) = false := decide_eq_false hbig
      have hbody : (bodyB rs).length ≤ 494 := by rcases HUE.out.2 with h | h <;> omega
      have HE := Go.Lib.hid (HE0.out (longS_of HUE.out.1 hbody))
      have H2 := Go.Lib.hid HUE.out.1
      have hcnt := body_count rs
      subst hkn
      have hn65 : rs.length ≤ 65535 := by omega
      have hw64 : (rs.length : Int) % 18446744073709551616 = n64 (UInt64.ofNat rs.length) := by unfold n64; rw [UInt64.toNat_ofNat', Nat.mod_eq_of_lt (by omega)]; omega
      obtain ⟨W, hW⟩ : ∃ W, W = w1.alloc (.cells #[.int .u8 84, .int .u8 66, .int .u8 48, .int .u8 49] 5) := ⟨_, rfl⟩
      have hbW : Below w1.heap.size w1 W := by rw [hW]; exact (Below.refl _ _).alloc (Nat.le_refl _) _
      have hoW : Own W w1.heap.size 5 (.slice (some ⟨w1.heap.size, 0, none⟩) 4 4) (Bs magicB) := own_of_row (cs := #[.int .u8 84, .int .u8 66, .int .u8 48, .int .u8 49]) (by rw [hW]; exact heap_here w1 _ w1.heap.size rfl) (Nat.le_refl _) rfl (by omega) (by omega) rfl rfl
      have HP1 := Go.Lib.hid (put8_calls w1.heap.size _ magicB first 8 8 rfl W hbW.size (by decide) (by decide) hoW)
      have HBW := Go.Lib.hid hbW
      have HW := Go.Lib.hid hW
      clear hbW hoW hW d0 HUE HE4 HE0
      go_wp2_with fail
      rw [← HW.out]
      refine HP1.out.mono ?_
      rintro e w2 ⟨v2, rfl, ho2, hb2⟩
      have HBB2 := Go.Lib.hid (HBW.out.trans hb2)
      have HP2 := Go.Lib.hid (put8_calls w1.heap.size v2 (magicB ++ leS first 8) (UInt64.ofNat rs.length) 2 2 rfl w2 HBB2.out.size (by rw [List.length_append, leS_length]; simp [magicB]) (by decide) ho2)
      clear HP1 ho2 hb2 HBW HW
      rw [← hw64] at HP2
      go_wp2_with fail
      refine HP2.out.mono ?_
      rintro e w3 ⟨v3, rfl, ho3, hb3⟩
      have HBB3 := Go.Lib.hid (HBB2.out.trans hb3)
      have HP3 := Go.Lib.hid (put8_calls w1.heap.size v3 (headB first rs.length) 0 4 4 rfl w3 HBB3.out.size (by rw [headB_length]; omega) (by decide) ho3)
      rw [show n64 0 = 0 from rfl] at HP3
      clear HP2 ho3 hb3 HBB2 hw64
      go_wp2_with fail
      refine HP3.out.mono ?_
      rintro e w4 ⟨v4, rfl, ho4, hb4⟩
      have HBB4 := Go.Lib.hid (HBB3.out.trans hb4)
      obtain ⟨L4, hL4⟩ : ∃ L4, L4 = headB first rs.length ++ leS 0 4 := ⟨_, rfl⟩
      rw [← hL4] at ho4
      have HL4 : Hid (L4 = headB first rs.length ++ [0, 0, 0, 0]) := hL4
      have HLL4 := Go.Lib.hid (show L4.length = 18 by rw [hL4, List.length_append, headB_length]; rfl)
      have HOO4 := Go.Lib.hid ho4
      clear HP3 ho4 hb4 HBB3 hL4
      go_wp2
      go_loopw [8, 9] (fun v i wr => ∃ k : Nat, k ≤ rs.length ∧ i = .int .i64 (k : Int) ∧ Hid (Own wr w1.heap.size 5 v (Bs (L4 ++ bodyB (rs.take k)))) ∧ Hid (Below w1.heap.size w1 wr)) (fun _ i _ => rs.length - (intOf i).toNat)
      case atStart => exact ⟨0, Nat.zero_le _, rfl, by have := HOO4.out; show Own _ _ _ _ _; simpa [bodyB] using this, HBB4⟩
      case round =>
        obtain ⟨k, hk, rfl, HV, HB⟩ := hrel
        clear HOO4 HBB4
        have hbk := body_take_le rs k
        by_cases hlt : k < rs.length
        · obtain ⟨b, o, hAe, A', c', hl', hck, hcell⟩ := HA.out.row k hlt
          have hck' := below_cell HB.out hck
          have HCK := Go.Lib.hid hck
          have HCR := Go.Lib.hid hcell
          have hk0 : (0 : Int) ≤ (k : Int) := Int.natCast_nonneg _
          have hk1 : (k : Int) < (rs.length : Int) := by omega
          have h200 : rs[k].length ≤ 200 := H2.out _ (List.getElem_mem hlt)
          have HBT := Go.Lib.hid (body_take rs k hlt)
          subst hAe
          obtain ⟨q, hq⟩ : ∃ q, q = L4 ++ bodyB (rs.take k) := ⟨_, rfl⟩
          have hql : q.length ≤ 512 := by rw [hq, List.length_append, HLL4.out]; omega
          rw [← hq] at HV
          have HQ := Go.Lib.hid hq
          clear hck hq hcell hl' hbk
          generalize hr : rs[k] = r at *
          have HR := Go.Lib.hid hr
          clear hr
          have hwr64 : (r.length : Int) % 18446744073709551616 = n64 (UInt64.ofNat r.length) := by unfold n64; rw [UInt64.toNat_ofNat', Nat.mod_eq_of_lt (by omega)]; omega
          obtain ⟨A9, c9, rfl, HO9, HC9⟩ := own_open HV.out
          have HP := Go.Lib.hid (put8_calls w1.heap.size _ q (UInt64.ofNat r.length) 2 2 rfl wr HB.out.size (by omega) (by decide) HO9.out)
          rw [← hwr64] at HP
          go_wp2_with fail
          refine HP.out.mono ?_
          rintro e w5 ⟨v5, rfl, ho5, hb5⟩
          have HBB5 := Go.Lib.hid (HB.out.trans hb5)
          have HO5 := Go.Lib.hid ho5
          clear HP ho5 hb5 hwr64 hck' HV HB HO9 HC9
          go_wp2
          go_loopw [8, 10] (fun v j wq => ∃ m : Nat, m ≤ r.length ∧ j = .int .i64 (m : Int) ∧ Hid (Own wq w1.heap.size 5 v (Bs (q ++ leS (UInt64.ofNat r.length) 2 ++ r.take m))) ∧ Hid (Below w1.heap.size w1 wq)) (fun _ j _ => r.length - (intOf j).toNat)
          case atStart => exact ⟨0, by omega, rfl, by rw [List.take_zero, List.append_nil]; exact HO5, HBB5⟩
          case round =>
            obtain ⟨m, hm, rfl, HOm, HBm⟩ := hrel
            clear HO5 HBB5
            have hckm := below_cell HBm.out HCK.out
            by_cases hml : m < r.length
            · obtain ⟨b2, o2, rfl, hcx⟩ := HCR.out.byte m hml
              have hcm := below_cell HBm.out hcx
              have hm0 : (0 : Int) ≤ (m : Int) := Int.natCast_nonneg _
              have hm1 : (m : Int) < (r.length : Int) := by omega
              have HTK := Go.Lib.hid (show r.take (m + 1) = r.take m ++ [r[m]] from (List.take_append_getElem hml).symm)
              generalize r[m] = x at *
              obtain ⟨q2, hq2⟩ : ∃ q2, q2 = q ++ leS (UInt64.ofNat r.length) 2 ++ r.take m := ⟨_, rfl⟩
              have hq2l : q2.length ≤ 1000 := by rw [hq2, List.length_append, List.length_append, leS_length, List.length_take]; omega
              rw [← hq2] at HOm
              have HQ2 := Go.Lib.hid hq2
              have hsz := HBm.out.size
              have hroom : (((Bs q2).length + 1) + ((Bs q2).length + 1) / 4 + 192) * 1 ≤ 281474976710656 := by rw [Bs_length]; omega
              have hmax : (Bs q2).length + 1 ≤ 9223372036854775807 := by rw [Bs_length]; omega
              clear hq2 hcx
              go_wp2_with (first
                | (at_builtin; (with_reducible refine wpList_append_val (W := wr) (u := .int .u8 (n8 x)) (base := w1.heap.size) (vs := Bs q2) (s := .tmp 81) (x := .tmp 89) (t := 28) (e := 5) (z := .int .u8 0) (bytes := 1) (hinfo := info8) (ht := Tryd.underlying28) (hown := HOm.out) (hbase := hsz) (hgd := rfl) (ho := ?_) (hz := ?_) (hs := ?_) (hu := ?_) (hx := ?_) (hroom := hroom) (hmax := hmax) (h := ?_)); rfl; rfl; rfl; rfl; rfl; intro v1 wn hown1 hgr; have HON := Go.Lib.hid hown1; have HBN := Go.Lib.hid (below_grown HBm.out HOm.out hgr (Nat.le_refl _) hsz); clear hown1 hgr))
              go_roundw
              case rel =>
                refine ⟨m + 1, by omega, by go_num, ?_, HBN⟩
                have e := HON.out
                rw [Bs_snoc, HQ2.out, List.append_assoc, ← HTK.out] at e
                exact e
              case measure => simp [intOf]; omega
            · have hmr : m = r.length := by omega
              have ho := HOm.out
              rw [hmr, List.take_length] at ho
              have HOR := Go.Lib.hid ho
              clear ho HOm
              go_wp2
              go_roundw
              case rel =>
                refine ⟨k + 1, by omega, by go_num, ?_, HBm⟩
                have e := HOR.out
                rw [HQ.out] at e
                show Own _ _ _ _ (Bs (L4 ++ bodyB (rs.take (k + 1))))
                rw [HBT.out, recB]
                simpa using e
              case measure => simp [intOf]; omega
        · have hkn : k = rs.length := by omega
          have hv := HV.out
          rw [hkn, List.take_length] at hv
          obtain ⟨q, hq⟩ : ∃ q, q = L4 ++ bodyB rs := ⟨_, rfl⟩
          rw [← hq] at hv
          have hql : q.length ≤ 512 := by rw [hq, List.length_append, HLL4.out]; omega
          have HQL := Go.Lib.hid (show q.length = 18 + (bodyB rs).length by rw [hq, List.length_append, HLL4.out])
          have HQ := Go.Lib.hid hq
          have HV2 := Go.Lib.hid hv
          have HB2 := HB
          clear hv hq HV hbk hkn HB
          go_wp2
          go_loopw [8] (fun v wq => ∃ m : Nat, q.length + m ≤ 512 ∧ Hid (Own wq w1.heap.size 5 v (Bs (q ++ List.replicate m 0))) ∧ Hid (Below w1.heap.size w1 wq)) (fun v _ => 512 - lenS v)
          case atStart => exact ⟨0, by omega, by rw [List.replicate_zero, List.append_nil]; exact HV2, HB2⟩
          case round =>
            obtain ⟨m, hm, HOm, HBm⟩ := hrel
            clear HV2 HB2
            obtain ⟨q2, hq2⟩ : ∃ q2, q2 = q ++ List.replicate m (0 : UInt8) := ⟨_, rfl⟩
            have hq2l : q2.length = q.length + m := by rw [hq2, List.length_append, List.length_replicate]
            rw [← hq2] at HOm
            have HQ2 := Go.Lib.hid hq2
            have hq2b : q2.length ≤ 512 := by omega
            have HQ2L := Go.Lib.hid hq2l
            obtain ⟨A9, c9, rfl, HO9, HC9⟩ := own_open HOm.out
            clear HOm HC9 hq2 hq2l
            have hsz := HBm.out.size
            by_cases hlt5 : q2.length < 512
            · have hroom : (((Bs q2).length + 1) + ((Bs q2).length + 1) / 4 + 192) * 1 ≤ 281474976710656 := by rw [Bs_length]; omega
              have hmax : (Bs q2).length + 1 ≤ 9223372036854775807 := by rw [Bs_length]; omega
              have d5 : decide ((q2.length : Int) < 512) = true := decide_eq_true (by omega)
              go_wp2_with (first
                | (at_builtin; (with_reducible refine wpList_append_val (W := wr) (u := .int .u8 0) (base := w1.heap.size) (vs := Bs q2) (s := .tmp 94) (x := .tmp 95) (t := 28) (e := 5) (z := .int .u8 0) (bytes := 1) (hinfo := info8) (ht := Tryd.underlying28) (hown := HO9.out) (hbase := hsz) (hgd := rfl) (ho := ?_) (hz := ?_) (hs := ?_) (hu := ?_) (hx := ?_) (hroom := hroom) (hmax := hmax) (h := ?_)); rfl; rfl; rfl; rfl; rfl; intro v1 wn hown1 hgr; have HON := Go.Lib.hid hown1; have HBN := Go.Lib.hid (below_grown HBm.out HO9.out hgr (Nat.le_refl _) hsz); clear hown1 hgr))
              have ho := HON.out
              rw [show Value.int IntKind.u8 0 = .int .u8 (n8 0) from rfl, Bs_snoc] at ho
              obtain ⟨A10, c10, rfl, HO10, HC10⟩ := own_open ho
              clear ho HC10
              go_roundw
              case rel =>
                refine ⟨m + 1, by have := HQ2L.out; omega, ?_, HBN⟩
                have e : q ++ List.replicate (m + 1) (0 : UInt8) = q2 ++ [0] := by rw [HQ2.out, List.replicate_succ', List.append_assoc]
                rw [e]
                exact HO10
              case measure => simp only [lenS, List.length_append, List.length_singleton]; omega
            · have d5 : decide ((q2.length : Int) < 512) = false := decide_eq_false (by omega)
              have n5 : ¬ ((q2.length : Int) < 512) := by omega
              have HLb : Hid (q2 = headB first rs.length ++ [0, 0, 0, 0] ++ restB rs) := by
                show q2 = _
                have e1 := HQ2L.out
                have e2 := HQL.out
                rw [HQ2.out, HQ.out, HL4.out, restB, show m = 494 - (bodyB rs).length by omega]
                simp
              have hLl : q2.length = 512 := by omega
              obtain ⟨p1, p2, p3⟩ := parts (headB first rs.length) [0, 0, 0, 0] (restB rs) (headB_length _ _) rfl
              rw [← HLb.out] at p1 p2 p3
              obtain ⟨g, cap, hv, hbg, hcap, hcap2⟩ := own_block HO9.out (by rw [Bs_length]; omega)
              rw [Bs_length, hLl] at hv hcap
              have HO := Go.Lib.hid HO9.out
              rw [hLl] at HO ⊢
              simp only [Value.slice.injEq, true_and] at hv
              obtain ⟨rfl, rfl⟩ := hv
              obtain ⟨s, hs⟩ : ∃ s, s = sumB (headB first rs.length) (restB rs) := ⟨_, rfl⟩
              have hcL : Cells wr (some ⟨g, 0, none⟩) (Bs q2) := by
                obtain ⟨A', c', hv', _, _, hc'⟩ := own_slice HO.out
                rw [Bs_length, hLl] at hv'
                cases hv'
                exact hc'
              obtain ⟨W5, hW5⟩ : ∃ W5, W5 = wr.alloc (.cells #[] 5) := ⟨_, rfl⟩
              have hbW5 : Below wr.heap.size wr W5 := by rw [hW5]; exact (Below.refl _ _).alloc (Nat.le_refl _) _
              have HS := Go.Lib.hid (summed8_calls (some ⟨g, 0, none⟩) c9 q2 W5 hLl hcap hcap2 (cells_below hbW5 hcL))
              rw [p1, p3, ← hs] at HS
              have HNE : Hid (Own W5 W5.heap.size 5 (.slice (some ⟨wr.heap.size, 0, none⟩) 0 0) (Bs []) ∨ True) := .inr trivial
              have h5 : W5.heap[wr.heap.size]? = some (.cells #[] 5 (0, 0)) := by rw [hW5]; exact heap_here wr _ wr.heap.size rfl
              have H5 := Go.Lib.hid h5
              have HBW5 := Go.Lib.hid (HBm.out.trans (hbW5.mono hsz))
              have HO5 := Go.Lib.hid (own_drewless HO.out hbW5)
              have HSS := Go.Lib.hid hs
              have hgw : wr.heap.size ≤ W5.heap.size := hbW5.size
              have hglt := own_lt HO.out
              have HW5 := Go.Lib.hid hW5
              have HP1 := Go.Lib.hid p1
              have HP3 := Go.Lib.hid p3
              clear hs hcL hW5 hbW5 h5 HO9 HNE HO p1 p2 p3 hq2b hlt5 HQ2L hm
              go_wp2_with fail
              rw [← HW5.out]
              refine HS.out.mono ?_
              rintro e w6 ⟨rfl, hb6⟩
              have HBB6 := Go.Lib.hid (HBW5.out.trans (hb6.mono HBW5.out.size))
              have HO6 := Go.Lib.hid (own_drewless HO5.out hb6)
              have hO6e : Own w6 wr.heap.size 5 (.slice (some ⟨wr.heap.size, 0, none⟩) 0 0) (Bs []) := own_nil8 (below_heap hb6 H5.out) (Nat.le_refl _)
              have HPU := Go.Lib.hid (put8_calls wr.heap.size (.slice (some ⟨wr.heap.size, 0, none⟩) 0 0) [] s.toUInt64 4 4 rfl w6 (Nat.le_trans hgw hb6.size) (by decide) (by decide) hO6e)
              rw [List.nil_append] at HPU
              clear hb6 hO6e HS HO5 HBW5 HW5 H5
              go_wp2_with fail
              refine (show Calls _ _ _ _ _ from HPU.out).mono ?_
              rintro e w7 ⟨v7, rfl, ho7, hb7⟩
              have HBB7 := Go.Lib.hid (HBB6.out.trans (hb7.mono hsz))
              have HO7 := Go.Lib.hid (own_belowB HO6.out hb7 hglt)
              obtain ⟨S4, hS4⟩ : ∃ S4, S4 = leS s.toUInt64 4 := ⟨_, rfl⟩
              have hS4l : S4.length = 4 := by rw [hS4, leS_length]
              rw [← hS4] at ho7
              obtain ⟨g7, cap7, rfl, hbg7, _, _⟩ := own_block ho7 (by rw [Bs_length]; omega)
              have hc7 : Cells w7 (some ⟨g7, 0, none⟩) (Bs S4) := by
                obtain ⟨A', c', hv', _, _, hc'⟩ := own_slice ho7
                cases hv'
                exact hc'
              have hne : g7 ≠ g := by omega
              have HC7 := Go.Lib.hid hc7
              have HS4 := Go.Lib.hid hS4
              rw [Bs_length, hS4l]
              clear hb7 ho7 hc7 HBB6 HO6 HPU hS4
              go_wp2
              go_loopw [12] (fun i wr => ∃ m : Nat, m ≤ 4 ∧ i = .int .i64 (m : Int) ∧ Hid (Own wr w1.heap.size 5 (.slice (some ⟨g, 0, none⟩) 512 c9) (Bs (q2.take 14 ++ S4.take m ++ q2.drop (14 + m)))) ∧ Hid (Cells wr (some ⟨g7, 0, none⟩) (Bs S4)) ∧ Hid (Below w1.heap.size w1 wr)) (fun i _ => 4 - (intOf i).toNat)
              case atStart => exact ⟨0, by omega, rfl, by show Own _ _ _ _ (Bs (q2.take 14 ++ S4.take 0 ++ q2.drop (14 + 0))); rw [List.take_zero, List.append_nil, Nat.add_zero, List.take_append_drop]; exact HO7, HC7, HBB7⟩
              case round =>
                obtain ⟨m, hm, rfl, HOm, HCm, HBm⟩ := hrel
                clear HO7 HC7 HBB7
                by_cases hm4 : m < 4
                · have hlen : (Bs (q2.take 14 ++ S4.take m ++ q2.drop (14 + m))).length = 512 := by rw [Bs_length, List.length_append, List.length_append, List.length_take, List.length_take, List.length_drop]; omega
                  obtain ⟨v0, hcell⟩ := own_cell HOm.out (j := 14 + m) (by rw [hlen]; omega)
                  obtain ⟨hfr, _, _⟩ := own_free HOm.out (14 + m)
                  obtain ⟨bb, oo, hA, hx⟩ := HCm.out.byte m (by omega)
                  cases hA
                  rw [Nat.zero_add] at hx
                  have HSN := Go.Lib.hid (splice_next (q := q2) (s := S4) (m := m) hLl hS4l hm4)
                  have hS := own_setc (x := .int .u8 (n8 (S4[m]'(by omega)))) HOm.out (j := 14 + m) (by rw [hlen]; omega)
                  rw [HSN.out] at hS
                  have HSS' := Go.Lib.hid hS
                  have HCN := Go.Lib.hid (cells_setne (o := 14 + m) (v := .int .u8 (n8 (S4[m]'(by omega)))) HCm.out hne)
                  have HBN := Go.Lib.hid (HBm.out.setCell (p := ⟨g, 14 + m, none⟩) hbg (.int .u8 (n8 (S4[m]'(by omega)))))
                  generalize S4[m] = x at *
                  have hm0 : (0 : Int) ≤ (m : Int) := Int.natCast_nonneg _
                  have hm1 : (m : Int) < 4 := by omega
                  obtain ⟨K, hK⟩ : ∃ K, K = 14 + m := ⟨_, rfl⟩
                  rw [← hK] at hcell hfr HSS' HCN HBN
                  have hwK : IntKind.i64.wrap (14 + (m : Int)) = (K : Int) := by rw [IntKind.wrap_i64]; omega
                  have hK1 : (K : Int) < 512 := by omega
                  have hK0 : (0 : Int) ≤ (K : Int) := by omega
                  have hK2 : K < 512 := by omega
                  clear hlen hS HSN HOm HCm HBm hK
                  go_wp2
                  go_roundw
                  case rel => exact ⟨m + 1, by omega, by go_num, HSS', HCN, HBN⟩
                  case measure => simp [intOf]; omega
                · have hm4' : m = 4 := by omega
                  subst hm4'
                  have ho := HOm.out
                  rw [show S4.take 4 = S4 from List.take_of_length_le (by omega), show 14 + 4 = 18 from rfl, HP1.out, HP3.out, HS4.out, HSS.out] at ho
                  have HF := Go.Lib.hid ho
                  clear ho
                  go_wp2
                  go_ret2
                  rw [HE.out]
                  exact ⟨_, rfl, HF.out, HBm.out⟩
theorem encode8_calls (A : Option Addr) (c : Nat) (rs : List (List UInt8)) (first : UInt64) (w : World) (hn : rs.length ≤ 9223372036854775807) (hA : RowsB w A rs) :
    Calls Tryd.prog 21 #[.int .u64 (n64 first), .slice A rs.length c] w fun e w' => Gave8 w w' e (encB first rs) := by
  by_cases h : rs.length = 0 ∨ numOK first rs.length = false
  · rw [show encB first rs = ([], 1) by unfold encB; rw [if_pos h]]
    exact encode8_arg A c rs first w hn h
  · exact encode8_main A c rs first w hn (fun h0 => h (.inl h0)) (by cases hN : numOK first rs.length; exact absurd (.inr hN) h; rfl) hA
end Go.Proofs.YtipjdkdonmoojaaDoor
