/- Package block: Encode. -/
import Derived.Test.YtipjdkdonmoojaaDoorBlkT
import Derived.Test.YtipjdkdonmoojaaDoorAppZ
import Derived.Deep.RegionLaw
import Derived.Lib.SlBytesConst
namespace Go.Proofs.YtipjdkdonmoojaaDoor
open Go Go.RowKit
set_option linter.unusedVariables false
set_option linter.unusedSimpArgs false
attribute [local go_sem] n8_self n64_self beq_n8 bne_n8

/-- the first five errors hold what the program's text lays -/
def E5 (w : World) (p : Nat → Addr) : Prop := ∀ k, 1 ≤ k → k ≤ 5 → w.cell? ⟨errG k, 0, none⟩ = some (errv p k)
theorem e5_below {w w1 : World} {p : Nat → Addr} (h : E5 w p) (hb : Below w.heap.size w w1) : E5 w1 p := fun k h1 h2 => below_cell hb (h k h1 h2)
theorem e5_arg {w : World} {p : Nat → Addr} (h : E5 w p) : w.cell? ⟨0, 0, none⟩ = some (.iface 112 (.pointer (some (p 1)))) := h 1 (by decide) (by decide)
theorem e5_short {w : World} {p : Nat → Addr} (h : E5 w p) : w.cell? ⟨2, 0, none⟩ = some (.iface 112 (.pointer (some (p 2)))) := h 2 (by decide) (by decide)
theorem e5_form {w : World} {p : Nat → Addr} (h : E5 w p) : w.cell? ⟨3, 0, none⟩ = some (.iface 112 (.pointer (some (p 3)))) := h 3 (by decide) (by decide)
theorem e5_long {w : World} {p : Nat → Addr} (h : E5 w p) : w.cell? ⟨1, 0, none⟩ = some (.iface 112 (.pointer (some (p 4)))) := h 4 (by decide) (by decide)
theorem e5_sum {w : World} {p : Nat → Addr} (h : E5 w p) : w.cell? ⟨4, 0, none⟩ = some (.iface 112 (.pointer (some (p 5)))) := h 5 (by decide) (by decide)
theorem e5_two {w : World} {p : Nat → Addr} (h : E5 w p) : Errs w (p 2) (p 3) := ⟨h 2 (by decide) (by decide), h 3 (by decide) (by decide)⟩

theorem u16w (n : Nat) (h : n ≤ 65535) : IntKind.u16.wrap (n : Int) = n16 (UInt16.ofNat n) := by
  rw [wrap_u16']
  unfold n16
  rw [UInt16.toNat_ofNat', Nat.mod_eq_of_lt (by omega)]
  omega
theorem u16_64 (n : Nat) (h : n ≤ 65535) : (UInt16.ofNat n).toUInt64 = UInt64.ofNat n := by
  apply UInt64.toNat.inj
  rw [UInt16.toNat_toUInt64, UInt16.toNat_ofNat', UInt64.toNat_ofNat', Nat.mod_eq_of_lt (by omega), Nat.mod_eq_of_lt (by omega)]
theorem body_take (rs : List (List UInt8)) (k : Nat) (hk : k < rs.length) : bodyB (rs.take (k + 1)) = bodyB (rs.take k) ++ recB rs[k] := by
  rw [List.take_succ_eq_append_getElem hk, bodyB_append]
  simp [bodyB]
theorem body_take_le (rs : List (List UInt8)) (k : Nat) : (bodyB (rs.take k)).length ≤ (bodyB rs).length := by
  conv => rhs; rw [← List.take_append_drop k rs, bodyB_append, List.length_append]
  omega
theorem gave_slice {w w' : World} {e : Ending} {L : List UInt8} (h : Gave w w' e L) : ∃ A c L', e = .returned (.slice A (L' : List UInt8).length c) ∧ Hid (L' = L) ∧ Hid (Own w' w.heap.size 5 (.slice A L'.length c) (Bs L')) ∧ Hid (Cells w' A (Bs L')) ∧ Hid (Below w.heap.size w w') := by
  obtain ⟨v, rfl, hv, hb⟩ := h
  obtain ⟨A, c, rfl, _, _, hc⟩ := own_slice hv
  rw [Bs_length] at hv ⊢
  exact ⟨A, c, L, rfl, rfl, hv, hc, hb⟩
theorem own_open {w : World} {base : Nat} {v : Value} {L : List UInt8} (h : Own w base 5 v (Bs L)) : ∃ A c, v = .slice A L.length c ∧ Hid (Own w base 5 (.slice A L.length c) (Bs L)) ∧ Hid (Cells w A (Bs L)) := by
  obtain ⟨A, c, rfl, _, _, hc⟩ := own_slice h
  rw [Bs_length] at h ⊢
  exact ⟨A, c, rfl, h, hc⟩
theorem copy_ex (w w0 : World) (B g n cap : Nat) (A : Option Addr) (c : Nat) (cur : Array Value) (cs : List Value) (hg : w.heap[g]? = some (.cells cur 5 (0, 0))) (hcs : cs.length = 4) (hA : Cells w A cs) (hfit : 14 + cs.length ≤ cur.size) (h1 : ∀ v ∈ cs, v.oneCell' = true) (hn : 4 ≤ n) (hb : Below B w0 w) (hBg : B ≤ g) :
    ∃ w9, (Builtin.copy_ #[28, 28] 3 #[.slice (some ⟨g, 14, none⟩) n cap, .slice A 4 c]).run Tryd.prog w = .ok (.int .i64 4) w9 ∧ Hid (w9.heap[g]? = some (.cells (cur.toList.take 14 ++ cs ++ cur.toList.drop 18).toArray 5 (0, 0))) ∧ Hid (Below B w0 w9) := by
  obtain ⟨ad, rfl, hc⟩ := cells_src hA (by omega)
  have h := run_copy_row (P := Tryd.prog) w 28 28 3 5 g 14 n cap ad 4 c cur 5 cs Tryd.underlying28 size8' hg (by rw [hcs]; exact (Nat.min_eq_left hn).symm) hc hfit h1
  rw [hcs] at h
  exact ⟨_, h, setRow_heap w g cur _ 5 _ hg, below_setRow hb hBg _⟩
theorem own_of_row {w : World} {base g n cap : Nat} {cs : Array Value} {l : List UInt8} (hg : w.heap[g]? = some (.cells cs 5 (0, 0))) (hb : base ≤ g) (hn : l.length = n) (hnc : n ≤ cap) (hcap : cap ≤ 9223372036854775807) (hsz : cs.size = cap) (htk : cs.toList.take n = Bs l) : Own w base 5 (.slice (some ⟨g, 0, none⟩) n cap) (Bs l) := by
  subst hn
  exact ⟨by rw [Bs_length, Nat.mul_one], .inr ⟨g, cap, cs, by rw [Bs_length], hb, hg, by rw [Bs_length]; exact hnc, by unfold maxLen; omega, by rw [Nat.mul_one]; exact hsz, by rw [Bs_length, Nat.mul_one]; exact htk⟩⟩
theorem splice_bs {cur : List Value} {L H R : List UInt8} (s : List UInt8) (hs : s.length = 4) (hL : L.length = 512) (hc : 512 ≤ cur.length) (htk : cur.take 512 = Bs L) (h1 : L.take 14 = H) (h2 : L.drop 18 = R) : (cur.take 14 ++ Bs s ++ cur.drop 18).take 512 = Bs (H ++ s ++ R) := by
  have e1 : cur.take 14 = Bs H := by
    have : (cur.take 512).take 14 = cur.take 14 := by rw [List.take_take]; rfl
    rw [← this, htk, ← Bs_take, h1]
  have e2 : (cur.drop 18).take 494 = Bs R := by
    have : (cur.take 512).drop 18 = (cur.drop 18).take 494 := by rw [List.drop_take]
    rw [← this, htk, ← Bs_drop, h2]
  have hl : (cur.take 14 ++ Bs s).length = 18 := by rw [List.length_append, List.length_take, Bs_length, hs]; omega
  rw [show 512 = (cur.take 14 ++ Bs s).length + 494 by rw [hl], List.take_length_add_append, e1, e2, ← Bs_append, ← Bs_append]
theorem longS_rec {rs : List (List UInt8)} {k : Nat} (hk : k < rs.length) (h : 200 < rs[k].length) : longS rs = true := by
  unfold longS
  rw [List.any_eq_true.2 ⟨rs[k], List.getElem_mem hk, decide_eq_true h⟩]
  rfl
theorem longS_body {rs : List (List UInt8)} (k : Nat) (h : 494 < (bodyB (rs.take k)).length) : longS rs = true := by
  unfold longS
  rw [decide_eq_true (by have := body_take_le rs k; omega), Bool.or_true]

set_option maxRecDepth 100000 in
set_option maxHeartbeats 1600000 in
theorem bEncode_arg (A : Option Addr) (c : Nat) (rs : List (List UInt8)) (first : UInt64) (p : Nat → Addr) (w : World) (hp : E5 w p) (hn : rs.length ≤ 9223372036854775807) (h : rs.length = 0 ∨ numOK first rs.length = false) :
    Calls Tryd.prog 13 #[.int .u64 (n64 first), .slice A rs.length c] w fun e w' => GaveE p w w' e ([], 1) := by
  have e1 := e5_arg hp
  clear hp
  by_cases h0 : rs.length = 0
  · rw [h0]
    clear h
    go_enter Tryd.func13, Tryd.ntmps13
    go_wp2
    go_quiet (fail)
    go_wp2
    go_ret2
    exact ⟨_, rfl, own_nil _ _ _, below_drewN _ _ _⟩
  · have hN := Go.Lib.hid (h.resolve_left h0)
    have HC := Go.Lib.hid (numbers_calls first rs.length w (by omega) hn)
    have d0 : ((rs.length : Int) == 0) = false := by rw [beq_eq_false_iff_ne]; omega
    clear h
    rw [hN.out] at HC
    generalize rs.length = n at *
    go_enter Tryd.func13, Tryd.ntmps13
    go_wp2_with fail
    refine HC.out.mono ?_
    rintro e w1 ⟨rfl, rfl⟩
    go_wp2
    go_quiet (fail)
    go_wp2
    go_ret2
    exact ⟨_, rfl, own_nil _ _ _, below_drewN _ _ _⟩

set_option maxRecDepth 100000 in
set_option maxHeartbeats 3200000 in
theorem bEncode_rest (A : Option Addr) (c : Nat) (rs : List (List UInt8)) (first : UInt64) (p : Nat → Addr) (w : World) (hT : Tab w) (hp : E5 w p) (hn : rs.length ≤ 9223372036854775807) (hA : RowsB w A rs) (h0 : rs.length ≠ 0) (hN : numOK first rs.length = true) :
    Calls Tryd.prog 13 #[.int .u64 (n64 first), .slice A rs.length c] w fun e w' => GaveE p w w' e (encB first rs) := by
  have HE4 : Hid (longS rs = true → encB first rs = ([], 4)) := fun h => by unfold encB; rw [if_neg (by simp [hN]; exact fun h => h0 (by rw [h]; rfl)), if_pos h]
  have HE0 : Hid (longS rs = false → encB first rs = (blockB first rs, 0)) := fun h => by unfold encB; rw [if_neg (by simp [hN]; exact fun h => h0 (by rw [h]; rfl)), if_neg (by simp [h])]
  have e4 := e5_long hp
  have HC := Go.Lib.hid (numbers_calls first rs.length w (by omega) hn)
  have d0 : ((rs.length : Int) == 0) = false := by rw [beq_eq_false_iff_ne]; omega
  have HA := Go.Lib.hid hA
  have HT := Go.Lib.hid hT
  have HN := Go.Lib.hid hN
  rw [hN] at HC
  clear hp hA hT hN
  go_enter Tryd.func13, Tryd.ntmps13
  go_wp2_with fail
  refine HC.out.mono ?_
  rintro e w1 ⟨rfl, rfl⟩
  clear HC
  go_wp2
  go_loop [6, 25] (fun room i => ∃ k : Nat, k ≤ rs.length ∧ i = .int .i64 (k : Int) ∧ room = .int .i64 ((bodyB (rs.take k)).length : Int) ∧ (bodyB (rs.take k)).length ≤ 494 ∧ Hid (∀ r ∈ rs.take k, r.length ≤ 200)) (fun _ i => rs.length - (intOf i).toNat)
  case atStart => exact ⟨0, Nat.zero_le _, rfl, rfl, by simp [bodyB], fun r hr => by simp at hr⟩
  case round =>
    obtain ⟨k, hk, rfl, rfl, hroom, H200⟩ := hrel
    by_cases hlt : k < rs.length
    · obtain ⟨b, o, hAe, A', c', hl', hck, _⟩ := HA.out.row k hlt
      have hk0 : (0 : Int) ≤ (k : Int) := Int.natCast_nonneg _
      have hk1 : (k : Int) < (rs.length : Int) := by omega
      subst hAe
      by_cases h200 : 200 < rs[k].length
      · have HL := Go.Lib.hid (longS_rec hlt h200)
        have d1 : decide ((200 : Int) < (rs[k].length : Int)) = true := decide_eq_true (by omega)
        generalize rs[k].length = m at *
        go_wp2
        go_quiet (fail)
        go_wp2
        go_ret2
        rw [HE4.out HL.out]
        exact ⟨_, rfl, own_nil _ _ _, below_drewN _ _ _⟩
      · have d1 : decide ((200 : Int) < (rs[k].length : Int)) = false := decide_eq_false (by omega)
        have hbt := body_take rs k hlt
        have hbl : (bodyB (rs.take (k + 1))).length = (bodyB (rs.take k)).length + (2 + rs[k].length) := by rw [hbt, List.length_append, recB_length]
        obtain ⟨q, hq⟩ : ∃ q, q = (bodyB (rs.take (k + 1))).length := ⟨_, rfl⟩
        obtain ⟨q0, hq0⟩ : ∃ q0, q0 = (bodyB (rs.take k)).length := ⟨_, rfl⟩
        have HQ := Go.Lib.hid hq
        have H2 : Hid (∀ r ∈ rs.take (k + 1), r.length ≤ 200) := fun r hr => by
          rw [List.take_succ_eq_append_getElem hlt, List.mem_append] at hr
          rcases hr with hr | hr
          · exact H200.out r hr
          · simp at hr; subst hr; omega
        rw [← hq0] at hroom ⊢
        have w1' : IntKind.i64.wrap (2 + (rs[k].length : Int)) = 2 + (rs[k].length : Int) := by rw [IntKind.wrap_i64]; omega
        have w2 : IntKind.i64.wrap ((q0 : Int) + (2 + (rs[k].length : Int))) = (q : Int) := by rw [IntKind.wrap_i64]; omega
        generalize hm : rs[k].length = m at *
        clear hbt hbl hq hq0 H200 h200 hm
        by_cases hbig : 494 < q
        · have HL := Go.Lib.hid (longS_body (rs := rs) (k + 1) (by rw [← HQ.out]; exact hbig))
          have d2 : decide ((494 : Int) < (q : Int)) = true := decide_eq_true (by omega)
          have d3 : decide (494 < q) = true := decide_eq_true hbig
          go_wp2
          go_quiet (fail)
          go_wp2
          go_ret2
          rw [HE4.out HL.out]
          exact ⟨_, rfl, own_nil _ _ _, below_drewN _ _ _⟩
        · have d2 : decide ((494 : Int) < (q : Int)) = false := decide_eq_false (by omega)
          have d3 : decide (494 < q) = false := decide_eq_false hbig
          go_wp2
          go_round
          case rel => exact ⟨k + 1, by omega, by go_num, by rw [HQ.out], by rw [← HQ.out]; omega, H2⟩
          case measure => simp [intOf]; omega
    · have hkn : k = rs.length := by omega
      have hroom' := hroom
      have h2' := H200.out
      rw [hkn, List.take_length] at hroom' h2'
      have HL := Go.Lib.hid (longS_of h2' hroom')
      have H2 := Go.Lib.hid h2'
      have hbody : (bodyB rs).length ≤ 494 := hroom'
      have hcnt := body_count rs
      clear h2' hroom' H200
      subst hkn
      have hn65 : rs.length ≤ 65535 := by omega
      have hw16 := u16w rs.length hn65
      have kc := fun (w : World) (C : Array Value) (n c : Nat) => Go.Lib.run_convert_bytes_const (P := Tryd.prog) w 28 5 C n c Tryd.underlying28 Tryd.underlying5
      obtain ⟨W, hW⟩ : ∃ W, W = w1.alloc (.cells #[.int .u8 84, .int .u8 66, .int .u8 48, .int .u8 49] 5 (4, 4 + 1)) := ⟨_, rfl⟩
      have hbW : Below w1.heap.size w1 W := by rw [hW]; exact (Below.refl _ _).alloc (Nat.le_refl _) _
      have hcW : Cells W (some ⟨w1.heap.size, 0, none⟩) (Bs magicB) := by rw [hW]; exact cells_new w1 (Bs magicB) 5 (4, 4 + 1)
      have HP1 := Go.Lib.hid (show Calls Tryd.prog 28 #[.slice (some ⟨w1.heap.size, 0, none⟩) 4 4, .int .u64 (n64 first)] W (fun e w' => Gave W w' e (magicB ++ leS first 8)) from putU64_calls (some ⟨w1.heap.size, 0, none⟩) 4 magicB first W (by decide) hcW)
      have HBW := Go.Lib.hid hbW
      have HW := Go.Lib.hid hW
      clear hbW hcW hW d0
      go_wp2_with fail
      rw [← HW.out]
      refine HP1.out.mono ?_
      rintro e w2 hg
      obtain ⟨A2, c2, L2, rfl, HL2, HO2, HC2, HB2⟩ := gave_slice hg
      have HBB2 := Go.Lib.hid (HBW.out.trans (HB2.out.mono HBW.out.size))
      have hl2 : L2.length ≤ 12 := by rw [HL2.out]; simp [leS_length, magicB]
      clear hg HP1 HO2 HB2 HBW HW
      go_wp2_with fail
      refine (putU16_calls A2 c2 L2 (UInt16.ofNat rs.length) w2 (by omega) HC2.out).mono ?_
      rintro e w3 hg
      obtain ⟨A3, c3, L3, rfl, HL3, HO3, HC3, HB3⟩ := gave_slice hg
      have HBB3 := Go.Lib.hid (HBB2.out.trans (HB3.out.mono HBB2.out.size))
      have HL3' : Hid (L3 = headB first rs.length) := by show L3 = _; rw [HL3.out, HL2.out, u16_64 _ hn65]; rfl
      have hl3 : L3.length ≤ 14 := by rw [HL3'.out, headB_length]; exact Nat.le_refl _
      clear hg HO3 HB3 HBB2 HC2 HL2 HL3 hl2
      have hc3 := putU32_calls A3 c3 L3 0 w3 (by omega) HC3.out
      rw [show n32 0 = 0 from rfl] at hc3
      have HP3 := Go.Lib.hid hc3
      clear hc3
      go_wp2_with fail
      refine HP3.out.mono ?_
      rintro e w4 hg
      obtain ⟨A4, c4, L4, rfl, HL4, HO4, HC4, HB4⟩ := gave_slice hg
      have HBB4 := Go.Lib.hid (HBB3.out.trans (HB4.out.mono HBB3.out.size))
      have HL4' : Hid (L4 = headB first rs.length ++ [0, 0, 0, 0]) := by show L4 = _; rw [HL4.out, HL3'.out]; rfl
      have HLL4 := Go.Lib.hid (show L4.length = 18 by rw [HL4'.out, List.length_append, headB_length]; rfl)
      have HOO4 := Go.Lib.hid (own_mono HO4.out HBB3.out.size)
      clear hg HO4 HB4 HBB3 HC3 HL4 HL3' hl3 HP3 HC4
      go_wp2
      go_loopw [9, 54] (fun v i wr => ∃ k : Nat, k ≤ rs.length ∧ i = .int .i64 (k : Int) ∧ Hid (Own wr w1.heap.size 5 v (Bs (L4 ++ bodyB (rs.take k)))) ∧ Hid (Below w1.heap.size w1 wr)) (fun _ i _ => rs.length - (intOf i).toNat)
      case atStart => exact ⟨0, Nat.zero_le _, rfl, by have := HOO4.out; show Own _ _ _ _ _; simpa [bodyB] using this, HBB4⟩
      case round =>
        obtain ⟨k, hk, rfl, HV, HB⟩ := hrel
        clear HOO4 HBB4
        have hbk := body_take_le rs k
        by_cases hlt : k < rs.length
        · obtain ⟨b, o, hAe, A', c', hl', hck, hcell⟩ := HA.out.row k hlt
          have hck' := below_cell HB.out hck
          have HCR := Go.Lib.hid (cells_below HB.out hcell)
          have hk0 : (0 : Int) ≤ (k : Int) := Int.natCast_nonneg _
          have hk1 : (k : Int) < (rs.length : Int) := by omega
          have h200 : rs[k].length ≤ 200 := H2.out _ (List.getElem_mem hlt)
          have HBT := Go.Lib.hid (body_take rs k hlt)
          subst hAe
          obtain ⟨q, hq⟩ : ∃ q, q = L4 ++ bodyB (rs.take k) := ⟨_, rfl⟩
          have hql : q.length ≤ 512 := by rw [hq, List.length_append, HLL4.out]; omega
          rw [← hq] at HV
          obtain ⟨A9, c9, rfl, HO9, HC9⟩ := own_open HV.out
          have hwr16 := u16w rs[k].length (by omega)
          have HQ := Go.Lib.hid hq
          clear hck hq hcell HV
          generalize hr : rs[k] = r at *
          have HR := Go.Lib.hid hr
          clear hr
          have HP := Go.Lib.hid (putU16_calls A9 c9 q (UInt16.ofNat r.length) wr (by omega) HC9.out)
          go_wp2_with fail
          refine HP.out.mono ?_
          rintro e w5 hg
          obtain ⟨A5, c5, L5, rfl, HL5, HO5, HC5, HB5⟩ := gave_slice hg
          have HBB5 := Go.Lib.hid (HB.out.trans (HB5.out.mono HB.out.size))
          have HL5' : Hid (L5 = q ++ leS (UInt64.ofNat r.length) 2) := by show L5 = _; rw [HL5.out, u16_64 _ (by omega)]
          have hl5 : L5.length ≤ 514 := by rw [HL5'.out, List.length_append, leS_length]; omega
          have HOO5 := Go.Lib.hid (own_mono HO5.out HB.out.size)
          have HCR5 := Go.Lib.hid (cells_below HB5.out HCR.out)
          have hsz5 := HBB5.out.size
          have hroom5 : (Bs L5).length + r.length ≤ 140737488355328 := by rw [Bs_length]; omega
          clear hg HO5 HB5 HP HL5 HC5 HCR HC9 HO9
          go_wp2_with (first
            | (at_builtin; (with_reducible refine wpList_append_all (W := w5) (s := .tmp 62) (x := .tmp 63) (t := 28) (e := 5) (z := .int .u8 0) (ht := Tryd.underlying28) (hinfo := info8) (base := w1.heap.size) (v := .slice A5 L5.length c5) (vs := Bs L5) (hown := HOO5.out) (hbase := hsz5) (A := A') (c := c') (l := r) (hA := HCR5.out) (hroom := hroom5) (hgd := rfl) (hz := ?_) (ho := ?_) (hs := ?_) (hx := ?_) (h := ?_)); rfl; rfl; rfl; rfl; intro v6 w6 hown6 hb6; have HO6 := Go.Lib.hid hown6; have HB6 := Go.Lib.hid (HBB5.out.trans hb6); clear hown6 hb6))
          go_roundw
          case rel =>
            refine ⟨k + 1, by omega, by go_num, ?_, HB6⟩
            have h := HO6.out
            rw [← Bs_append, HL5'.out, HQ.out] at h
            show Own _ _ _ _ (Bs (L4 ++ bodyB (rs.take (k + 1))))
            rw [HBT.out, recB]
            simpa using h
          case measure => simp [intOf]; omega
        · have hkn : k = rs.length := by omega
          have hv := HV.out
          rw [hkn, List.take_length] at hv
          obtain ⟨q, hq⟩ : ∃ q, q = L4 ++ bodyB rs := ⟨_, rfl⟩
          rw [← hq] at hv
          obtain ⟨A9, c9, rfl, HO9, HC9⟩ := own_open hv
          have HQL := Go.Lib.hid (show q.length = 18 + (bodyB rs).length by rw [hq, List.length_append, HLL4.out])
          obtain ⟨z, hz⟩ : ∃ z, z = 512 - q.length := ⟨_, rfl⟩
          have hwz : IntKind.i64.wrap (512 - (q.length : Int)) = (z : Int) := by have := HQL.out; rw [IntKind.wrap_i64]; omega
          have HQ := Go.Lib.hid hq
          have HZ := Go.Lib.hid hz
          clear hv hq hz HV HC9
          have hsz := HB.out.size
          have hl0 : 0 < q.length := by have := HQL.out; omega
          have hroomz : q.length + z ≤ 100000000000000 := by have := HQL.out; have := HZ.out; omega
          go_wp2_with (first
            | (at_builtin; (with_reducible refine wpList_append_zeros (W := wr) (s := .tmp 66) (x := .tmp 69) (t := 28) (u := 3) (e := 5) (ht := Tryd.underlying28) (hu := Tryd.underlying3) (hinfo := info8) (base := w1.heap.size) (v := .slice A9 q.length c9) (l := q) (hown := HO9.out) (hbase := hsz) (n := z) (hl0 := hl0) (hroom := hroomz) (hgd := rfl) (ho := ?_) (hs := ?_) (hx := ?_) (h := ?_)); rfl; rfl; rfl; intro v6 w6 hown6 hgr6; have HO6 := Go.Lib.hid hown6; have HB6 := Go.Lib.hid (below_grown HB.out HO9.out hgr6 (Nat.le_refl _) hsz); clear hown6 hgr6))
          obtain ⟨L, hL⟩ : ∃ L, L = q ++ List.replicate z 0 := ⟨_, rfl⟩
          have hLb : L = headB first rs.length ++ [0, 0, 0, 0] ++ restB rs := by
            rw [hL, HQ.out, HL4'.out, restB, HZ.out, HQL.out, show 512 - (18 + (bodyB rs).length) = 494 - (bodyB rs).length by omega]
            simp
          obtain ⟨p1, p2, p3⟩ := parts (headB first rs.length) [0, 0, 0, 0] (restB rs) (headB_length _ _) rfl
          rw [← hLb] at p1 p2 p3
          have hLl : L.length = 512 := by rw [hLb, List.length_append, List.length_append, headB_length, restB_length rs hbody]; rfl
          have ho := HO6.out
          rw [← hL] at ho
          have hcl := own_slice ho
          rcases ho.2 with ⟨_, h0'⟩ | ⟨g, cap, cur, hv, hbg, hg, hnc, hcm, hcs, htk⟩
          · rw [Bs_length, hLl] at h0'
            omega
          rw [Bs_length, hLl] at hv hnc htk
          unfold maxLen at hcm
          rw [Nat.mul_one] at hcs htk
          subst hv
          have hcL : Cells w6 (some ⟨g, 0, none⟩) (Bs L) := by
            obtain ⟨A', c', hv', _, _, hc'⟩ := hcl
            rw [Bs_length, hLl] at hv'
            cases hv'
            exact hc'
          have hcut : ∀ V : World, (Instr.slice 28 (.slice (some ⟨g, 0, none⟩) 512 cap) (some (.int .i64 14)) none none).run Tryd.prog V = .ok (.slice (some ⟨g, 14, none⟩) 498 (cap - 14)) V := by
            intro V
            have h := run_cut_l (P := Tryd.prog) 28 5 Tryd.underlying28 size8' (some ⟨g, 0, none⟩) 512 cap 14 (by omega) V
            have e : cutA (some ⟨g, 0, none⟩) cap 14 = some ⟨g, 14, none⟩ := by unfold cutA; rw [if_neg (by omega)]; simp [Addr.add]
            rw [e] at h
            exact h
          obtain ⟨s, hs⟩ : ∃ s, s = sumB (headB first rs.length) (restB rs) := ⟨_, rfl⟩
          have HS := Go.Lib.hid (bsum_calls (some ⟨g, 0, none⟩) cap L w6.drew (fun x => below_cell HB6.out (HT.out x)) hLl (by omega) (by omega) hcL)
          rw [p1, p3, ← hs] at HS
          have HPU : Hid (∀ V, Calls Tryd.prog 29 #[.slice none 0 0, .int .u32 (n32 s)] V (fun e w' => ∃ A' c', e = .returned (.slice A' 4 c') ∧ Hid (Cells w' A' (Bs (leS s.toUInt64 4))) ∧ Below V.heap.size V w')) := fun V => by
            refine (putU32_calls none 0 [] s V (by simp) (fun h => absurd h (by simp [Bs]))).mono ?_
            rintro e w' hgg
            obtain ⟨A', c', L', rfl, hL', _, hC', hB'⟩ := gave_slice hgg
            have hh := hL'.out
            rw [List.nil_append] at hh
            subst hh
            rw [leS_length]
            exact ⟨A', c', rfl, hC', hB'.out⟩
          have HG := Go.Lib.hid hg
          have HTK := Go.Lib.hid htk
          have HSS := Go.Lib.hid hs
          have HLB := Go.Lib.hid hLb
          have HPA := Go.Lib.hid (And.intro p1 p3)
          have hgw := heap_lt hg
          have hln : (Bs (leS s.toUInt64 4)).length = 4 := by rw [Bs_length, leS_length]
          have hfit : 14 + (Bs (leS s.toUInt64 4)).length ≤ cur.size := by rw [Bs_length, leS_length]; omega
          have HLN := Go.Lib.hid hln
          have HFIT := Go.Lib.hid hfit
          have hcs' := hcs
          have HCS := Go.Lib.hid hcs'
          have hLlH := Go.Lib.hid hLl
          clear hcl ho hg htk hcL hs hLb p1 p2 p3 hL hln hfit hcs hcs' hLl HO6 HO9 HQ HZ HQL
          go_region_held3 (fun _ => True) (trivial) (first
            | (go_at_call 30; (with_reducible refine HS.out.mono ?_); rintro e w7 ⟨rfl, hb7⟩; have HB7 := Go.Lib.hid hb7; clear hb7)
            | (go_at_call 29; (with_reducible refine (HPU.out _).mono ?_); rintro e w8 ⟨A8, c8, rfl, HC8, hb8⟩; have HB8 := Go.Lib.hid hb8; clear hb8; obtain ⟨w9, hcp, hg9, hb9⟩ := copy_ex w8 w1 w1.heap.size g 498 (cap - 14) A8 c8 cur (Bs (leS s.toUInt64 4)) (below_heap HB8.out (below_heap HB7.out HG.out)) HLN.out HC8.out HFIT.out (Bs_one _) (by decide) ((HB6.out.drew.trans (HB7.out.mono HB6.out.size)).trans (HB8.out.mono (Nat.le_trans HB6.out.size HB7.out.size))) hbg)
            | fail)
          all_goals
            go_wp2
            go_ret2
            rw [HE0.out HL.out]
            have hsp := splice_bs (cur := cur.toList) (leS s.toUInt64 4) (leS_length _ _) hLlH.out (by rw [Array.length_toList, HCS.out]; exact hnc) HTK.out HPA.out.1 HPA.out.2
            refine ⟨_, rfl, own_of_row hg9.out hbg (blockB_length first rs hbody) hnc hcm (by have h4 := HCS.out; simp [Bs_length, leS_length]; omega) ?_, hb9.out⟩
            show List.take 512 _ = _
            simp only []
            rw [hsp, HSS.out]
            rfl
theorem bEncode_calls (A : Option Addr) (c : Nat) (rs : List (List UInt8)) (first : UInt64) (p : Nat → Addr) (w : World) (hT : Tab w) (hp : E5 w p) (hn : rs.length ≤ 9223372036854775807) (hA : RowsB w A rs) :
    Calls Tryd.prog 13 #[.int .u64 (n64 first), .slice A rs.length c] w fun e w' => GaveE p w w' e (encB first rs) := by
  by_cases h : rs.length = 0 ∨ numOK first rs.length = false
  · rw [show encB first rs = ([], 1) by unfold encB; rw [if_pos h]]
    exact bEncode_arg A c rs first p w hp hn h
  · have hN : numOK first rs.length = true := by
      cases hN : numOK first rs.length
      · exact absurd (.inr hN) h
      · rfl
    exact bEncode_rest A c rs first p w hT hp hn hA (fun h0 => h (.inl h0)) hN
end Go.Proofs.YtipjdkdonmoojaaDoor
