/- Package block: Pack. -/
import Derived.Test.YtipjdkdonmoojaaDoorBlkD
import Derived.WalkSpells
namespace Go.Proofs.YtipjdkdonmoojaaDoor
open Go Go.RowKit
set_option linter.unusedVariables false
set_option linter.unusedSimpArgs false
attribute [local go_sem] n8_self n64_self beq_n8 bne_n8 beq_n64 bne_n64

theorem rows_take {w : World} {A : Option Addr} {ls : List (List UInt8)} (h : RowsB w A ls) (k : Nat) : RowsB w A (ls.take k) := by
  obtain ⟨vs, hl, hc, hr⟩ := h
  refine ⟨vs.take k, by simp [hl], cells_take hc k, fun i h1 h2 => ?_⟩
  rw [List.getElem_take, List.getElem_take]
  exact hr i (by simp at h1; omega) (by simp at h2; omega)
theorem rows_drop {w : World} {A : Option Addr} {ls : List (List UInt8)} (h : RowsB w A ls) (c k : Nat) (hc : ls.length ≤ c) : RowsB w (cutA A c k) (ls.drop k) := by
  obtain ⟨vs, hl, hcl, hr⟩ := h
  refine ⟨vs.drop k, by simp [hl], cells_drop hcl c k (by omega), fun i h1 h2 => ?_⟩
  rw [List.getElem_drop, List.getElem_drop]
  exact hr (k + i) (by simp at h1; omega) (by simp at h2; omega)
theorem rows_some {w : World} {A : Option Addr} {ls : List (List UInt8)} (h : RowsB w A ls) (h0 : 0 < ls.length) : ∃ b o, A = some ⟨b, o, none⟩ := by
  obtain ⟨b, o, hA, _⟩ := h.row 0 h0
  exact ⟨b, o, hA⟩
/-- how far packing has come -/
structure PkR (first : UInt64) (rs : List (List UInt8)) (f : UInt64) (d : Nat) (L : List UInt8) : Prop where
  le : d ≤ rs.length
  eq : ∃ M, rs.length - d ≤ M ∧ packC first (chunks rs.length rs) = L ++ packC f (chunks M (rs.drop d))
  num : d < rs.length → numOK f (rs.length - d) = true
  len : L.length ≤ 512 * d
theorem pk_zero {first : UInt64} {rs : List (List UInt8)} (hn : numOK first rs.length = true) : PkR first rs first 0 [] :=
  ⟨Nat.zero_le _, ⟨rs.length, by omega, by simp⟩, fun _ => hn, Nat.zero_le _⟩
theorem pk_end {first : UInt64} {rs : List (List UInt8)} {f : UInt64} {d : Nat} {L : List UInt8} (h : PkR first rs f d L) (hd : rs.length ≤ d) : packC first (chunks rs.length rs) = L := by
  obtain ⟨M, _, he⟩ := h.eq
  rw [he, List.drop_eq_nil_of_le hd]
  cases M with
  | zero => simp [chunks, packC]
  | succ M => simp [chunks, packC]
theorem pk_step {first : UInt64} {rs : List (List UInt8)} {f : UInt64} {d n : Nat} {L : List UInt8} (h : PkR first rs f d L) (h2 : ∀ r ∈ rs, r.length ≤ 200) (hd : d < rs.length) (hn : fitN (rs.drop d) 0 = n) :
    1 ≤ n ∧ d + n ≤ rs.length ∧ encB f ((rs.drop d).take n) = (blockB f ((rs.drop d).take n), 0) ∧ (blockB f ((rs.drop d).take n)).length = 512 ∧ PkR first rs (f + UInt64.ofNat n) (d + n) (L ++ blockB f ((rs.drop d).take n)) := by
  subst hn
  have hlen : (rs.drop d).length = rs.length - d := List.length_drop
  have h2' : ∀ r ∈ rs.drop d, r.length ≤ 200 := fun r hr => h2 r (List.mem_of_mem_drop hr)
  have h1 := fitN_pos (rs.drop d) (by omega) h2'
  have hle := fitN_le (rs.drop d) 0
  have hl : ((rs.drop d).take (fitN (rs.drop d) 0)).length = fitN (rs.drop d) 0 := by rw [List.length_take]; omega
  have hnum := h.num hd
  have hok := (num_step hnum (by omega) h1).1
  have hbd := fitN_body (rs.drop d) 0 (by omega)
  have hlong : longS ((rs.drop d).take (fitN (rs.drop d) 0)) = false := longS_of (fun r hr => h2' r (List.mem_of_mem_take hr)) (by omega)
  have hbl := blockB_length f _ (longS_false hlong).2
  refine ⟨h1, by omega, ?_, hbl, by omega, ?_, ?_, ?_⟩
  · unfold encB
    rw [hl, hok, hlong, if_neg (by simp; omega), if_neg (by simp)]
  · obtain ⟨M, hM, he⟩ := h.eq
    cases M with
    | zero => omega
    | succ M =>
      refine ⟨M, by omega, ?_⟩
      rw [he, chunks, if_neg (by omega), packC, hl, List.drop_drop, List.append_assoc]
  · intro hlt
    rw [show rs.length - (d + fitN (rs.drop d) 0) = rs.length - d - fitN (rs.drop d) 0 by omega]
    exact num_rest hnum (by omega) h1
  · have := h.len
    rw [List.length_append, hbl]
    omega
theorem fit_step {q : List (List UInt8)} {j room : Nat} (hj : j < q.length) (h : room + 2 + q[j].length ≤ 494) : fitN (q.drop j) room = fitN (q.drop (j + 1)) (room + 2 + q[j].length) + 1 := by
  rw [List.drop_eq_getElem_cons hj, fitN, if_pos h]
theorem fit_stop {q : List (List UInt8)} {j room : Nat} (hj : j < q.length) (h : ¬ room + 2 + q[j].length ≤ 494) : fitN (q.drop j) room = 0 := by
  rw [List.drop_eq_getElem_cons hj, fitN, if_neg h]
theorem fit_end {q : List (List UInt8)} {j room : Nat} (hj : q.length ≤ j) : fitN (q.drop j) room = 0 := by
  rw [List.drop_eq_nil_of_le hj, fitN]

theorem mem_drop_of {α : Type} {q rs : List α} {d : Nat} {x : α} (h : q = rs.drop d) (hx : x ∈ q) : x ∈ rs := by
  subst h; exact List.mem_of_mem_drop hx
def lenS : Value → Nat
  | .slice _ n _ => n
  | _ => 0
theorem sizeRow : (Tryd.prog.info? 28).map (·.size) = some 1 := by kernel_rfl
theorem u64_addN (f : UInt64) (k : Nat) (hk : k < 18446744073709551616) : IntKind.u64.wrap (n64 f + (k : Int)) = n64 (f + UInt64.ofNat k) := by
  rw [IntKind.wrap_u64]
  unfold n64
  rw [UInt64.toNat_add, UInt64.toNat_ofNat', Nat.mod_eq_of_lt (a := k) (by omega)]
  have := f.toNat_lt
  omega

set_option maxRecDepth 100000 in
set_option maxHeartbeats 3200000 in
theorem bPack_calls (A : Option Addr) (c : Nat) (rs : List (List UInt8)) (first : UInt64) (p : Nat → Addr) (w : World) (hT : Tab w) (hp : E5 w p) (hn : rs.length ≤ 2097152) (hnc : rs.length ≤ c) (hc : c ≤ 9223372036854775807) (hA : RowsB w A rs) :
    Calls Tryd.prog 20 #[.int .u64 (n64 first), .slice A rs.length c] w fun e w' => GaveE p w w' e (packB first rs) := by
  by_cases h0 : rs.length = 0
  · rw [show packB first rs = ([], 0) by unfold packB; rw [if_pos h0], h0]
    clear hA hT hp
    go_enter Tryd.func20, Tryd.ntmps20
    go_wp2
    go_ret2
    exact ⟨_, rfl, own_nil _ _ _, Below.refl _ _⟩
  have d0 : ((rs.length : Int) == 0) = false := by rw [beq_eq_false_iff_ne]; omega
  have HC := Go.Lib.hid (numbers_calls first rs.length w (by omega) (by omega))
  have e1 := e5_arg hp
  have e4 := e5_long hp
  have HP := Go.Lib.hid hp
  have HA := Go.Lib.hid hA
  have HT := Go.Lib.hid hT
  clear hp hA hT
  cases hN : numOK first rs.length
  · rw [show packB first rs = ([], 1) by unfold packB; rw [if_neg h0, hN, if_pos rfl]]
    rw [hN] at HC
    go_enter Tryd.func20, Tryd.ntmps20
    go_wp2_with fail
    refine HC.out.mono ?_
    rintro e w1 ⟨rfl, rfl⟩
    go_wp2
    go_quiet (fail)
    go_wp2
    go_ret2
    exact ⟨_, rfl, own_nil _ _ _, below_drewN _ _ _⟩
  rw [hN] at HC
  have HX4 : Hid ((∃ r ∈ rs, 200 < r.length) → packB first rs = ([], 4)) := fun ⟨r, hr, hl⟩ => by
    unfold packB
    rw [if_neg h0, hN, if_neg (by simp), if_pos (List.any_eq_true.2 ⟨r, hr, decide_eq_true hl⟩)]
  have HX0 : Hid ((∀ r ∈ rs, r.length ≤ 200) → packB first rs = (packC first (chunks rs.length rs), 0)) := fun h => by
    unfold packB
    rw [if_neg h0, hN, if_neg (by simp), if_neg]
    rw [List.any_eq_true]
    rintro ⟨r, hr, hl⟩
    have := h r hr
    have := of_decide_eq_true hl
    omega
  have HN := Go.Lib.hid hN
  clear hN
  generalize packB first rs = ans at *
  go_enter Tryd.func20, Tryd.ntmps20
  go_wp2_with fail
  refine HC.out.mono ?_
  rintro e w1 ⟨rfl, rfl⟩
  clear HC
  go_wp2
  go_loop [24] (fun i => ∃ k : Nat, k ≤ rs.length ∧ i = .int .i64 (k : Int) ∧ Hid (∀ r ∈ rs.take k, r.length ≤ 200)) (fun i => rs.length - (intOf i).toNat)
  case atStart => exact ⟨0, Nat.zero_le _, rfl, fun r hr => by simp at hr⟩
  case round =>
    obtain ⟨k, hk, rfl, H200⟩ := hrel
    by_cases hlt : k < rs.length
    · obtain ⟨b, o, hAe, A', c', hl', hck, _⟩ := HA.out.row k hlt
      have hk0 : (0 : Int) ≤ (k : Int) := Int.natCast_nonneg _
      have hk1 : (k : Int) < (rs.length : Int) := by omega
      subst hAe
      by_cases h200 : 200 < rs[k].length
      · have HL := Go.Lib.hid (HX4.out ⟨rs[k], List.getElem_mem hlt, h200⟩)
        have d1 : decide ((200 : Int) < (rs[k].length : Int)) = true := decide_eq_true (by omega)
        generalize rs[k].length = m at *
        go_wp2
        go_quiet (fail)
        go_wp2
        go_ret2
        rw [HL.out]
        exact ⟨_, rfl, own_nil _ _ _, below_drewN _ _ _⟩
      · have d1 : decide ((200 : Int) < (rs[k].length : Int)) = false := decide_eq_false (by omega)
        have H2 : Hid (∀ r ∈ rs.take (k + 1), r.length ≤ 200) := fun r hr => by
          rw [List.take_succ_eq_append_getElem hlt, List.mem_append] at hr
          rcases hr with hr | hr
          · exact H200.out r hr
          · simp at hr; subst hr; omega
        clear H200
        generalize rs[k].length = m at *
        go_wp2
        go_round
        case rel => exact ⟨k + 1, by omega, by go_num, H2⟩
        case measure => simp [intOf]; omega
    · have hkn : k = rs.length := by omega
      have h200 := H200.out
      rw [hkn, List.take_length] at h200
      have HAll := Go.Lib.hid h200
      have HANS := Go.Lib.hid (HX0.out h200)
      have HN0 := HN.out
      have HPK0 := Go.Lib.hid (pk_zero HN0)
      subst hkn
      clear h200 H200 HX4 HX0 HN HN0
      go_wp2
      go_loopw [1, 0, 8] (fun r x v wr => ∃ (d : Nat) (f : UInt64) (L : List UInt8) (A' : Option Addr) (c' : Nat) (q : List (List UInt8)), r = .slice A' q.length c' ∧ x = .int .u64 (n64 f) ∧ q.length ≤ 2097152 ∧ Hid (d + q.length = rs.length) ∧ Hid (q = rs.drop d) ∧ q.length ≤ c' ∧ c' ≤ 9223372036854775807 ∧ Hid (RowsB w1 A' q) ∧ Hid (PkR first rs f d L) ∧ Hid (Own wr w1.heap.size 5 v (Bs L)) ∧ Hid (Below w1.heap.size w1 wr)) (fun r _ _ _ => lenS r)
      case atStart => exact ⟨0, first, [], A, c, rs, rfl, rfl, hn, Nat.zero_add _, rfl, hnc, hc, HA, HPK0, own_nil _ _ _, Below.refl _ _⟩
      case round =>
        obtain ⟨d, f, L, A', c', q, rfl, rfl, hd, HQL, HQ, hqc, hc', HRQ, HPK, HO, HB⟩ := hrel
        have HR := Go.Lib.hid (rows_below HB.out HRQ.out)
        clear HPK0
        by_cases hlt : 0 < q.length
        · have hq1 : (0 : Int) < (q.length : Int) := by omega
          go_wp2
          go_loop [9, 10] (fun j room => ∃ (k m : Nat), j = .int .i64 (k : Int) ∧ room = .int .i64 (m : Int) ∧ k ≤ q.length ∧ m ≤ 494 ∧ Hid (fitN q 0 = k + fitN (q.drop k) m)) (fun j _ => q.length - (intOf j).toNat)
          case atStart => exact ⟨0, 0, rfl, rfl, Nat.zero_le _, by omega, by show _ = _; simp⟩
          case round =>
            obtain ⟨k, m, rfl, rfl, hk, hm, HF⟩ := hrel
            have hk0 : (0 : Int) ≤ (k : Int) := Int.natCast_nonneg _
            by_cases hgo : ∃ (h : k < q.length), m + 2 + q[k].length ≤ 494
            · obtain ⟨hkl, hfit⟩ := hgo
              obtain ⟨b, o, hAe, A2, c2, hl2, hck, _⟩ := HR.out.row k hkl
              have HF2 : Hid (fitN q 0 = (k + 1) + fitN (q.drop (k + 1)) (m + 2 + q[k].length)) := by show _ = _; rw [HF.out, fit_step hkl hfit]; omega
              have hk1 : (k : Int) < (q.length : Int) := by omega
              have d1 : decide ((k : Int) < (q.length : Int)) = true := decide_eq_true hk1
              subst hAe
              clear HF
              generalize q[k].length = z at *
              go_wp2
              go_round
              case rel => exact ⟨k + 1, m + 2 + z, by go_num, by rw [show ((m : Int) + (2 + (z : Int))) = ((m + 2 + z : Nat) : Int) by omega], by omega, by omega, HF2⟩
              case measure => simp [intOf]; omega
            · have hfk : fitN q 0 = k := by
                by_cases hkl : k < q.length
                · rw [HF.out, fit_stop hkl (fun h => hgo ⟨hkl, h⟩)]; omega
                · rw [HF.out, fit_end (by omega)]; omega
              have hst := pk_step HPK.out HAll.out (by have := HQL.out; omega) (n := k) (by rw [← HQ.out]; exact hfk)
              rw [← HQ.out] at hst
              obtain ⟨hs1, hs2, hs3, hs4, hs5⟩ := hst
              have HE : Hid (Calls Tryd.prog 13 #[.int .u64 (n64 f), .slice A' k c'] wr (fun e w' => GaveE p wr w' e (blockB f (q.take k), 0))) := by
                have h := bEncode_calls A' c' (q.take k) f p wr (fun x => below_cell HB.out (HT.out x)) (e5_below HP.out HB.out) (by rw [List.length_take]; omega) (rows_take HR.out k)
                rw [hs3, show (q.take k).length = k by rw [List.length_take]; omega] at h
                exact h
              have hcut1 : ∀ W : World, (Instr.slice 27 (.slice A' q.length c') none (some (.int .i64 (k : Int))) none).run Tryd.prog W = .ok (.slice A' k c') W := run_cut_h (P := Tryd.prog) 27 28 Tryd.underlying27 sizeRow A' q.length c' k (by omega)
              have hcut2 : ∀ W : World, (Instr.slice 27 (.slice A' q.length c') (some (.int .i64 (k : Int))) none none).run Tryd.prog W = .ok (.slice (cutA A' c' k) (q.length - k) (c' - k)) W := run_cut_l (P := Tryd.prog) 27 28 Tryd.underlying27 sizeRow A' q.length c' k (by omega)
              have hkc : (k : Int) ≤ (c' : Int) := by omega
              have hkq : (k : Int) ≤ (q.length : Int) := by omega
              have hw1 : IntKind.u64.wrap (k : Int) = (k : Int) := u64w _ (by omega) (by omega)
              have hw2 := u64_addN f k (by omega)
              have HF' := Go.Lib.hid (u64_addN f k (by omega))
              have HS5 := Go.Lib.hid hs5
              have hLl : L.length ≤ 1073741824 := by have := HPK.out.len; have := HQL.out; omega
              clear hs3 hs5 HF hfk
              have hcase : (∃ (h : k < q.length), 494 < m + 2 + q[k].length) ∨ k = q.length := by
                by_cases hkl : k < q.length
                · exact .inl ⟨hkl, by have : ¬ _ := fun h => hgo ⟨hkl, h⟩; omega⟩
                · exact .inr (by omega)
              clear hgo
              rcases hcase with hcase | hcase
              case' inl =>
                obtain ⟨hkl, hbig⟩ := hcase
                obtain ⟨b, o, hAe, A2, c2, hl2, hck, _⟩ := HR.out.row k hkl
                have hk1 : (k : Int) < (q.length : Int) := by omega
                have d1 : decide ((k : Int) < (q.length : Int)) = true := decide_eq_true hk1
                have hz2 : q[k].length ≤ 200 := HAll.out _ (mem_drop_of HQ.out (List.getElem_mem hkl))
                generalize q[k].length = z at *
                have d2 : decide ((m : Int) + 2 + (z : Int) ≤ 494) = false := decide_eq_false (by omega)
                have n2 : ¬ ((m : Int) + 2 + (z : Int) ≤ 494) := by omega
                subst hAe
                go_wp2_with fail
              case' inr =>
                have d1 : decide ((k : Int) < (q.length : Int)) = false := decide_eq_false (by omega)
                have n1 : ¬ ((k : Int) < (q.length : Int)) := by omega
                have n2 : ¬ (k < q.length) := by omega
                have HCA := Go.Lib.hid hcase
                clear hcase
                go_wp2_with fail
              all_goals
                have HS4 := Go.Lib.hid hs4
                have hb4 : (blockB f (q.take k)).length ≤ 512 := by omega
                clear d1 n2 hs4
                refine HE.out.mono ?_
                rintro e w2 ⟨v2, rfl, ho2, hb2⟩
                simp only at ho2
                clear HE
                generalize hblk : blockB f (q.take k) = blk at *
                obtain ⟨A5, c5, rfl, HO5, HC5⟩ := own_open ho2
                have HB5 := Go.Lib.hid (HB.out.trans (hb2.mono HB.out.size))
                have HOL := Go.Lib.hid (own_drewless HO.out hb2)
                have hsz5 := HB5.out.size
                have hroom5 : (Bs L).length + blk.length ≤ 140737488355328 := by rw [Bs_length]; omega
                have HBLK := Go.Lib.hid hblk
                clear hb2 ho2 HO HR HB hblk
                simp only [errv]
                go_wp2_with (first
                  | (at_builtin; (with_reducible refine wpList_append_all (W := w2) (s := .tmp 72) (x := .tmp 73) (t := 28) (e := 5) (z := .int .u8 0) (ht := Tryd.underlying28) (hinfo := info8) (base := w1.heap.size) (vs := Bs L) (hown := HOL.out) (hbase := hsz5) (A := A5) (c := c5) (l := blk) (hA := HC5.out) (hroom := hroom5) (hgd := rfl) (hz := ?_) (ho := ?_) (hs := ?_) (hx := ?_) (h := ?_)); rfl; rfl; rfl; rfl; intro v6 w6 hown6 hb6; have HO6 := Go.Lib.hid hown6; have HB6 := Go.Lib.hid (HB5.out.trans hb6); clear hown6 hb6))
                go_wp2
                go_quiet (fail)
                go_wp2
                go_roundw
                case rel =>
                  refine ⟨d + k, f + UInt64.ofNat k, L ++ blk, cutA _ c' k, c' - k, q.drop k, by rw [List.length_drop], rfl, by rw [List.length_drop]; omega, ?_, ?_, by rw [List.length_drop]; omega, by omega, rows_drop HRQ.out c' k hqc, HS5.out, ?_, HB6.out.trans (below_drewN _ _ _)⟩
                  · show _ = _
                    have := HQL.out
                    rw [List.length_drop]; omega
                  · show _ = _
                    rw [HQ.out, List.drop_drop]
                  · have := HO6.out
                    rw [← Bs_append] at this
                    exact own_drewless this (below_drewN _ _ _)
                case measure => simp [lenS]; omega
        · have hq0 : q.length = 0 := by omega
          have HE := Go.Lib.hid (pk_end HPK.out (by have := HQL.out; omega))
          clear HPK
          go_wp2
          go_ret2
          rw [HANS.out]
          refine ⟨_, rfl, ?_, HB.out⟩
          have := HO.out
          rw [← HE.out] at this
          exact this
end Go.Proofs.YtipjdkdonmoojaaDoor
