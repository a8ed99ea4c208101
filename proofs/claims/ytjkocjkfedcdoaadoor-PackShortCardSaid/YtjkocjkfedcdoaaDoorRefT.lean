/- Package turnstileref01: the reader of text. -/
import Derived.Test.YtjkocjkfedcdoaaDoorRefR
namespace Go.Proofs.YtjkocjkfedcdoaaDoor
open Go Go.RowKit
attribute [local go_sem] IntKind.wrap_u64 c64_8 c8_64 c16_64 c32_64 c64_16 c64_32 or8 and8 n64_self n8_self beq_n64 beq_n8 bne_n8 bne_n64

theorem textS_short (rest : List UInt8) (h : rest.length < 2) : textS rest 0 = ([], rest, 1) := by
  have e : fixedS rest 0 2 = (0, rest, 1) := by unfold fixedS takeS; rw [if_pos rfl, if_pos h]
  unfold textS
  rw [e]
  unfold takeS
  rfl
theorem leV_two (a b : UInt8) : (leV [a, b]).toNat = a.toNat + 256 * b.toNat := by
  have e : leV [a, b] = (b.toUInt64 <<< (8 : UInt64)) ||| a.toUInt64 := by unfold leV; simp
  rw [e, ← shl_or, UInt64.toNat_add, UInt64.toNat_shiftLeft, show (8 : UInt64).toNat % 64 = 8 by decide, Nat.shiftLeft_eq]
  have ha := a.toNat_lt
  have hb := b.toNat_lt
  have p64 : (2 : Nat) ^ 64 = 18446744073709551616 := by decide
  have p8 : (2 : Nat) ^ 8 = 256 := by decide
  simp only [UInt8.toNat_toUInt64]
  rw [p64, p8]
  omega
theorem textS_two (a b : UInt8) (l : List UInt8) : textS (a :: b :: l) 0 =
    if l.length < a.toNat + 256 * b.toNat then ([], a :: b :: l, 1) else (l.take (a.toNat + 256 * b.toNat), l.drop (a.toNat + 256 * b.toNat), 0) := by
  have e : fixedS (a :: b :: l) 0 2 = (leV [a, b], l, 0) := by unfold fixedS takeS; rw [if_pos rfl, if_neg (by simp)]; rfl
  unfold textS
  rw [e]
  simp only [leV_two]
  unfold takeS
  rw [if_pos rfl]
  by_cases hlt : l.length < a.toNat + 256 * b.toNat
  · simp only [if_pos hlt]
  · simp only [if_neg hlt]

set_option maxRecDepth 100000 in
set_option maxHeartbeats 1600000 in
theorem rtext_calls (w : World) (B g : Nat) (rest : List UInt8) (f : Nat) (hR : Rr w B g rest (fr f)) :
    Calls Tryd.prog 64 #[.pointer (some ⟨g, 0, none⟩)] w fun e w' =>
      Rrr w w' B g e (.string ⟨(textS rest f).1.toArray⟩) (textS rest f).2.1 (textS rest f).2.2 := by
  have HR := Go.Lib.hid hR
  obtain ⟨A, c, hBg, hh, hlc, hc, hA, hAb⟩ := hR
  have hc0 := cell_of_row w g 0 _ _ _ hh
  have hc1 := cell_of_row w g 1 _ _ _ hh
  have hf0 := heap_frozen hh 0
  simp only [List.getElem?_toArray, List.getElem?_cons_zero, List.getElem?_cons_succ] at hc0 hc1
  have HA := Go.Lib.hid hA
  have HH := Go.Lib.hid hh
  have HAB := Go.Lib.hid hAb
  clear hA hh hAb
  have hfault : ∀ y : Int, (y == 0) = false → w.cell? ⟨g, 1, none⟩ = some (.int .i64 y) → f ≠ 0 → Calls Tryd.prog 64 #[.pointer (some ⟨g, 0, none⟩)] w fun e w' =>
      Rrr w w' B g e (.string ⟨(textS rest f).1.toArray⟩) (textS rest f).2.1 (textS rest f).2.2 := by
    intro y hy hcy hf
    have hT : textS rest f = ([], rest, f) := by
      have e : fixedS rest f 2 = (0, rest, f) := by unfold fixedS takeS; rw [if_neg hf]
      unfold textS
      rw [e]
      unfold takeS
      simp only [if_neg hf]
    rw [hT]
    have hy2 : (y != 0) = true := by unfold bne; rw [hy]; rfl
    clear hT hc1 HH hf
    go_enter Tryd.func64, Tryd.ntmps64
    go_wp2
    go_ret
    exact ⟨rfl, HR.out, Only.refl g w⟩
  rcases f with _ | _ | f
  case succ.zero => exact hfault 2 rfl hc1 (by decide)
  case succ.succ => exact hfault 3 rfl hc1 (by omega)
  clear hfault
  change w.cell? _ = some (.int .i64 0) at hc1
  have HF := Go.Lib.hid (fail_calls w B g rest _ 2 HR.out ⟨0, rfl⟩)
  by_cases h2 : rest.length < 2
  · rw [textS_short rest h2]
    have d1 : decide ((2 : Int) ≤ (rest.length : Int)) = false := decide_eq_false (by omega)
    have d2 : decide (2 ≤ rest.length) = false := decide_eq_false (by omega)
    have d3 : decide ((rest.length : Int) < 2) = true := decide_eq_true (by omega)
    have d4 : decide (rest.length < 2) = true := decide_eq_true h2
    go_enter Tryd.func64, Tryd.ntmps64
    go_wp2_with fail
    refine HF.out.mono ?_
    rintro e w1 ⟨⟨v, rfl⟩, rfl⟩
    go_wp2
    go_ret
    exact ⟨rfl, rr_fault HR.out _, (Only.refl g w).set 1 _⟩
  · obtain ⟨u, v, l, hr⟩ : ∃ u v l, rest = u :: v :: l := by
      rcases rest with _ | ⟨u, _ | ⟨v, l⟩⟩
      · exact absurd (by simp) h2
      · exact absurd (by simp) h2
      · exact ⟨u, v, l, rfl⟩
    obtain ⟨bb, oo, hAe, hcell⟩ := HA.out (by rw [Bs_length]; omega)
    have hk0 : w.cell? ⟨bb, oo, none⟩ = some (.int .u8 (n8 u)) := by
      have := hcell 0 (by rw [Bs_length]; omega)
      rw [Nat.add_zero] at this
      rw [this]
      simp [hr, Bs]
    have hk1 : w.cell? ⟨bb, oo + 1, none⟩ = some (.int .u8 (n8 v)) := by
      rw [hcell 1 (by rw [Bs_length]; omega)]
      simp [hr, Bs]
    subst hAe
    obtain ⟨N, hN⟩ : ∃ N, N = u.toNat + 256 * v.toNat := ⟨_, rfl⟩
    obtain ⟨M, hM⟩ : ∃ M, M = N + 2 := ⟨_, rfl⟩
    have hu := u.toNat_lt
    have hv := v.toNat_lt
    have hw0 : IntKind.i64.wrap (n8 u) = n8 u := by rw [IntKind.wrap_i64]; unfold n8; omega
    have hw1 : IntKind.i64.wrap (n8 v) = n8 v := by rw [IntKind.wrap_i64]; unfold n8; omega
    have hw2 : IntKind.i64.wrap (256 * n8 v) = 256 * n8 v := by rw [IntKind.wrap_i64]; unfold n8; omega
    have hw3 : IntKind.i64.wrap (n8 u + 256 * n8 v) = (N : Int) := by rw [IntKind.wrap_i64]; unfold n8; omega
    have hw4 : IntKind.i64.wrap (2 + (N : Int)) = (M : Int) := by rw [IntKind.wrap_i64]; omega
    have g1 : decide ((2 : Int) ≤ (rest.length : Int)) = true := decide_eq_true (by omega)
    have g2 : decide (2 ≤ rest.length) = true := decide_eq_true (by omega)
    have g3 : (0 : Int) < (rest.length : Int) := by omega
    have g4 : (1 : Int) < (rest.length : Int) := by omega
    have HM := Go.Lib.hid hM
    have HRE := Go.Lib.hid hr
    have HN := Go.Lib.hid hN
    clear hcell hu hv hM hr hN
    by_cases hlt : rest.length < M
    · have d3 : decide ((rest.length : Int) < (M : Int)) = true := decide_eq_true (by omega)
      have d4 : decide (rest.length < M) = true := decide_eq_true hlt
      have hT : textS rest 0 = ([], rest, 1) := by rw [HRE.out, textS_two, if_pos (by have := HM.out; have := HN.out; have h := hlt; rw [HRE.out] at h; simp at h; omega)]
      go_enter Tryd.func64, Tryd.ntmps64
      rw [hT]
      clear hT
      go_wp2
      go_quiet (fail)
      go_wp2_with fail
      refine (fail_calls (w.drewN _) B g rest _ 2 HR.out ⟨0, rfl⟩).mono ?_
      rintro e w1 ⟨⟨v, rfl⟩, rfl⟩
      go_wp2
      go_ret
      exact ⟨rfl, rr_fault (w := w.drewN _) HR.out _, (show Only g w (w.drewN _) from ⟨rfl, rfl, rfl, rfl, fun _ _ => rfl⟩).set 1 _⟩
    · have d3 : decide ((rest.length : Int) < (M : Int)) = false := decide_eq_false (by omega)
      have d4 : decide (rest.length < M) = false := decide_eq_false hlt
      have hMr : M ≤ rest.length := by omega
      have hM2 : 2 ≤ M := by have := HM.out; omega
      have hcut : ∀ W : World, (Instr.slice 26 (.slice (some ⟨bb, oo, none⟩) rest.length c) (some (.int .i64 2)) (some (.int .i64 (M : Int))) none).run Tryd.prog W = .ok (.slice (cutA (some ⟨bb, oo, none⟩) c 2) (M - 2) (c - 2)) W :=
        run_cut_lh (P := Tryd.prog) 26 5 Tryd.underlying26 size8' (some ⟨bb, oo, none⟩) rest.length c 2 M hM2 (by omega)
      have hcut' := run_cut_l (P := Tryd.prog) 26 5 Tryd.underlying26 size8' (some ⟨bb, oo, none⟩) rest.length c M hMr
      have htk : (rest.take M).drop 2 = l.take N := by rw [HRE.out, HM.out]; rfl
      have hdr : rest.drop M = l.drop N := by rw [HRE.out, HM.out]; rfl
      have hconv : ∀ k, (convert 26 9 (.slice (cutA (some ⟨bb, oo, none⟩) c 2) (M - 2) (c - 2))).run Tryd.prog (w.drewN k) = .ok (.string ⟨(l.take N).toArray⟩) (w.drewN k) := by
        intro k
        obtain ⟨A2, c2, hv2, _, _, h23⟩ := slb_cut (w := w.drewN k) (lo := 2) (hi := M) HA.out hlc hc hM2 hMr
        rw [hv2, ← htk]
        exact conv_str h23
      have hT : textS rest 0 = (l.take N, rest.drop M, 0) := by
        rw [hdr, HRE.out, textS_two, if_neg (by have := HM.out; have := HN.out; have h := hlt; rw [HRE.out] at h; simp at h; omega), HN.out]
      rw [hT]
      clear hT htk hdr
      go_enter Tryd.func64, Tryd.ntmps64
      go_wp2
      go_quiet (fail)
      go_wp2
      go_ret
      exact ⟨rfl, rr_cut (w := w.drewN _) hBg HH.out hlc hc HA.out HAB.out hMr, (show Only g w (w.drewN _) from ⟨rfl, rfl, rfl, rfl, fun _ _ => rfl⟩).set 0 _⟩
theorem rtext_nil (w : World) : Calls Tryd.prog 64 #[.pointer none] w fun e w' => e = .returned (.string ⟨#[]⟩) ∧ w' = w := by
  go_enter Tryd.func64, Tryd.ntmps64
  go_wp2
  go_ret
  exact ⟨rfl, rfl⟩
end Go.Proofs.YtjkocjkfedcdoaaDoor
