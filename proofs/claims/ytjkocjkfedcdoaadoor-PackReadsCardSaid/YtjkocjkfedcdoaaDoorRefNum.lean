/- Package turnstileref01: Number's walk. -/
import Derived.Test.YtjkocjkfedcdoaaDoorRefNP
namespace Go.Proofs.YtjkocjkfedcdoaaDoor
open Go Go.RowKit
attribute [local go_sem] IntKind.wrap_u64 c64_8 c8_64 or8 and8 n64_self n8_self beq_n64 beq_n8 bne_n8 bne_n64 mul64_128 add64 mod8_128

theorem valG_step (rest : List UInt8) (n j : Nat) (u : UInt64) (hj : j < rest.length) (hjn : j ≤ n) (hu : u = UInt64.ofNat (valG ((rest.take (n + 1)).drop ((j : Int) + 1).toNat))) :
    u * 128 + (rest[j] % 128).toUInt64 = UInt64.ofNat (valG ((rest.take (n + 1)).drop j)) := by
  rw [show ((j : Int) + 1).toNat = j + 1 by omega] at hu
  rw [List.drop_eq_getElem_cons (by rw [List.length_take]; omega : j < (rest.take (n + 1)).length), List.getElem_take]
  show _ = UInt64.ofNat (valG ((rest.take (n + 1)).drop (j + 1)) * 128 + rest[j].toNat % 128)
  rw [hu]
  apply UInt64.toNat_inj.1
  simp

set_option maxRecDepth 100000 in
set_option maxHeartbeats 1600000 in
theorem rnumber_calls (w : World) (B g : Nat) (rest : List UInt8) (f : Nat) (hl : rest.length ≤ 9223372036854775807) (hR : Rr w B g rest (fr f)) :
    Calls Tryd.prog 65 #[.pointer (some ⟨g, 0, none⟩)] w fun e w' =>
      Rrr w w' B g e (.int .u64 (n64 (numberF rest f).1)) (numberF rest f).2.1 (numberF rest f).2.2 := by
  have HR := Go.Lib.hid hR
  obtain ⟨A, c, hBg, hh, hlc, hc, hA, hAb⟩ := hR
  have hc0 := cell_of_row w g 0 _ _ _ hh
  have hc1 := cell_of_row w g 1 _ _ _ hh
  have hf0 := heap_frozen hh 0
  simp only [List.getElem?_toArray, List.getElem?_cons_zero, List.getElem?_cons_succ] at hc0 hc1
  have HA := Go.Lib.hid hA
  have HH := Go.Lib.hid hh
  have HAB := Go.Lib.hid hAb
  clear hA hh hAb
  have hfault : ∀ y : Int, (y == 0) = false → w.cell? ⟨g, 1, none⟩ = some (.int .i64 y) → f ≠ 0 → Calls Tryd.prog 65 #[.pointer (some ⟨g, 0, none⟩)] w fun e w' =>
      Rrr w w' B g e (.int .u64 (n64 (numberF rest f).1)) (numberF rest f).2.1 (numberF rest f).2.2 := by
    intro y hy hcy hf
    have hT : numberF rest f = (0, rest, f) := by unfold numberF; rw [if_neg hf]
    rw [hT]
    have hy2 : (y != 0) = true := by unfold bne; rw [hy]; rfl
    clear hT hc1 HH hf
    go_enter Tryd.func65, Tryd.ntmps65
    go_wp2
    go_ret
    exact ⟨rfl, HR.out, Only.refl g w⟩
  rcases f with _ | _ | f
  case succ.zero => exact hfault 2 rfl hc1 (by decide)
  case succ.succ => exact hfault 3 rfl hc1 (by omega)
  clear hfault
  change w.cell? _ = some (.int .i64 0) at hc1
  rw [show numberF rest 0 = numberS rest from rfl]
  have HG := Go.Lib.hid (rgroups_calls A c rest w hl HA.out)
  rcases hcnt : cntG 0 rest with _ | n
  · rw [hcnt] at HG
    have hT : numberS rest = (0, rest, if rest.length < 10 then 1 else 2) := by
      unfold numberS
      rw [grp_cnt_zero rest 0 0 (by decide) hcnt, Nat.zero_add]
    rw [hT]
    clear hT hcnt
    by_cases h10 : rest.length < 10
    · rw [if_pos h10]
      have d1 : decide ((rest.length : Int) < 10) = true := decide_eq_true (by omega)
      have d2 : decide (rest.length < 10) = true := decide_eq_true h10
      have HF := Go.Lib.hid (fail_calls w B g rest _ 2 HR.out ⟨0, rfl⟩)
      go_enter Tryd.func65, Tryd.ntmps65
      go_wp2_with fail
      refine HG.out.mono ?_
      rintro e w1 ⟨rfl, rfl⟩
      go_wp2_with fail
      refine HF.out.mono ?_
      rintro e w2 ⟨⟨v, rfl⟩, rfl⟩
      go_wp2
      go_ret
      exact ⟨rfl, rr_fault HR.out _, (Only.refl g _).set 1 _⟩
    · rw [if_neg h10]
      have d1 : decide ((rest.length : Int) < 10) = false := decide_eq_false (by omega)
      have d2 : decide (rest.length < 10) = false := decide_eq_false h10
      have HF := Go.Lib.hid (fail_calls w B g rest _ 3 HR.out ⟨0, rfl⟩)
      go_enter Tryd.func65, Tryd.ntmps65
      go_wp2_with fail
      refine HG.out.mono ?_
      rintro e w1 ⟨rfl, rfl⟩
      go_wp2_with fail
      refine HF.out.mono ?_
      rintro e w2 ⟨⟨v, rfl⟩, rfl⟩
      go_wp2
      go_ret
      exact ⟨rfl, rr_fault HR.out _, (Only.refl g _).set 1 _⟩
  · have hge := cntG_ge rest 0
    rw [hcnt] at hge
    have hn9 : n ≤ 9 := by omega
    have hnl : n + 1 ≤ rest.length := by omega
    obtain ⟨gg, hg, hbad, hok⟩ := grp_cnt_pos rest 0 n 0 (by decide) (by decide) hcnt
    rw [Nat.sub_zero] at hg
    obtain ⟨b, o, hAe, hcell⟩ := HA.out (by rw [Bs_length]; omega)
    have hall : ∀ j, (hj : j < rest.length) → w.cell? ⟨b, o + j, none⟩ = some (.int .u8 (n8 rest[j])) := by
      intro j hj
      rw [hcell j (by rw [Bs_length]; omega)]
      simp [Bs]
    have HALL := Go.Lib.hid hall
    have hck : w.cell? ⟨b, o + n, none⟩ = some (.int .u8 (n8 gg)) := by
      rw [hall n (by omega)]
      rw [List.getElem?_eq_getElem (by omega)] at hg
      rw [Option.some.inj hg]
    subst hAe
    clear hcell hall hg
    rw [hcnt] at HG
    by_cases hb : (n = 9 ∧ 1 < gg) ∨ (0 < n ∧ gg = 0)
    · have hT : numberS rest = (0, rest, 2) := by unfold numberS; rw [hbad hb]
      rw [hT]
      have HF := Go.Lib.hid (fail_calls w B g rest _ 3 HR.out ⟨0, rfl⟩)
      clear hT hbad hok hge hcnt
      by_cases h9 : n = 9
      · subst h9
        have hl9 : (9 : Int) < (rest.length : Int) := by omega
        by_cases h1 : 1 < gg
        · have h1i := (gt1 gg).1 h1
          clear hb h1
          go_enter Tryd.func65, Tryd.ntmps65
          go_wp2_with fail
          refine HG.out.mono ?_
          rintro e w1 ⟨rfl, rfl⟩
          go_wp2_with fail
          refine HF.out.mono ?_
          rintro e w2 ⟨⟨v, rfl⟩, rfl⟩
          go_wp2
          go_ret
          exact ⟨rfl, rr_fault HR.out _, (Only.refl g _).set 1 _⟩
        · have h0 : gg = 0 := hb.elim (fun ⟨_, h⟩ => absurd h h1) (fun ⟨_, h⟩ => h)
          subst h0
          clear hb h1
          go_enter Tryd.func65, Tryd.ntmps65
          go_wp2_with fail
          refine HG.out.mono ?_
          rintro e w1 ⟨rfl, rfl⟩
          go_wp2_with fail
          refine HF.out.mono ?_
          rintro e w2 ⟨⟨v, rfl⟩, rfl⟩
          go_wp2
          go_ret
          exact ⟨rfl, rr_fault HR.out _, (Only.refl g _).set 1 _⟩
      · have h0 : gg = 0 := hb.elim (fun ⟨h, _⟩ => absurd h h9) (fun ⟨_, h⟩ => h)
        have hn0 : 0 < n := hb.elim (fun ⟨h, _⟩ => absurd h h9) (fun ⟨h, _⟩ => h)
        subst h0
        obtain ⟨M, hM⟩ : ∃ M, M = n + 1 := ⟨_, rfl⟩
        rw [← hM] at HG
        have m0 : ((M : Int) == 0) = false := beq_eq_false_iff_ne.2 (by omega)
        have m10 : ((M : Int) == 10) = false := beq_eq_false_iff_ne.2 (by omega)
        have m1 : (1 : Int) < (M : Int) := by omega
        have m1' : 1 < M := by omega
        have mw : IntKind.i64.wrap ((M : Int) - 1) = (n : Int) := by rw [IntKind.wrap_i64]; omega
        have nl : (n : Int) < (rest.length : Int) := by omega
        have n0 : (0 : Int) ≤ (n : Int) := by omega
        have HMM := Go.Lib.hid hM
        clear hb h9 hM
        go_enter Tryd.func65, Tryd.ntmps65
        go_wp2_with fail
        refine HG.out.mono ?_
        rintro e w1 ⟨rfl, rfl⟩
        go_wp2_with fail
        refine HF.out.mono ?_
        rintro e w2 ⟨⟨v, rfl⟩, rfl⟩
        go_wp2
        go_ret
        exact ⟨rfl, rr_fault HR.out _, (Only.refl g _).set 1 _⟩
    · obtain ⟨y, hy, hyn⟩ := hok hb
      have hT : numberS rest = (y, rest.drop (n + 1), 0) := by unfold numberS; rw [hy]; rfl
      have hY : y = UInt64.ofNat (valG (rest.take (n + 1))) := by
        apply UInt64.toNat_inj.1
        rw [UInt64.toNat_ofNat', Nat.mod_eq_of_lt]
        · rw [hyn, show n + 1 - 0 = n + 1 from rfl]; simp
        · have := y.toNat_lt
          rw [hyn, show n + 1 - 0 = n + 1 from rfl] at this
          simpa using this
      have HY := Go.Lib.hid hY
      rw [hT]
      clear hT hbad hok hge hcnt hy hyn hY
      by_cases h9 : n = 9
      · subst h9
        have hl9 : (9 : Int) < (rest.length : Int) := by omega
        have hcut : ∀ W : World, (Instr.slice 26 (.slice (some ⟨b, o, none⟩) rest.length c) (some (.int .i64 (10 : Int))) none none).run Tryd.prog W = .ok (.slice (cutA (some ⟨b, o, none⟩) c 10) (rest.length - 10) (c - 10)) W := run_cut_l (P := Tryd.prog) 26 5 Tryd.underlying26 size8' (some ⟨b, o, none⟩) rest.length c 10 hnl
        have h1i : ¬ (1 : Int) < n8 gg := fun h => hb (.inl ⟨rfl, (gt1 gg).2 h⟩)
        have h0i : (n8 gg == 0) = false := beq_eq_false_iff_ne.2 (fun h => hb (.inr ⟨by decide, (eq0 gg).2 h⟩))
        clear hb
        go_enter Tryd.func65, Tryd.ntmps65
        go_wp2_with fail
        refine HG.out.mono ?_
        rintro e w1 ⟨rfl, rfl⟩
        go_wp2
        go_loopw [4, 5] (fun x i wr => ∃ (z : Int) (u : UInt64), wr = w1 ∧ -1 ≤ z ∧ z ≤ (9 : Int) ∧ i = .int .i64 z ∧ x = .int .u64 (n64 u) ∧ Hid (u = UInt64.ofNat (valG ((rest.take (9 + 1)).drop (z + 1).toNat)))) (fun _ i _ => (intOf i + 1).toNat)
        case atStart => exact ⟨(9 : Int), 0, rfl, by omega, by omega, rfl, rfl, by rw [show ((9 : Int) + 1).toNat = (rest.take (9 + 1)).length by rw [List.length_take]; omega, List.drop_length]; rfl⟩
        case round =>
          obtain ⟨z, u, rfl, hz, hzl, rfl, rfl, HU⟩ := hrel
          by_cases h0 : 0 ≤ z
          · obtain ⟨j, rfl⟩ : ∃ j : Nat, z = (j : Int) := ⟨z.toNat, by omega⟩
            have hj : j < rest.length := by omega
            have hckj := HALL.out j hj
            have hnext := valG_step rest 9 j u (by omega) (by omega) HU.out
            have hwj : IntKind.i64.wrap ((j : Int) - 1) = (j : Int) - 1 := by rw [IntKind.wrap_i64]; omega
            have hj0 : (0 : Int) ≤ (j : Int) := Int.natCast_nonneg _
            have hj1 : (j : Int) < (rest.length : Int) := by omega
            have HN := Go.Lib.hid hnext
            clear hnext HU hck
            generalize rest[j] = y at *
            go_wp2
            go_roundw
            case rel => exact ⟨(j : Int) - 1, _, by trivial, by omega, by omega, rfl, rfl, by rw [show ((j : Int) - 1 + 1).toNat = j by omega]; exact HN.out⟩
            case measure => simp [intOf]
          · have hz1 : z = -1 := by omega
            have hu := HU.out
            rw [hz1, show ((-1 : Int) + 1).toNat = 0 by rfl, List.drop_zero] at hu
            have HL := Go.Lib.hid (HY.out.trans hu.symm)
            clear hu HU
            subst hz1
            go_wp2
            go_ret
            exact ⟨by rw [HL.out]; rfl, rr_cut hBg HH.out hlc hc HA.out HAB.out hnl, (Only.refl g wr).set 0 _⟩
      · by_cases hn0 : n = 0
        · subst hn0
          have hl9 : (0 : Int) < (rest.length : Int) := by omega
          have hcut : ∀ W : World, (Instr.slice 26 (.slice (some ⟨b, o, none⟩) rest.length c) (some (.int .i64 (1 : Int))) none none).run Tryd.prog W = .ok (.slice (cutA (some ⟨b, o, none⟩) c 1) (rest.length - 1) (c - 1)) W := run_cut_l (P := Tryd.prog) 26 5 Tryd.underlying26 size8' (some ⟨b, o, none⟩) rest.length c 1 hnl
          clear hb h9
          go_enter Tryd.func65, Tryd.ntmps65
          go_wp2_with fail
          refine HG.out.mono ?_
          rintro e w1 ⟨rfl, rfl⟩
          go_wp2
          go_loopw [4, 5] (fun x i wr => ∃ (z : Int) (u : UInt64), wr = w1 ∧ -1 ≤ z ∧ z ≤ (0 : Int) ∧ i = .int .i64 z ∧ x = .int .u64 (n64 u) ∧ Hid (u = UInt64.ofNat (valG ((rest.take (0 + 1)).drop (z + 1).toNat)))) (fun _ i _ => (intOf i + 1).toNat)
          case atStart => exact ⟨(0 : Int), 0, rfl, by omega, by omega, rfl, rfl, by rw [show ((0 : Int) + 1).toNat = (rest.take (0 + 1)).length by rw [List.length_take]; omega, List.drop_length]; rfl⟩
          case round =>
            obtain ⟨z, u, rfl, hz, hzl, rfl, rfl, HU⟩ := hrel
            by_cases h0 : 0 ≤ z
            · obtain ⟨j, rfl⟩ : ∃ j : Nat, z = (j : Int) := ⟨z.toNat, by omega⟩
              have hj : j < rest.length := by omega
              have hckj := HALL.out j hj
              have hnext := valG_step rest 0 j u (by omega) (by omega) HU.out
              have hwj : IntKind.i64.wrap ((j : Int) - 1) = (j : Int) - 1 := by rw [IntKind.wrap_i64]; omega
              have hj0 : (0 : Int) ≤ (j : Int) := Int.natCast_nonneg _
              have hj1 : (j : Int) < (rest.length : Int) := by omega
              have HN := Go.Lib.hid hnext
              clear hnext HU hck
              generalize rest[j] = y at *
              go_wp2
              go_roundw
              case rel => exact ⟨(j : Int) - 1, _, by trivial, by omega, by omega, rfl, rfl, by rw [show ((j : Int) - 1 + 1).toNat = j by omega]; exact HN.out⟩
              case measure => simp [intOf]
            · have hz1 : z = -1 := by omega
              have hu := HU.out
              rw [hz1, show ((-1 : Int) + 1).toNat = 0 by rfl, List.drop_zero] at hu
              have HL := Go.Lib.hid (HY.out.trans hu.symm)
              clear hu HU
              subst hz1
              go_wp2
              go_ret
              exact ⟨by rw [HL.out]; rfl, by have h1 := rr_cut (n := 1) hBg HH.out hlc hc HA.out HAB.out hnl; rw [List.drop_one] at h1; exact h1, (Only.refl g wr).set 0 _⟩
        · obtain ⟨M, hM⟩ : ∃ M, M = n + 1 := ⟨_, rfl⟩
          rw [← hM] at HG
          have m0 : ((M : Int) == 0) = false := beq_eq_false_iff_ne.2 (by omega)
          have m10 : ((M : Int) == 10) = false := beq_eq_false_iff_ne.2 (by omega)
          have m1 : (1 : Int) < (M : Int) := by omega
          have m1' : 1 < M := by omega
          have mw : IntKind.i64.wrap ((M : Int) - 1) = (n : Int) := by rw [IntKind.wrap_i64]; omega
          have nl : (n : Int) < (rest.length : Int) := by omega
          have n0 : (0 : Int) ≤ (n : Int) := by omega
          have h0i : (n8 gg == 0) = false := beq_eq_false_iff_ne.2 (fun h => hb (.inr ⟨by omega, (eq0 gg).2 h⟩))
          have hcut := run_cut_l (P := Tryd.prog) 26 5 Tryd.underlying26 size8' (some ⟨b, o, none⟩) rest.length c M (by omega)
          have hnl' : M ≤ rest.length := by omega
          have HMM := Go.Lib.hid hM
          rw [← hM]
          clear hb h9 hn0 hM
          go_enter Tryd.func65, Tryd.ntmps65
          go_wp2_with fail
          refine HG.out.mono ?_
          rintro e w1 ⟨rfl, rfl⟩
          go_wp2
          go_loopw [4, 5] (fun x i wr => ∃ (z : Int) (u : UInt64), wr = w1 ∧ -1 ≤ z ∧ z ≤ (n : Int) ∧ i = .int .i64 z ∧ x = .int .u64 (n64 u) ∧ Hid (u = UInt64.ofNat (valG ((rest.take (n + 1)).drop (z + 1).toNat)))) (fun _ i _ => (intOf i + 1).toNat)
          case atStart => exact ⟨(n : Int), 0, rfl, by omega, by omega, rfl, rfl, by rw [show ((n : Int) + 1).toNat = (rest.take (n + 1)).length by rw [List.length_take]; omega, List.drop_length]; rfl⟩
          case round =>
            obtain ⟨z, u, rfl, hz, hzl, rfl, rfl, HU⟩ := hrel
            by_cases h0 : 0 ≤ z
            · obtain ⟨j, rfl⟩ : ∃ j : Nat, z = (j : Int) := ⟨z.toNat, by omega⟩
              have hj : j < rest.length := by omega
              have hckj := HALL.out j hj
              have hnext := valG_step rest n j u (by omega) (by omega) HU.out
              have hwj : IntKind.i64.wrap ((j : Int) - 1) = (j : Int) - 1 := by rw [IntKind.wrap_i64]; omega
              have hj0 : (0 : Int) ≤ (j : Int) := Int.natCast_nonneg _
              have hj1 : (j : Int) < (rest.length : Int) := by omega
              have HN := Go.Lib.hid hnext
              clear hnext HU hck
              generalize rest[j] = y at *
              go_wp2
              go_roundw
              case rel => exact ⟨(j : Int) - 1, _, by trivial, by omega, by omega, rfl, rfl, by rw [show ((j : Int) - 1 + 1).toNat = j by omega]; exact HN.out⟩
              case measure => simp [intOf]
            · have hz1 : z = -1 := by omega
              have hu := HU.out
              rw [hz1, show ((-1 : Int) + 1).toNat = 0 by rfl, List.drop_zero] at hu
              have HL := Go.Lib.hid (HY.out.trans hu.symm)
              clear hu HU
              subst hz1
              go_wp2
              go_ret
              exact ⟨by rw [HL.out]; rfl, rr_cut hBg HH.out hlc hc HA.out HAB.out hnl', (Only.refl g wr).set 0 _⟩
end Go.Proofs.YtjkocjkfedcdoaaDoor
