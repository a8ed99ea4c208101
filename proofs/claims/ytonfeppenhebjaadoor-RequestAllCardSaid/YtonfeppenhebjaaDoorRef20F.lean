/- Package turnstileref20: Frame. -/
import Derived.Test.YtonfeppenhebjaaDoorRef20ER
import Derived.Test.YtonfeppenhebjaaDoorReqF
namespace Go.Proofs.YtonfeppenhebjaaDoor
open Go Go.RowKit
set_option linter.unusedVariables false
set_option linter.unusedSimpArgs false
attribute [local go_sem] IntKind.wrap_u64 c64_8 c8_64 c16_64 c32_64 c64_16 c64_32 or8 and8 n64_self n8_self beq_n64 beq_n8 bne_n8 bne_n64

set_option maxRecDepth 100000 in
set_option maxHeartbeats 1600000 in
theorem rframe_calls (A : Option Addr) (c : Nat) (l : List UInt8) (w : World) (hl : l.length ≤ 9223372036854775807) (hA : Cells w A (Bs l)) :
    Calls Tryd.prog 22 #[.slice A l.length c] w fun e w' => GaveF w w' e (frameS l) := by
  by_cases h0 : l.length = 0
  · have hF : frameS l = ([], 1) := by unfold frameS; rw [if_pos h0]
    rw [hF]
    clear hF hA
    go_enter Tryd.func22, Tryd.ntmps22
    go_wp2
    go_ret2
    exact ⟨_, rfl, own_nil _ _ _, Below.refl _ _⟩
  have z1 : ((l.length : Int) == 0) = false := by rw [beq_eq_false_iff_ne]; omega
  by_cases hb : 256 < l.length
  · have hF : frameS l = ([], 4) := by unfold frameS; rw [if_neg h0, if_pos hb]
    rw [hF]
    have d1 : decide ((256 : Int) < (l.length : Int)) = true := decide_eq_true (by omega)
    clear hF hA
    go_enter Tryd.func22, Tryd.ntmps22
    go_wp2
    go_ret2
    exact ⟨_, rfl, own_nil _ _ _, Below.refl _ _⟩
  have hF : frameS l = ([(165 : UInt8)] ++ leS (UInt64.ofNat l.length) 2 ++ l, 0) := by unfold frameS; rw [if_neg h0, if_neg hb]; simp
  rw [hF]
  have d1 : decide ((256 : Int) < (l.length : Int)) = false := decide_eq_false (by omega)
  have hle := len_u64 l.length (by omega)
  have hbb : Below w.heap.size w (w.alloc (.cells #[.int .u8 165] 5)) := (Below.refl _ _).alloc (Nat.le_refl _) _
  have hO : Own (w.alloc (.cells #[.int .u8 165] 5)) w.heap.size 5 (.slice (some ⟨w.heap.size, 0, none⟩) 1 1) (Bs [165]) := own_block [165] (Nat.le_refl _) (heap_here w _ _ rfl) (by simp)
  have HP := Go.Lib.hid (put11_calls w.heap.size (.slice (some ⟨w.heap.size, 0, none⟩) 1 1) [165] (UInt64.ofNat l.length) 2 2 (by decide) _ hbb.size (by simp) (by omega) hO)
  have HBB := Go.Lib.hid hbb
  have HA := Go.Lib.hid hA
  have hll : l.length ≤ 256 := by omega
  have HL := Go.Lib.hid (show ([165] ++ leS (UInt64.ofNat l.length) 2).length = 3 by simp [leS_length])
  obtain ⟨q, hq⟩ : ∃ q, q = [(165 : UInt8)] ++ leS (UInt64.ofNat l.length) 2 := ⟨_, rfl⟩
  rw [← hq] at HP HL ⊢
  clear hF hA hbb hO hq hb
  go_enter Tryd.func22, Tryd.ntmps22
  go_wp2_with fail
  refine HP.out.mono ?_
  rintro e w1 ⟨v, rfl, hv, hb1, _⟩
  have HV := Go.Lib.hid hv
  have HB := Go.Lib.hid (HBB.out.trans hb1)
  clear hv hb1 HP HBB
  go_wp2
  go_loopw [4, 5] (fun v i wr => ∃ k : Nat, k ≤ l.length ∧ i = .int .i64 (k : Int) ∧ Hid (Own wr w.heap.size 5 v (Bs (q ++ l.take k))) ∧ Hid (Below w.heap.size w wr)) (fun _ i _ => l.length - (intOf i).toNat)
  case atStart => exact ⟨0, by omega, rfl, by rw [List.take_zero, List.append_nil]; exact HV.out, HB⟩
  case round =>
    obtain ⟨k, hk, rfl, HV', HB'⟩ := hrel
    clear HV HB
    by_cases hkl : k < l.length
    · have hroom : (((Bs (q ++ l.take k)).length + 1) + ((Bs (q ++ l.take k)).length + 1) / 4 + 192) * 1 ≤ 281474976710656 := by rw [Bs_length, List.length_append, HL.out, List.length_take]; omega
      have hmax : (Bs (q ++ l.take k)).length + 1 ≤ 9223372036854775807 := by rw [Bs_length, List.length_append, HL.out, List.length_take]; omega
      have hsz := HB'.out.size
      obtain ⟨b, o, hAe, hc⟩ := (cells_below HB'.out HA.out).byte k hkl
      subst hAe
      have hk0 : (0 : Int) ≤ (k : Int) := Int.natCast_nonneg _
      have hk1 : (k : Int) < (l.length : Int) := by omega
      have HT := Go.Lib.hid (List.take_succ_eq_append_getElem hkl)
      generalize l[k] = y at *
      go_wp2_with (first
        | (at_builtin; (with_reducible refine wpList_append_val (W := wr) (u := .int .u8 (n8 y)) (base := w.heap.size) (vs := Bs (q ++ l.take k)) (s := .tmp 24) (x := .tmp 29) (t := 37) (e := 5) (z := .int .u8 0) (bytes := 1) (hinfo := info8) (ht := Tryd.underlying37) (hown := HV'.out) (hbase := hsz) (hgd := rfl) (ho := ?_) (hz := ?_) (hs := ?_) (hu := ?_) (hx := ?_) (hroom := hroom) (hmax := hmax) (h := ?_)); rfl; rfl; rfl; rfl; rfl; intro v1 wn hown1 hgr; have HO := Go.Lib.hid hown1; have HBN := Go.Lib.hid (below_grown HB'.out HV'.out hgr (Nat.le_refl _) hsz); clear hown1 hgr))
      go_roundw
      case rel =>
        refine ⟨k + 1, by omega, by go_num, ?_, HBN⟩
        have e := HO.out
        rw [Bs_snoc, List.append_assoc, ← HT.out] at e
        exact e
      case measure => simp [intOf]; omega
    · have hkn : k = l.length := by omega
      have e := HV'.out
      rw [hkn, List.take_length] at e
      have HX := Go.Lib.hid e
      clear e HV'
      go_wp2
      go_ret2
      exact ⟨_, rfl, HX.out, HB'.out⟩
end Go.Proofs.YtonfeppenhebjaaDoor
