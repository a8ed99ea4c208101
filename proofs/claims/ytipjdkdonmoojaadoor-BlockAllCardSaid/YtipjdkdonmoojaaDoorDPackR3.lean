/- Package pack: the readers of fixed widths and of text. -/
import Derived.Test.YtipjdkdonmoojaaDoorDPackR2
namespace Go.Proofs.YtipjdkdonmoojaaDoor
open Go Go.RowKit
set_option linter.unusedVariables false
set_option linter.unusedSimpArgs false
attribute [local go_sem] IntKind.wrap_u64 c64_8 c8_64 c16_64 c32_64 c64_16 c64_32 or8 and8 shr64_7 shr64_8 shl64_8 or64 and64 n64_self n8_self beq_n64 beq_n8 bne_n8 bne_n64

def takeS (rest : List UInt8) (f n : Nat) : Option (List UInt8) × List UInt8 × Nat :=
  if f = 0 then if rest.length < n then (none, rest, 1) else (some (rest.take n), rest.drop n, 0) else (none, rest, f)
/-- what take hands back -/
def Took (w : World) (g : Nat) (v : Value) (ok : Value) : Option (List UInt8) → Prop
  | none => v = .slice none 0 0 ∧ ok = .bool false
  | some l => ∃ A c, v = .slice A l.length c ∧ ok = .bool true ∧ l.length ≤ c ∧ c ≤ 9223372036854775807 ∧ Cells w A (Bs l) ∧ ∀ ad, A = some ad → ad.block ≠ g

set_option maxRecDepth 100000 in
set_option maxHeartbeats 800000 in
theorem take_calls (w : World) (B g : Nat) (a0 a1 : Addr) (rest : List UInt8) (f n : Nat) (hn : n ≤ 9223372036854775807) (hE : Errs w a0 a1) (hR : Rd w B g rest (fv a0 a1 f)) :
    Calls Tryd.prog 61 #[.pointer (some ⟨g, 0, none⟩), .int .i64 (n : Int)] w fun e w' =>
      ∃ v ok, e = .returned (.tuple #[v, ok]) ∧ Took w' g v ok (takeS rest f n).1 ∧ Rd w' B g (takeS rest f n).2.1 (fv a0 a1 (takeS rest f n).2.2) ∧ Only g w w' := by
  have HR := Go.Lib.hid hR
  obtain ⟨A, c, hBg, hh, hlc, hc, hA, hAb⟩ := hR
  have hc0 := cell_of_row w g 0 _ _ _ hh
  have hc1 := cell_of_row w g 1 _ _ _ hh
  have hf1 := heap_frozen hh 1
  have hf0 := heap_frozen hh 0
  simp only [List.getElem?_toArray, List.getElem?_cons_zero, List.getElem?_cons_succ] at hc0 hc1
  obtain ⟨e0, e1⟩ := hE
  change w.cell? _ = some (.iface 112 (.pointer (some a0))) at e0
  clear e1
  have HA := Go.Lib.hid hA
  have HH := Go.Lib.hid hh
  have HAB := Go.Lib.hid hAb
  clear hA hh hAb
  cases f with
  | zero =>
    simp only [fv] at hc1 HH
    by_cases hlt : rest.length < n
    · have hT : takeS rest 0 n = (none, rest, 1) := by unfold takeS; rw [if_pos rfl, if_pos hlt]
      rw [hT]
      have d1 : decide ((rest.length : Int) < (n : Int)) = true := decide_eq_true (by omega)
      have d2 : decide (rest.length < n) = true := decide_eq_true hlt
      clear hT
      go_enter Tryd.func61, Tryd.ntmps61
      go_wp2
      go_ret2
      exact ⟨_, _, rfl, ⟨rfl, rfl⟩, rd_fault ⟨A, c, hBg, HH.out, hlc, hc, HA.out, HAB.out⟩ _, (Only.refl g w).set 1 _⟩
    · have hT : takeS rest 0 n = (some (rest.take n), rest.drop n, 0) := by unfold takeS; rw [if_pos rfl, if_neg hlt]
      rw [hT]
      have d1 : decide ((rest.length : Int) < (n : Int)) = false := decide_eq_false (by omega)
      have d2 : decide (rest.length < n) = false := decide_eq_false hlt
      have hcut := run_cut_h (P := Tryd.prog) 28 5 Tryd.underlying28 size8' A rest.length c n (by omega)
      have hcut' := run_cut_l (P := Tryd.prog) 28 5 Tryd.underlying28 size8' A rest.length c n (by omega)
      clear hT
      go_enter Tryd.func61, Tryd.ntmps61
      go_wp2
      go_ret2
      have hl : (rest.take n).length = n := by rw [List.length_take]; omega
      refine ⟨_, _, rfl, ⟨A, c, by rw [hl]; rfl, rfl, by omega, hc, ?_, fun ad ha => (HAB.out ad ha).2.1⟩, rd_cut hBg HH.out hlc hc HA.out HAB.out (by omega), (Only.refl g w).set 0 _⟩
      have := cells_take HA.out n
      rw [← Bs_take] at this
      exact far_cells this (fun ad ha => (HAB.out ad ha).2.1)
  | succ f =>
    have hv : ∃ a, fv a0 a1 (f + 1) = .iface 112 (.pointer (some a)) := by cases f <;> exact ⟨_, rfl⟩
    obtain ⟨a, ha⟩ := hv
    have hT : takeS rest (f + 1) n = (none, rest, f + 1) := by unfold takeS; rw [if_neg (by omega)]
    rw [hT]
    rw [ha] at hc1
    clear hT HH ha
    go_enter Tryd.func61, Tryd.ntmps61
    go_wp2
    go_ret2
    exact ⟨_, _, rfl, ⟨rfl, rfl⟩, HR.out, Only.refl g w⟩

def leV (l : List UInt8) : UInt64 := l.foldr (fun b x => (x <<< 8) ||| b.toUInt64) 0
def fixedS (rest : List UInt8) (f n : Nat) : UInt64 × List UInt8 × Nat :=
  (match (takeS rest f n).1 with | some l => leV l | none => 0, (takeS rest f n).2.1, (takeS rest f n).2.2)

set_option maxRecDepth 100000 in
set_option maxHeartbeats 800000 in
theorem fixed_calls (w : World) (B g : Nat) (a0 a1 : Addr) (rest : List UInt8) (f n : Nat) (hn : n ≤ 9223372036854775807) (hE : Errs w a0 a1) (hR : Rd w B g rest (fv a0 a1 f)) :
    Calls Tryd.prog 49 #[.pointer (some ⟨g, 0, none⟩), .int .i64 (n : Int)] w fun e w' =>
      e = .returned (.int .u64 (n64 (fixedS rest f n).1)) ∧ Rd w' B g (fixedS rest f n).2.1 (fv a0 a1 (fixedS rest f n).2.2) ∧ Only g w w' := by
  have HT := Go.Lib.hid (take_calls w B g a0 a1 rest f n hn hE hR)
  clear hE hR
  go_enter Tryd.func49, Tryd.ntmps49
  go_wp2_with fail
  refine HT.out.mono ?_
  rintro e w1 ⟨v, ok, rfl, ht, hr, ho⟩
  have HR := Go.Lib.hid hr
  have HO := Go.Lib.hid ho
  have hF : (fixedS rest f n).1 = match (takeS rest f n).1 with | some l => leV l | none => 0 := rfl
  cases hq : (takeS rest f n).1 with
  | none =>
    rw [hq] at ht hF
    obtain ⟨rfl, rfl⟩ := ht
    have HF := Go.Lib.hid (show (fixedS rest f n).1 = 0 from hF)
    clear hr ho hF hq HT
    go_wp2
    go_loopw [7, 8] (fun x i wr => wr = w1 ∧ i = .int .i64 (-1) ∧ x = .int .u64 0) (fun _ _ _ => 0)
    case atStart => exact ⟨rfl, rfl, rfl⟩
    case round =>
      obtain ⟨rfl, rfl, rfl⟩ := hrel
      go_wp2
      go_ret
      exact ⟨by rw [HF.out]; rfl, HR.out, HO.out⟩
  | some l =>
    rw [hq] at ht hF
    obtain ⟨A, c, rfl, rfl, hlc, hc, hA, _⟩ := ht
    have HF := Go.Lib.hid (show (fixedS rest f n).1 = leV l from hF)
    have HA := Go.Lib.hid hA
    have hwr : IntKind.i64.wrap ((l.length : Int) - 1) = (l.length : Int) - 1 := by rw [IntKind.wrap_i64]; omega
    clear hr ho hF hq HT hA
    go_wp2
    go_loopw [7, 8] (fun x i wr => ∃ (z : Int) (u : UInt64), wr = w1 ∧ -1 ≤ z ∧ z < (l.length : Int) ∧ i = .int .i64 z ∧ x = .int .u64 (n64 u) ∧ Hid (u = leV (l.drop (z + 1).toNat))) (fun _ i _ => (intOf i + 1).toNat)
    case atStart => exact ⟨(l.length : Int) - 1, 0, rfl, by omega, by omega, rfl, rfl, by rw [show ((l.length : Int) - 1 + 1).toNat = l.length by omega, List.drop_length]; rfl⟩
    case round =>
      obtain ⟨z, u, rfl, hz, hzl, rfl, rfl, HU⟩ := hrel
      by_cases h0 : 0 ≤ z
      · obtain ⟨j, rfl⟩ : ∃ j : Nat, z = (j : Int) := ⟨z.toNat, by omega⟩
        have hj : j < l.length := by omega
        obtain ⟨b, o, hAe, hcell⟩ := HA.out (by rw [Bs_length]; omega)
        have hck : wr.cell? ⟨b, o + j, none⟩ = some (.int .u8 (n8 l[j])) := by
          rw [hcell j (by rw [Bs_length]; omega)]
          simp [Bs]
        have hnext : (u <<< 8) ||| l[j].toUInt64 = leV (l.drop j) := by
          rw [HU.out, show ((j : Int) + 1).toNat = j + 1 by omega, List.drop_eq_getElem_cons hj]
          rfl
        have hwj : IntKind.i64.wrap ((j : Int) - 1) = (j : Int) - 1 := by rw [IntKind.wrap_i64]; omega
        have HN := Go.Lib.hid hnext
        subst hAe
        clear hcell hnext HU
        generalize l[j] = y at *
        go_wp2
        go_roundw
        case rel => exact ⟨(j : Int) - 1, _, by trivial, by omega, by omega, rfl, rfl, by rw [show ((j : Int) - 1 + 1).toNat = j by omega]; exact HN.out⟩
        case measure => simp [intOf]
      · have hz1 : z = -1 := by omega
        have hu := HU.out
        rw [hz1] at hu
        have HL := Go.Lib.hid (show (fixedS rest f n).1 = u by rw [HF.out, hu]; rfl)
        clear hu HU
        subst hz1
        go_wp2
        go_ret
        exact ⟨by rw [HL.out]; rfl, HR.out, HO.out⟩

theorem wrap_u8' (n : Int) : IntKind.u8.wrap n = n % 256 := by simp [IntKind.wrap, IntKind.bits, IntKind.signed]
theorem wrap_u16' (n : Int) : IntKind.u16.wrap n = n % 65536 := by simp [IntKind.wrap, IntKind.bits, IntKind.signed]
theorem wrap_u32' (n : Int) : IntKind.u32.wrap n = n % 4294967296 := by simp [IntKind.wrap, IntKind.bits, IntKind.signed]
/-- what a call of a reader gives: a value, what is left, the fault -/
def Rdr (w w' : World) (B g : Nat) (a0 a1 : Addr) (e : Ending) (v : Value) (rest : List UInt8) (f : Nat) : Prop := e = .returned v ∧ Rd w' B g rest (fv a0 a1 f) ∧ Only g w w'
theorem fixed_callsI (w : World) (B g : Nat) (a0 a1 : Addr) (rest : List UInt8) (f n : Nat) (N : Int) (hN : N = (n : Int)) (hn : n ≤ 9223372036854775807) (hE : Errs w a0 a1) (hR : Rd w B g rest (fv a0 a1 f)) :
    Calls Tryd.prog 49 #[.pointer (some ⟨g, 0, none⟩), .int .i64 N] w fun e w' =>
      Rdr w w' B g a0 a1 e (.int .u64 (n64 (fixedS rest f n).1)) (fixedS rest f n).2.1 (fixedS rest f n).2.2 := by
  subst hN; exact fixed_calls w B g a0 a1 rest f n hn hE hR

set_option maxHeartbeats 400000 in
theorem u16_calls (w : World) (B g : Nat) (a0 a1 : Addr) (rest : List UInt8) (f : Nat) (hE : Errs w a0 a1) (hR : Rd w B g rest (fv a0 a1 f)) :
    Calls Tryd.prog 33 #[.pointer (some ⟨g, 0, none⟩)] w fun e w' =>
      Rdr w w' B g a0 a1 e (.int .u16 (n16 (fixedS rest f 2).1.toUInt16)) (fixedS rest f 2).2.1 (fixedS rest f 2).2.2 := by
  have HT := Go.Lib.hid (fixed_callsI w B g a0 a1 rest f 2 2 (by decide) (by decide) hE hR)
  obtain ⟨A, c, hBg, hh, hlc, hc, hA, hAb⟩ := hR
  have hc0 := cell_of_row w g 0 _ _ _ hh
  simp only [List.getElem?_toArray, List.getElem?_cons_zero, List.getElem?_cons_succ] at hc0
  clear hh hA hAb hE
  go_enter Tryd.func33, Tryd.ntmps33
  go_wp2_with fail
  refine HT.out.mono ?_
  rintro e w1 ⟨rfl, h1, h2⟩
  have H1 := Go.Lib.hid h1
  have H2 := Go.Lib.hid h2
  clear h1 h2 HT
  go_wp2
  go_ret
  refine ⟨?_, H1.out, H2.out⟩
  first
    | rfl
    | (show Ending.returned (.int .u16 (n64 _ % _)) = _; rw [c64_16])
    | (show Ending.returned (.int .u16 (IntKind.u16.wrap (n64 _))) = _; rw [wrap_u16', c64_16])
theorem u16_nil (w : World) : Calls Tryd.prog 33 #[.pointer none] w fun e w' => e = .returned (.int .u16 0) ∧ w' = w := by
  go_enter Tryd.func33, Tryd.ntmps33
  go_wp2
  go_ret
  exact ⟨rfl, rfl⟩

set_option maxHeartbeats 400000 in
theorem u32_calls (w : World) (B g : Nat) (a0 a1 : Addr) (rest : List UInt8) (f : Nat) (hE : Errs w a0 a1) (hR : Rd w B g rest (fv a0 a1 f)) :
    Calls Tryd.prog 34 #[.pointer (some ⟨g, 0, none⟩)] w fun e w' =>
      Rdr w w' B g a0 a1 e (.int .u32 (n32 (fixedS rest f 4).1.toUInt32)) (fixedS rest f 4).2.1 (fixedS rest f 4).2.2 := by
  have HT := Go.Lib.hid (fixed_callsI w B g a0 a1 rest f 4 4 (by decide) (by decide) hE hR)
  obtain ⟨A, c, hBg, hh, hlc, hc, hA, hAb⟩ := hR
  have hc0 := cell_of_row w g 0 _ _ _ hh
  simp only [List.getElem?_toArray, List.getElem?_cons_zero, List.getElem?_cons_succ] at hc0
  clear hh hA hAb hE
  go_enter Tryd.func34, Tryd.ntmps34
  go_wp2_with fail
  refine HT.out.mono ?_
  rintro e w1 ⟨rfl, h1, h2⟩
  have H1 := Go.Lib.hid h1
  have H2 := Go.Lib.hid h2
  clear h1 h2 HT
  go_wp2
  go_ret
  refine ⟨?_, H1.out, H2.out⟩
  first
    | rfl
    | (show Ending.returned (.int .u32 (n64 _ % _)) = _; rw [c64_32])
    | (show Ending.returned (.int .u32 (IntKind.u32.wrap (n64 _))) = _; rw [wrap_u32', c64_32])
theorem u32_nil (w : World) : Calls Tryd.prog 34 #[.pointer none] w fun e w' => e = .returned (.int .u32 0) ∧ w' = w := by
  go_enter Tryd.func34, Tryd.ntmps34
  go_wp2
  go_ret
  exact ⟨rfl, rfl⟩

set_option maxHeartbeats 400000 in
theorem u64_calls (w : World) (B g : Nat) (a0 a1 : Addr) (rest : List UInt8) (f : Nat) (hE : Errs w a0 a1) (hR : Rd w B g rest (fv a0 a1 f)) :
    Calls Tryd.prog 32 #[.pointer (some ⟨g, 0, none⟩)] w fun e w' =>
      Rdr w w' B g a0 a1 e (.int .u64 (n64 (fixedS rest f 8).1)) (fixedS rest f 8).2.1 (fixedS rest f 8).2.2 := by
  have HT := Go.Lib.hid (fixed_callsI w B g a0 a1 rest f 8 8 (by decide) (by decide) hE hR)
  obtain ⟨A, c, hBg, hh, hlc, hc, hA, hAb⟩ := hR
  have hc0 := cell_of_row w g 0 _ _ _ hh
  simp only [List.getElem?_toArray, List.getElem?_cons_zero, List.getElem?_cons_succ] at hc0
  clear hh hA hAb hE
  go_enter Tryd.func32, Tryd.ntmps32
  go_wp2_with fail
  refine HT.out.mono ?_
  rintro e w1 ⟨rfl, h1, h2⟩
  have H1 := Go.Lib.hid h1
  have H2 := Go.Lib.hid h2
  clear h1 h2 HT
  go_wp2
  go_ret
  exact ⟨rfl, H1.out, H2.out⟩
theorem u64_nil (w : World) : Calls Tryd.prog 32 #[.pointer none] w fun e w' => e = .returned (.int .u64 0) ∧ w' = w := by
  go_enter Tryd.func32, Tryd.ntmps32
  go_wp2
  go_ret
  exact ⟨rfl, rfl⟩
end Go.Proofs.YtipjdkdonmoojaaDoor
