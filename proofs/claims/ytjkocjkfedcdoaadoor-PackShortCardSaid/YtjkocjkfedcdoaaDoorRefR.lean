/- Package turnstileref01: the walks of what reads. -/
import Derived.Test.YtjkocjkfedcdoaaDoorPackR4
import Derived.Test.YtjkocjkfedcdoaaDoorRefW
namespace Go.Proofs.YtjkocjkfedcdoaaDoor
open Go Go.RowKit
attribute [local go_sem] IntKind.wrap_u64 c64_8 c8_64 c16_64 c32_64 c64_16 c64_32 or8 and8 shr64_7 shr64_8 shl64_8 or64 and64 n64_self n8_self beq_n64 beq_n8 bne_n8 bne_n64 mod64_256 div64_256 mod64_128 div64_128 mul64_256 mul64_128 add64 mod8_128

/-- a reader of the reference: what is left, and its fault's number -/
def Rr (w : World) (B g : Nat) (rest : List UInt8) (f : Value) : Prop :=
  ∃ A c, B ≤ g ∧ w.heap[g]? = some (.cells #[.slice A rest.length c, f] 90 (0, 0)) ∧ rest.length ≤ c ∧ c ≤ 9223372036854775807 ∧ Cells w A (Bs rest) ∧ ∀ ad, A = some ad → B ≤ ad.block ∧ ad.block ≠ g
theorem rr_fault {w : World} {B g : Nat} {rest : List UInt8} {f : Value} (h : Rr w B g rest f) (f' : Value) : Rr (w.setCell ⟨g, 1, none⟩ f') B g rest f' := by
  obtain ⟨A, c, hB, hh, h1, h2, hA, hb⟩ := h
  refine ⟨A, c, hB, ?_, h1, h2, far_cells hA (fun ad ha => (hb ad ha).2), hb⟩
  exact heap_setCell_same w g 1 _ _ f' hh
theorem rr_cut {w : World} {B g n : Nat} {A : Option Addr} {c : Nat} {rest : List UInt8} {f : Value} (hB : B ≤ g) (hh : w.heap[g]? = some (.cells #[.slice A rest.length c, f] 90 (0, 0))) (h1 : rest.length ≤ c) (h2 : c ≤ 9223372036854775807) (hA : Cells w A (Bs rest)) (hb : ∀ ad, A = some ad → B ≤ ad.block ∧ ad.block ≠ g) (hn : n ≤ rest.length) :
    Rr (w.setCell ⟨g, 0, none⟩ (.slice (cutA A c n) (rest.length - n) (c - n))) B g (rest.drop n) f := by
  have hcut : ∀ ad, cutA A c n = some ad → B ≤ ad.block ∧ ad.block ≠ g := by
    intro ad ha
    unfold cutA at ha
    split at ha
    · exact hb ad ha
    · cases A with
      | none => cases ha
      | some a =>
        obtain rfl : a.add n = ad := by simpa using ha
        rw [show (a.add n).block = a.block by unfold Addr.add; split <;> rfl]
        exact hb a rfl
  refine ⟨cutA A c n, c - n, hB, ?_, by simp; omega, by omega, ?_, hcut⟩
  · have e := heap_setCell_same w g 0 _ _ (.slice (cutA A c n) (rest.length - n) (c - n)) hh
    rw [List.length_drop]
    exact e
  · rw [Bs_drop]
    exact far_cells (cells_drop hA c n (by rw [Bs_length]; omega)) (fun ad ha => (hcut ad ha).2)

/-- the number of a fault: ErrShort is 2, ErrForm 3 -/
def fr : Nat → Value
  | 0 => .int .i64 0
  | 1 => .int .i64 2
  | _ => .int .i64 3
theorem rr_below {w w1 : World} {B g : Nat} {l : List UInt8} {f : Value} (h : Rr w B g l f) (hb : Below w.heap.size w w1) : Rr w1 B g l f := by
  obtain ⟨A, c, h1, h2, h3, h4, h5, h6⟩ := h
  exact ⟨A, c, h1, below_heap hb h2, h3, h4, cells_below hb h5, h6⟩

set_option maxHeartbeats 800000 in
theorem rnewReader_calls (A : Option Addr) (c : Nat) (l : List UInt8) (w : World) (hl : l.length ≤ 140737488355328) (hA : Cells w A (Bs l)) :
    Calls Tryd.prog 36 #[.slice A l.length c] w fun e w' => ∃ g, e = .returned (.pointer (some ⟨g, 0, none⟩)) ∧ Rr w' w.heap.size g l (fr 0) ∧ Below w.heap.size w w' := by
  have HC := Go.Lib.hid (copied_calls A c l w (by omega) hA)
  clear hA
  go_enter Tryd.func36, Tryd.ntmps36
  go_wp2_with fail
  refine HC.out.mono ?_
  rintro e w1 ⟨v, rfl, hv, hb⟩
  obtain ⟨A1, c1, rfl, hc1, hc2, hc3, hc4⟩ := own_addr hv
  have HC3 := Go.Lib.hid hc3
  have HC4 := Go.Lib.hid hc4
  have HB1 := Go.Lib.hid hb
  clear hv hb hc3 hc4 HC
  go_wp2
  go_ret
  have hb2 : Below w.heap.size w (w1.alloc (.cells #[.slice A1 (Bs l).length c1, .int .i64 0] 90)) := HB1.out.alloc HB1.out.size _
  refine ⟨w1.heap.size, rfl, ⟨A1, c1, HB1.out.size, ?_, ?_, hc2, cells_below ((Below.refl _ _).alloc (Nat.le_refl _) _) HC3.out, fun ad ha => ?_⟩, hb2⟩
  · rw [heap_here w1 _ _ rfl, Bs_length]
    rfl
  · rw [Bs_length] at hc1; exact hc1
  · have := HC4.out ad ha; omega

theorem rleft_calls (w : World) (B g : Nat) (rest : List UInt8) (f : Value) (hR : Rr w B g rest f) :
    Calls Tryd.prog 54 #[.pointer (some ⟨g, 0, none⟩)] w fun e w' => e = .returned (.int .i64 (rest.length : Int)) ∧ w' = w := by
  obtain ⟨A, c, hBg, hh, hlc, hc, hA, hAb⟩ := hR
  have hc0 := cell_of_row w g 0 _ _ _ hh
  simp only [List.getElem?_toArray, List.getElem?_cons_zero, List.getElem?_cons_succ] at hc0
  clear hh hA hAb
  go_enter Tryd.func54, Tryd.ntmps54
  go_wp2
  go_ret
  exact ⟨rfl, rfl⟩
theorem rerr_calls (w : World) (B g : Nat) (rest : List UInt8) (f : Value) (hR : Rr w B g rest f) :
    Calls Tryd.prog 55 #[.pointer (some ⟨g, 0, none⟩)] w fun e w' => e = .returned f ∧ w' = w := by
  obtain ⟨A, c, hBg, hh, hlc, hc, hA, hAb⟩ := hR
  have hc1 := cell_of_row w g 1 _ _ _ hh
  simp only [List.getElem?_toArray, List.getElem?_cons_zero, List.getElem?_cons_succ] at hc1
  clear hh hA hAb
  go_enter Tryd.func55, Tryd.ntmps55
  go_wp2
  go_ret
  exact ⟨rfl, rfl⟩
theorem rend_calls (w : World) (B g : Nat) (rest : List UInt8) (f : Nat) (hR : Rr w B g rest (fr f)) :
    Calls Tryd.prog 56 #[.pointer (some ⟨g, 0, none⟩)] w fun e w' => e = .returned (fr (endS rest f)) ∧ w' = w := by
  obtain ⟨A, c, hBg, hh, hlc, hc, hA, hAb⟩ := hR
  have hc0 := cell_of_row w g 0 _ _ _ hh
  have hc1 := cell_of_row w g 1 _ _ _ hh
  simp only [List.getElem?_toArray, List.getElem?_cons_zero, List.getElem?_cons_succ] at hc0 hc1
  clear hh hA hAb
  rcases f with _ | _ | f
  · change w.cell? _ = some (.int .i64 0) at hc1
    rcases rest with _ | ⟨u, l⟩
    · go_enter Tryd.func56, Tryd.ntmps56
      go_wp2
      go_ret
      exact ⟨rfl, rfl⟩
    · have hl0 : (0 : Int) < ((u :: l).length : Int) := by simp only [List.length_cons]; omega
      generalize hn : (u :: l).length = n at *
      go_enter Tryd.func56, Tryd.ntmps56
      go_wp2
      go_ret
      refine ⟨?_, rfl⟩
      unfold endS
      rw [if_pos rfl, hn, if_neg (by omega)]
      rfl
  · change w.cell? _ = some (.int .i64 2) at hc1
    go_enter Tryd.func56, Tryd.ntmps56
    go_wp2
    go_ret
    exact ⟨rfl, rfl⟩
  · change w.cell? _ = some (.int .i64 3) at hc1
    go_enter Tryd.func56, Tryd.ntmps56
    go_wp2
    go_ret
    exact ⟨rfl, rfl⟩

theorem shl_or (x : UInt64) (b : UInt8) : (x <<< (8 : UInt64)) + b.toUInt64 = (x <<< (8 : UInt64)) ||| b.toUInt64 := by
  apply UInt64.toNat_inj.1
  rw [UInt64.toNat_or, UInt64.toNat_add, UInt64.toNat_shiftLeft, show (8 : UInt64).toNat % 64 = 8 by decide, Nat.shiftLeft_eq]
  have hb : b.toUInt64.toNat < 2 ^ 8 := by have := b.toNat_lt; simp; omega
  generalize b.toUInt64.toNat = y at *
  have p64 : (2 : Nat) ^ 64 = 18446744073709551616 := by decide
  have p56 : (2 : Nat) ^ 56 = 72057594037927936 := by decide
  have p8 : (2 : Nat) ^ 8 = 256 := by decide
  have e1 : x.toNat * 2 ^ 8 % 2 ^ 64 = (x.toNat % 2 ^ 56) <<< 8 := by rw [Nat.shiftLeft_eq, p64, p56, p8]; omega
  rw [e1, ← Nat.shiftLeft_add_eq_or_of_lt hb, Nat.shiftLeft_eq, p64, p56, p8]
  rw [p8] at hb
  have hx : x.toNat % 72057594037927936 < 72057594037927936 := Nat.mod_lt _ (by decide)
  generalize x.toNat % 72057594037927936 = z at *
  exact Nat.mod_eq_of_lt (by omega)
theorem fail_calls (w : World) (B g : Nat) (rest : List UInt8) (f : Value) (k : Int) (hR : Rr w B g rest f) (hk : ∃ y, f = .int .i64 y) :
    Calls Tryd.prog 77 #[.pointer (some ⟨g, 0, none⟩), .int .i64 k] w fun e w' => (∃ v, e = .returned v) ∧ w' = w.setCell ⟨g, 1, none⟩ (.int .i64 k) := by
  obtain ⟨A, c, hBg, hh, hlc, hc, hA, hAb⟩ := hR
  obtain ⟨y, rfl⟩ := hk
  have hc1 := cell_of_row w g 1 _ _ _ hh
  have hf1 := heap_frozen hh 1
  simp only [List.getElem?_toArray, List.getElem?_cons_zero, List.getElem?_cons_succ] at hc1
  clear hh hA hAb
  go_enter Tryd.func77, Tryd.ntmps77
  go_wp2
  go_end0
  exact ⟨⟨_, rfl⟩, rfl⟩

set_option maxRecDepth 100000 in
set_option maxHeartbeats 1600000 in
theorem little_calls (w : World) (B g : Nat) (rest : List UInt8) (f n : Nat) (hn : n ≤ 9223372036854775807) (hR : Rr w B g rest (fr f)) :
    Calls Tryd.prog 76 #[.pointer (some ⟨g, 0, none⟩), .int .i64 (n : Int)] w fun e w' =>
      e = .returned (.int .u64 (n64 (fixedS rest f n).1)) ∧ Rr w' B g (fixedS rest f n).2.1 (fr (fixedS rest f n).2.2) ∧ Only g w w' := by
  have HR := Go.Lib.hid hR
  obtain ⟨A, c, hBg, hh, hlc, hc, hA, hAb⟩ := hR
  have hc0 := cell_of_row w g 0 _ _ _ hh
  have hc1 := cell_of_row w g 1 _ _ _ hh
  have hf0 := heap_frozen hh 0
  simp only [List.getElem?_toArray, List.getElem?_cons_zero, List.getElem?_cons_succ] at hc0 hc1
  have HA := Go.Lib.hid hA
  have HH := Go.Lib.hid hh
  have HAB := Go.Lib.hid hAb
  clear hA hh hAb
  have hfault : ∀ y : Int, (y == 0) = false → w.cell? ⟨g, 1, none⟩ = some (.int .i64 y) → f ≠ 0 → Calls Tryd.prog 76 #[.pointer (some ⟨g, 0, none⟩), .int .i64 (n : Int)] w fun e w' =>
      e = .returned (.int .u64 (n64 (fixedS rest f n).1)) ∧ Rr w' B g (fixedS rest f n).2.1 (fr (fixedS rest f n).2.2) ∧ Only g w w' := by
    intro y hy hcy hf
    have hT : fixedS rest f n = (0, rest, f) := by unfold fixedS takeS; rw [if_neg hf]
    rw [hT]
    have hy2 : (y != 0) = true := by unfold bne; rw [hy]; rfl
    clear hT hc1 HH hf
    go_enter Tryd.func76, Tryd.ntmps76
    go_wp2
    go_ret
    exact ⟨rfl, HR.out, Only.refl g w⟩
  rcases f with _ | _ | f
  case succ.zero => exact hfault 2 rfl hc1 (by decide)
  case succ.succ => exact hfault 3 rfl hc1 (by omega)
  clear hfault
  change w.cell? _ = some (.int .i64 0) at hc1
  by_cases hlt : rest.length < n
  · have hT : fixedS rest 0 n = (0, rest, 1) := by unfold fixedS takeS; rw [if_pos rfl, if_pos hlt]
    rw [hT]
    have d1 : decide ((rest.length : Int) < (n : Int)) = true := decide_eq_true (by omega)
    have d2 : decide (rest.length < n) = true := decide_eq_true hlt
    have HF := Go.Lib.hid (fail_calls w B g rest _ 2 HR.out ⟨0, rfl⟩)
    clear hT
    go_enter Tryd.func76, Tryd.ntmps76
    go_wp2_with fail
    refine HF.out.mono ?_
    rintro e w1 ⟨⟨v, rfl⟩, rfl⟩
    go_wp2
    go_ret
    exact ⟨rfl, rr_fault HR.out _, (Only.refl g w).set 1 _⟩
  · have hT : fixedS rest 0 n = (leV (rest.take n), rest.drop n, 0) := by unfold fixedS takeS; rw [if_pos rfl, if_neg hlt]
    rw [hT]
    have d1 : decide ((rest.length : Int) < (n : Int)) = false := decide_eq_false (by omega)
    have d2 : decide (rest.length < n) = false := decide_eq_false hlt
    have hcut' := run_cut_l (P := Tryd.prog) 26 5 Tryd.underlying26 size8' A rest.length c n (by omega)
    have hwr : IntKind.i64.wrap ((n : Int) - 1) = (n : Int) - 1 := by rw [IntKind.wrap_i64]; omega
    have hln : (rest.take n).length = n := by rw [List.length_take]; omega
    have HLN := Go.Lib.hid hln
    clear hT hln
    go_enter Tryd.func76, Tryd.ntmps76
    go_wp2
    go_loopw [5, 6] (fun x i wr => ∃ (z : Int) (u : UInt64), wr = w ∧ -1 ≤ z ∧ z < (n : Int) ∧ i = .int .i64 z ∧ x = .int .u64 (n64 u) ∧ Hid (u = leV ((rest.take n).drop (z + 1).toNat))) (fun _ i _ => (intOf i + 1).toNat)
    case atStart => exact ⟨(n : Int) - 1, 0, rfl, by omega, by omega, rfl, rfl, by rw [show ((n : Int) - 1 + 1).toNat = (rest.take n).length by rw [HLN.out]; omega, List.drop_length]; rfl⟩
    case round =>
      obtain ⟨z, u, rfl, hz, hzl, rfl, rfl, HU⟩ := hrel
      by_cases h0 : 0 ≤ z
      · obtain ⟨j, rfl⟩ : ∃ j : Nat, z = (j : Int) := ⟨z.toNat, by omega⟩
        have hj : j < rest.length := by omega
        have hj' : j < (rest.take n).length := by rw [HLN.out]; omega
        obtain ⟨b, o, hAe, hcell⟩ := HA.out (by rw [Bs_length]; omega)
        have hck : wr.cell? ⟨b, o + j, none⟩ = some (.int .u8 (n8 rest[j])) := by
          rw [hcell j (by rw [Bs_length]; omega)]
          simp [Bs]
        have hnext : (u <<< (8 : UInt64)) + rest[j].toUInt64 = leV ((rest.take n).drop j) := by
          rw [shl_or, HU.out, show ((j : Int) + 1).toNat = j + 1 by omega, List.drop_eq_getElem_cons hj', List.getElem_take]
          rfl
        have hwj : IntKind.i64.wrap ((j : Int) - 1) = (j : Int) - 1 := by rw [IntKind.wrap_i64]; omega
        have hj0 : (0 : Int) ≤ (j : Int) := Int.natCast_nonneg _
        have hj1 : (j : Int) < (rest.length : Int) := by omega
        have HN := Go.Lib.hid hnext
        subst hAe
        clear hcell hnext HU hj'
        generalize rest[j] = y at *
        go_wp2
        go_roundw
        case rel => exact ⟨(j : Int) - 1, _, by trivial, by omega, by omega, rfl, rfl, by rw [show ((j : Int) - 1 + 1).toNat = j by omega]; exact HN.out⟩
        case measure => simp [intOf]
      · have hz1 : z = -1 := by omega
        have hu := HU.out
        rw [hz1] at hu
        have HL := Go.Lib.hid (show leV (rest.take n) = u by rw [hu]; rfl)
        clear hu HU
        subst hz1
        go_wp2
        go_ret
        exact ⟨by rw [HL.out]; rfl, rr_cut hBg HH.out hlc hc HA.out HAB.out (by omega), (Only.refl g wr).set 0 _⟩

/-- what a call of the reference's reader gives -/
def Rrr (w w' : World) (B g : Nat) (e : Ending) (v : Value) (rest : List UInt8) (f : Nat) : Prop := e = .returned v ∧ Rr w' B g rest (fr f) ∧ Only g w w'
theorem little_callsI (w : World) (B g : Nat) (rest : List UInt8) (f n : Nat) (N : Int) (hN : N = (n : Int)) (hn : n ≤ 9223372036854775807) (hR : Rr w B g rest (fr f)) :
    Calls Tryd.prog 76 #[.pointer (some ⟨g, 0, none⟩), .int .i64 N] w fun e w' =>
      Rrr w w' B g e (.int .u64 (n64 (fixedS rest f n).1)) (fixedS rest f n).2.1 (fixedS rest f n).2.2 := by
  subst hN; exact little_calls w B g rest f n hn hR
theorem little_nil (w : World) (n : Int) : Calls Tryd.prog 76 #[.pointer none, .int .i64 n] w fun e w' => e = .returned (.int .u64 0) ∧ w' = w := by
  go_enter Tryd.func76, Tryd.ntmps76
  go_wp2
  go_ret
  exact ⟨rfl, rfl⟩

set_option maxHeartbeats 400000 in
theorem ru8_calls (w : World) (B g : Nat) (rest : List UInt8) (f : Nat) (hR : Rr w B g rest (fr f)) :
    Calls Tryd.prog 57 #[.pointer (some ⟨g, 0, none⟩)] w fun e w' =>
      Rrr w w' B g e (.int .u8 (n8 (fixedS rest f 1).1.toUInt8)) (fixedS rest f 1).2.1 (fixedS rest f 1).2.2 := by
  have HT := Go.Lib.hid (little_callsI w B g rest f 1 1 (by decide) (by decide) hR)
  clear hR
  go_enter Tryd.func57, Tryd.ntmps57
  go_wp2_with fail
  refine HT.out.mono ?_
  rintro e w1 ⟨rfl, h1, h2⟩
  have H1 := Go.Lib.hid h1
  have H2 := Go.Lib.hid h2
  clear h1 h2 HT
  go_wp2
  go_ret
  refine ⟨?_, H1.out, H2.out⟩
  first
    | rfl
    | (show Ending.returned (.int .u8 (n64 _ % _)) = _; rw [c64_8])
    | (show Ending.returned (.int .u8 (IntKind.u8.wrap (n64 _))) = _; rw [wrap_u8', c64_8])
theorem ru8_nil (w : World) : Calls Tryd.prog 57 #[.pointer none] w fun e w' => e = .returned (.int .u8 0) ∧ w' = w := by
  have HT := Go.Lib.hid (little_nil w 1)
  go_enter Tryd.func57, Tryd.ntmps57
  go_wp2_with fail
  refine HT.out.mono ?_
  rintro e w1 ⟨rfl, rfl⟩
  go_wp2
  go_ret
  exact ⟨rfl, rfl⟩

set_option maxHeartbeats 400000 in
theorem ru16_calls (w : World) (B g : Nat) (rest : List UInt8) (f : Nat) (hR : Rr w B g rest (fr f)) :
    Calls Tryd.prog 59 #[.pointer (some ⟨g, 0, none⟩)] w fun e w' =>
      Rrr w w' B g e (.int .u16 (n16 (fixedS rest f 2).1.toUInt16)) (fixedS rest f 2).2.1 (fixedS rest f 2).2.2 := by
  have HT := Go.Lib.hid (little_callsI w B g rest f 2 2 (by decide) (by decide) hR)
  clear hR
  go_enter Tryd.func59, Tryd.ntmps59
  go_wp2_with fail
  refine HT.out.mono ?_
  rintro e w1 ⟨rfl, h1, h2⟩
  have H1 := Go.Lib.hid h1
  have H2 := Go.Lib.hid h2
  clear h1 h2 HT
  go_wp2
  go_ret
  refine ⟨?_, H1.out, H2.out⟩
  first
    | rfl
    | (show Ending.returned (.int .u16 (n64 _ % _)) = _; rw [c64_16])
    | (show Ending.returned (.int .u16 (IntKind.u16.wrap (n64 _))) = _; rw [wrap_u16', c64_16])
theorem ru16_nil (w : World) : Calls Tryd.prog 59 #[.pointer none] w fun e w' => e = .returned (.int .u16 0) ∧ w' = w := by
  have HT := Go.Lib.hid (little_nil w 2)
  go_enter Tryd.func59, Tryd.ntmps59
  go_wp2_with fail
  refine HT.out.mono ?_
  rintro e w1 ⟨rfl, rfl⟩
  go_wp2
  go_ret
  exact ⟨rfl, rfl⟩

set_option maxHeartbeats 400000 in
theorem ru32_calls (w : World) (B g : Nat) (rest : List UInt8) (f : Nat) (hR : Rr w B g rest (fr f)) :
    Calls Tryd.prog 61 #[.pointer (some ⟨g, 0, none⟩)] w fun e w' =>
      Rrr w w' B g e (.int .u32 (n32 (fixedS rest f 4).1.toUInt32)) (fixedS rest f 4).2.1 (fixedS rest f 4).2.2 := by
  have HT := Go.Lib.hid (little_callsI w B g rest f 4 4 (by decide) (by decide) hR)
  clear hR
  go_enter Tryd.func61, Tryd.ntmps61
  go_wp2_with fail
  refine HT.out.mono ?_
  rintro e w1 ⟨rfl, h1, h2⟩
  have H1 := Go.Lib.hid h1
  have H2 := Go.Lib.hid h2
  clear h1 h2 HT
  go_wp2
  go_ret
  refine ⟨?_, H1.out, H2.out⟩
  first
    | rfl
    | (show Ending.returned (.int .u32 (n64 _ % _)) = _; rw [c64_32])
    | (show Ending.returned (.int .u32 (IntKind.u32.wrap (n64 _))) = _; rw [wrap_u32', c64_32])
theorem ru32_nil (w : World) : Calls Tryd.prog 61 #[.pointer none] w fun e w' => e = .returned (.int .u32 0) ∧ w' = w := by
  have HT := Go.Lib.hid (little_nil w 4)
  go_enter Tryd.func61, Tryd.ntmps61
  go_wp2_with fail
  refine HT.out.mono ?_
  rintro e w1 ⟨rfl, rfl⟩
  go_wp2
  go_ret
  exact ⟨rfl, rfl⟩

set_option maxHeartbeats 400000 in
theorem ru64_calls (w : World) (B g : Nat) (rest : List UInt8) (f : Nat) (hR : Rr w B g rest (fr f)) :
    Calls Tryd.prog 63 #[.pointer (some ⟨g, 0, none⟩)] w fun e w' =>
      Rrr w w' B g e (.int .u64 (n64 (fixedS rest f 8).1)) (fixedS rest f 8).2.1 (fixedS rest f 8).2.2 := by
  have HT := Go.Lib.hid (little_callsI w B g rest f 8 8 (by decide) (by decide) hR)
  clear hR
  go_enter Tryd.func63, Tryd.ntmps63
  go_wp2_with fail
  refine HT.out.mono ?_
  rintro e w1 ⟨rfl, h1, h2⟩
  have H1 := Go.Lib.hid h1
  have H2 := Go.Lib.hid h2
  clear h1 h2 HT
  go_wp2
  go_ret
  exact ⟨rfl, H1.out, H2.out⟩
theorem ru64_nil (w : World) : Calls Tryd.prog 63 #[.pointer none] w fun e w' => e = .returned (.int .u64 0) ∧ w' = w := by
  have HT := Go.Lib.hid (little_nil w 8)
  go_enter Tryd.func63, Tryd.ntmps63
  go_wp2_with fail
  refine HT.out.mono ?_
  rintro e w1 ⟨rfl, rfl⟩
  go_wp2
  go_ret
  exact ⟨rfl, rfl⟩
end Go.Proofs.YtjkocjkfedcdoaaDoor
