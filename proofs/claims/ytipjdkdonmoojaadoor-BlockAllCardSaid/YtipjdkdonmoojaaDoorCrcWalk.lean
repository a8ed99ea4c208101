/- The walks of package crc: what each function answers, in plain Lean functions. -/
import Derived.Test.YtipjdkdonmoojaaDoorProg
import Derived.Test.YtipjdkdonmoojaaDoorNum
import Derived.Test.YtipjdkdonmoojaaDoorHeap
import Derived.WalkKit
import Derived.RowKit3
import Derived.Outline
import Derived.Deep.QuietTactic
import Derived.BigQuiet
import Derived.Below
import Derived.Deep.LoopGhost
import Derived.Lib.Hide
namespace Go.Proofs.YtipjdkdonmoojaaDoor
open Go Go.RowKit
set_option linter.unusedVariables false
set_option linter.unusedSimpArgs false
attribute [local go_sem] n32_self mod32_2 div32_2 beq_n32_1 xor32_poly xor32 and32 or32 not32 shr32_4 shr32_1 and32_15 and32_1 c8_32 n32_nonneg n32_and15_lt beq_n32

def tab : List UInt32 := [0x00000000, 0x105ec76f, 0x20bd8ede, 0x30e349b1, 0x417b1dbc, 0x5125dad3, 0x61c69362, 0x7198540d, 0x82f63b78, 0x92a8fc17, 0xa24bb5a6, 0xb21572c9, 0xc38d26c4, 0xd3d3e1ab, 0xe330a81a, 0xf36e6f75]
def nib (x : UInt32) : UInt32 := tab.getD (x &&& 15).toNat 0
/-- the table lies in the world -/
def Tab (w : World) : Prop := ∀ x : UInt32, w.cell? ⟨15, (n32 (x &&& 15)).toNat, none⟩ = some (.int .u32 (n32 (nib x)))
def half (x : UInt32) : UInt32 := (x >>> 4) ^^^ nib x
def feed (x : UInt32) (c : UInt8) : UInt32 := half (half (x ^^^ c.toUInt32))
def addS (s : UInt32) (l : List UInt8) : UInt32 := ~~~ (l.foldl feed (~~~ s))

set_option maxHeartbeats 400000 in
theorem add_calls (s : UInt32) (A : Option Addr) (c : Nat) (l : List UInt8) (w : World) (hn : l.length ≤ 9223372036854775807) (hT : Tab w)
    (hA : Cells w A (Bs l)) :
    Calls Tryd.prog 60 #[.int .u32 (n32 s), .slice A l.length c] w fun e w' => e = .returned (.int .u32 (n32 (addS s l))) ∧ w' = w := by
  unfold Tab at hT
  go_enter Tryd.func60, Tryd.ntmps60
  go_wp2
  go_loop [5, 12] (fun x i => ∃ (k : Nat), k ≤ l.length ∧ i = .int .i64 k ∧ x = .int .u32 (n32 ((l.take k).foldl feed (~~~ s)))) (fun _ i => l.length - (intOf i).toNat)
  case atStart => exact ⟨0, Nat.zero_le _, rfl, rfl⟩
  case round =>
    obtain ⟨k, hk, rfl, rfl⟩ := hrel
    by_cases hlt : k < l.length
    · obtain ⟨b, o, rfl, hcell⟩ := hA.byte k hlt
      have hs : (l.take (k+1)).foldl feed (~~~ s) = feed ((l.take k).foldl feed (~~~ s)) l[k] := by
        rw [List.take_succ_eq_append_getElem hlt, List.foldl_append]; rfl
      have HS := Go.Lib.hid hs
      clear hs
      generalize (l.take k).foldl feed (~~~ s) = x at *
      clear hA
      go_wp2
      go_round
      case rel =>
        refine ⟨k + 1, by omega, by go_num, ?_⟩
        rw [HS.out]; rfl
      case measure => simp [intOf]; omega
    · go_wp2
      go_ret
      have : k = l.length := by omega
      subst this
      exact ⟨by rw [List.take_length]; rfl, rfl⟩

def sumOfS (ls : List (List UInt8)) : UInt32 := ls.foldl addS 0

set_option maxHeartbeats 400000 in
theorem sumOf_calls (A : Option Addr) (c : Nat) (ls : List (List UInt8)) (w : World) (hn : ls.length ≤ 9223372036854775807) (hT : Tab w) (hA : RowsB w A ls) :
    Calls Tryd.prog 48 #[.slice A ls.length c] w fun e w' => e = .returned (.int .u32 (n32 (sumOfS ls))) ∧ w' = w := by
  go_enter Tryd.func48, Tryd.ntmps48
  go_wp2
  go_loop [3, 8] (fun x i => ∃ (k : Nat), k ≤ ls.length ∧ i = .int .i64 k ∧ x = .int .u32 (n32 ((ls.take k).foldl addS 0))) (fun _ i => ls.length - (intOf i).toNat)
  case atStart => exact ⟨0, Nat.zero_le _, rfl, rfl⟩
  case round =>
    obtain ⟨k, hk, rfl, rfl⟩ := hrel
    by_cases hlt : k < ls.length
    · obtain ⟨b, o, rfl, A', c', hl', hcell, hrow⟩ := hA.row k hlt
      have hs : (ls.take (k+1)).foldl addS 0 = addS ((ls.take k).foldl addS 0) ls[k] := by
        rw [List.take_succ_eq_append_getElem hlt, List.foldl_append]; rfl
      have HS := Go.Lib.hid hs
      clear hs hA
      generalize (ls.take k).foldl addS 0 = x at *
      go_wp2_with (go_at_call 60; refine (add_calls x A' c' ls[k] _ hl' hT hrow).mono ?_; rintro e w' ⟨rfl, rfl⟩)
      go_round
      case rel =>
        refine ⟨k + 1, by omega, by go_num, ?_⟩
        rw [HS.out]
      case measure => simp [intOf]; omega
    · go_wp2
      go_ret
      have : k = ls.length := by omega
      subst this
      exact ⟨by rw [List.take_length]; rfl, rfl⟩

/-! the reference -/
def stepR (x : UInt32) : UInt32 := if x % 2 == 1 then x / 2 ^^^ 0x82f63b78 else x / 2
def stepsR : Nat → UInt32 → UInt32
  | 0, x => x
  | n + 1, x => stepsR n (stepR x)
def feedR (x : UInt32) (c : UInt8) : UInt32 := stepsR 8 (x ^^^ c.toUInt32)
def addR (s : UInt32) (l : List UInt8) : UInt32 := ~~~ (l.foldl feedR (~~~ s))
def sumOfR (ls : List (List UInt8)) : UInt32 := ls.foldl addR 0

theorem stepR_calls (x : UInt32) (w : World) :
    Calls Tryd.prog 66 #[.int .u32 (n32 x)] w fun e w' => e = .returned (.int .u32 (n32 (stepR x))) ∧ w' = w := by
  cases hb : x % 2 == 1
  all_goals
    go_enter Tryd.func66, Tryd.ntmps66
    go_wp2
    all_goals go_ret
    exact ⟨by simp [stepR, hb, n32_self], rfl⟩

set_option maxHeartbeats 400000 in
theorem addR_calls (s : UInt32) (A : Option Addr) (c : Nat) (l : List UInt8) (w : World) (hn : l.length ≤ 9223372036854775807) (hA : Cells w A (Bs l)) :
    Calls Tryd.prog 59 #[.int .u32 (n32 s), .slice A l.length c] w fun e w' => e = .returned (.int .u32 (n32 (addR s l))) ∧ w' = w := by
  go_enter Tryd.func59, Tryd.ntmps59
  go_wp2
  go_loop [5, 6] (fun x i => ∃ (k : Nat), k ≤ l.length ∧ i = .int .i64 k ∧ x = .int .u32 (n32 ((l.take k).foldl feedR (~~~ s)))) (fun _ i => l.length - (intOf i).toNat)
  case atStart => exact ⟨0, Nat.zero_le _, rfl, rfl⟩
  case round =>
    obtain ⟨k, hk, rfl, rfl⟩ := hrel
    by_cases hlt : k < l.length
    · obtain ⟨b, o, rfl, hcell⟩ := hA.byte k hlt
      have hs : (l.take (k+1)).foldl feedR (~~~ s) = feedR ((l.take k).foldl feedR (~~~ s)) l[k] := by
        rw [List.take_succ_eq_append_getElem hlt, List.foldl_append]; rfl
      have HS := Go.Lib.hid hs
      clear hs
      generalize (l.take k).foldl feedR (~~~ s) = x at *
      clear hA
      go_wp2
      go_loop [5, 7] (fun y j => ∃ (m : Nat) (z : UInt32), m ≤ 8 ∧ j = .int .i64 ((8 - m : Nat) : Int) ∧ y = .int .u32 (n32 z) ∧ Hid (stepsR m z = feedR x l[k])) (fun _ j => 8 - (intOf j).toNat)
      case atStart => exact ⟨8, _, Nat.le_refl _, rfl, rfl, rfl⟩
      case round =>
        obtain ⟨m, z, hm, rfl, rfl, HZ⟩ := hrel
        cases m with
        | zero =>
          go_wp2
          go_round
          case rel =>
            refine ⟨k + 1, by omega, by go_num, ?_⟩
            rw [HS.out, ← HZ.out]; rfl
          case measure => simp [intOf]; omega
        | succ m =>
          have h1 : ((8 - (m + 1) : Nat) : Int) < 8 := by omega
          have h2 : 0 ≤ ((8 - (m + 1) : Nat) : Int) := by omega
          go_wp2_with (go_at_call 66; refine (stepR_calls z _).mono ?_; rintro e w' ⟨rfl, rfl⟩)
          go_round
          case rel =>
            refine ⟨m, stepR z, by omega, ?_, rfl, HZ⟩
            congr 1; omega
          case measure => simp [intOf]; omega
    · go_wp2
      go_ret
      have : k = l.length := by omega
      subst this
      exact ⟨by rw [List.take_length]; rfl, rfl⟩

end Go.Proofs.YtipjdkdonmoojaaDoor
