/- Package block: numbers, sum. -/
import Derived.Test.YtipjdkdonmoojaaDoorBlkP
import Derived.Test.YtipjdkdonmoojaaDoorApp
import Derived.Deep.RegionHeld3
import Derived.Deep.RegionWith
import Derived.RegionTactic
namespace Go.Proofs.YtipjdkdonmoojaaDoor
open Go Go.RowKit
set_option linter.unusedVariables false
set_option linter.unusedSimpArgs false

theorem u64w (n : Int) (h0 : 0 ≤ n) (h1 : n < 18446744073709551616) : IntKind.u64.wrap n = n := by rw [IntKind.wrap_u64]; omega
set_option maxRecDepth 100000 in
set_option maxHeartbeats 800000 in
theorem numbers_calls (first : UInt64) (n : Nat) (w : World) (h1 : 1 ≤ n) (hn : n ≤ 9223372036854775807) :
    Calls Tryd.prog 26 #[.int .u64 (n64 first), .int .i64 (n : Int)] w fun e w' => e = .returned (.bool (numOK first n)) ∧ w' = w := by
  have hf := first.toNat_lt
  have hz : n64 first = (first.toNat : Int) := rfl
  by_cases ha : 1 ≤ first.toNat
  case neg =>
    have hN : numOK first n = false := decide_eq_false (by omega)
    rw [hN, hz]
    have d1 : decide ((1 : Int) ≤ (first.toNat : Int)) = false := decide_eq_false (by omega)
    have d2 : decide (1 ≤ first.toNat) = false := decide_eq_false ha
    generalize first.toNat = f at *
    clear hz hN
    go_enter Tryd.func26, Tryd.ntmps26
    go_wp2
    go_ret
    exact ⟨rfl, rfl⟩
  by_cases hb : first.toNat ≤ 4611686018427387904
  case neg =>
    have hN : numOK first n = false := decide_eq_false (by omega)
    rw [hN, hz]
    have d1 : decide ((1 : Int) ≤ (first.toNat : Int)) = true := decide_eq_true (by omega)
    have d3 : decide ((first.toNat : Int) ≤ (4611686018427387904 : Int)) = false := decide_eq_false (by omega)
    generalize first.toNat = f at *
    clear hz hN
    go_enter Tryd.func26, Tryd.ntmps26
    go_wp2
    go_ret
    exact ⟨rfl, rfl⟩
  have hN : numOK first n = decide (n - 1 ≤ 4611686018427387904 - first.toNat) := by unfold numOK; exact decide_eq_decide.2 ⟨fun h => by omega, fun h => by omega⟩
  rw [hN, hz]
  have d1 : decide ((1 : Int) ≤ (first.toNat : Int)) = true := decide_eq_true (by omega)
  have d3 : decide ((first.toNat : Int) ≤ (4611686018427387904 : Int)) = true := decide_eq_true (by omega)
  obtain ⟨m, hm⟩ : ∃ m, m = n - 1 := ⟨_, rfl⟩
  obtain ⟨r, hr⟩ : ∃ r, r = 4611686018427387904 - first.toNat := ⟨_, rfl⟩
  have w1 : IntKind.u64.wrap (n : Int) = (n : Int) := u64w _ (by omega) (by omega)
  have w2 : IntKind.u64.wrap ((n : Int) - 1) = (m : Int) := by rw [u64w _ (by omega) (by omega)]; omega
  have w3 : IntKind.u64.wrap (4611686018427387904 - (first.toNat : Int)) = (r : Int) := by rw [u64w _ (by omega) (by omega)]; omega
  rw [← hm, ← hr]
  generalize first.toNat = f at *
  clear hz hN hm hr
  by_cases hmr : m ≤ r
  · have e1 : decide (m ≤ r) = true := decide_eq_true hmr
    have e2 : decide ((m : Int) ≤ (r : Int)) = true := decide_eq_true (by omega)
    rw [e1]
    go_enter Tryd.func26, Tryd.ntmps26
    go_wp2
    go_ret
    exact ⟨rfl, rfl⟩
  · have e1 : decide (m ≤ r) = false := decide_eq_false hmr
    have e2 : decide ((m : Int) ≤ (r : Int)) = false := decide_eq_false (by omega)
    rw [e1]
    go_enter Tryd.func26, Tryd.ntmps26
    go_wp2
    go_ret
    exact ⟨rfl, rfl⟩

theorem rows_lit {w : World} {g : Nat} {vs : List Value} {ls : List (List UInt8)} {t : TypeId} {fr : Nat × Nat} (h : w.heap[g]? = some (.cells vs.toArray t fr)) (hl : vs.length = ls.length) (hr : ∀ i, (h1 : i < vs.length) → (h2 : i < ls.length) → SlB w vs[i] ls[i]) : RowsB w (some ⟨g, 0, none⟩) ls :=
  ⟨vs, hl, cells_at h, hr⟩
theorem slb_take {w : World} {A : Option Addr} {c k : Nat} {b : List UInt8} (h : Cells w A (Bs b)) (hk : k ≤ b.length) (hc : b.length ≤ c) (hc2 : c ≤ 9223372036854775807) : SlB w (.slice A k c) (b.take k) := by
  refine ⟨A, c, by rw [List.length_take]; congr 1; omega, by rw [List.length_take]; omega, hc2, ?_⟩
  rw [Bs_take]
  exact cells_take h k
theorem slb_drop {w : World} {A : Option Addr} {c k : Nat} {b : List UInt8} (h : Cells w A (Bs b)) (hk : k ≤ b.length) (hc : b.length ≤ c) (hc2 : c ≤ 9223372036854775807) : SlB w (.slice (cutA A c k) (b.length - k) (c - k)) (b.drop k) := by
  refine ⟨cutA A c k, c - k, by rw [List.length_drop], by rw [List.length_drop]; omega, by omega, ?_⟩
  rw [Bs_drop]
  exact cells_drop h c k (by rw [Bs_length]; exact hc)

set_option maxRecDepth 100000 in
set_option maxHeartbeats 1600000 in
theorem bsum_calls (A : Option Addr) (c : Nat) (b : List UInt8) (w : World) (hT : Tab w) (hl : b.length = 512) (hc : 512 ≤ c) (hc2 : c ≤ 9223372036854775807) (hA : Cells w A (Bs b)) :
    Calls Tryd.prog 30 #[.slice A 512 c] w fun e w' => e = .returned (.int .u32 (n32 (sumB (b.take 14) (b.drop 18)))) ∧ Below w.heap.size w w' := by
  have hk1 : (14 : Int) ≤ (c : Int) := by omega
  have hk2 : (0 : Int) ≤ (c : Int) := by omega
  have hk3 : (18 : Int) ≤ (c : Int) := by omega
  have hcut1 : ∀ W : World, (Instr.slice 28 (.slice A 512 c) none (some (.int .i64 14)) none).run Tryd.prog W = .ok (.slice A 14 c) W := run_cut_h (P := Tryd.prog) 28 5 Tryd.underlying28 size8' A 512 c 14 (by omega)
  have hcut2 : ∀ W : World, (Instr.slice 28 (.slice A 512 c) (some (.int .i64 18)) none none).run Tryd.prog W = .ok (.slice (cutA A c 18) (512 - 18) (c - 18)) W := run_cut_l (P := Tryd.prog) 28 5 Tryd.underlying28 size8' A 512 c 18 (by omega)
  have hmk : ∀ W : World, (Instr.makeSlice 28 (.int .i64 4) (.int .i64 4)).run Tryd.prog W = .ok (.slice (some ⟨W.heap.size, 0, none⟩) 4 4) (W.alloc (.cells #[.int .u8 0, .int .u8 0, .int .u8 0, .int .u8 0] 5)) := fun W => by kernel_rfl
  obtain ⟨W, hW⟩ : ∃ W, W = (w.alloc (.cells #[.int .u8 0, .int .u8 0, .int .u8 0, .int .u8 0] 5)).alloc (.cells #[.slice A 14 c, .slice (some ⟨w.heap.size, 0, none⟩) 4 4, .slice (cutA A c 18) 494 (c - 18)] 28) := ⟨_, rfl⟩
  have hb : Below w.heap.size w W := by rw [hW]; exact ((Below.refl _ _).alloc (Nat.le_refl _) _).alloc (by simp) _
  have h0 : W.heap[w.heap.size]? = some (.cells (Bs [0, 0, 0, 0]).toArray 5 (0, 0)) := by rw [hW]; exact below_heap ((Below.refl _ _).alloc (Nat.le_refl _) _) (heap_here w _ w.heap.size rfl)
  have h1 : W.heap[w.heap.size + 1]? = some (.cells #[.slice A 14 c, .slice (some ⟨w.heap.size, 0, none⟩) 4 4, .slice (cutA A c 18) 494 (c - 18)] 28 (0, 0)) := by rw [hW]; exact heap_here _ _ _ (by simp)
  have hA' := cells_below hb hA
  have hrows : RowsB W (some ⟨w.heap.size + 1, 0, none⟩) [b.take 14, [0, 0, 0, 0], b.drop 18] := by
    refine rows_lit (vs := [.slice A 14 c, .slice (some ⟨w.heap.size, 0, none⟩) 4 4, .slice (cutA A c 18) 494 (c - 18)]) h1 rfl ?_
    intro i h1 h2
    match i with
    | 0 => exact slb_take hA' (by omega) (by omega) hc2
    | 1 => exact slb_at h0 rfl (Nat.le_refl _) (by decide)
    | 2 =>
      have := slb_drop (k := 18) hA' (by omega) (by omega) hc2
      rw [hl] at this
      exact this
    | n + 3 => exact absurd h2 (by simp)
  have HS := Go.Lib.hid (show Calls Tryd.prog 48 #[.slice (some ⟨w.heap.size + 1, 0, none⟩) 3 3] W.drew (fun e w' => e = .returned (.int .u32 (n32 (sumB (b.take 14) (b.drop 18)))) ∧ w' = W.drew) from sumOf_calls (some ⟨w.heap.size + 1, 0, none⟩) 3 [b.take 14, [0, 0, 0, 0], b.drop 18] W.drew (by simp) (fun x => below_cell hb (hT x)) hrows)
  have HB := Go.Lib.hid hb
  clear hA hT hA' h0 h1 hrows hb
  rw [hW] at HS
  go_enter Tryd.func30, Tryd.ntmps30
  go_wp2
  go_region_with (go_at_call 48; (with_reducible refine HS.out.mono ?_); rintro e w1 ⟨rfl, rfl⟩)
  go_wp2
  go_ret
  exact ⟨rfl, by have := HB.out.drew; rw [hW] at this; exact this⟩
end Go.Proofs.YtipjdkdonmoojaaDoor
