/- Package request: putPolicy. -/
import Derived.Test.YtonfeppenhebjaaDoorReqP
namespace Go.Proofs.YtonfeppenhebjaaDoor
open Go Go.RowKit
set_option linter.unusedVariables false
set_option linter.unusedSimpArgs false
attribute [local go_sem] IntKind.wrap_u64 c64_8 c8_64 c16_64 c32_64 c64_16 c64_32 or8 and8 n64_self n8_self beq_n64 beq_n8 bne_n8 bne_n64 beq_n64_0 bne_n64_0 wrap_b8

/-- what an append to a row of the call's own gives -/
def GaveO (B : Nat) (w w' : World) (e : Ending) (l : List UInt8) : Prop := ∃ v, e = .returned v ∧ Own w' B 5 v (Bs l) ∧ Below B w w'

/-- PutU64, its answer under new names -/
theorem putU64_v (A : Option Addr) (c : Nat) (l : List UInt8) (x : UInt64) (N : Nat) (w : World) (hl : l.length ≤ N) (hN : N + 8 ≤ 140737488351232) (hA : Cells w A (Bs l)) :
    Calls Tryd.prog 26 #[.slice A l.length c, .int .u64 (n64 x)] w fun e w' => ∃ A' c' l', e = .returned (.slice A' (l' : List UInt8).length c') ∧ Hid (l' = l ++ leS x 8) ∧ Hid (Cells w' A' (Bs l')) ∧ l'.length ≤ N + 8 ∧ Hid (Own w' w.heap.size 5 (.slice A' l'.length c') (Bs l')) ∧ Below w.heap.size w w' := by
  refine (putU64_calls A c l x w (by omega) hA).mono ?_
  rintro e w' ⟨v, rfl, hv, hb⟩
  obtain ⟨A', c', rfl, _, _, hc⟩ := own_slice hv
  rw [Bs_length] at hv ⊢
  exact ⟨A', c', _, rfl, rfl, hc, by rw [List.length_append, leS_length]; omega, hv, hb⟩

theorem putU64_n (A : Option Addr) (c n : Nat) (l : List UInt8) (x : UInt64) (N : Nat) (w : World) (hn : l.length = n) (hl : l.length ≤ N) (hN : N + 8 ≤ 140737488351232) (hA : Cells w A (Bs l)) :
    Calls Tryd.prog 26 #[.slice A n c, .int .u64 (n64 x)] w fun e w' => ∃ A' c' l', e = .returned (.slice A' (l' : List UInt8).length c') ∧ Hid (l' = l ++ leS x 8) ∧ Hid (Cells w' A' (Bs l')) ∧ l'.length ≤ N + 8 ∧ Hid (Own w' w.heap.size 5 (.slice A' l'.length c') (Bs l')) ∧ Below w.heap.size w w' := by
  subst hn; exact putU64_v A c l x N w hl hN hA

set_option maxRecDepth 100000 in
set_option maxHeartbeats 1600000 in
theorem putPolicy_calls (B : Nat) (v : Value) (l : List UInt8) (p : Pol) (w : World) (hB : B ≤ w.heap.size) (hl : l.length ≤ 1000000) (hv : Own w B 5 v (Bs l)) :
    Calls Tryd.prog 25 #[v, polV p] w fun e w' => GaveO B w w' e (l ++ polB p) := by
  obtain ⟨kind, gap, slack, limit, span⟩ := p
  have hbx : Below w.heap.size w (w.alloc (.cells #[.int .i64 kind, .int .u64 (n64 gap), .int .u64 (n64 slack), .int .u64 (n64 limit), .int .u64 (n64 span)] 28)) := (Below.refl _ _).alloc (Nat.le_refl _) _
  have HV := Go.Lib.hid (own_drewless hv hbx)
  have HBX := Go.Lib.hid (hbx.mono hB)
  have hsz : B ≤ (w.alloc (.cells #[.int .i64 kind, .int .u64 (n64 gap), .int .u64 (n64 slack), .int .u64 (n64 limit), .int .u64 (n64 span)] 28)).heap.size := Nat.le_trans hB hbx.size
  have hroom : (((Bs l).length + 1) + ((Bs l).length + 1) / 4 + 192) * 1 ≤ 281474976710656 := by rw [Bs_length]; omega
  have hmax : (Bs l).length + 1 ≤ 9223372036854775807 := by rw [Bs_length]; omega
  simp only [polV]
  clear hv hbx
  by_cases k2 : kind = 2
  · subst k2
    rw [show polB ⟨2, gap, slack, limit, span⟩ = b8 2 :: (leS limit 8 ++ leS span 8) from rfl]
    go_enter Tryd.func25, Tryd.ntmps25
    go_wp2_with (first
      | (at_builtin; (with_reducible refine wpList_append_valN (W := w.alloc (.cells #[.int .i64 2, .int .u64 (n64 gap), .int .u64 (n64 slack), .int .u64 (n64 limit), .int .u64 (n64 span)] 28)) (u := .int .u8 (n8 (b8 2))) (base := B) (vs := Bs l) (s := .tmp 5) (x := .tmp 9) (t := 37) (e := 5) (z := .int .u8 0) (bytes := 1) (hinfo := info8) (ht := Tryd.underlying37) (hown := HV.out) (hbase := hsz) (hgd := rfl) (ho := ?_) (hz := ?_) (hs := ?_) (hu := ?_) (n := w.heap.size + 1) (hn := ?_) (hx := ?_) (hroom := hroom) (hmax := hmax) (h := ?_)); rfl; rfl; rfl; rfl; simp; rfl; intro v4 w4 hown4 hgr4; have HO := Go.Lib.hid hown4; have HB4 := Go.Lib.hid (below_grown HBX.out HV.out hgr4 (Nat.le_refl _) hsz); have hb4 := grown_heap HV.out hgr4 (heap_here w _ w.heap.size rfl) (by decide); have c0 := blk_cell hb4 0 (.int .i64 2) rfl; have c1 := blk_cell hb4 3 (.int .u64 (n64 limit)) rfl; have c2 := blk_cell hb4 4 (.int .u64 (n64 span)) rfl; clear hown4 hgr4 hb4))
    obtain ⟨A4, cap4, rfl, _, _, hc4⟩ := own_slice HO.out
    rw [Bs_snoc] at hc4
    have hl4 : (l ++ [b8 2]).length ≤ 1000001 := by simp; omega
    have hn4 : (Bs l ++ [Value.int .u8 (n8 (b8 2))]).length = (l ++ [b8 2]).length := by simp [Bs]
    rw [hn4]
    have HC4 := Go.Lib.hid hc4
    clear hc4 hn4 HO
    have hszB : B ≤ w4.heap.size := Nat.le_trans hB HB4.out.size
    generalize hL4 : l ++ [b8 2] = l4 at *
    have HL4 := Go.Lib.hid hL4
    clear hL4
    have HC4d : Cells w4.drew A4 (Bs l4) := HC4.out
    go_region_held3 (fun w' => w'.cell? ⟨w.heap.size, 3, none⟩ = some (.int .u64 (n64 limit)) ∧ w'.cell? ⟨w.heap.size, 4, none⟩ = some (.int .u64 (n64 span)))
      (first | exact ⟨c1, c2⟩ | exact ⟨below_cell hb6 (below_cell hb5 c1), below_cell hb6 (below_cell hb5 c2)⟩ | exact ⟨below_cell hb5 c1, below_cell hb5 c2⟩)
      (first
        | (go_at_call 26; (with_reducible refine (putU64_v A4 cap4 l4 limit 1000001 w4.drew hl4 (by decide) HC4d).mono ?_); rintro e w5 ⟨A5, cap5, l5, rfl, HL5, HC5, hl5, HO5, hb5⟩)
        | (go_at_call 26; (with_reducible refine (putU64_v A5 cap5 l5 span (1000001 + 8) w5 hl5 (by decide) HC5.out).mono ?_); rintro e w6 ⟨A6, cap6, l6, rfl, HL6, HC6, hl6, HO6, hb6⟩)
        | fail)
    all_goals
      go_wp2
      go_ret
      refine ⟨_, rfl, ?_, HB4.out.trans ((by first | exact (below_then hb5 hb6).mono hszB | exact (undrew (below_then hb5 hb6)).mono hszB : Below B w4 w6))⟩
      have hv7 := own_mono HO6.out (Nat.le_trans hszB hb5.size)
      rw [HL6.out, HL5.out, ← HL4.out] at hv7
      rw [HL6.out, HL5.out, ← HL4.out]
      simpa using hv7
  · have hP : polB ⟨kind, gap, slack, limit, span⟩ = b8 kind :: (leS gap 8 ++ leS slack 8) := by unfold polB; rw [if_neg k2]
    rw [hP]
    have b2 : (kind == 2) = false := beq_eq_false_iff_ne.2 k2
    clear k2 hP
    go_enter Tryd.func25, Tryd.ntmps25
    go_wp2_with (first
      | (at_builtin; (with_reducible refine wpList_append_valN (W := w.alloc (.cells #[.int .i64 kind, .int .u64 (n64 gap), .int .u64 (n64 slack), .int .u64 (n64 limit), .int .u64 (n64 span)] 28)) (u := .int .u8 (n8 (b8 kind))) (base := B) (vs := Bs l) (s := .tmp 5) (x := .tmp 9) (t := 37) (e := 5) (z := .int .u8 0) (bytes := 1) (hinfo := info8) (ht := Tryd.underlying37) (hown := HV.out) (hbase := hsz) (hgd := rfl) (ho := ?_) (hz := ?_) (hs := ?_) (hu := ?_) (n := w.heap.size + 1) (hn := ?_) (hx := ?_) (hroom := hroom) (hmax := hmax) (h := ?_)); rfl; rfl; rfl; rfl; simp; rfl; intro v4 w4 hown4 hgr4; have HO := Go.Lib.hid hown4; have HB4 := Go.Lib.hid (below_grown HBX.out HV.out hgr4 (Nat.le_refl _) hsz); have hb4 := grown_heap HV.out hgr4 (heap_here w _ w.heap.size rfl) (by decide); have c0 := blk_cell hb4 0 (.int .i64 kind) rfl; have c1 := blk_cell hb4 1 (.int .u64 (n64 gap)) rfl; have c2 := blk_cell hb4 2 (.int .u64 (n64 slack)) rfl; clear hown4 hgr4 hb4))
    obtain ⟨A4, cap4, rfl, _, _, hc4⟩ := own_slice HO.out
    rw [Bs_snoc] at hc4
    have hl4 : (l ++ [b8 kind]).length ≤ 1000001 := by simp; omega
    have hn4 : (Bs l ++ [Value.int .u8 (n8 (b8 kind))]).length = (l ++ [b8 kind]).length := by simp [Bs]
    rw [hn4]
    have HC4 := Go.Lib.hid hc4
    clear hc4 hn4 HO
    have hszB : B ≤ w4.heap.size := Nat.le_trans hB HB4.out.size
    generalize hL4 : l ++ [b8 kind] = l4 at *
    have HL4 := Go.Lib.hid hL4
    clear hL4
    have HC4d : Cells w4.drew A4 (Bs l4) := HC4.out
    go_region_held3 (fun w' => w'.cell? ⟨w.heap.size, 1, none⟩ = some (.int .u64 (n64 gap)) ∧ w'.cell? ⟨w.heap.size, 2, none⟩ = some (.int .u64 (n64 slack)))
      (first | exact ⟨c1, c2⟩ | exact ⟨below_cell hb6 (below_cell hb5 c1), below_cell hb6 (below_cell hb5 c2)⟩ | exact ⟨below_cell hb5 c1, below_cell hb5 c2⟩)
      (first
        | (go_at_call 26; (with_reducible refine (putU64_v A4 cap4 l4 gap 1000001 w4.drew hl4 (by decide) HC4d).mono ?_); rintro e w5 ⟨A5, cap5, l5, rfl, HL5, HC5, hl5, HO5, hb5⟩)
        | (go_at_call 26; (with_reducible refine (putU64_v A5 cap5 l5 slack (1000001 + 8) w5 hl5 (by decide) HC5.out).mono ?_); rintro e w6 ⟨A6, cap6, l6, rfl, HL6, HC6, hl6, HO6, hb6⟩)
        | fail)
    all_goals
      go_wp2
      go_ret
      refine ⟨_, rfl, ?_, HB4.out.trans ((by first | exact (below_then hb5 hb6).mono hszB | exact (undrew (below_then hb5 hb6)).mono hszB : Below B w4 w6))⟩
      have hv7 := own_mono HO6.out (Nat.le_trans hszB hb5.size)
      rw [HL6.out, HL5.out, ← HL4.out] at hv7
      rw [HL6.out, HL5.out, ← HL4.out]
      simpa using hv7
end Go.Proofs.YtonfeppenhebjaaDoor
