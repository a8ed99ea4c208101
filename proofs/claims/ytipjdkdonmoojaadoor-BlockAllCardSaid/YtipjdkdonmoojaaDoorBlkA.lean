/- Layer 8's law package: awake. -/
import Derived.Test.YtipjdkdonmoojaaDoorBlkL
namespace Go.Proofs.YtipjdkdonmoojaaDoor
open Go Go.RowKit
set_option linter.unusedVariables false
set_option linter.unusedSimpArgs false
attribute [local go_sem] n8_self n64_self beq_n8 bne_n8 beq_n64 bne_n64

def awL : List UInt8 := blockB 1 [[97, 98, 99]]
def awP : List UInt8 := (packB 7 [[97], [98]]).1
theorem aw_enc : encB 1 [[97, 98, 99]] = (awL, 0) := by decide +kernel
theorem aw_len : awL.length = 512 := by decide +kernel
theorem aw_at : awL[0]? = some 84 ∧ awL[14]? = some 0x45 ∧ awL[17]? = some 0xc3 ∧ awL[20]? = some 97 := by decide +kernel
theorem aw_dec : decB awL = (1, [[97, 98, 99]], 0) := by decide +kernel
theorem aw_pack : packB 7 [[97], [98]] = (awP, 0) := by decide +kernel
theorem aw_plen : awP.length = 512 := by decide +kernel
theorem aw_scan : scanB awP [] 7 = ([[97], [98]], 1) := by decide +kernel
theorem rows_one {w : World} {A : Option Addr} {l : List UInt8} (h : RowsB w A [l]) : ∃ b o A' c', A = some ⟨b, o, none⟩ ∧ w.cell? ⟨b, o, none⟩ = some (.slice A' l.length c') ∧ Hid (Cells w A' (Bs l)) := by
  obtain ⟨b, o, hA, A', c', h1, h2, h3⟩ := h.row 0 (by simp)
  exact ⟨b, o, A', c', hA, by simpa using h2, h3⟩
theorem rows_lit1 {w : World} {l : List UInt8} (hl : l.length ≤ 9223372036854775807) {g g2 : Nat} {fr : Nat × Nat} (h1 : w.heap[g]? = some (.cells (Bs l).toArray 5 fr)) (h2 : w.heap[g2]? = some (.cells #[.slice (some ⟨g, 0, none⟩) l.length l.length] 28 (0, 0))) : RowsB w (some ⟨g2, 0, none⟩) [l] := by
  refine rows_lit (vs := [.slice (some ⟨g, 0, none⟩) l.length l.length]) h2 rfl ?_
  intro i h3 h4
  match i with
  | 0 => exact ⟨_, _, rfl, Nat.le_refl _, hl, cells_at h1⟩
  | n + 1 => exact absurd h4 (by simp)
theorem enc_lit (A : Option Addr) (c : Nat) (p : Nat → Addr) (w : World) (hT : Tab w) (hp : E5 w p) (hA : RowsB w A [[97, 98, 99]]) :
    Calls Tryd.prog 13 #[.int .u64 1, .slice A 1 c] w fun e w' => ∃ b o c1, e = .returned (.tuple #[.slice (some ⟨b, o, none⟩) 512 c1, .nilIface]) ∧ w'.cell? ⟨b, o, none⟩ = some (.int .u8 84) ∧ w'.cell? ⟨b, o + 14, none⟩ = some (.int .u8 69) ∧ w'.cell? ⟨b, o + 17, none⟩ = some (.int .u8 195) ∧ w'.cell? ⟨b, o + 20, none⟩ = some (.int .u8 97) ∧ Hid (Cells w' (some ⟨b, o, none⟩) (Bs awL)) ∧ 512 ≤ c1 ∧ c1 ≤ 9223372036854775807 ∧ Hid (Below w.heap.size w w') := by
  refine (show Calls Tryd.prog 13 #[.int .u64 1, .slice A 1 c] w _ from bEncode_calls A c [[97, 98, 99]] 1 p w hT hp (by simp) hA).mono ?_
  rintro e w' ⟨v, rfl, ho, hb⟩
  rw [aw_enc] at ho ⊢
  obtain ⟨A1, c1, rfl, h1, h2, hc⟩ := own_slice ho
  rw [Bs_length, aw_len] at h1 ⊢
  have hc' := hc
  obtain ⟨b, o, rfl, hcell⟩ := hc (by rw [Bs_length, aw_len]; decide)
  obtain ⟨a0, a14, a17, a20⟩ := aw_at
  have key : ∀ (i : Nat) (x : UInt8), awL[i]? = some x → w'.cell? ⟨b, o + i, none⟩ = some (.int .u8 (n8 x)) := fun i x hx => by
    obtain ⟨hi, hx⟩ := List.getElem?_eq_some_iff.1 hx
    rw [hcell i (by rw [Bs_length]; exact hi)]
    simp [Bs, hx]
  exact ⟨b, o, c1, rfl, key 0 _ a0, key 14 _ a14, key 17 _ a17, key 20 _ a20, hc', h1, h2, hb⟩
set_option maxRecDepth 100000 in
theorem dec_lit (A : Option Addr) (c : Nat) (p : Nat → Addr) (w : World) (hT : Tab w) (hp : E5 w p) (hA : Cells w A (Bs awL)) (hc : 512 ≤ c) (hc2 : c ≤ 9223372036854775807) :
    Calls Tryd.prog 16 #[.slice A 512 c] w fun e w' => ∃ b o c1 A' c', e = .returned (.tuple #[.int .u64 1, .slice (some ⟨b, o, none⟩) 1 c1, .nilIface]) ∧ w'.cell? ⟨b, o, none⟩ = some (.slice A' 3 c') ∧ (convert 28 9 (.slice A' 3 c')).run Tryd.prog w' = .ok (.string ⟨#[97, 98, 99]⟩) w' ∧ Hid (Below w.heap.size w w') := by
  have h := bDecode_calls A c awL p w hT hp (by rw [aw_len]; exact hc) hc2 hA
  rw [aw_len, aw_dec] at h
  refine h.mono ?_
  rintro e w' ⟨v, vs, rfl, ho, ha, hb⟩
  obtain ⟨A1, c1, rfl, _, _, hr⟩ := rows_of_all ho ha
  obtain ⟨b, o, A', c', rfl, h2, h3⟩ := rows_one hr
  exact ⟨b, o, c1, A', c', rfl, h2, conv_str h3.out, hb⟩
theorem pack_lit (A : Option Addr) (p : Nat → Addr) (w : World) (hT : Tab w) (hp : E5 w p) (hA : RowsB w A [[97], [98]]) :
    Calls Tryd.prog 20 #[.int .u64 7, .slice A 2 2] w fun e w' => ∃ A1 c1, e = .returned (.tuple #[.slice A1 512 c1, .nilIface]) ∧ Hid (Cells w' A1 (Bs awP)) ∧ 512 ≤ c1 ∧ c1 ≤ 9223372036854775807 ∧ Hid (Below w.heap.size w w') := by
  refine (show Calls Tryd.prog 20 #[.int .u64 7, .slice A 2 2] w _ from bPack_calls A 2 [[97], [98]] 7 p w hT hp (by simp) (by simp) (by decide) hA).mono ?_
  rintro e w' ⟨v, rfl, ho, hb⟩
  rw [aw_pack] at ho ⊢
  obtain ⟨A1, c1, rfl, h1, h2, hc⟩ := own_slice ho
  rw [Bs_length, aw_plen] at h1 ⊢
  exact ⟨A1, c1, rfl, hc, h1, h2, hb⟩
theorem scan_lit (A : Option Addr) (c : Nat) (p : Nat → Addr) (w : World) (hT : Tab w) (hp : E5 w p) (hA : Cells w A (Bs awP)) (hc : 512 ≤ c) (hc2 : c ≤ 9223372036854775807) :
    Calls Tryd.prog 19 #[.slice A 512 c, .slice none 0 0, .int .u64 7] w fun e w' => ∃ A' c', e = .returned (.tuple #[.slice A' 2 c', .int .i64 1]) ∧ Hid (Below w.heap.size w w') := by
  have h := bScan_calls A c awP none 0 [] 7 p w hT hp (by rw [aw_plen]; decide) (by rw [aw_plen]; exact hc) hc2 hA (by simp) (fun h => absurd h (by simp))
  rw [aw_plen, aw_scan] at h
  refine (show Calls Tryd.prog 19 #[.slice A 512 c, .slice none 0 0, .int .u64 7] w _ from h).mono ?_
  rintro e w' ⟨v, vs, rfl, ho, ha, hb⟩
  obtain ⟨A1, c1, rfl, _, _, hr⟩ := rows_of_all ho ha
  exact ⟨A1, c1, rfl, hb⟩
theorem rows_lit2 {w : World} {g1 g2 g3 : Nat} {x y : UInt8} {fr : Nat × Nat} (h1 : w.heap[g1]? = some (.cells #[.int .u8 (n8 x)] 5 fr)) (h2 : w.heap[g2]? = some (.cells #[.int .u8 (n8 y)] 5 fr)) (h3 : w.heap[g3]? = some (.cells #[.slice (some ⟨g1, 0, none⟩) 1 1, .slice (some ⟨g2, 0, none⟩) 1 1] 28 (0, 0))) : RowsB w (some ⟨g3, 0, none⟩) [[x], [y]] := by
  refine rows_lit (vs := [.slice (some ⟨g1, 0, none⟩) 1 1, .slice (some ⟨g2, 0, none⟩) 1 1]) h3 rfl ?_
  intro i h5 h4
  match i with
  | 0 => exact ⟨some ⟨g1, 0, none⟩, 1, rfl, Nat.le_refl _, by decide, cells_at (vs := Bs [x]) h1⟩
  | 1 => exact ⟨some ⟨g2, 0, none⟩, 1, rfl, Nat.le_refl _, by decide, cells_at (vs := Bs [y]) h2⟩
  | n + 2 => exact absurd h4 (by simp)

set_option maxRecDepth 100000 in
set_option maxHeartbeats 3200000 in
theorem awake_calls (p : Nat → Addr) (w : World) (hT : Tab w) (hp : E5 w p) : Calls Tryd.prog 9 #[] w fun e w' => e = .returned (.bool true) ∧ Below w.heap.size w w' := by
  have HP := Go.Lib.hid hp
  have HT := Go.Lib.hid hT
  obtain ⟨W, hW⟩ : ∃ W, W = (w.alloc (.cells #[.int .u8 97, .int .u8 98, .int .u8 99] 5 (3, 4))).alloc (.cells #[.slice (some ⟨w.heap.size, 0, none⟩) 3 3] 28) := ⟨_, rfl⟩
  have hbW : Below w.heap.size w W := by rw [hW]; exact ((Below.refl _ _).alloc (Nat.le_refl _) _).alloc (by simp) _
  have h0 : W.heap[w.heap.size]? = some (.cells (Bs [97, 98, 99]).toArray 5 (3, 4)) := by rw [hW]; exact below_heap ((Below.refl _ _).alloc (Nat.le_refl _) _) (heap_here w _ w.heap.size rfl)
  have h1 : W.heap[w.heap.size + 1]? = some (.cells #[.slice (some ⟨w.heap.size, 0, none⟩) 3 3] 28 (0, 0)) := by rw [hW]; exact heap_here _ _ _ (by simp)
  have HE := Go.Lib.hid (enc_lit (some ⟨w.heap.size + 1, 0, none⟩) 1 p W (fun x => below_cell hbW (hT x)) (e5_below hp hbW) (rows_lit1 (l := [97, 98, 99]) (by decide) h0 h1))
  have HBW := Go.Lib.hid hbW
  have kc := fun (w : World) (C : Array Value) (n c : Nat) => Go.Lib.run_convert_bytes_const (P := Tryd.prog) w 28 5 C n c Tryd.underlying28 Tryd.underlying5
  have kc2 := fun (w : World) (o : Obj) (C : Array Value) (n c : Nat) => Go.Joins.run_convert_bytes_const_at (P := Tryd.prog) (w.alloc o) 28 5 C n c (w.heap.size + 1) (by simp) Tryd.underlying28 Tryd.underlying5
  clear hp hT h0 h1 hbW
  go_enter Tryd.func9, Tryd.ntmps9
  go_wp2_with fail
  rw [← hW]
  refine HE.out.mono ?_
  rintro e w1 ⟨b, o, c1, rfl, x0, x14, x17, x20, HC1, hc1, hc2, HB1⟩
  have HBB1 := Go.Lib.hid (HBW.out.trans (HB1.out.mono HBW.out.size))
  clear hW HE HBW HB1
  have HD := Go.Lib.hid (dec_lit (some ⟨b, o, none⟩) c1 p w1 (fun x => below_cell HBB1.out (HT.out x)) (e5_below HP.out HBB1.out) HC1.out hc1 hc2)
  go_wp2_with fail
  refine HD.out.mono ?_
  rintro e w2 ⟨b2, o2, c2, A3, c3, rfl, y0, hcv, HB2⟩
  have HBB2 := Go.Lib.hid (HBB1.out.trans (HB2.out.mono HBB1.out.size))
  clear x0 x14 x17 x20 HC1 hc1 hc2 HD HB2 HBB1
  obtain ⟨W3, hW3⟩ : ∃ W3, W3 = ((w2.alloc (.cells #[.int .u8 97] 5 (1, 2))).alloc (.cells #[.int .u8 98] 5 (1, 2))).alloc (.cells #[.slice (some ⟨w2.heap.size, 0, none⟩) 1 1, .slice (some ⟨w2.heap.size + 1, 0, none⟩) 1 1] 28) := ⟨_, rfl⟩
  have hb3 : Below w2.heap.size w2 W3 := by rw [hW3]; exact (((Below.refl _ _).alloc (Nat.le_refl _) _).alloc (by simp) _).alloc (by simp; omega) _
  have k0 : W3.heap[w2.heap.size]? = some (.cells #[.int .u8 (n8 97)] 5 (1, 2)) := by
    rw [hW3]
    exact below_heap ((Below.refl _ _).alloc (Nat.le_refl _) _) (below_heap ((Below.refl _ _).alloc (Nat.le_refl _) _) (heap_here w2 _ w2.heap.size rfl))
  have k1 : W3.heap[w2.heap.size + 1]? = some (.cells #[.int .u8 (n8 98)] 5 (1, 2)) := by
    rw [hW3]
    exact below_heap ((Below.refl _ _).alloc (Nat.le_refl _) _) (heap_here _ _ _ (by simp))
  have k2 : W3.heap[w2.heap.size + 2]? = some (.cells #[.slice (some ⟨w2.heap.size, 0, none⟩) 1 1, .slice (some ⟨w2.heap.size + 1, 0, none⟩) 1 1] 28 (0, 0)) := by rw [hW3]; exact heap_here _ _ _ (by simp)
  have HBB3 := Go.Lib.hid (HBB2.out.trans (hb3.mono HBB2.out.size))
  have HPK := Go.Lib.hid (pack_lit (some ⟨w2.heap.size + 2, 0, none⟩) p W3 (fun x => below_cell HBB3.out (HT.out x)) (e5_below HP.out HBB3.out) (rows_lit2 k0 k1 k2))
  clear hb3 k0 k1 k2 HBB2
  go_wp2_with fail
  rw [← hW3]
  refine HPK.out.mono ?_
  rintro e w4 ⟨A4, c4, rfl, HC4, hc41, hc42, HB4⟩
  have HBB4 := Go.Lib.hid (HBB3.out.trans (HB4.out.mono HBB3.out.size))
  have HS := Go.Lib.hid (scan_lit A4 c4 p w4 (fun x => below_cell HBB4.out (HT.out x)) (e5_below HP.out HBB4.out) HC4.out hc41 hc42)
  clear hW3 HPK HBB3 HB4 y0 hcv HC4
  go_wp2_with fail
  refine HS.out.mono ?_
  rintro e w5 ⟨A5, c5, rfl, HB5⟩
  have HBB5 := Go.Lib.hid (HBB4.out.trans (HB5.out.mono HBB4.out.size))
  clear HS HBB4 HB5
  go_wp2
  go_ret
  exact ⟨rfl, HBB5.out⟩
end Go.Proofs.YtipjdkdonmoojaaDoor
