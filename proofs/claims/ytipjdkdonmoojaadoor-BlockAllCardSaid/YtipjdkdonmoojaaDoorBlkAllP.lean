/- Layer 8's law package: plays: every call against the reference's. -/
import Derived.Test.YtipjdkdonmoojaaDoorBlk8S
import Derived.Deep.RegionHeld3
namespace Go.Proofs.YtipjdkdonmoojaaDoor
open Go Go.RowKit
set_option linter.unusedVariables false
set_option linter.unusedSimpArgs false
attribute [local go_sem] n8_self n64_self n32_self beq_n8 bne_n8 beq_n64 bne_n64

theorem encB_le (first : UInt64) (rs : List (List UInt8)) : (encB first rs).2 ≤ 15 := by
  rcases encB_cases first rs with ⟨h, _⟩ | ⟨h, _⟩ | ⟨h, _⟩ <;> rw [h] <;> simp
theorem packB_le (first : UInt64) (rs : List (List UInt8)) : (packB first rs).2 ≤ 15 := by
  unfold packB
  repeat' split
  all_goals simp
theorem decB_le (b : List UInt8) : (decB b).2.2 ≤ 15 := by
  rcases decB_cases b with ⟨k, h, h2⟩ | ⟨l, q, h, _⟩
  · rw [h]
    simp only
    omega
  · rw [h]
    simp
theorem e5_of {w : World} {p : Nat → Addr} (h : ErrsAt w p) : E5 w p := fun k h1 h2 => (h.1 k h1 (by omega)).1
theorem tab_below {w w' : World} (h : Tab w) (hb : Below w.heap.size w w') : Tab w' := fun x => below_cell hb (h x)
theorem same_refl8 (A B : Option Addr) (c d : Nat) (l : List UInt8) (w : World) (hL : l.length ≤ 9223372036854775807) (hA : Cells w A (Bs l)) (hB : Cells w B (Bs l)) :
    Calls Tryd.prog 18 #[.slice A l.length c, .slice B l.length d] w fun e w' => e = .returned (.bool true) ∧ Below w.heap.size w w' := by
  refine (same_calls A B c d l l w hL hA hB).mono ?_
  rintro e w' ⟨rfl, hd⟩
  exact ⟨by simp, drN_below hd _⟩
theorem alike_refl8 (A B : Option Addr) (c d : Nat) (l : List (List UInt8)) (w : World) (hL : l.length ≤ 9223372036854775807) (hA : RowsB w A l) (hB : RowsB w B l) :
    Calls Tryd.prog 17 #[.slice A l.length c, .slice B l.length d] w fun e w' => e = .returned (.bool true) ∧ Below w.heap.size w w' := by
  refine (alike_calls A B c d l l w hL hA hB).mono ?_
  rintro e w' ⟨rfl, hd⟩
  exact ⟨by simp, drN_below hd _⟩
theorem own_len {w : World} {b e : Nat} {v : Value} {l : List UInt8} (h : Own w b e v (Bs l)) : l.length ≤ 9223372036854775807 := by
  obtain ⟨_, _, _, h1, h2, _⟩ := own_slice h
  rw [Bs_length] at h1
  omega

set_option maxRecDepth 100000 in
set_option maxHeartbeats 3200000 in
theorem plays8_1 (first : UInt64) (Ar Ab Aw : Option Addr) (cr cb cw : Nat) (rs : List (List UInt8)) (b : List UInt8) (bad : List Int) (p : Nat → Addr) (w : World) (hT : Tab w) (hp : ErrsAt w p) (hn : rs.length ≤ 2097152) (h2 : ∀ r ∈ rs, r.length ≤ 140737488351232) (hR : RowsB w Ar rs) :
    Calls Tryd.prog 11 #[.agg #[.int .i64 1, .int .u64 (n64 first), .slice Ar rs.length cr, .slice Ab b.length cb, .slice Aw bad.length cw]] w fun e w' => e = .returned (.bool true) ∧ Below w.heap.size w w' := by
  obtain ⟨W0, hW0⟩ : ∃ W, W = w.alloc (.cells #[.int .i64 1, .int .u64 (n64 first), .slice Ar rs.length cr, .slice Ab b.length cb, .slice Aw bad.length cw] 31) := ⟨_, rfl⟩
  have hb0 : Below w.heap.size w W0 := by rw [hW0]; exact (Below.refl _ _).alloc (Nat.le_refl _) _
  have X : Hid (W0.heap[w.heap.size]? = some (.cells #[.int .i64 1, .int .u64 (n64 first), .slice Ar rs.length cr, .slice Ab b.length cb, .slice Aw bad.length cw] 31 (0, 0))) := by rw [hW0]; exact heap_here w _ w.heap.size rfl
  have BL : Hid (Below w.heap.size w W0) := hb0
  have HT : Hid (Tab W0) := tab_below hT hb0
  have HP : Hid (ErrsAt W0 p) := errsAt_below hp hb0
  have HR : Hid (RowsB W0 Ar rs) := rows_below hb0 hR
  have H2 := Go.Lib.hid h2
  clear hT hp hR h2 hb0
  go_enter Tryd.func11, Tryd.ntmps11
  go_wp2_with fail
  rw [← hW0]
  clear hW0
  have x0 := blk_cell X.out 0 (.int .i64 1) rfl
  have x1 := blk_cell X.out 1 (.int .u64 (n64 first)) rfl
  have x2 := blk_cell X.out 2 (.slice Ar rs.length cr) rfl
  have HCP := Go.Lib.hid (copied_calls Ar cr rs W0.drew hn H2.out (rows_below (below_drewN W0.heap.size W0 1) HR.out))
  go_wp2_with fail
  go_region_held3 (fun w' => w'.cell? ⟨w.heap.size, 1, none⟩ = some (.int .u64 (n64 first)) ∧ w'.cell? ⟨w.heap.size, 2, none⟩ = some (.slice Ar rs.length cr))
    (first | exact ⟨x1, x2⟩ | exact ⟨below_cell hb6 (below_cell hb5w x1), below_cell hb6 (below_cell hb5w x2)⟩ | exact ⟨below_cell hb5w x1, below_cell hb5w x2⟩ | fail)
    (first
      | (go_at_call 14; (with_reducible refine HCP.out.mono ?_); rintro e w5 ⟨g5, rfl, HR5, HB5⟩; have hb5w : Below W0.heap.size W0 w5 := undrew HB5.out; have HE5 := Go.Lib.hid (bEncode_calls (some ⟨g5, 0, none⟩) rs.length rs first p w5 (tab_below HT.out hb5w) (e5_of (errsAt_below HP.out hb5w)) (by omega) HR5.out))
      | (go_at_call 13; (with_reducible refine HE5.out.mono ?_); rintro e w6 ⟨v6, rfl, ho6, hb6⟩)
      | fail)
  have HT6 := Go.Lib.hid (tab_below (tab_below HT.out hb5w) hb6)
  have HP6 := Go.Lib.hid (errsAt_below (errsAt_below HP.out hb5w) hb6)
  have HR6 := Go.Lib.hid (rows_below (below_then hb5w hb6) HR.out)
  have BL6 := Go.Lib.hid (below_then BL.out (below_then hb5w hb6))
  have X6 := Go.Lib.hid (below_heap (below_then hb5w hb6) X.out)
  have HE8 := encode8_calls Ar cr rs first w6 (by omega) HR6.out
  have hle := encB_le first rs
  generalize encB first rs = d at *
  obtain ⟨L, kk⟩ := d
  simp only at ho6 hle HE8
  obtain ⟨A6, c6, rfl, HO6, HC6⟩ := own_open ho6
  have hL := own_len ho6
  have HEE8 := Go.Lib.hid HE8
  clear ho6 hb5w hb6 HE5 HB5 HR5 HCP HE8 x0 x1 x2 X BL HT HP HR HO6
  have x1 := blk_cell X6.out 1 (.int .u64 (n64 first)) rfl
  have x2 := blk_cell X6.out 2 (.slice Ar rs.length cr) rfl
  go_wp2_with fail
  refine HEE8.out.mono ?_
  rintro e w7 ⟨v7, rfl, ho7, hb7⟩
  simp only at ho7
  obtain ⟨A7, c7, rfl, HO7, HC7⟩ := own_open ho7
  have HP7 := Go.Lib.hid (errsAt_below HP6.out hb7)
  have BL7 := Go.Lib.hid (below_then BL6.out hb7)
  have HC67 := Go.Lib.hid (cells_below hb7 HC6.out)
  clear ho7 hb7 HEE8 x1 x2 X6 HT6 HP6 HR6 BL6 HO7 HC6
  go_wp2_with fail
  refine (is_yes w7 p kk (kk : Int) rfl hle HP7.out).mono ?_
  rintro e w8 ⟨rfl, rfl⟩
  go_wp2_with fail
  refine (same_refl8 A6 A7 c6 c7 L w8 hL HC67.out HC7.out).mono ?_
  rintro e w9 ⟨rfl, hb9⟩
  have BL9 := Go.Lib.hid (below_then BL7.out hb9)
  clear hb9
  go_wp2
  go_ret
  exact ⟨rfl, BL9.out⟩
set_option maxRecDepth 100000 in
set_option maxHeartbeats 3200000 in
theorem plays8_3 (first : UInt64) (Ar Ab Aw : Option Addr) (cr cb cw : Nat) (rs : List (List UInt8)) (b : List UInt8) (bad : List Int) (p : Nat → Addr) (w : World) (hT : Tab w) (hp : ErrsAt w p) (hn : rs.length ≤ 2097152) (hrc : rs.length ≤ cr) (hcr : cr ≤ 9223372036854775807) (h2 : ∀ r ∈ rs, r.length ≤ 140737488351232) (hR : RowsB w Ar rs) :
    Calls Tryd.prog 11 #[.agg #[.int .i64 3, .int .u64 (n64 first), .slice Ar rs.length cr, .slice Ab b.length cb, .slice Aw bad.length cw]] w fun e w' => e = .returned (.bool true) ∧ Below w.heap.size w w' := by
  obtain ⟨W0, hW0⟩ : ∃ W, W = w.alloc (.cells #[.int .i64 3, .int .u64 (n64 first), .slice Ar rs.length cr, .slice Ab b.length cb, .slice Aw bad.length cw] 31) := ⟨_, rfl⟩
  have hb0 : Below w.heap.size w W0 := by rw [hW0]; exact (Below.refl _ _).alloc (Nat.le_refl _) _
  have X : Hid (W0.heap[w.heap.size]? = some (.cells #[.int .i64 3, .int .u64 (n64 first), .slice Ar rs.length cr, .slice Ab b.length cb, .slice Aw bad.length cw] 31 (0, 0))) := by rw [hW0]; exact heap_here w _ w.heap.size rfl
  have BL : Hid (Below w.heap.size w W0) := hb0
  have HT : Hid (Tab W0) := tab_below hT hb0
  have HP : Hid (ErrsAt W0 p) := errsAt_below hp hb0
  have HR : Hid (RowsB W0 Ar rs) := rows_below hb0 hR
  have H2 := Go.Lib.hid h2
  clear hT hp hR h2 hb0
  go_enter Tryd.func11, Tryd.ntmps11
  go_wp2_with fail
  rw [← hW0]
  clear hW0
  have x0 := blk_cell X.out 0 (.int .i64 3) rfl
  have x1 := blk_cell X.out 1 (.int .u64 (n64 first)) rfl
  have x2 := blk_cell X.out 2 (.slice Ar rs.length cr) rfl
  have HCP := Go.Lib.hid (copied_calls Ar cr rs W0.drew hn H2.out (rows_below (below_drewN W0.heap.size W0 1) HR.out))
  go_wp2_with fail
  go_region_held3 (fun w' => w'.cell? ⟨w.heap.size, 1, none⟩ = some (.int .u64 (n64 first)) ∧ w'.cell? ⟨w.heap.size, 2, none⟩ = some (.slice Ar rs.length cr))
    (first | exact ⟨x1, x2⟩ | exact ⟨below_cell hb6 (below_cell hb5w x1), below_cell hb6 (below_cell hb5w x2)⟩ | exact ⟨below_cell hb5w x1, below_cell hb5w x2⟩ | fail)
    (first
      | (go_at_call 14; (with_reducible refine HCP.out.mono ?_); rintro e w5 ⟨g5, rfl, HR5, HB5⟩; have hb5w : Below W0.heap.size W0 w5 := undrew HB5.out; have HE5 := Go.Lib.hid (bPack_calls (some ⟨g5, 0, none⟩) rs.length rs first p w5 (tab_below HT.out hb5w) (e5_of (errsAt_below HP.out hb5w)) (by omega) (Nat.le_refl _) (by omega) HR5.out))
      | (go_at_call 20; (with_reducible refine HE5.out.mono ?_); rintro e w6 ⟨v6, rfl, ho6, hb6⟩)
      | fail)
  have HT6 := Go.Lib.hid (tab_below (tab_below HT.out hb5w) hb6)
  have HP6 := Go.Lib.hid (errsAt_below (errsAt_below HP.out hb5w) hb6)
  have HR6 := Go.Lib.hid (rows_below (below_then hb5w hb6) HR.out)
  have BL6 := Go.Lib.hid (below_then BL.out (below_then hb5w hb6))
  have X6 := Go.Lib.hid (below_heap (below_then hb5w hb6) X.out)
  have HE8 := pack8_calls Ar cr rs first w6 hn hrc hcr HR6.out
  have hle := packB_le first rs
  generalize packB first rs = d at *
  obtain ⟨L, kk⟩ := d
  simp only at ho6 hle HE8
  obtain ⟨A6, c6, rfl, HO6, HC6⟩ := own_open ho6
  have hL := own_len ho6
  have HEE8 := Go.Lib.hid HE8
  clear ho6 hb5w hb6 HE5 HB5 HR5 HCP HE8 x0 x1 x2 X BL HT HP HR HO6
  have x1 := blk_cell X6.out 1 (.int .u64 (n64 first)) rfl
  have x2 := blk_cell X6.out 2 (.slice Ar rs.length cr) rfl
  go_wp2_with fail
  refine HEE8.out.mono ?_
  rintro e w7 ⟨v7, rfl, ho7, hb7⟩
  simp only at ho7
  obtain ⟨A7, c7, rfl, HO7, HC7⟩ := own_open ho7
  have HP7 := Go.Lib.hid (errsAt_below HP6.out hb7)
  have BL7 := Go.Lib.hid (below_then BL6.out hb7)
  have HC67 := Go.Lib.hid (cells_below hb7 HC6.out)
  clear ho7 hb7 HEE8 x1 x2 X6 HT6 HP6 HR6 BL6 HO7 HC6
  go_wp2_with fail
  refine (is_yes w7 p kk (kk : Int) rfl hle HP7.out).mono ?_
  rintro e w8 ⟨rfl, rfl⟩
  go_wp2_with fail
  refine (same_refl8 A6 A7 c6 c7 L w8 hL HC67.out HC7.out).mono ?_
  rintro e w9 ⟨rfl, hb9⟩
  have BL9 := Go.Lib.hid (below_then BL7.out hb9)
  clear hb9
  go_wp2
  go_ret
  exact ⟨rfl, BL9.out⟩

/-- a copy into an empty row: 'append([]T{}, x...)' -/
theorem run_append_empty {P : Program} (w : World) (t ty e : TypeId) (z : Value) (bytes : Nat) (ht : P.underlying t = some (.slice e)) (hinfo : (P.info? e).map (fun i => (i.zero, i.size, i.bytes)) = some (some z, 1, bytes)) (hz : z.cells.size = 1)
    (g : Nat) (A : Option Addr) (c n : Nat) (us : List Value) (hn : us.length = n) (hA : Cells w A us) (hroom : ((n + 1) + (n + 1) / 4 + 192) * bytes ≤ 281474976710656) (hmax : n + 1 ≤ 9223372036854775807) :
    ∃ A' c' w', (Builtin.append_ #[t, t] ty #[.slice (some ⟨g, 0, none⟩) 0 0, .slice A n c]).run P w = .ok (.slice A' n c') w' ∧ n ≤ c' ∧ c' ≤ 9223372036854775807 ∧ Cells w' A' us ∧ Below w.heap.size w w' := by
  obtain ⟨i, hi, hz0, hz1, hz2⟩ := info_parts hinfo
  by_cases h0 : n = 0
  · subst h0
    have hus : us = [] := List.eq_nil_of_length_eq_zero hn
    subst hus
    refine ⟨some ⟨g, 0, none⟩, 0, w, ?_, Nat.le_refl _, by omega, fun h => absurd h (by simp), Below.refl _ _⟩
    cases A <;> simp [Builtin.append_, run_underlying ht, sizeOf, typeInfo, hi, Builtin.lenOf, Builtin.firstCells, storeCells, loadCells, loadCellsFrom]
  · obtain ⟨b, o, rfl, hc⟩ := hA (by omega)
    have hn' : ∀ j u', us[j]? = some u' → w.cell? ((⟨b, o, none⟩ : Addr).add j) = some u' := by
      intro j u' h
      obtain ⟨hj, he⟩ := List.getElem?_eq_some_iff.1 h
      rw [Addr.add_mid, hc j hj, he]
    have h := run_append_grow (P := P) w t ty e i z ht hi hz0 ⟨g, 0, none⟩ 0 0 [] (by simp) (fun j u h => by simp at h) ⟨b, o, none⟩ n c us (by rw [hz1, hn, Nat.mul_one]) hn' (by omega) (by omega) (by rw [hz2]; exact growslice_fits_wide (by omega) (by rw [Nat.zero_add]; exact Nat.le_trans (Nat.mul_le_mul_right _ (by omega)) hroom))
    have hge := grownCap_ge w (0 + n) 0 e
    have hle := grownCap_le_maxLen w (0 + n) 0 e (by unfold maxLen; omega)
    unfold maxLen at hle
    rw [Nat.zero_add] at h hge hle
    refine ⟨_, _, _, h, hge, by omega, ?_, ?_⟩
    · intro _
      refine ⟨w.heap.size, 0, rfl, fun j hj => ?_⟩
      have hh : (w.drew.alloc (Obj.cells (#[] ++ us.toArray ++ Builtin.zeroCells z.cells (grownCap w n 0 e - n)) e)).heap[w.heap.size]? = some (Obj.cells (#[] ++ us.toArray ++ Builtin.zeroCells z.cells (grownCap w n 0 e - n)) e (0, 0)) := heap_alloc_new w.drew _
      rw [Nat.zero_add]
      refine (cell_of_row _ _ _ _ _ _ hh).trans ?_
      rw [Array.empty_append, Array.getElem?_append_left (by simpa using hj)]
      simp [hj]
    · exact ⟨rfl, rfl, rfl, by simp, fun k hk => heap_before w.drew _ k _ (Nat.ne_of_lt hk) rfl⟩
theorem step_append_empty {P : Program} {w : World} {ops : Array Oper} {o : Oper} {a : Act} {K : Act → World → Prop} {Q : Exit → Act → World → Prop} {E : Prop} (hgd : o.guard = none) (s x : Operand) (t e : TypeId) (z : Value) (bytes : Nat)
    (ho : o.op = .call { callee := .builtin .append, args := #[s, x], argTypes := #[t, t] })
    (ht : P.underlying t = some (.slice e)) (hinfo : (P.info? e).map (fun i => (i.zero, i.size, i.bytes)) = some (some z, 1, bytes)) (hz : z.cells.size = 1)
    (g : Nat) (hs : a.eval s = .slice (some ⟨g, 0, none⟩) 0 0) (A : Option Addr) (c n : Nat) (us : List Value) (hn : us.length = n) (hx : a.eval x = .slice A n c) (hA : Cells w A us) (hroom : ((n + 1) + (n + 1) / 4 + 192) * bytes ≤ 281474976710656) (hmax : n + 1 ≤ 9223372036854775807)
    (h : ∀ A' c' w', n ≤ c' → c' ≤ 9223372036854775807 → Cells w' A' us → Below w.heap.size w w' → K (a.put o.dst (.slice A' n c')) w') :
    if Region.wanted o (yielded ops a.tmps) = true then Oper.wp P o a w K Q else E := by
  have hw : Region.wanted o (yielded ops a.tmps) = true := by simp [Region.wanted, hgd]
  rw [if_pos hw]
  obtain ⟨A', c', w', hr, h2, h3, h4, h5⟩ := run_append_empty (P := P) w t o.type e z bytes ht hinfo hz g A c n us hn hA hroom hmax
  unfold Oper.wp execOp
  simp only [ho, resolve, invoke, builtin, Sem.run_bind, Sem.run_pure, Result.andThen_ok, List.map_toArray, List.map_cons, List.map_nil, hs, hx, hr]
  exact h A' c' w' h2 h3 h4 h5
theorem wpList_append_empty {P : Program} {w : World} {ops : Array Oper} {rest : List Oper} {o : Oper} {a : Act} {Q : Exit → Act → World → Prop} (hgd : o.guard = none) (s x : Operand) (t e : TypeId) (z : Value) (bytes : Nat)
    (ho : o.op = .call { callee := .builtin .append, args := #[s, x], argTypes := #[t, t] })
    (ht : P.underlying t = some (.slice e)) (hinfo : (P.info? e).map (fun i => (i.zero, i.size, i.bytes)) = some (some z, 1, bytes)) (hz : z.cells.size = 1)
    (g : Nat) (hs : a.eval s = .slice (some ⟨g, 0, none⟩) 0 0) (A : Option Addr) (c n : Nat) (us : List Value) (hn : us.length = n) (hx : a.eval x = .slice A n c) (hA : Cells w A us) (hroom : ((n + 1) + (n + 1) / 4 + 192) * bytes ≤ 281474976710656) (hmax : n + 1 ≤ 9223372036854775807)
    (h : ∀ A' c' w', n ≤ c' → c' ≤ 9223372036854775807 → Cells w' A' us → Below w.heap.size w w' → wpList P ops Q rest (a.put o.dst (.slice A' n c')) w') : wpList P ops Q (o :: rest) a w := by
  refine wpList_plain hgd fun K hK => ?_
  obtain ⟨A', c', w', hr, h2, h3, h4, h5⟩ := run_append_empty (P := P) w t o.type e z bytes ht hinfo hz g A c n us hn hA hroom hmax
  unfold Oper.wp execOp
  simp only [ho, resolve, invoke, builtin, Sem.run_bind, Sem.run_pure, Result.andThen_ok, List.map_toArray, List.map_cons, List.map_nil, hs, hx, hr]
  exact hK _ _ (h A' c' w' h2 h3 h4 h5)
theorem cells_alloc {w : World} {A : Option Addr} {vs : List Value} (h : Cells w A vs) (o : Obj) : Cells (w.alloc o) A vs := cells_below ((Below.refl _ _).alloc (Nat.le_refl _) _) h

set_option maxRecDepth 100000 in
set_option maxHeartbeats 3200000 in
theorem plays8_2 (first : UInt64) (Ar Ab Aw : Option Addr) (cr cb cw : Nat) (rs : List (List UInt8)) (b : List UInt8) (bad : List Int) (p : Nat → Addr) (w : World) (hT : Tab w) (hp : ErrsAt w p) (hb : b.length ≤ 4294967296) (hbc : b.length ≤ cb) (hcb : cb ≤ 9223372036854775807) (hB : Cells w Ab (Bs b)) :
    Calls Tryd.prog 11 #[.agg #[.int .i64 2, .int .u64 (n64 first), .slice Ar rs.length cr, .slice Ab b.length cb, .slice Aw bad.length cw]] w fun e w' => e = .returned (.bool true) ∧ Below w.heap.size w w' := by
  obtain ⟨W0, hW0⟩ : ∃ W, W = w.alloc (.cells #[.int .i64 2, .int .u64 (n64 first), .slice Ar rs.length cr, .slice Ab b.length cb, .slice Aw bad.length cw] 31) := ⟨_, rfl⟩
  have hb0 : Below w.heap.size w W0 := by rw [hW0]; exact (Below.refl _ _).alloc (Nat.le_refl _) _
  have X : Hid (W0.heap[w.heap.size]? = some (.cells #[.int .i64 2, .int .u64 (n64 first), .slice Ar rs.length cr, .slice Ab b.length cb, .slice Aw bad.length cw] 31 (0, 0))) := by rw [hW0]; exact heap_here w _ w.heap.size rfl
  have BL : Hid (Below w.heap.size w W0) := hb0
  have HT : Hid (Tab W0) := tab_below hT hb0
  have HP : Hid (ErrsAt W0 p) := errsAt_below hp hb0
  have HB : Hid (Cells W0 Ab (Bs b)) := cells_below hb0 hB
  clear hT hp hB hb0
  have x3 := blk_cell X.out 3 (.slice Ab b.length cb) rfl
  have HBA := Go.Lib.hid (cells_alloc HB.out (.cells #[] 5))
  have hroom : ((b.length + 1) + (b.length + 1) / 4 + 192) * 1 ≤ 281474976710656 := by omega
  have hmax : b.length + 1 ≤ 9223372036854775807 := by omega
  have hsz1 : W0.heap.size = w.heap.size + 1 := by rw [hW0]; simp
  rw [hW0] at HBA
  go_enter Tryd.func11, Tryd.ntmps11
  go_wp2_with (first
    | (at_builtin; (with_reducible refine wpList_append_empty (w := (w.alloc (.cells #[.int .i64 2, .int .u64 (n64 first), .slice Ar rs.length cr, .slice Ab b.length cb, .slice Aw bad.length cw] 31)).alloc (.cells #[] 5)) (s := .tmp 53) (x := .tmp 55) (t := 28) (e := 5) (z := .int .u8 0) (bytes := 1) (hinfo := info8) (ht := Tryd.underlying28) (g := w.heap.size + 1) (A := Ab) (c := cb) (n := b.length) (us := Bs b) (hn := Bs_length b) (hA := HBA.out) (hroom := hroom) (hmax := hmax) (hgd := rfl) (ho := ?_) (hz := ?_) (hs := ?_) (hx := ?_) (h := ?_)); rfl; rfl; rfl; rfl; rw [← hW0]; intro A5 c5 w5 h51 h52 hc5 hb5; have HC5 := Go.Lib.hid hc5; have HB5 := Go.Lib.hid hb5; clear hc5 hb5))
  have hb5w : Below W0.heap.size W0 w5 := ((Below.refl W0.heap.size W0).alloc (Nat.le_refl _) (.cells #[] 5)).trans (HB5.out.mono (by simp))
  have HD5 := bDecode_calls A5 c5 b p w5 (tab_below HT.out hb5w) (e5_of (errsAt_below HP.out hb5w)) h51 h52 HC5.out
  have HP5 := Go.Lib.hid (errsAt_below HP.out hb5w)
  have BL5 := Go.Lib.hid (below_then BL.out hb5w)
  have X5 := Go.Lib.hid (below_heap hb5w X.out)
  have HBB5 := Go.Lib.hid (cells_below hb5w HB.out)
  have HD8 : Hid (∀ V, Below w5.heap.size w5 V → Calls Tryd.prog 23 #[.slice Ab b.length cb] V fun e w' => GaveD8 V w' e (decB b)) := fun V hV => decode8_calls Ab cb b V hbc hcb (cells_below hV HBB5.out)
  have hle := decB_le b
  generalize decB b = d at *
  obtain ⟨d1, dl, dk⟩ := d
  simp only at hle
  have HDD5 := Go.Lib.hid HD5
  clear HD5 hb5w HB5 HT HP BL X HB HBA x3 hroom hmax HBB5 hW0 hsz1
  refine HDD5.out.mono ?_
  rintro e w6 ⟨v6, vs6, rfl, ho6, ha6, hb6⟩
  simp only at ha6
  obtain ⟨A6, c6, rfl, _, h62, hr6⟩ := rows_of_all ho6 ha6
  have hdl : dl.length ≤ 9223372036854775807 := by
    obtain ⟨_, _, hv, h1, h2, _⟩ := own_slice ho6
    have := ha6.1
    omega
  have HR6 := Go.Lib.hid hr6
  have HP6 := Go.Lib.hid (errsAt_below HP5.out hb6)
  have BL6 := Go.Lib.hid (below_then BL5.out hb6)
  have X6 := below_heap hb6 X5.out
  have HDD8 := Go.Lib.hid (HD8.out w6 hb6)
  have x3 := blk_cell X6 3 (.slice Ab b.length cb) rfl
  clear ho6 ha6 hb6 hr6 HDD5 HD8 HP5 BL5 X5 X6
  go_wp2_with fail
  refine HDD8.out.mono ?_
  rintro e w7 ⟨v7, vs7, rfl, ho7, ha7, hb7⟩
  simp only at ha7
  obtain ⟨A7, c7, rfl, _, h72, hr7⟩ := rows_of_all ho7 ha7
  have HR7 := Go.Lib.hid hr7
  have HR67 := Go.Lib.hid (rows_below hb7 HR6.out)
  have HP7 := Go.Lib.hid (errsAt_below HP6.out hb7)
  have BL7 := Go.Lib.hid (below_then BL6.out hb7)
  clear ho7 ha7 hb7 hr7 HDD8 HP6 BL6 HR6 x3
  go_wp2_with fail
  refine (is_yes w7 p dk (dk : Int) rfl hle HP7.out).mono ?_
  rintro e w8 ⟨rfl, rfl⟩
  go_wp2_with fail
  refine (alike_refl8 A6 A7 c6 c7 dl w8 hdl HR67.out HR7.out).mono ?_
  rintro e w9 ⟨rfl, hb9⟩
  have BL9 := Go.Lib.hid (below_then BL7.out hb9)
  clear hb9
  go_wp2
  go_ret
  exact ⟨rfl, BL9.out⟩

/-- what is held while the four reads of a scan's data come up -/
theorem s4_below {V V' W0 : World} {B x : Nat} {v1 v3 v4 : Value} (h : V.cell? ⟨x, 1, none⟩ = some v1 ∧ V.cell? ⟨x, 3, none⟩ = some v3 ∧ V.cell? ⟨x, 4, none⟩ = some v4 ∧ Below B W0 V) (hB : B ≤ V.heap.size) (hb : Below V.heap.size V V') :
    V'.cell? ⟨x, 1, none⟩ = some v1 ∧ V'.cell? ⟨x, 3, none⟩ = some v3 ∧ V'.cell? ⟨x, 4, none⟩ = some v4 ∧ Below B W0 V' :=
  ⟨below_cell hb h.1, below_cell hb h.2.1, below_cell hb h.2.2.1, h.2.2.2.trans (hb.mono hB)⟩
theorem s4_alloc {V W0 : World} {x : Nat} {v1 v3 v4 : Value} (o : Obj) (h : V.cell? ⟨x, 1, none⟩ = some v1 ∧ V.cell? ⟨x, 3, none⟩ = some v3 ∧ V.cell? ⟨x, 4, none⟩ = some v4 ∧ Below W0.heap.size W0 V) :
    (V.alloc o).cell? ⟨x, 1, none⟩ = some v1 ∧ (V.alloc o).cell? ⟨x, 3, none⟩ = some v3 ∧ (V.alloc o).cell? ⟨x, 4, none⟩ = some v4 ∧ Below W0.heap.size W0 (V.alloc o) := s4_below h h.2.2.2.size ((Below.refl _ _).alloc (Nat.le_refl _) _)
theorem s4_arm {V V' W0 : World} {x : Nat} {v1 v3 v4 : Value} (h : V.cell? ⟨x, 1, none⟩ = some v1 ∧ V.cell? ⟨x, 3, none⟩ = some v3 ∧ V.cell? ⟨x, 4, none⟩ = some v4 ∧ Below W0.heap.size W0 V) (hb : Below V.heap.size V V') :
    V'.cell? ⟨x, 1, none⟩ = some v1 ∧ V'.cell? ⟨x, 3, none⟩ = some v3 ∧ V'.cell? ⟨x, 4, none⟩ = some v4 ∧ Below W0.heap.size W0 V' := s4_below h h.2.2.2.size hb
theorem s4_cells {V W0 : World} {x : Nat} {v1 v3 v4 : Value} (h : V.cell? ⟨x, 1, none⟩ = some v1 ∧ V.cell? ⟨x, 3, none⟩ = some v3 ∧ V.cell? ⟨x, 4, none⟩ = some v4 ∧ Below W0.heap.size W0 V) {A : Option Addr} {us : List Value} (hc : Cells W0 A us) : Cells V A us := cells_below h.2.2.2 hc
theorem s4_get {V W0 : World} {x : Nat} {v1 v3 v4 : Value} (h : V.cell? ⟨x, 1, none⟩ = some v1 ∧ V.cell? ⟨x, 3, none⟩ = some v3 ∧ V.cell? ⟨x, 4, none⟩ = some v4 ∧ Below W0.heap.size W0 V) : Below W0.heap.size W0 V := h.2.2.2
theorem infoInt : (Tryd.prog.info? 3).map (fun i => (i.zero, i.size, i.bytes)) = some (some (.int .i64 0), 1, 8) := by kernel_rfl

set_option maxRecDepth 100000 in
set_option maxHeartbeats 3200000 in
theorem plays8_4 (first : UInt64) (Ar Ab Aw : Option Addr) (cr cb cw : Nat) (rs : List (List UInt8)) (b : List UInt8) (bad : List Int) (p : Nat → Addr) (w : World) (hT : Tab w) (hp : ErrsAt w p) (hb : b.length ≤ 4294967296) (hbc : b.length ≤ cb) (hcb : cb ≤ 9223372036854775807) (hbl : bad.length ≤ 1048576) (hB : Cells w Ab (Bs b)) (hW : Cells w Aw (bad.map (Value.int .i64))) :
    Calls Tryd.prog 11 #[.agg #[.int .i64 4, .int .u64 (n64 first), .slice Ar rs.length cr, .slice Ab b.length cb, .slice Aw bad.length cw]] w fun e w' => e = .returned (.bool true) ∧ Below w.heap.size w w' := by
  obtain ⟨W0, hW0⟩ : ∃ W, W = w.alloc (.cells #[.int .i64 4, .int .u64 (n64 first), .slice Ar rs.length cr, .slice Ab b.length cb, .slice Aw bad.length cw] 31) := ⟨_, rfl⟩
  have hb0 : Below w.heap.size w W0 := by rw [hW0]; exact (Below.refl _ _).alloc (Nat.le_refl _) _
  have X : Hid (W0.heap[w.heap.size]? = some (.cells #[.int .i64 4, .int .u64 (n64 first), .slice Ar rs.length cr, .slice Ab b.length cb, .slice Aw bad.length cw] 31 (0, 0))) := by rw [hW0]; exact heap_here w _ w.heap.size rfl
  have BL : Hid (Below w.heap.size w W0) := hb0
  have HT : Hid (Tab W0) := tab_below hT hb0
  have HP : Hid (ErrsAt W0 p) := errsAt_below hp hb0
  have HB : Hid (Cells W0 Ab (Bs b)) := cells_below hb0 hB
  have HBW : Hid (Cells W0 Aw (bad.map (Value.int .i64))) := cells_below hb0 hW
  clear hT hp hB hW hb0
  go_enter Tryd.func11, Tryd.ntmps11
  go_wp2_with fail
  rw [← hW0]
  clear hW0
  have x0 := blk_cell X.out 0 (.int .i64 4) rfl
  have x1 := blk_cell X.out 1 (.int .u64 (n64 first)) rfl
  have x3 := blk_cell X.out 3 (.slice Ab b.length cb) rfl
  have x4 := blk_cell X.out 4 (.slice Aw bad.length cw) rfl
  have hroomB : ((b.length + 1) + (b.length + 1) / 4 + 192) * 1 ≤ 281474976710656 := by omega
  have hmaxB : b.length + 1 ≤ 9223372036854775807 := by omega
  have hroomW : ((bad.length + 1) + (bad.length + 1) / 4 + 192) * 8 ≤ 281474976710656 := by omega
  have hmaxW : bad.length + 1 ≤ 9223372036854775807 := by omega
  have hbwl : (bad.map (Value.int .i64)).length = bad.length := by simp
  go_wp2_with fail
  go_region_held3 (fun w' => w'.cell? ⟨w.heap.size, 1, none⟩ = some (.int .u64 (n64 first)) ∧ w'.cell? ⟨w.heap.size, 3, none⟩ = some (.slice Ab b.length cb) ∧ w'.cell? ⟨w.heap.size, 4, none⟩ = some (.slice Aw bad.length cw) ∧ Below W0.heap.size W0 w')
    (first | exact ⟨x1, x3, x4, below_drewN W0.heap.size W0 1⟩ | exact s4_alloc _ (by assumption) | exact s4_arm (by assumption) hb6 | exact s4_arm (by assumption) hb5 | exact s4_arm (by assumption) hb7 | fail)
    (first
      | (refine step_append_empty (s := .tmp 111) (x := .tmp 113) (t := 28) (e := 5) (z := .int .u8 0) (bytes := 1) (hgd := rfl) (ho := by rfl) (ht := Tryd.underlying28) (hinfo := info8) (hz := rfl) (hs := by rfl) (A := Ab) (c := cb) (n := b.length) (us := Bs b) (hn := Bs_length b) (hx := by rfl) (hA := s4_cells (by assumption) HB.out) (hroom := hroomB) (hmax := hmaxB) (h := ?_); intro A5 c5 w5 h51 h52 hc5 hb5; have HC5 := Go.Lib.hid hc5; clear hc5)
      | (refine step_append_empty (s := .tmp 115) (x := .tmp 117) (t := 29) (e := 3) (z := .int .i64 0) (bytes := 8) (hgd := rfl) (ho := by rfl) (ht := Tryd.underlying29) (hinfo := infoInt) (hz := rfl) (hs := by rfl) (A := Aw) (c := cw) (n := bad.length) (us := bad.map (Value.int .i64)) (hn := hbwl) (hx := by rfl) (hA := s4_cells (by assumption) HBW.out) (hroom := hroomW) (hmax := hmaxW) (h := ?_); intro A6 c6 w6 h61 h62 hc6 hb6; have HC6 := Go.Lib.hid hc6; clear hc6)
      | (go_at_call 19; have hSS : Below W0.heap.size W0 w6 := s4_get (show w6.cell? ⟨w.heap.size, 1, none⟩ = some (.int .u64 (n64 first)) ∧ w6.cell? ⟨w.heap.size, 3, none⟩ = some (.slice Ab b.length cb) ∧ w6.cell? ⟨w.heap.size, 4, none⟩ = some (.slice Aw bad.length cw) ∧ Below W0.heap.size W0 w6 by assumption); (refine (bScan_calls A5 c5 b A6 c6 bad first p w6 (tab_below HT.out hSS) (e5_of (errsAt_below HP.out hSS)) hb h51 h52 (by first | exact cells_below hb6 HC5.out | exact cells_below hb6 (cells_alloc HC5.out _)) (by omega) (by first | exact HC6.out)).mono ?_); rintro e w7 ⟨v7, vs7, rfl, ho7, ha7, hb7⟩; have HBW7 := Go.Lib.hid (hSS.trans (hb7.mono hSS.size)); have HO7 := Go.Lib.hid ho7; have HA7 := Go.Lib.hid ha7; clear ho7 ha7 hSS)
      | (go_at_call 19; have hSS : Below W0.heap.size W0 w5 := s4_get (show w5.cell? ⟨w.heap.size, 1, none⟩ = some (.int .u64 (n64 first)) ∧ w5.cell? ⟨w.heap.size, 3, none⟩ = some (.slice Ab b.length cb) ∧ w5.cell? ⟨w.heap.size, 4, none⟩ = some (.slice Aw bad.length cw) ∧ Below W0.heap.size W0 w5 by assumption); (refine (bScan_calls A5 c5 b A6 c6 bad first p w5 (tab_below HT.out hSS) (e5_of (errsAt_below HP.out hSS)) hb h51 h52 (by first | exact HC5.out) (by omega) (by first | exact cells_below hb5 HC6.out | exact cells_below hb5 (cells_alloc HC6.out _))).mono ?_); rintro e w7 ⟨v7, vs7, rfl, ho7, ha7, hb7⟩; have HBW7 := Go.Lib.hid (hSS.trans (hb7.mono hSS.size)); have HO7 := Go.Lib.hid ho7; have HA7 := Go.Lib.hid ha7; clear ho7 ha7 hSS)
      | fail)
  all_goals
    have HP7 := Go.Lib.hid (errsAt_below HP.out HBW7.out)
    have BL7 := Go.Lib.hid (below_then BL.out HBW7.out)
    have X7 := below_heap HBW7.out X.out
    have y1 := blk_cell X7 1 (.int .u64 (n64 first)) rfl
    have y3 := blk_cell X7 3 (.slice Ab b.length cb) rfl
    have y4 := blk_cell X7 4 (.slice Aw bad.length cw) rfl
    have HS8 := Go.Lib.hid (scan8_calls Ab cb b Aw cw bad first w7 hb hbc hcb (cells_below HBW7.out HB.out) (by omega) (cells_below HBW7.out HBW.out))
    generalize scanB b bad first = d at *
    obtain ⟨dl, dn⟩ := d
    have HAA7 : Hid (AllT w7 vs7 dl) := HA7.out
    obtain ⟨A7, c7, rfl, h71, h72, hr7⟩ := rows_of_all HO7.out HAA7.out
    have hdl : dl.length ≤ 9223372036854775807 := by omega
    have HR7 := Go.Lib.hid hr7
    clear X7 x0 x1 x3 x4 hr7 HO7 HA7 HAA7 HP BL X HB HBW HT HC5 HC6 hb5 hb6 hb7 HBW7
    go_wp2_with fail
    refine HS8.out.mono ?_
    rintro e w8 ⟨v8, vs8, rfl, ho8, ha8, hb8⟩
    have ha8' : AllT w8 vs8 dl := ha8
    obtain ⟨A8, c8, rfl, _, _, hr8⟩ := rows_of_all ho8 ha8'
    have HR8 := Go.Lib.hid hr8
    have HR78 := Go.Lib.hid (rows_below hb8 HR7.out)
    have BL8 := Go.Lib.hid (below_then BL7.out hb8)
    clear ho8 ha8 ha8' hr8 hb8 HS8 HP7 BL7 HR7 y1 y3 y4
    go_wp2_with fail
    refine (alike_refl8 A7 A8 c7 c8 dl w8 hdl HR78.out HR8.out).mono ?_
    rintro e w9 ⟨rfl, hb9⟩
    have BL9 := Go.Lib.hid (below_then BL8.out hb9)
    clear hb9
    go_wp2
    go_ret
    exact ⟨rfl, BL9.out⟩
set_option maxRecDepth 100000 in
set_option maxHeartbeats 1600000 in
theorem plays8_x (kind : Int) (first : UInt64) (Ar Ab Aw : Option Addr) (cr cb cw : Nat) (rs : List (List UInt8)) (b : List UInt8) (bad : List Int) (w : World) (h1 : kind ≠ 1) (h2 : kind ≠ 2) (h3 : kind ≠ 3) (h4 : kind ≠ 4) :
    Calls Tryd.prog 11 #[.agg #[.int .i64 kind, .int .u64 (n64 first), .slice Ar rs.length cr, .slice Ab b.length cb, .slice Aw bad.length cw]] w fun e w' => e = .returned (.bool true) ∧ Below w.heap.size w w' := by
  have g1 : (kind == 1) = false := beq_eq_false_iff_ne.2 h1
  have g2 : (kind == 2) = false := beq_eq_false_iff_ne.2 h2
  have g3 : (kind == 3) = false := beq_eq_false_iff_ne.2 h3
  have g4 : (kind == 4) = false := beq_eq_false_iff_ne.2 h4
  clear h1 h2 h3 h4
  go_enter Tryd.func11, Tryd.ntmps11
  go_wp2
  go_ret
  exact ⟨rfl, (Below.refl _ _).alloc (Nat.le_refl _) _⟩
end Go.Proofs.YtipjdkdonmoojaaDoor
