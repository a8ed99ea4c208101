/- Layer 8's law package: same, alike, size, many, copied. -/
import Derived.Test.YtipjdkdonmoojaaDoorBlkC
namespace Go.Proofs.YtipjdkdonmoojaaDoor
open Go Go.RowKit
set_option linter.unusedVariables false
set_option linter.unusedSimpArgs false
attribute [local go_sem] n8_self n64_self beq_n8 bne_n8 beq_n64 bne_n64

/-- nothing but the tape of orders moved on -/
def DrN (w w' : World) : Prop := ∃ n, w' = w.drewN n
theorem drN_refl (w : World) : DrN w w := ⟨0, rfl⟩
theorem drN_next {w w' : World} (h : DrN w w') (m : Nat) : DrN w (w'.drewN m) := by
  obtain ⟨n, rfl⟩ := h
  exact ⟨n + m, World.drewN_drewN _ _ _⟩
theorem drN_below {w w' : World} (h : DrN w w') (B : Nat) : Below B w w' := by
  obtain ⟨n, rfl⟩ := h
  exact below_drewN _ _ _

set_option maxRecDepth 100000 in
set_option maxHeartbeats 1600000 in
theorem same_calls (A B : Option Addr) (c d : Nat) (l m : List UInt8) (w : World) (hL : l.length ≤ 9223372036854775807) (hA : Cells w A (Bs l)) (hB : Cells w B (Bs m)) :
    Calls Tryd.prog 18 #[.slice A l.length c, .slice B m.length d] w fun e w' => e = .returned (.bool (l == m)) ∧ DrN w w' := by
  by_cases hlen : l.length = m.length
  case neg =>
    have hne : (l == m) = false := by rw [beq_eq_false_iff_ne]; intro h; exact hlen (by rw [h])
    rw [hne]
    have g1 : ((l.length : Int) == (m.length : Int)) = false := by rw [beq_eq_false_iff_ne]; omega
    have g2 : ((l.length : Int) != (m.length : Int)) = true := by rw [bne, g1]; rfl
    clear hne hA hB
    go_enter Tryd.func18, Tryd.ntmps18
    go_wp2
    go_ret
    exact ⟨rfl, drN_refl _⟩
  have HML := Go.Lib.hid hlen
  have HA := Go.Lib.hid hA
  have HB := Go.Lib.hid hB
  rw [← hlen]
  clear hlen hA hB
  go_enter Tryd.func18, Tryd.ntmps18
  go_wp2
  go_loopw [5] (fun i wr => ∃ (k : Nat), k ≤ l.length ∧ i = .int .i64 (k : Int) ∧ Hid (l.take k = m.take k) ∧ Hid (DrN w wr)) (fun i _ => l.length - (intOf i).toNat)
  case atStart => exact ⟨0, by omega, rfl, rfl, drN_refl _⟩
  case round =>
    obtain ⟨k, hk, rfl, HK, HD⟩ := hrel
    by_cases hlt : k < l.length
    · have hlm : k < m.length := by have := HML.out; omega
      obtain ⟨b, o, rfl, hc1⟩ := HA.out.byte k hlt
      obtain ⟨b2, o2, rfl, hc2⟩ := HB.out.byte k hlm
      have x1 : wr.cell? ⟨b, o + k, none⟩ = some (.int .u8 (n8 l[k])) := below_cell (drN_below HD.out _) hc1
      have x2 : wr.cell? ⟨b2, o2 + k, none⟩ = some (.int .u8 (n8 m[k])) := below_cell (drN_below HD.out _) hc2
      have hk0 : (0 : Int) ≤ (k : Int) := Int.natCast_nonneg _
      have hk1 : (k : Int) < (l.length : Int) := by omega
      have HT := Go.Lib.hid (show l.take (k + 1) = l.take k ++ [l[k]] from (List.take_append_getElem hlt).symm)
      have HTM := Go.Lib.hid (show m.take (k + 1) = m.take k ++ [m[k]] from (List.take_append_getElem hlm).symm)
      have HNE : Hid (l[k] ≠ m[k] → (l == m) = false) := fun h => by rw [beq_eq_false_iff_ne]; rintro rfl; exact h rfl
      generalize l[k] = x at *
      generalize m[k] = y at *
      clear hc1 hc2
      by_cases hxy : x = y
      · subst hxy
        go_wp2
        go_quiet (fail)
        go_wp2
        go_roundw
        case rel => exact ⟨k + 1, by omega, rfl, by rw [Hid, HT.out, HTM.out, HK.out], drN_next HD.out _⟩
        case measure => simp [intOf]; omega
      · have g1 : (n8 x == n8 y) = false := by rw [beq_n8]; simpa using hxy
        have g2 : (n8 x != n8 y) = true := by rw [bne, g1]; rfl
        have hxy' : (x == y) = false := by simpa using hxy
        have hxy2 : (x != y) = true := by rw [bne, hxy']; rfl
        go_wp2
        go_quiet (fail)
        go_wp2
        go_ret
        rw [HNE.out hxy]
        exact ⟨rfl, drN_next HD.out _⟩
    · have hkl : k = l.length := by omega
      go_wp2
      go_ret
      have : l = m := by
        have h := HK.out
        rw [hkl, List.take_length, HML.out, List.take_length] at h
        exact h
      subst this
      exact ⟨by simp, HD.out⟩

set_option maxRecDepth 100000 in
set_option maxHeartbeats 1600000 in
theorem alike_calls (A B : Option Addr) (c d : Nat) (l m : List (List UInt8)) (w : World) (hL : l.length ≤ 9223372036854775807) (hA : RowsB w A l) (hB : RowsB w B m) :
    Calls Tryd.prog 17 #[.slice A l.length c, .slice B m.length d] w fun e w' => e = .returned (.bool (l == m)) ∧ DrN w w' := by
  by_cases hlen : l.length = m.length
  case neg =>
    have hne : (l == m) = false := by rw [beq_eq_false_iff_ne]; intro h; exact hlen (by rw [h])
    rw [hne]
    have g1 : ((l.length : Int) == (m.length : Int)) = false := by rw [beq_eq_false_iff_ne]; omega
    have g2 : ((l.length : Int) != (m.length : Int)) = true := by rw [bne, g1]; rfl
    clear hne hA hB
    go_enter Tryd.func17, Tryd.ntmps17
    go_wp2
    go_ret
    exact ⟨rfl, drN_refl _⟩
  have HML := Go.Lib.hid hlen
  have HA := Go.Lib.hid hA
  have HB := Go.Lib.hid hB
  rw [← hlen]
  clear hlen hA hB
  go_enter Tryd.func17, Tryd.ntmps17
  go_wp2
  go_loopw [5] (fun i wr => ∃ (k : Nat), k ≤ l.length ∧ i = .int .i64 (k : Int) ∧ Hid (l.take k = m.take k) ∧ Hid (DrN w wr)) (fun i _ => l.length - (intOf i).toNat)
  case atStart => exact ⟨0, by omega, rfl, rfl, drN_refl _⟩
  case round =>
    obtain ⟨k, hk, rfl, HK, HD⟩ := hrel
    by_cases hlt : k < l.length
    · have hlm : k < m.length := by have := HML.out; omega
      obtain ⟨b, o, rfl, A1, c1, hl1, hc1, hr1⟩ := HA.out.row k hlt
      obtain ⟨b2, o2, rfl, A2, c2, hl2, hc2, hr2⟩ := HB.out.row k hlm
      have hbw := drN_below HD.out w.heap.size
      have x1 := below_cell hbw hc1
      have x2 := below_cell hbw hc2
      have HS : Hid (∀ n, Calls Tryd.prog 18 #[.slice A1 l[k].length c1, .slice A2 m[k].length c2] (wr.drewN n) (fun e w'' => e = .returned (.bool (l[k] == m[k])) ∧ ∃ m, w'' = wr.drewN m)) := fun n => by
        refine (same_calls A1 A2 c1 c2 l[k] m[k] (wr.drewN n) hl1 (cells_below (hbw.trans (below_drewN _ _ _)) hr1) (cells_below (hbw.trans (below_drewN _ _ _)) hr2)).mono ?_
        rintro e w'' ⟨he, q, hq⟩
        exact ⟨he, n + q, by rw [hq, World.drewN_drewN]⟩
      have hk0 : (0 : Int) ≤ (k : Int) := Int.natCast_nonneg _
      have hk1 : (k : Int) < (l.length : Int) := by omega
      have HT := Go.Lib.hid (show l.take (k + 1) = l.take k ++ [l[k]] from (List.take_append_getElem hlt).symm)
      have HTM := Go.Lib.hid (show m.take (k + 1) = m.take k ++ [m[k]] from (List.take_append_getElem hlm).symm)
      have HNE : Hid (l[k] ≠ m[k] → (l == m) = false) := fun h => by rw [beq_eq_false_iff_ne]; rintro rfl; exact h rfl
      generalize l[k] = x at *
      generalize m[k] = y at *
      clear hc1 hc2 hr1 hr2 hbw
      by_cases hxy : x = y
      · subst hxy
        rw [show (x == x) = true by simp] at HS
        go_wp2
        go_quiet ((go_at_call 18; exact HS.out _))
        go_wp2
        go_roundw
        case rel => exact ⟨k + 1, by omega, rfl, by rw [Hid, HT.out, HTM.out, HK.out], drN_next HD.out _⟩
        case measure => simp [intOf]; omega
      · have hxy' : (x == y) = false := by simpa using hxy
        rw [hxy'] at HS
        go_wp2
        go_quiet ((go_at_call 18; exact HS.out _))
        go_wp2
        go_ret
        rw [HNE.out hxy]
        exact ⟨rfl, drN_next HD.out _⟩
    · have hkl : k = l.length := by omega
      go_wp2
      go_ret
      have : l = m := by
        have h := HK.out
        rw [hkl, List.take_length, HML.out, List.take_length] at h
        exact h
      subst this
      exact ⟨by simp, HD.out⟩

/-- all bytes of a list of records -/
def totB (rs : List (List UInt8)) : Nat := (rs.map List.length).sum
theorem totB_take (rs : List (List UInt8)) (k : Nat) (hk : k < rs.length) : totB (rs.take (k + 1)) = totB (rs.take k) + rs[k].length := by
  rw [List.take_succ_eq_append_getElem hk]
  unfold totB
  rw [List.map_append, List.sum_append]
  rfl
theorem totB_le (rs : List (List UInt8)) (k : Nat) : totB (rs.take k) ≤ totB rs := by
  have h : totB rs = totB (rs.take k) + totB (rs.drop k) := by
    conv => lhs; rw [← List.take_append_drop k rs]
    unfold totB
    rw [List.map_append, List.sum_append]
  omega
theorem body_tot (rs : List (List UInt8)) : (bodyB rs).length = 2 * rs.length + totB rs := by
  induction rs with
  | nil => rfl
  | cons r rs ih => rw [bodyB_cons, List.length_append, recB_length, ih]; simp [totB]; omega
def SizeG (rs : List (List UInt8)) (m : Nat) : Prop := m = totB rs ∨ (16777216 < m ∧ 16777216 < totB rs)
set_option maxRecDepth 100000 in
set_option maxHeartbeats 1600000 in
theorem size_calls (A : Option Addr) (c : Nat) (rs : List (List UInt8)) (w : World) (hL : rs.length ≤ 9223372036854775807) (h2 : ∀ r ∈ rs, r.length ≤ 140737488351232) (hA : RowsB w A rs) :
    Calls Tryd.prog 15 #[.slice A rs.length c] w fun e w' => (∃ m : Nat, e = .returned (.tuple #[.int .i64 (rs.length : Int), .int .i64 (m : Int)]) ∧ Hid (SizeG rs m) ∧ m ≤ 140737505128448) ∧ w' = w := by
  have HA := Go.Lib.hid hA
  have H2 := Go.Lib.hid h2
  clear hA h2
  go_enter Tryd.func15, Tryd.ntmps15
  go_wp2
  go_loop [4, 5] (fun b i => ∃ (k m : Nat), b = .int .i64 (m : Int) ∧ i = .int .i64 (k : Int) ∧ k ≤ rs.length ∧ m ≤ 140737505128448 ∧ Hid (m = totB (rs.take k))) (fun _ i => rs.length - (intOf i).toNat)
  case atStart => exact ⟨0, 0, rfl, rfl, by omega, by omega, rfl⟩
  case round =>
    obtain ⟨k, m, rfl, rfl, hk, hm, HM⟩ := hrel
    by_cases hlt : k < rs.length
    · have hk0 : (0 : Int) ≤ (k : Int) := Int.natCast_nonneg _
      have hk1 : (k : Int) < (rs.length : Int) := by omega
      by_cases hbig : m ≤ 16777216
      · obtain ⟨b, o, hAe, A1, c1, hl1, hc1, hr1⟩ := HA.out.row k hlt
        have hz := H2.out _ (List.getElem_mem hlt)
        have HT := Go.Lib.hid (totB_take rs k hlt)
        subst hAe
        generalize rs[k].length = z at *
        have e1 : decide ((m : Int) ≤ 16777216) = true := decide_eq_true (by omega)
        go_wp2
        go_round
        case rel => exact ⟨k + 1, m + z, by go_num, by go_num, by omega, by omega, by rw [Hid, HT.out, HM.out]⟩
        case measure => simp [intOf]; omega
      · have e1 : decide ((m : Int) ≤ 16777216) = false := decide_eq_false (by omega)
        have n1 : ¬ ((m : Int) ≤ 16777216) := by omega
        have n2 : ¬ (m ≤ 16777216) := by omega
        have HG : Hid (SizeG rs m) := .inr ⟨by omega, by have := totB_le rs k; have := HM.out; omega⟩
        clear hbig
        go_wp2
        go_ret2
        exact ⟨⟨m, rfl, HG, hm⟩, rfl⟩
    · have hkn : k = rs.length := by omega
      have HG : Hid (SizeG rs m) := .inl (by rw [HM.out, hkn, List.take_length])
      subst hkn
      go_wp2
      go_ret2
      exact ⟨⟨m, rfl, HG, hm⟩, rfl⟩
set_option maxRecDepth 100000 in
set_option maxHeartbeats 1600000 in
theorem many_calls (A : Option Addr) (c : Nat) (rs : List (List UInt8)) (w : World) (hL : rs.length ≤ 9223372036854775807) (h2 : ∀ r ∈ rs, r.length ≤ 140737488351232) (hA : RowsB w A rs) :
    Calls Tryd.prog 12 #[.slice A rs.length c] w fun e w' => (∃ b : Bool, e = .returned (.bool b) ∧ Hid (b = false → rs.length ≤ 1048576 ∧ totB rs ≤ 16777216)) ∧ w' = w := by
  have HS := Go.Lib.hid (size_calls A c rs w hL h2 hA)
  clear hA h2
  go_enter Tryd.func12, Tryd.ntmps12
  go_wp2_with fail
  refine HS.out.mono ?_
  rintro e w1 ⟨⟨m, rfl, HG, hm⟩, rfl⟩
  clear HS
  by_cases h1 : 1048576 < rs.length
  · have d1 : decide ((1048576 : Int) < (rs.length : Int)) = true := decide_eq_true (by omega)
    have d2 : decide (1048576 < rs.length) = true := decide_eq_true h1
    go_wp2
    go_ret
    exact ⟨⟨true, rfl, fun h => by simp at h⟩, rfl⟩
  have d1 : decide ((1048576 : Int) < (rs.length : Int)) = false := decide_eq_false (by omega)
  have d2 : decide (1048576 < rs.length) = false := decide_eq_false h1
  by_cases hb : 16777216 < m
  · have d3 : decide ((16777216 : Int) < (m : Int)) = true := decide_eq_true (by omega)
    have d4 : decide (16777216 < m) = true := decide_eq_true hb
    go_wp2
    go_ret
    exact ⟨⟨true, rfl, fun h => by simp at h⟩, rfl⟩
  · have d3 : decide ((16777216 : Int) < (m : Int)) = false := decide_eq_false (by omega)
    have d4 : decide (16777216 < m) = false := decide_eq_false hb
    have HR : Hid (rs.length ≤ 1048576 ∧ totB rs ≤ 16777216) := ⟨by omega, by rcases HG.out with h | h <;> omega⟩
    go_wp2
    go_ret
    exact ⟨⟨false, rfl, fun _ => HR.out⟩, rfl⟩

theorem slT_own {w : World} {base : Nat} {v : Value} {l : List UInt8} (h : Own w base 5 v (Bs l)) : SlT w v l := by
  obtain ⟨A, c, rfl, h1, h2, h3, h4⟩ := own_addr h
  rw [Bs_length] at h1 ⊢
  exact ⟨A, c, rfl, h1, h2, h3, fun ad ha => (h4 ad ha).2.2⟩
theorem keepB_set {w : World} {g o T : Nat} {cs : Array Value} {fr : Nat × Nat} (hg : w.heap[g]? = some (Obj.cells cs T fr)) (hT : T ≠ 5) (v : Value) : KeepB w (w.setCell ⟨g, o, none⟩ v) := by
  intro x cs' fr' hx
  have hne : x ≠ g := by
    rintro rfl
    rw [hg] at hx
    simp only [Option.some.injEq, Obj.cells.injEq] at hx
    exact hT hx.2.1
  exact (Below.heap_setCell _ _ _ _ hne).trans hx
theorem set_next (us : List Value) (k m : Nat) (hk : us.length = k) (z v : Value) : (us ++ List.replicate (m + 1) z).toArray.setIfInBounds k v = ((us ++ [v]) ++ List.replicate m z).toArray := by
  subst hk
  rw [List.setIfInBounds_toArray, List.set_append_right _ _ (Nat.le_refl _)]
  simp [List.replicate_succ]
theorem own_nil8 {w : World} {g b : Nat} (hg : w.heap[g]? = some (.cells #[] 5 (0, 0))) (hb : b ≤ g) : Own w b 5 (.slice (some ⟨g, 0, none⟩) 0 0) (Bs []) :=
  ⟨rfl, .inr ⟨g, 0, #[], rfl, hb, hg, Nat.le_refl _, by unfold maxLen; omega, rfl, rfl⟩⟩
set_option maxRecDepth 100000 in
set_option maxHeartbeats 3200000 in
theorem copied_calls (A : Option Addr) (c : Nat) (rs : List (List UInt8)) (w : World) (hL : rs.length ≤ 2097152) (h2 : ∀ r ∈ rs, r.length ≤ 140737488351232) (hA : RowsB w A rs) :
    Calls Tryd.prog 14 #[.slice A rs.length c] w fun e w' => ∃ g, e = .returned (.slice (some ⟨g, 0, none⟩) rs.length rs.length) ∧ Hid (RowsB w' (some ⟨g, 0, none⟩) rs) ∧ Hid (Below w.heap.size w w') := by
  have HA := Go.Lib.hid hA
  have H2 := Go.Lib.hid h2
  clear hA h2
  go_enter Tryd.func14, Tryd.ntmps14
  go_wp2_with (first
    | ((with_reducible refine wpList_make_row _ rfl (.tmp 6) (.tmp 6) 27 rfl 28 (.slice none 0 0) 24 Tryd.underlying27 infoRow rfl rs.length rfl rfl (by omega) (by omega) ?_); intro w3 hw3 hb3; have H3 := Go.Lib.hid hw3; have HB3 := Go.Lib.hid hb3; clear hw3 hb3))
  have hg3 : w.heap.size ≤ w.heap.size := Nat.le_refl _
  obtain ⟨g, hg⟩ : ∃ g, g = w.heap.size := ⟨_, rfl⟩
  rw [← hg] at H3 hg3 ⊢
  have HG := Go.Lib.hid hg
  clear hg
  go_loopw [4] (fun i wr => ∃ (k : Nat) (us : List Value), i = .int .i64 (k : Int) ∧ k ≤ rs.length ∧ Hid (us.length = k) ∧ Hid (wr.heap[g]? = some (.cells (us ++ List.replicate (rs.length - k) (Value.slice none 0 0)).toArray 28 (0, 0))) ∧ Hid (AllT wr us (rs.take k)) ∧ Hid (Below w.heap.size w wr)) (fun i _ => rs.length - (intOf i).toNat)
  case atStart => exact ⟨0, [], rfl, by omega, rfl, H3, allT_nil w3, HB3⟩
  case round =>
    obtain ⟨k, us, rfl, hk, HU, HH, HT, HB⟩ := hrel
    clear H3 HB3
    by_cases hlt : k < rs.length
    · obtain ⟨b, o, hAe, A1, c1, hl1, hc1, hr1⟩ := HA.out.row k hlt
      have hz := H2.out _ (List.getElem_mem hlt)
      have hk0 : (0 : Int) ≤ (k : Int) := Int.natCast_nonneg _
      have hk1 : (k : Int) < (rs.length : Int) := by omega
      have x1 := below_cell HB.out hc1
      have hcF : wr.cell? ⟨g, k, none⟩ = some (.slice none 0 0) := by
        rw [cell_of_row _ _ _ _ _ _ HH.out, List.getElem?_toArray, List.getElem?_append_right (by rw [HU.out]; exact Nat.le_refl _), HU.out, Nat.sub_self, List.getElem?_replicate]
        rw [if_pos (by omega)]
      have hfF := heap_frozen HH.out k
      have HTK := Go.Lib.hid (show rs.take (k + 1) = rs.take k ++ [rs[k]] from (List.take_append_getElem hlt).symm)
      obtain ⟨r, hr⟩ : ∃ r, r = rs[k] := ⟨_, rfl⟩
      rw [← hr] at hz x1 hr1 hl1 HTK
      subst hAe
      have hbn : Below wr.heap.size wr (wr.alloc (.cells #[] 5)) := (Below.refl _ _).alloc (Nat.le_refl _) _
      have HO3 := Go.Lib.hid (own_nil8 (w := wr.alloc (.cells #[] 5)) (b := wr.heap.size) (g := wr.heap.size) (heap_here wr (.cells #[] 5) (wr.heap.size) (by simp)) (Nat.le_refl _))
      have HC3 := Go.Lib.hid (cells_below hbn (cells_below HB.out hr1))
      have x2 := below_cell hbn x1
      have hsz3 : wr.heap.size ≤ (wr.alloc (.cells #[] 5)).heap.size := hbn.size
      have hroom : (Bs []).length + r.length ≤ 140737488355328 := by rw [Bs_length]; simp only [List.length_nil]; omega
      have HBN := Go.Lib.hid hbn
      clear hc1 hr1 hr hbn
      go_wp2_with (first
        | (at_builtin; go_must (refine wpList_append_all (s := .tmp 16) (x := .tmp 20) (t := 28) (e := 5) (z := .int .u8 0) (ht := Tryd.underlying28) (hinfo := info8) (base := wr.heap.size) (v := .slice (some ⟨wr.heap.size, 0, none⟩) 0 0) (vs := Bs []) (hown := HO3.out) (hbase := hsz3) (A := A1) (c := c1) (l := r) (hA := HC3.out) (hroom := hroom) (hgd := rfl) (hz := ?_) (ho := ?_) (hs := ?_) (hx := ?_) (h := ?_)); rfl; rfl; rfl; rfl; intro v4 w4 hown4 hb4; have HST := Go.Lib.hid (slT_own (show Own w4 wr.heap.size 5 v4 (Bs r) from hown4)); obtain ⟨A4, c4, rfl, HO4, HC4⟩ := own_open (show Own w4 wr.heap.size 5 v4 (Bs r) from hown4); have HB4 := Go.Lib.hid (HBN.out.trans hb4); have y1 := below_cell HB4.out hcF; have y2 := below_frozen HB4.out hcF hfF; clear hown4 hb4))
      go_roundw
      case rel =>
        refine ⟨k + 1, us ++ [.slice A4 r.length c4], rfl, by omega, by rw [Hid, List.length_append, HU.out]; rfl, ?_, ?_, ?_⟩
        · have h := heap_setCell_same w4 g k _ _ (.slice A4 r.length c4) (below_heap HB4.out HH.out)
          rw [show rs.length - k = (rs.length - (k + 1)) + 1 by omega, set_next us k _ HU.out] at h
          exact h
        · rw [HTK.out]
          have hk4 : KeepB w4 (w4.setCell ⟨g, k, none⟩ (.slice A4 r.length c4)) := keepB_set (below_heap HB4.out HH.out) (by decide) _
          exact allT_keep (allT_snoc (allT_keep HT.out (keepB_below HB4.out)) HST.out) hk4
        · exact (HB.out.trans (HB4.out.mono HB.out.size)).setCell (p := ⟨g, k, none⟩) (by rw [HG.out]; exact Nat.le_refl _) _
      case measure => simp [intOf]; omega
    · have hkn : k = rs.length := by omega
      have HR : Hid (RowsB wr (some ⟨g, 0, none⟩) rs) := by
        have hh := HH.out
        have ht := HT.out
        rw [hkn, Nat.sub_self, List.replicate_zero, List.append_nil] at hh
        rw [hkn, List.take_length] at ht
        exact rows_lit hh ht.1 fun i h1 h2 => slT_slB (ht.2 i h1 h2)
      clear hkn HH HT
      go_wp2
      go_ret
      exact ⟨g, rfl, HR, HB⟩
end Go.Proofs.YtipjdkdonmoojaaDoor
