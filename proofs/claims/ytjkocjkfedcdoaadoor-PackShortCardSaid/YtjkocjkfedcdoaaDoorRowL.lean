/- row: what the puts put, one behind the other. -/
import Derived.Test.YtjkocjkfedcdoaaDoorTaken
import Derived.Test.YtjkocjkfedcdoaaDoorPutsL
import Derived.Test.YtjkocjkfedcdoaaDoorApp
namespace Go.Proofs.YtjkocjkfedcdoaaDoor
open Go Go.RowKit
attribute [local go_sem] IntKind.wrap_u64 n64_self n8_self beq_n64 beq_n8 bne_n8 bne_n64

def rowB (os : List PutD) : List UInt8 := os.flatMap fun o => putB o.kind o.x o.s
def rowE (os : List PutD) : List Int := (List.range os.length).map fun i => ((rowB (os.take (i + 1))).length : Int)
theorem rowB_snoc (os : List PutD) (k : Nat) (hk : k < os.length) : rowB (os.take (k + 1)) = rowB (os.take k) ++ putB os[k].kind os[k].x os[k].s := by
  unfold rowB
  rw [List.take_succ_eq_append_getElem hk, List.flatMap_append]
  simp
theorem rowE_snoc (os : List PutD) (k : Nat) (hk : k < os.length) : rowE (os.take (k + 1)) = rowE (os.take k) ++ [((rowB (os.take (k + 1))).length : Int)] := by
  unfold rowE
  rw [List.length_take, List.length_take, Nat.min_eq_left (by omega), Nat.min_eq_left (by omega), List.range_succ, List.map_append]
  congr 1
  · apply List.map_congr_left
    intro i hi
    have := List.mem_range.1 hi
    rw [List.take_take, List.take_take, Nat.min_eq_left (by omega), Nat.min_eq_left (by omega)]
  · show [((rowB ((os.take (k + 1)).take (k + 1))).length : Int)] = _
    rw [List.take_take, Nat.min_self]
theorem rowB_length (os : List PutD) (h : ∀ o ∈ os, OkPut o.kind o.s) : (rowB os).length ≤ 65537 * os.length := by
  induction os with
  | nil => simp [rowB]
  | cons o os ih =>
    have h1 := putB_length o.kind o.x o.s (h o (by simp))
    have h2 := ih (fun o ho => h o (by simp [ho]))
    have e : rowB (o :: os) = putB o.kind o.x o.s ++ rowB os := by simp [rowB]
    rw [e, List.length_append, List.length_cons]
    omega
/-- what row gives -/
def RowG (w w' : World) (e : Ending) (os : List PutD) : Prop :=
  (e = .returned (.tuple #[.slice none 0 0, .slice none 0 0, .bool false]) ∧ Below w.heap.size w w') ∨
  ∃ v1 v2, e = .returned (.tuple #[v1, v2, .bool true]) ∧ Own w' w.heap.size 5 v1 (Bs (rowB os)) ∧ Own w' w.heap.size 3 v2 ((rowE os).map fun z => .int .i64 z) ∧ (∀ o ∈ os, OkPut o.kind o.s) ∧ os.length ≤ 1024 ∧ Below w.heap.size w w'
theorem infoInt : (Tryd.prog.info? 3).map (fun i => (i.zero, i.size, i.bytes)) = some (some (.int .i64 0), 1, 8) := by kernel_rfl

set_option maxRecDepth 100000 in
set_option maxHeartbeats 3200000 in
theorem row_calls (A : Option Addr) (c : Nat) (os : List PutD) (w : World) (p : Nat → Addr) (hp : LongAt w p) (hn : os.length ≤ 9223372036854775807) (hA : ElemsOf w 4 (PutR w) A os) :
    Calls Tryd.prog 39 #[.slice A os.length c] w fun e w' => RowG w w' e os := by
  have HP := Go.Lib.hid hp
  have HA := Go.Lib.hid hA
  clear hp hA
  by_cases h1024 : 1024 < os.length
  · have d1 : decide ((1024 : Int) < (os.length : Int)) = true := decide_eq_true (by omega)
    go_enter Tryd.func39, Tryd.ntmps39
    go_wp2
    go_ret3
    exact .inl ⟨rfl, Below.refl _ _⟩
  have d1 : decide ((1024 : Int) < (os.length : Int)) = false := decide_eq_false (by omega)
  have hle : os.length ≤ 1024 := by omega
  clear h1024
  go_enter Tryd.func39, Tryd.ntmps39
  go_wp2
  go_loopw [7, 8] (fun s i wr => ∃ (k : Nat) (z : Int), wr = w ∧ k ≤ os.length ∧ 0 ≤ z ∧ z ≤ 262144 ∧ s = .int .i64 z ∧ i = .int .i64 (k : Int)) (fun _ i _ => os.length - (intOf i).toNat)
  case atStart => exact ⟨0, 0, rfl, by omega, by omega, by omega, rfl, rfl⟩
  case round =>
    obtain ⟨k, z, rfl, hk, hz0, hz1, rfl, rfl⟩ := hrel
    by_cases hlt : k < os.length
    · obtain ⟨b, o, hAe, hx⟩ := HA.out (by omega)
      obtain ⟨cs, hl, hc, ho⟩ := hx k hlt
      obtain ⟨Ab, cb, rfl, _, hbl, hsl, hbc⟩ := ho
      have c0 := hc 0 (by simp)
      have c3 := hc 3 (by simp)
      simp only [List.getElem_cons_zero, List.getElem_cons_succ, Nat.add_zero] at c0 c3
      subst hAe
      clear hx hc hbc
      generalize os[k] = op at *
      by_cases h4 : op.kind = 4
      · rw [h4] at c0
        clear h4
        by_cases hbig : 262144 < z + 10 + op.s.length
        · have d2 : decide ((262144 : Int) < z + 10 + (op.s.length : Int)) = true := decide_eq_true hbig
          go_wp2
          go_ret3
          exact .inl ⟨rfl, Below.refl _ _⟩
        · have d2 : decide ((262144 : Int) < z + 10 + (op.s.length : Int)) = false := decide_eq_false hbig
          go_wp2
          go_roundw
          case rel => exact ⟨k + 1, _, by trivial, by omega, by omega, by omega, rfl, by go_num⟩
          case measure => simp [intOf]; omega
      · have h4b : (op.kind == 4) = false := beq_eq_false_iff_ne.2 h4
        clear h4
        by_cases hbig : 262144 < z + 10
        · have d2 : decide ((262144 : Int) < z + 10) = true := decide_eq_true hbig
          go_wp2
          go_ret3
          exact .inl ⟨rfl, Below.refl _ _⟩
        · have d2 : decide ((262144 : Int) < z + 10) = false := decide_eq_false hbig
          go_wp2
          go_roundw
          case rel => exact ⟨k + 1, _, by trivial, by omega, by omega, by omega, rfl, by go_num⟩
          case measure => simp [intOf]; omega
    · go_wp2
      clear hk hz0 hz1 hlt
      obtain ⟨wo, rfl⟩ : ∃ wo : World, wo = wr := ⟨_, rfl⟩
      go_loopw [5, 6, 9] (fun v1 v2 i w1 => ∃ (k : Nat), k ≤ os.length ∧ i = .int .i64 (k : Int) ∧ Hid (∀ o ∈ os.take k, OkPut o.kind o.s) ∧ Hid (Own w1 wo.heap.size 5 v1 (Bs (rowB (os.take k)))) ∧ Hid (Own w1 wo.heap.size 3 v2 ((rowE (os.take k)).map fun z => .int .i64 z)) ∧ Hid (Below wo.heap.size wo w1)) (fun _ _ i _ => os.length - (intOf i).toNat)
      case atStart => exact ⟨0, by omega, rfl, (fun o ho => absurd ho (by simp)), own_nil _ _ _, World.ownsRow_nil _ _ _ 1, Below.refl _ _⟩
      case round =>
        obtain ⟨k, hk, rfl, HOK, HV1, HV2, HB⟩ := hrel
        by_cases hlt : k < os.length
        · obtain ⟨b, o, hAe, hx⟩ := HA.out (by omega)
          obtain ⟨cs, hl, hc, ho⟩ := hx k hlt
          obtain ⟨Ab, cb, rfl, _, hbl, hsl, hbc⟩ := ho
          have c0 := below_cell HB.out (hc 0 (by simp))
          have c1 := below_cell HB.out (hc 1 (by simp))
          have c2 := below_cell HB.out (hc 2 (by simp))
          have c3 := below_cell HB.out (hc 3 (by simp))
          simp only [List.getElem_cons_zero, List.getElem_cons_succ, Nat.add_zero] at c0 c1 c2 c3
          have HS := Go.Lib.hid (rowB_snoc os k hlt)
          have HE := Go.Lib.hid (rowE_snoc os k hlt)
          have HT := Go.Lib.hid (List.take_succ_eq_append_getElem hlt)
          have HLN := Go.Lib.hid (rowB_length (os.take k) HOK.out)
          have hlen : (rowB (os.take k)).length ≤ 140737488351232 := by have := HLN.out; rw [List.length_take] at this; omega
          subst hAe
          clear hx hc hbc
          have HQ := Go.Lib.hid (longAt_below HP.out HB.out)
          obtain ⟨A1, cap1, hv1, hcap1, hcap2, hcells⟩ := own_slice HV1.out
          rw [Bs_length] at hv1
          subst hv1
          have HC := Go.Lib.hid hcells
          clear hcells HV1
          by_cases hok : OkPut os[k].kind os[k].s
          · have HPS := Go.Lib.hid (putS_ok os[k].kind os[k].x os[k].s (rowB (os.take k)) hok)
            have HOK' : Hid (∀ o ∈ os.take (k + 1), OkPut o.kind o.s) := by
              intro o ho
              rw [HT.out, List.mem_append] at ho
              rcases ho with ho | ho
              · exact HOK.out o ho
              · simp at ho; subst ho; exact hok
            clear HOK hok
            generalize os[k] = op at *
            go_wp2_with fail
            refine (called_calls op.kind _ op.x op.s A1 cap1 (rowB (os.take k)) p _ HQ.out hlen HC.out).mono ?_
            rintro e w2 ⟨v3, rfl, hv3, hb3⟩
            rw [HPS.out] at hv3 ⊢
            simp only at hv3
            simp only [errv]
            rw [← HS.out] at hv3
            obtain ⟨A3, c3', rfl, hk1, hk2, hcells3⟩ := own_slice hv3
            rw [Bs_length] at hk1 ⊢
            have HV3 := Go.Lib.hid (own_mono hv3 HB.out.size)
            have HV2' := Go.Lib.hid (own_drewless HV2.out hb3)
            have HB3 := Go.Lib.hid (below_then HB.out hb3)
            have hsz3 := HB3.out.size
            rw [Bs_length] at HV3
            have hroom : ((((rowE (os.take k)).map fun z => Value.int .i64 z).length + 1) + (((rowE (os.take k)).map fun z => Value.int .i64 z).length + 1) / 4 + 192) * 8 ≤ 281474976710656 := by
              rw [List.length_map, rowE, List.length_map, List.length_range, List.length_take]; omega
            have hmax : ((rowE (os.take k)).map fun z => Value.int .i64 z).length + 1 ≤ 9223372036854775807 := by
              rw [List.length_map, rowE, List.length_map, List.length_range, List.length_take]; omega
            clear hv3 hb3 hcells3 HC HV2 hk1 hk2
            generalize hL3 : (rowB (os.take (k + 1))).length = L3 at *
            have HL3 := Go.Lib.hid hL3
            clear hL3
            go_wp2_with (first
              | (at_builtin; (with_reducible refine wpList_append_val (W := w2) (u := .int .i64 (L3 : Int)) (base := wo.heap.size) (vs := (rowE (os.take k)).map fun z => .int .i64 z) (s := .tmp 57) (x := .tmp 60) (t := 31) (e := 3) (z := .int .i64 0) (bytes := 8) (hinfo := infoInt) (ht := Tryd.underlying31) (hown := HV2'.out) (hbase := hsz3) (hgd := rfl) (ho := ?_) (hz := ?_) (hs := ?_) (hu := ?_) (hx := ?_) (hroom := hroom) (hmax := hmax) (h := ?_)); rfl; rfl; rfl; rfl; rfl; intro v4 w4 hown4 hgr4; have HO := Go.Lib.hid hown4; have HG := Go.Lib.hid hgr4; clear hown4 hgr4))
            go_roundw
            case rel =>
              refine ⟨k + 1, by omega, by go_num, HOK', ?_, ?_, ?_⟩
              · have := own_kept HV3.out HG.out (own_types HV3.out HV2'.out (by decide))
                exact this
              · have := HO.out
                rw [HE.out, List.map_append]
                exact this
              · exact below_grown HB3.out HV2'.out HG.out (Nat.le_refl _) hsz3
            case measure => simp [intOf]; omega
          · have HPS := Go.Lib.hid (putS_bad os[k].kind os[k].x os[k].s (rowB (os.take k)) hok)
            clear HOK hok
            generalize os[k] = op at *
            go_wp2_with fail
            refine (called_calls op.kind _ op.x op.s A1 cap1 (rowB (os.take k)) p _ HQ.out hlen HC.out).mono ?_
            rintro e w2 ⟨v3, rfl, hv3, hb3⟩
            rw [HPS.out]
            simp only [errv]
            have HB3 := Go.Lib.hid (below_then HB.out hb3)
            clear hv3 hb3
            go_wp2
            go_ret3
            exact .inl ⟨rfl, HB3.out⟩
        · have hkn : k = os.length := by omega
          have h1 := HOK.out
          have h2 := HV1.out
          have h3 := HV2.out
          rw [hkn, List.take_length] at h1 h2 h3
          have H1 := Go.Lib.hid h1
          have H2 := Go.Lib.hid h2
          have H3 := Go.Lib.hid h3
          clear h1 h2 h3 hkn HOK HV1 HV2
          go_wp2
          go_ret3
          exact .inr ⟨_, _, rfl, H2.out, H3.out, H1.out, hle, HB.out⟩
end Go.Proofs.YtjkocjkfedcdoaaDoor
