/- The law CrcCuts: its walk. -/
import Derived.Test.YtjkocjkfedcdoaaDoorCrcMovesL
import Derived.Test.YtjkocjkfedcdoaaDoorHeap2
namespace Go.Proofs.YtjkocjkfedcdoaaDoor
open Go Go.RowKit
attribute [local go_sem] beq_n32_0 bne_n32_0 bne_n32 n32_self mod32_2 div32_2 beq_n32_1 xor32_poly xor32 xor8 and32 or32 not32 shr32_4 shr32_1 shr32_8 shr32_16 shr32_24 and32_15 and32_1 c8_32 c32_8 n32_nonneg n32_and15_lt beq_n32 beq_n8

theorem info24 : (Tryd.prog.info? 26).map (fun i => (i.zero, i.size, i.bytes)) = some (some (.slice none 0 0), 1, 24) := by kernel_rfl
theorem size8' : (Tryd.prog.info? 5).map (·.size) = some 1 := by kernel_rfl

theorem take_cut (l : List UInt8) {f ct : Nat} (h : f ≤ ct) : l.take f ++ (l.take ct).drop f = l.take ct := by
  have := List.take_append_drop f (l.take ct)
  rwa [List.take_take, Nat.min_eq_left h] at this
/-- the sums of the pieces, by Join, are the sum by Add -/
theorem joined_step (j : UInt32) (p : List UInt8) (h : p.length ≤ 9223372036854775807) : joinS j (addS 0 p) p.length = addS j p := by
  rw [joinS_eq, addS_eq, addS_eq, addR_moved j p h]
theorem pieces_sum (ls : List (List UInt8)) (l : List UInt8) (h : ls.flatten = l) : ls.foldl addS 0 = addS 0 l := by
  rw [show addS = addR from funext fun x => funext fun c => addS_eq x c, sumOfR_flat, h]
/-- the values vs are slices of the bytes ls -/
def AllB (w : World) (vs : List Value) (ls : List (List UInt8)) : Prop := vs.length = ls.length ∧ ∀ i, (h1 : i < vs.length) → (h2 : i < ls.length) → SlB w vs[i] ls[i]
theorem allB_nil (w : World) : AllB w [] [] := ⟨rfl, fun i h => absurd h (by simp)⟩
theorem allB_snoc {w : World} {vs : List Value} {ls : List (List UInt8)} (h : AllB w vs ls) {v : Value} {l : List UInt8} (hv : SlB w v l) : AllB w (vs ++ [v]) (ls ++ [l]) := by
  obtain ⟨h1, h2⟩ := h
  refine ⟨by simp [h1], fun i hi hj => ?_⟩
  by_cases hlt : i < vs.length
  · rw [List.getElem_append_left hlt, List.getElem_append_left (by omega)]
    exact h2 i hlt (by omega)
  · have : i = vs.length := by simp at hi; omega
    subst this
    simp only [List.getElem_append_right (Nat.le_refl _), Nat.sub_self]
    have e : (ls ++ [l])[vs.length] = l := by simp [h1]
    rw [e]
    simpa using hv
theorem allB_below {w w1 : World} (hb : Below w.heap.size w w1) {vs : List Value} {ls : List (List UInt8)} (h : AllB w vs ls) : AllB w1 vs ls := ⟨h.1, fun i h1 h2 => slb_below hb (h.2 i h1 h2)⟩
theorem rows_of_own {w w0 : World} {base : Nat} {v : Value} {vs : List Value} {ls : List (List UInt8)} (h : Own w base 26 v vs) (hl : AllB w0 vs ls) (hb : Below w0.heap.size w0 w) : ∃ A c, v = .slice A ls.length c ∧ ls.length ≤ c ∧ c ≤ 9223372036854775807 ∧ RowsB w A ls := by
  obtain ⟨A, c, rfl, h1, h2, h3⟩ := own_slice h
  have hl' := allB_below hb hl
  refine ⟨A, c, by rw [hl.1], by rw [← hl.1]; exact h1, h2, vs, hl.1, h3, hl'.2⟩

set_option maxRecDepth 100000 in
set_option maxHeartbeats 1600000 in
theorem crcCuts_calls (A : Option Addr) (c : Nat) (l : List UInt8) (A2 : Option Addr) (c2 : Nat) (cuts : List Int) (w : World) (hT : Tab w) (hlc : l.length ≤ c) (hl : c ≤ 9223372036854775807) (hA : Cells w A (Bs l))
    (hn2 : cuts.length ≤ 9223372036854775807) (hC : ElemsOf w 1 (fun cs (a : Int) => cs = [.int .i64 a] ∧ -9223372036854775808 ≤ a ∧ a ≤ 9223372036854775807) A2 cuts) :
    Calls Tryd.prog 4 #[.slice A l.length c, .slice A2 cuts.length c2] w fun e w' => e = .returned (.bool true) ∧ Below w.heap.size w w' := by
  have HT := Go.Lib.hid hT
  clear hT
  go_enter Tryd.func4, Tryd.ntmps4
  go_wp2_with fail
  refine (awake_calls _ HT.out).mono ?_
  rintro e w1 ⟨rfl, hb1⟩
  have HB1 := Go.Lib.hid hb1
  have HT1 := Go.Lib.hid (tab_below hb1 HT.out)
  have hA1 := cells_below hb1 hA
  clear hb1 HT
  by_cases hbad : 1048576 < cuts.length
  · have g : (1048576 : Int) < (cuts.length : Int) := by omega
    go_wp2_with fail
    go_ret
    exact ⟨rfl, HB1.out⟩
  have g : ¬ ((1048576 : Int) < (cuts.length : Int)) := by omega
  have g' : decide ((1048576 : Int) < (cuts.length : Int)) = false := decide_eq_false g
  have hC1 : ∀ i, i < cuts.length → ∃ b o, A2 = some ⟨b, o, none⟩ ∧ w1.cell? ⟨b, o + i, none⟩ = some (.int .i64 (cuts.getD i 0)) := by
    intro i hi
    obtain ⟨b, o, ha, hx⟩ := hC (by omega)
    obtain ⟨cs, _, hc, rfl, _, _⟩ := hx i hi
    have := below_cell HB1.out (hc 0 (by simp))
    refine ⟨b, o, ha, ?_⟩
    simpa [hi] using this
  have HC1 := Go.Lib.hid hC1
  clear hC hC1 hA
  go_wp2
  go_loopw [6, 7, 8] (fun v fr i wr => ∃ (k f : Nat) (vs : List Value) (ls : List (List UInt8)), k ≤ cuts.length ∧ i = .int .i64 (k : Int) ∧ f ≤ l.length ∧ fr = .int .i64 (f : Int) ∧ Hid (vs.length ≤ k ∧ Own wr w1.heap.size 26 v vs ∧ AllB w1 vs ls ∧ ls.flatten = l.take f) ∧ Below w1.heap.size w1 wr) (fun _ _ i _ => cuts.length - (intOf i).toNat)
  case atStart =>
    refine ⟨0, 0, [], [], by omega, rfl, by omega, rfl, ⟨by simp, ⟨rfl, .inr ⟨w1.heap.size, 0, #[], rfl, Nat.le_refl _, heap_here _ _ _ rfl, by simp, by decide, rfl, rfl⟩⟩, allB_nil _, by simp⟩, (Below.refl _ _).alloc (Nat.le_refl _) _⟩
  case round =>
    obtain ⟨k, f, vs, ls, hk, rfl, hf, rfl, HR, hb⟩ := hrel
    by_cases hlt : k < cuts.length
    · obtain ⟨b2, o2, rfl, hcell⟩ := HC1.out k hlt
      have hcell' := below_cell hb hcell
      generalize cuts.getD k 0 = cut at *
      have HB := Go.Lib.hid hb
      have hcell1 := Go.Lib.hid hcell
      clear hb hcell
      by_cases h1 : (f : Int) ≤ cut ∧ cut ≤ (l.length : Int)
      · obtain ⟨h1, h2⟩ := h1
        obtain ⟨ct, rfl⟩ := Int.eq_ofNat_of_zero_le (show 0 ≤ cut by omega)
        have hcut := run_cut_lh (P := Tryd.prog) 26 5 Tryd.underlying26 size8' A l.length c f ct (by omega) (by omega)
        have g1 : f ≤ ct := by omega
        have g2 : ct ≤ l.length := by omega
        have hroom : (vs.length + 1) * 24 ≤ 140737488355328 := by have := HR.out.1; omega
        have hmax : vs.length + 1 ≤ 9223372036854775807 := by have := HR.out.1; omega
        go_wp2_with (first
          | (at_builtin; (with_reducible refine wpList_append_one (W := wr) (u := .slice (cutA A c f) (ct - f) (c - f)) (base := w1.heap.size) (vs := vs) (s := .tmp 45) (x := .tmp 53) (hinfo := info24) (ht := Tryd.underlying28) (hown := HR.out.2.1) (hb := HB.out) (hbase := HB.out.size) (hgd := rfl) (ho := ?_) (hz := ?_) (hs := ?_) (hu := ?_) (hx := ?_) (hroom := hroom) (hmax := hmax) (h := ?_)); rfl; rfl; rfl; rfl; rfl; intro v1 wn hown1 hbn; have HO := Go.Lib.hid hown1; have HBN := Go.Lib.hid hbn; have hcn := below_cell HBN.out hcell1.out; clear hown1 hbn))
        go_roundw
        case rel =>
          refine ⟨k + 1, ct, vs ++ [.slice (cutA A c f) (ct - f) (c - f)], ls ++ [(l.take ct).drop f], by omega, by go_num, g2, rfl, ⟨by have := HR.out.1; simp; omega, HO.out, allB_snoc HR.out.2.2.1 (slb_cut hA1 hlc hl g1 g2), ?_⟩, HBN.out⟩
          rw [List.flatten_append, HR.out.2.2.2, List.flatten_singleton, take_cut l g1]
        case measure => simp [intOf]; omega
      · by_cases h2 : (f : Int) ≤ cut
        · have h3 : ¬ cut ≤ (l.length : Int) := fun h => h1 ⟨h2, h⟩
          clear h1
          go_wp2
          go_roundw
          case rel => exact ⟨k + 1, f, vs, ls, by omega, by go_num, hf, rfl, ⟨by have := HR.out.1; omega, HR.out.2.1, HR.out.2.2.1, HR.out.2.2.2⟩, HB.out⟩
          case measure => simp [intOf]; omega
        · clear h1
          go_wp2
          go_roundw
          case rel => exact ⟨k + 1, f, vs, ls, by omega, by go_num, hf, rfl, ⟨by have := HR.out.1; omega, HR.out.2.1, HR.out.2.2.1, HR.out.2.2.2⟩, HB.out⟩
          case measure => simp [intOf]; omega
    · have HB := Go.Lib.hid hb
      clear hb HC1
      have hcut := run_cut_l (P := Tryd.prog) 26 5 Tryd.underlying26 size8' A l.length c f hf
      have hroom : (vs.length + 1) * 24 ≤ 140737488355328 := by have := HR.out.1; omega
      have hmax : vs.length + 1 ≤ 9223372036854775807 := by have := HR.out.1; omega
      go_wp2_with (first
        | (at_builtin; (with_reducible refine wpList_append_one (W := wr) (u := .slice (cutA A c f) (l.length - f) (c - f)) (base := w1.heap.size) (vs := vs) (s := .tmp 59) (x := .tmp 63) (hinfo := info24) (ht := Tryd.underlying28) (hown := HR.out.2.1) (hb := HB.out) (hbase := HB.out.size) (hgd := rfl) (ho := ?_) (hz := ?_) (hs := ?_) (hu := ?_) (hx := ?_) (hroom := hroom) (hmax := hmax) (h := ?_)); rfl; rfl; rfl; rfl; rfl; intro v1 wn hown1 hbn; have HO := Go.Lib.hid hown1; have HBN := Go.Lib.hid hbn; clear hown1 hbn))
      have hflat : (ls ++ [l.drop f]).flatten = l := by
        rw [List.flatten_append, HR.out.2.2.2, List.flatten_singleton, List.take_append_drop]
      have hall : AllB w1 (vs ++ [.slice (cutA A c f) (l.length - f) (c - f)]) (ls ++ [l.drop f]) := by
        refine allB_snoc HR.out.2.2.1 ?_
        have := slb_cut hA1 hlc hl hf (Nat.le_refl _)
        rwa [List.take_length] at this
      obtain ⟨Ap, cp, rfl, hp1, hp2, hp3⟩ := rows_of_own HO.out hall HBN.out
      have hlen : (ls ++ [l.drop f]).length ≤ 9223372036854775807 := Nat.le_trans hp1 hp2
      have HF := Go.Lib.hid hflat
      have HP := Go.Lib.hid hp3
      have HTn := Go.Lib.hid (tab_below HBN.out HT1.out)
      have HAn := Go.Lib.hid (cells_below HBN.out hA1)
      clear hflat hp3 hall hcut HR HB hA1 HT1
      generalize ls ++ [l.drop f] = ps at *
      refine (sum_calls A c l wn (by omega) HTn.out HAn.out).mono ?_
      rintro e wo ⟨rfl, rfl⟩
      go_wp2
      go_loopw [10, 11, 12] (fun ad jo i wq => ∃ k : Nat, k ≤ ps.length ∧ i = .int .i64 (k : Int) ∧ ad = .int .u32 (n32 ((ps.take k).foldl addS 0)) ∧ jo = .int .u32 (n32 ((ps.take k).foldl addS 0)) ∧ Below wo.heap.size wo wq) (fun _ _ i _ => ps.length - (intOf i).toNat)
      case atStart => exact ⟨0, by omega, rfl, rfl, rfl, Below.refl _ _⟩
      case round =>
        obtain ⟨k, hk, rfl, rfl, rfl, hbq⟩ := hrel
        have hPq := rows_below hbq HP.out
        have HTq := Go.Lib.hid (tab_below hbq HTn.out)
        have HBq := Go.Lib.hid hbq
        clear hbq
        by_cases hlt : k < ps.length
        · obtain ⟨b, o, rfl, A', c', hl', hcell, hrow⟩ := hPq.row k hlt
          have hs : (ps.take (k+1)).foldl addS 0 = addS ((ps.take k).foldl addS 0) ps[k] := by
            rw [List.take_succ_eq_append_getElem hlt, List.foldl_append]; rfl
          have HS := Go.Lib.hid hs
          have HJ := Go.Lib.hid (joined_step ((ps.take k).foldl addS 0) ps[k] hl')
          have HRW := Go.Lib.hid hrow
          clear hs hPq hrow
          generalize (ps.take k).foldl addS 0 = x at *
          go_wp2_with fail
          refine (add_calls x A' c' ps[k] _ hl' HTq.out HRW.out).mono ?_
          rintro e wr2 ⟨rfl, rfl⟩
          go_wp2_with fail
          refine (sum_calls A' c' ps[k] _ hl' HTq.out HRW.out).mono ?_
          rintro e wr3 ⟨rfl, rfl⟩
          go_wp2_with fail
          refine (join_calls x (addS 0 ps[k]) ps[k].length _ HTq.out (by omega) (by omega)).mono ?_
          rintro e wr4 ⟨rfl, hb4⟩
          have HB4 := Go.Lib.hid (below_then HBq.out hb4)
          clear hb4
          go_wp2
          go_roundw
          case rel => exact ⟨k + 1, by omega, by go_num, by rw [HS.out], by rw [HS.out, HJ.out], HB4.out⟩
          case measure => simp [intOf]; omega
        · have HPQ := Go.Lib.hid hPq
          clear hPq
          have hk' : k = ps.length := by omega
          have HSum := Go.Lib.hid (show (ps.take k).foldl addS 0 = addS 0 l by rw [hk', List.take_length]; exact pieces_sum ps l HF.out)
          have HSum2 := Go.Lib.hid (show sumOfS ps = addS 0 l from pieces_sum ps l HF.out)
          clear hk'
          generalize (ps.take k).foldl addS 0 = x at *
          have b1 : (x == addS 0 l) = true := by rw [HSum.out]; simp
          have B2 := Go.Lib.hid (show (sumOfS ps == addS 0 l) = true by rw [HSum2.out]; simp)
          go_wp2_with fail
          refine (sumOf_calls Ap cp ps _ hlen HTq.out HPQ.out).mono ?_
          rintro e wr2 ⟨rfl, rfl⟩
          have b2 := B2.out
          go_wp2
          go_ret
          exact ⟨rfl, below_then HB1.out (below_then HBN.out HBq.out)⟩
end Go.Proofs.YtjkocjkfedcdoaaDoor
