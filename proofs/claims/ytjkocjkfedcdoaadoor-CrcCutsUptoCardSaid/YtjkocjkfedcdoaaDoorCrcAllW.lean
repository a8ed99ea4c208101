/- The walks of the law CrcAll's own functions. -/
import Derived.Test.YtjkocjkfedcdoaaDoorCrcLaw2
import Derived.Test.YtjkocjkfedcdoaaDoorHeap2
import Derived.Test.YtjkocjkfedcdoaaDoorOpen
import Derived.Lib.SlBytesConst
import Derived.Lib.SmallJoins
namespace Go.Proofs.YtjkocjkfedcdoaaDoor
open Go Go.RowKit
attribute [local go_sem] beq_n32_0 bne_n32_0 n32_self mod32_2 div32_2 beq_n32_1 xor32_poly xor32 and32 or32 not32 shr32_4 shr32_1 and32_15 and32_1 c8_32 n32_nonneg n32_and15_lt beq_n32

/-- a call of the script -/
structure OpD where
  kind : Int
  b : List UInt8
  s : UInt32
  t : UInt32
  n : Int
  pieces : List (List UInt8)
  deriving Inhabited
/-- its six cells -/
def OpR (w : World) (cs : List Value) (o : OpD) : Prop :=
  ∃ Ab cb Ap cp, cs = [.int .i64 o.kind, .slice Ab o.b.length cb, .int .u32 (n32 o.s), .int .u32 (n32 o.t), .int .i64 o.n, .slice Ap o.pieces.length cp] ∧
    (-9223372036854775808 ≤ o.kind ∧ o.kind ≤ 9223372036854775807) ∧ o.b.length ≤ 9223372036854775807 ∧ Cells w Ab (Bs o.b) ∧ (-9223372036854775808 ≤ o.n ∧ o.n ≤ 9223372036854775807) ∧ o.pieces.length ≤ 9223372036854775807 ∧ RowsB w Ap o.pieces

theorem tab_below {w w1 : World} (hb : Below w.heap.size w w1) (hT : Tab w) : Tab w1 := fun x => below_cell hb (hT x)
theorem opr_below {w w1 : World} (hb : Below w.heap.size w w1) {cs : List Value} {o : OpD} (h : OpR w cs o) : OpR w1 cs o := by
  obtain ⟨Ab, cb, Ap, cp, h1, h2, h3, h4, h5, h6, h7⟩ := h
  exact ⟨Ab, cb, Ap, cp, h1, h2, h3, cells_below hb h4, h5, h6, rows_below hb h7⟩

set_option maxHeartbeats 800000 in
theorem plays_calls (cs : List Value) (o : OpD) (w : World) (hT : Tab w) (ho : OpR w cs o) :
    Calls Tryd.prog 17 #[.agg cs.toArray] w fun e w' => e = .returned (.bool true) ∧ Below w.heap.size w w' := by
  obtain ⟨Ab, cb, Ap, cp, rfl, ⟨hk1, hk2⟩, hlb, hB, ⟨hn1, hn2⟩, hlp, hP⟩ := ho
  obtain ⟨kind, b, s, t, n, pieces⟩ := o
  simp only at *
  have hb0 : Below w.heap.size w (w.alloc (.cells #[.int .i64 kind, .slice Ab b.length cb, .int .u32 (n32 s), .int .u32 (n32 t), .int .i64 n, .slice Ap pieces.length cp] 30)) := (Below.refl _ _).alloc (Nat.le_refl _) _
  have hT0 := tab_below hb0 hT
  have hB0 := cells_below hb0 hB
  have hP0 := rows_below hb0 hP
  have HB := Go.Lib.hid hb0
  have HT := Go.Lib.hid hT0
  clear hT hB hP hb0 hT0
  by_cases k1 : kind = 1
  · subst k1
    go_enter Tryd.func17, Tryd.ntmps17
    go_wp2_with fail
    refine (sum_calls _ _ _ _ hlb HT.out hB0).mono ?_
    rintro e w1 ⟨rfl, rfl⟩
    go_wp2_with fail
    refine (sumR_calls _ _ _ _ hlb hB0).mono ?_
    rintro e w1 ⟨rfl, rfl⟩
    have hh : (addS 0 b == addR 0 b) = true := by rw [addS_eq]; simp
    go_wp2
    go_ret
    exact ⟨rfl, HB.out⟩
  by_cases k2 : kind = 2
  · subst k2
    go_enter Tryd.func17, Tryd.ntmps17
    go_wp2_with fail
    refine (add_calls s _ _ _ _ hlb HT.out hB0).mono ?_
    rintro e w1 ⟨rfl, rfl⟩
    go_wp2_with fail
    refine (addR_calls s _ _ _ _ hlb hB0).mono ?_
    rintro e w1 ⟨rfl, rfl⟩
    have hh : (addS s b == addR s b) = true := by rw [addS_eq]; simp
    go_wp2
    go_ret
    exact ⟨rfl, HB.out⟩
  by_cases k3 : kind = 3
  · subst k3
    go_enter Tryd.func17, Tryd.ntmps17
    go_wp2_with fail
    refine (join_calls s t n _ HT.out hn1 hn2).mono ?_
    rintro e w1 ⟨rfl, hb1⟩
    have HB1 := Go.Lib.hid hb1
    have c0 := below_cell hb1 (a := ⟨w.heap.size, 2, none⟩) (v := .int .u32 (n32 s)) (by simp)
    have c1 := below_cell hb1 (a := ⟨w.heap.size, 3, none⟩) (v := .int .u32 (n32 t)) (by simp)
    have c2 := below_cell hb1 (a := ⟨w.heap.size, 4, none⟩) (v := .int .i64 n) (by simp)
    clear hb1
    go_wp2_with fail
    refine (joinR_calls s t n _ hn1 hn2).mono ?_
    rintro e w2 ⟨rfl, hb2⟩
    have hh : (joinS s t n == movedR s n ^^^ t) = true := by rw [joinS_eq]; simp
    go_wp2
    go_ret
    exact ⟨rfl, below_then (below_then HB.out HB1.out) hb2⟩
  by_cases k4 : kind = 4
  · subst k4
    go_enter Tryd.func17, Tryd.ntmps17
    go_wp2_with fail
    refine (sumOf_calls _ _ _ _ hlp HT.out hP0).mono ?_
    rintro e w1 ⟨rfl, rfl⟩
    go_wp2_with fail
    refine (sumOfR_calls _ _ _ _ hlp hP0).mono ?_
    rintro e w1 ⟨rfl, rfl⟩
    have hh : (sumOfS pieces == sumOfR pieces) = true := by rw [sumOfS_eq]; simp
    go_wp2
    go_ret
    exact ⟨rfl, HB.out⟩
  have e1 : (kind == 1) = false := by simpa using k1
  have e2 : (kind == 2) = false := by simpa using k2
  have e3 : (kind == 3) = false := by simpa using k3
  have e4 : (kind == 4) = false := by simpa using k4
  clear k1 k2 k3 k4
  go_enter Tryd.func17, Tryd.ntmps17
  go_wp2
  go_ret
  exact ⟨rfl, HB.out⟩

theorem sum_known : addS 0 [49, 50, 51, 52, 53, 54, 55, 56, 57] = 3808858755 := by decide +kernel
theorem join_known : joinS 910901175 1799402614 2 = 3293632151 := by decide +kernel
theorem add_known : addS 910901175 [100, 101] = 3293632151 := by decide +kernel
theorem sumOf_known : sumOfS [[97, 98], [], [99]] = 910901175 := by decide +kernel

set_option maxRecDepth 100000 in
set_option maxHeartbeats 800000 in
theorem awake_calls (w : World) (hT : Tab w) :
    Calls Tryd.prog 15 #[] w fun e w' => e = .returned (.bool true) ∧ Below w.heap.size w w' := by
  have HT := Go.Lib.hid hT
  clear hT
  have kc := fun (w : World) (C : Array Value) (n c : Nat) => Go.Lib.run_convert_bytes_const (P := Tryd.prog) w 26 5 C n c Tryd.underlying26 Tryd.underlying5
  have kc2 := fun (w : World) (o : Obj) (C : Array Value) (n c : Nat) => Go.Joins.run_convert_bytes_const_at (P := Tryd.prog) (w.alloc o) 26 5 C n c (w.heap.size + 1) (by simp) Tryd.underlying26 Tryd.underlying5
  go_enter Tryd.func15, Tryd.ntmps15
  go_wp2_with fail
  refine (sum_calls _ _ [49, 50, 51, 52, 53, 54, 55, 56, 57] _ (by decide) (tab_below ((Below.refl _ _).alloc (Nat.le_refl _) _) HT.out) (cells_new _ _ _ _)).mono ?_
  rintro e w1 ⟨rfl, rfl⟩
  rw [sum_known]
  go_wp2_with fail
  have hb1 : Below w.heap.size w (w.alloc (.cells (Bs [49, 50, 51, 52, 53, 54, 55, 56, 57]).toArray 5 (9, 10))) := (Below.refl _ _).alloc (Nat.le_refl _) _
  generalize w.alloc (.cells (Bs [49, 50, 51, 52, 53, 54, 55, 56, 57]).toArray 5 (9, 10)) = w1 at *
  have HT1 := Go.Lib.hid (tab_below hb1 HT.out)
  refine (join_calls 910901175 1799402614 2 _ HT1.out (by decide) (by decide)).mono ?_
  rintro e w2 ⟨rfl, hb2⟩
  rw [join_known]
  have HT2 := Go.Lib.hid (tab_below hb2 HT1.out)
  have HB2 := Go.Lib.hid (below_then hb1 hb2)
  clear hb1 hb2 HT1 HT
  go_wp2_with fail
  refine (add_calls 910901175 _ _ [100, 101] _ (by decide) (tab_below ((Below.refl _ _).alloc (Nat.le_refl _) _) HT2.out) (cells_new _ _ _ _)).mono ?_
  rintro e w3 ⟨rfl, rfl⟩
  rw [add_known]
  have hb3 : Below w2.heap.size w2 (w2.alloc (.cells (Bs [100, 101]).toArray 5 (2, 3))) := (Below.refl _ _).alloc (Nat.le_refl _) _
  generalize w2.alloc (.cells (Bs [100, 101]).toArray 5 (2, 3)) = w3 at *
  have HT3 := Go.Lib.hid (tab_below hb3 HT2.out)
  have HB3 := Go.Lib.hid (below_then HB2.out hb3)
  clear hb3 HT2 HB2
  go_wp2_with fail
  refine (sumOf_calls _ _ [[97, 98], [], [99]] _ (by decide) (tab_below ((((Below.refl _ _).alloc (Nat.le_refl _) _).alloc (by simp) _).alloc (by simp; omega) _) HT3.out) ?_).mono ?_
  · refine ⟨[.slice (some ⟨w3.heap.size, 0, none⟩) 2 2, .slice none 0 0, .slice (some ⟨w3.heap.size + 1, 0, none⟩) 1 1], rfl, cells_at (heap_here _ _ _ (by simp)), ?_⟩
    have h0 : SlB _ (.slice (some ⟨w3.heap.size, 0, none⟩) 2 2) [97, 98] := slb_at (t := 5) (fr := (2, 3)) (heap_before ((w3.alloc (.cells (Bs [97, 98]).toArray 5 (2, 3))).alloc (.cells (Bs [99]).toArray 5 (1, 2))) (.cells #[.slice (some ⟨w3.heap.size, 0, none⟩) 2 2, .slice none 0 0, .slice (some ⟨w3.heap.size + 1, 0, none⟩) 1 1] 26) _ _ (by simp only [World.size_alloc]; omega) (heap_before _ _ _ _ (by simp only [World.size_alloc]; omega) (heap_here _ _ _ rfl))) rfl (by decide) (by decide)
    have h1 : SlB _ (.slice (some ⟨w3.heap.size + 1, 0, none⟩) 1 1) [99] := slb_at (t := 5) (fr := (1, 2)) (heap_before ((w3.alloc (.cells (Bs [97, 98]).toArray 5 (2, 3))).alloc (.cells (Bs [99]).toArray 5 (1, 2))) (.cells #[.slice (some ⟨w3.heap.size, 0, none⟩) 2 2, .slice none 0 0, .slice (some ⟨w3.heap.size + 1, 0, none⟩) 1 1] 26) _ _ (by simp only [World.size_alloc]; omega) (heap_here _ _ _ (by simp only [World.size_alloc]))) rfl (by decide) (by decide)
    intro i hi1 hi2
    match i, hi2 with
    | 0, _ => exact h0
    | 1, _ => exact slb_nil _
    | 2, _ => exact h1
  rintro e w4 ⟨rfl, rfl⟩
  rw [sumOf_known]
  go_wp2
  go_ret
  exact ⟨rfl, below_then HB3.out ((((Below.refl w3.heap.size w3).alloc (Nat.le_refl _) _).alloc (by simp) _).alloc (by simp; omega) _)⟩

/-- some bool, and nothing that was there is written -/
def SomeBool (w : World) (e : Ending) (w' : World) : Prop := ∃ b : Bool, e = .returned (.bool b) ∧ Below w.heap.size w w'

set_option maxRecDepth 100000 in
set_option maxHeartbeats 1600000 in
theorem much_calls (A : Option Addr) (c : Nat) (os : List OpD) (w : World) (hn : os.length ≤ 9223372036854775807) (hA : ElemsOf w 6 (OpR w) A os) :
    Calls Tryd.prog 16 #[.slice A os.length c] w (SomeBool w) := by
  go_enter Tryd.func16, Tryd.ntmps16
  go_wp2
  go_loopw [3, 4, 5] (fun n m i wr => ∃ (k : Nat) (n' m' : Int), k ≤ os.length ∧ i = .int .i64 (k : Int) ∧ n = .int .i64 n' ∧ m = .int .i64 m' ∧ Below w.heap.size w wr) (fun _ _ i _ => os.length - (intOf i).toNat)
  case atStart => exact ⟨0, 0, 0, by omega, rfl, rfl, rfl, Below.refl _ _⟩
  case round =>
    obtain ⟨k, n', m', hk, rfl, rfl, rfl, hb⟩ := hrel
    by_cases hlt : k < os.length
    · obtain ⟨b, o, rfl, hx⟩ := hA (by omega)
      obtain ⟨cs, _, hc, ho⟩ := hx k hlt
      obtain ⟨Ab, cb, Ap, cp, rfl, ⟨hk1, hk2⟩, hlb, hB, ⟨hn1, hn2⟩, hlp, hP⟩ := opr_below hb ho
      have c0 := below_cell hb (hc 0 (by simp))
      have c1 := below_cell hb (hc 1 (by simp))
      have c2 := below_cell hb (hc 2 (by simp))
      have c3 := below_cell hb (hc 3 (by simp))
      have c4 := below_cell hb (hc 4 (by simp))
      have c5 := below_cell hb (hc 5 (by simp))
      simp only [List.getElem_cons_zero, List.getElem_cons_succ, Nat.add_zero] at c0 c1 c2 c3 c4 c5
      have hP' : ∀ j, j < os[k].pieces.length → ∃ b o, Ap = some ⟨b, o, none⟩ ∧ ∃ A' c', os[k].pieces[j]!.length ≤ 9223372036854775807 ∧ wr.cell? ⟨b, o + j, none⟩ = some (.slice A' os[k].pieces[j]!.length c') := by
        intro j hj
        obtain ⟨b, o, hb, A', c', h1, h2, _⟩ := hP.row j hj
        exact ⟨b, o, hb, A', c', by simpa [hj] using h1, by simpa [hj] using h2⟩
      generalize os[k] = op at *
      obtain ⟨kind, bb, s, t, nn, pieces⟩ := op
      simp only at *
      clear hc hx hA hB hP ho
      have hbw : Below wr.heap.size wr (wr.alloc (.cells #[.int .i64 kind, .slice Ab bb.length cb, .int .u32 (n32 s), .int .u32 (n32 t), .int .i64 nn, .slice Ap pieces.length cp] 30)) := (Below.refl _ _).alloc (Nat.le_refl _) _
      have HB := Go.Lib.hid hbw
      have hP2 : ∀ j, j < pieces.length → ∃ b o, Ap = some ⟨b, o, none⟩ ∧ ∃ A' c' n', (wr.alloc (.cells #[.int .i64 kind, .slice Ab bb.length cb, .int .u32 (n32 s), .int .u32 (n32 t), .int .i64 nn, .slice Ap pieces.length cp] 30)).cell? ⟨b, o + j, none⟩ = some (.slice A' n' c') := by
        intro j hj
        obtain ⟨b, o, hb, A', c', h1, h2⟩ := hP' j hj
        exact ⟨b, o, hb, A', c', _, below_cell hbw h2⟩
      clear hbw hP'
      have HP := Go.Lib.hid hP2
      clear hP2
      by_cases h1 : n' ≤ 1048576
      · have d1 : decide (n' ≤ 1048576) = true := decide_eq_true h1
        by_cases h2 : m' ≤ 16777216
        · have d2 : decide (m' ≤ 16777216) = true := decide_eq_true h2
          go_wp2
          go_loop [4, 7] (fun m j => ∃ (j' : Nat) (m2 : Int), j' ≤ pieces.length ∧ j = .int .i64 (j' : Int) ∧ m = .int .i64 m2) (fun _ j => pieces.length - (intOf j).toNat)
          case atStart => exact ⟨0, _, by omega, rfl, rfl⟩
          case round =>
            obtain ⟨j, m2, hj, rfl, rfl⟩ := hrel
            by_cases hjl : j < pieces.length
            · obtain ⟨b', o', rfl, A', c', ln, hcell⟩ := HP.out j hjl
              by_cases h3 : m2 ≤ 16777216
              · have d3 : decide (m2 ≤ 16777216) = true := decide_eq_true h3
                go_wp2
                go_round
                case rel => exact ⟨j + 1, _, by omega, by go_num, rfl⟩
                case measure => simp [intOf]; omega
              · have d3 : decide (m2 ≤ 16777216) = false := decide_eq_false h3
                go_wp2
                go_roundw
                case rel => exact ⟨k + 1, _, _, by omega, by go_num, rfl, rfl, below_then hb HB.out⟩
                case measure => simp [intOf]; omega
            · go_wp2
              go_roundw
              case rel => exact ⟨k + 1, _, _, by omega, by go_num, rfl, rfl, below_then hb HB.out⟩
              case measure => simp [intOf]; omega
        · have d2 : decide (m' ≤ 16777216) = false := decide_eq_false h2
          go_wp2
          all_goals go_ret
          all_goals exact ⟨_, rfl, hb⟩
      · have d1 : decide (n' ≤ 1048576) = false := decide_eq_false h1
        go_wp2
        all_goals go_ret
        all_goals exact ⟨_, rfl, hb⟩
    · go_wp2
      all_goals go_ret
      all_goals exact ⟨_, rfl, hb⟩
end Go.Proofs.YtjkocjkfedcdoaaDoor
