/- The walks of package crc and its reference over arrays of 32 numbers. -/
import Derived.Test.YtjkocjkfedcdoaaDoorCrcWalk
import Derived.Laws.Rows
import Derived.Deep.RegionHeld3
import Derived.Deep.MidRow
import Derived.KernelRfl
namespace Go.Proofs.YtjkocjkfedcdoaaDoor
open Go Go.RowKit
attribute [local go_sem] beq_n32_0 bne_n32_0 n32_self mod32_2 div32_2 beq_n32_1 xor32_poly xor32 and32 or32 not32 shr32_4 shr32_1 and32_15 and32_1 c8_32 n32_nonneg n32_and15_lt beq_n32

/-- an array of numbers as the model's cells -/
def Arr (m : List UInt32) : Array Value := (m.map fun x => Value.int .u32 (n32 x)).toArray
theorem Arr_size (m : List UInt32) : (Arr m).size = m.length := by simp [Arr]
theorem Arr_one (m : List UInt32) : (Arr m).all (·.oneCell') = true := by simp [Arr, Value.oneCell']
/-- the number in place i, behind a name -/
def at32 (m : List UInt32) (i : Nat) : UInt32 := m.getD i 0
theorem Arr_get (m : List UInt32) (i : Nat) (h : i < m.length) : (Arr m)[i]? = some (.int .u32 (n32 (at32 m i))) := by
  simp [Arr, at32, h]
theorem Arr_cell {w : World} {g t : Nat} {m : List UInt32} (h : w.heap[g]? = some (.cells (Arr m) t (0, 0))) (i : Nat) (hi : i < m.length) : w.cell? ⟨g, i, none⟩ = some (.int .u32 (n32 (at32 m i))) := by
  rw [cell_of_row w g i _ _ _ h, Arr_get m i hi]
/-- the same as a list -/
def ArrL (m : List UInt32) : List Value := m.map fun x => Value.int .u32 (n32 x)
theorem ArrL_toArray (m : List UInt32) : (ArrL m).toArray = Arr m := rfl
theorem ArrL_length (m : List UInt32) : (ArrL m).length = m.length := by simp [ArrL]
theorem Arr_range {w : World} {g t : Nat} {m : List UInt32} (h : w.heap[g]? = some (.cells (Arr m) t (0, 0))) : w.rangeAt g 0 (ArrL m) := by
  intro j v hv
  rw [cell_of_row w g _ _ _ _ h, Nat.zero_add, ← ArrL_toArray]
  simpa using hv
/-- 32 zeros, as 'alloc' lays them -/
def zeros32 : List UInt32 := List.replicate 32 0

/-- is there a one in place k of x? (spelt as the walk spells it) -/
def bitK (x : UInt32) (k : Nat) : Bool := (n32 x / 2 ^ k).tmod 2 == 1
/-- what the numbers m give for the ones of x in the places below k -/
def applyK (m : List UInt32) (x : UInt32) : Nat → UInt32
  | 0 => 0
  | k + 1 => if bitK x k then applyK m x k ^^^ at32 m k else applyK m x k
def apply (m : List UInt32) (x : UInt32) : UInt32 := applyK m x 32

set_option maxHeartbeats 400000 in
theorem applyR_calls (m : List UInt32) (hm : m.length = 32) (x : UInt32) (w : World) :
    Calls Tryd.prog 80 #[.agg (Arr m), .int .u32 (n32 x)] w fun e w' => e = .returned (.int .u32 (n32 (apply m x))) ∧ Below w.heap.size w w' := by
  go_enter Tryd.func80, Tryd.ntmps80
  go_wp2
  go_loop [5, 6] (fun y i => ∃ k : Nat, k ≤ 32 ∧ i = .int .i64 (k : Int) ∧ y = .int .u32 (n32 (applyK m x k))) (fun _ i => 32 - (intOf i).toNat)
  case atStart => exact ⟨0, by omega, rfl, rfl⟩
  case round =>
    obtain ⟨k, hk, rfl, rfl⟩ := hrel
    by_cases hlt : k < 32
    · have hcell := Arr_get m k (by omega)
      have hi : (k : Int) < 32 := by omega
      have hs : applyK m x (k + 1) = if bitK x k then applyK m x k ^^^ at32 m k else applyK m x k := rfl
      have HS := Go.Lib.hid hs
      clear hs
      generalize applyK m x k = z at *
      cases hb : bitK x k
      all_goals
        have HB := Go.Lib.hid hb
        unfold bitK at hb
        go_wp2
        go_round
        case rel => exact ⟨k + 1, by omega, by go_num, by rw [HS.out, HB.out]; first | rfl | (simp; done)⟩
        case measure => simp [intOf]; omega
    · go_wp2
      go_ret
      obtain rfl : k = 32 := by omega
      exact ⟨rfl, (Below.refl _ _).alloc (Nat.le_refl _) _⟩

def twice (m : List UInt32) : List UInt32 := m.map (apply m)
/-- what 'twice' has laid behind k rounds -/
def accK (m : List UInt32) (k : Nat) : List UInt32 := (m.take k).map (apply m) ++ List.replicate (32 - k) 0
theorem accK_length (m : List UInt32) (hm : m.length = 32) (k : Nat) (hk : k ≤ 32) : (accK m k).length = 32 := by simp [accK]; omega
theorem accK_zero (m : List UInt32) : accK m 0 = zeros32 := by simp [accK, zeros32]
theorem accK_all (m : List UInt32) (hm : m.length = 32) : accK m 32 = twice m := by simp [accK, twice, ← hm]
theorem accK_set (m : List UInt32) (hm : m.length = 32) (k : Nat) (hk : k < 32) : (Arr (accK m k)).setIfInBounds k (.int .u32 (n32 (apply m (at32 m k)))) = Arr (accK m (k + 1)) := by
  have hd : 32 - k = (32 - (k + 1)) + 1 := by omega
  have hlen : ((m.take k).map (apply m)).length = k := by simp; omega
  have e : (accK m k).set k (apply m (at32 m k)) = accK m (k + 1) := by
    unfold accK
    rw [hd, List.replicate_succ, List.set_append_right _ _ (by omega), hlen, Nat.sub_self, List.set_cons_zero, List.take_succ_eq_append_getElem (by omega), List.map_append, List.append_assoc]
    simp [at32, hm, hk]
  rw [← e]
  unfold Arr
  rw [List.map_set]
  simp

set_option maxRecDepth 100000 in
set_option maxHeartbeats 1600000 in
theorem twiceR_calls (m : List UInt32) (hm : m.length = 32) (w : World) :
    Calls Tryd.prog 81 #[.agg (Arr m)] w fun e w' => e = .returned (.agg (Arr (twice m))) ∧ Below w.heap.size w w' := by
  go_enter Tryd.func81, Tryd.ntmps81
  go_wp2
  go_loopw [4] (fun i wr => ∃ k : Nat, k ≤ 32 ∧ i = .int .i64 (k : Int) ∧ wr.heap[w.heap.size]? = some (.cells (Arr m) 73 (0, 0)) ∧ wr.heap[w.heap.size + 1]? = some (.cells (Arr zeros32) 73 (0, 0)) ∧
      wr.heap[w.heap.size + 1 + 1]? = some (.cells (Arr (accK m k)) 73 (0, 0)) ∧ Below w.heap.size w wr) (fun i _ => 32 - (intOf i).toNat)
  case atStart =>
    exact ⟨0, by omega, rfl, heap_before _ _ _ _ (by simp only [World.size_alloc]; omega) (heap_before _ _ _ _ (by simp only [World.size_alloc]; omega) (heap_here _ _ _ rfl)),
      heap_before _ _ _ _ (by simp only [World.size_alloc]; omega) (heap_here _ _ _ (by simp only [World.size_alloc])), by rw [accK_zero]; exact heap_here _ _ _ (by simp only [World.size_alloc]), (((Below.refl _ _).alloc (Nat.le_refl _) _).alloc (by simp) _).alloc (by simp; omega) _⟩
  case round =>
    obtain ⟨k, hk, rfl, hh0, hh1, hh2, hb⟩ := hrel
    by_cases hlt : k < 32
    · have hc := Arr_cell hh0 k (by omega)
      have hr := Arr_range hh0
      have hc2 := Arr_cell hh2 k (by rw [accK_length m hm k hk]; exact hlt)
      have hf2 := heap_frozen hh2 k
      have hi : (k : Int) < 32 := by omega
      have hsz : w.heap.size + 1 + 1 < wr.heap.size := heap_lt hh2
      have hi2 : (Tryd.prog.info? 73).map (·.size) = some (ArrL m).length := by rw [ArrL_length, hm]; kernel_rfl
      have HU := Tryd.underlying73
      go_wp2
      go_region_held3 (fun w' => w'.cell? ⟨w.heap.size, k, none⟩ = some (.int .u32 (n32 (at32 m k))) ∧ w'.rangeAt w.heap.size 0 (ArrL m))
        (first | exact ⟨hc, hr⟩ | exact ⟨below_cell hb1 hc, below_range hb1 hr⟩ | exact ⟨far_cell (by show w.heap.size ≠ w.heap.size + 1 + 1; omega) (below_cell hb1 hc), far_range (by show w.heap.size ≠ w.heap.size + 1 + 1; omega) (below_range hb1 hr)⟩)
        ((go_at_call 80; refine (applyR_calls m hm (at32 m k) _).mono ?_; rintro e w1 ⟨rfl, hb1⟩; have hx2 := below_cell hb1 hc2; have hx3 := below_frozen hb1 hc2 hf2))
      go_wp2
      go_roundw
      case rel =>
        have hh2' := heap_setCell_same w1 (w.heap.size + 1 + 1) k _ _ (.int .u32 (n32 (apply m (at32 m k)))) (below_heap hb1 hh2)
        rw [accK_set m hm k hlt] at hh2'
        exact ⟨k + 1, by omega, by go_num, far_heap (by show w.heap.size ≠ w.heap.size + 1 + 1; omega) (below_heap hb1 hh0), far_heap (by show w.heap.size + 1 ≠ w.heap.size + 1 + 1; omega) (below_heap hb1 hh1), hh2',
          (below_then hb (undrew hb1)).setCell (by show w.heap.size ≤ w.heap.size + 1 + 1; omega) _⟩
      case measure => simp [intOf]; omega
    · obtain rfl : k = 32 := by omega
      rw [accK_all m hm] at hh2
      have H2 := Go.Lib.hid hh2
      have H1 := Go.Lib.hid hh1
      clear hh0 hh1 hh2
      have hsz1 : (Arr (twice m)).size = 32 := by rw [Arr_size]; simp [twice, hm]
      have hsz2 : (Arr zeros32).size = 32 := by rw [Arr_size]; rfl
      have HZ := Go.Lib.hid hsz1
      have HZ2 := Go.Lib.hid hsz2
      clear hsz1 hsz2
      go_wp2_with (first
        | (with_reducible refine wpList_load_arr rfl 73 (.tmp 3) rfl (w.heap.size + 1 + 1) rfl H2.out Tryd.underlying73 rfl (by rw [HZ.out]; kernel_rfl) ?_)
        | (with_reducible refine wpList_store_arr rfl 73 (.tmp 2) (.tmp 16) rfl (w.heap.size + 1) (Arr (twice m)) rfl rfl H1.out (by rw [HZ.out, HZ2.out]) (by rw [HZ.out]; kernel_rfl) (Arr_one _) ?_; intro w2 hw2 hfar hszw hbel))
      refine bodyPost_ret (results_cell_row (p := 2) (ty := 73) rfl _ w2 (w.heap.size + 1) _ _ _ _ rfl hw2 Tryd.underlying73 rfl (by rw [HZ.out]; kernel_rfl)) rfl ?_
      exact ⟨rfl, hbel _ _ hb (by omega)⟩

/-- the one in place k -/
def one (k : Nat) : UInt32 := (1 : UInt32) <<< UInt32.ofNat k
theorem one_eq (k : Nat) (hk : k < 32) : (2 : Int) ^ k % 4294967296 = n32 (one k) := by
  have h2 : (2 : Nat) ^ k < 2 ^ 32 := Nat.pow_lt_pow_right (by decide) hk
  have h1 : (one k).toNat = 2 ^ k := by
    unfold one
    rw [UInt32.toNat_shiftLeft, UInt32.toNat_ofNat_of_lt' (by show k < 4294967296; omega), Nat.mod_eq_of_lt hk, Nat.shiftLeft_eq]
    simp; omega
  unfold n32
  rw [h1]
  have h3 : ((2 : Int) ^ k) = ((2 ^ k : Nat) : Int) := by simp
  rw [h3]
  omega
/-- what f makes of the ones below place k; 0 from there on -/
def baseK (f : UInt32 → UInt32) (k : Nat) : List UInt32 := (List.range k).map (fun i => f (one i)) ++ List.replicate (32 - k) 0
/-- the map f in its matrix -/
def base (f : UInt32 → UInt32) : List UInt32 := (List.range 32).map fun i => f (one i)
theorem baseK_zero (f : UInt32 → UInt32) : baseK f 0 = zeros32 := by simp [baseK, zeros32]
theorem baseK_all (f : UInt32 → UInt32) : baseK f 32 = base f := by simp [baseK, base]
theorem baseK_length (f : UInt32 → UInt32) (k : Nat) (hk : k ≤ 32) : (baseK f k).length = 32 := by simp [baseK]; omega
theorem base_length (f : UInt32 → UInt32) : (base f).length = 32 := by simp [base]
theorem twice_length (m : List UInt32) : (twice m).length = m.length := by simp [twice]
theorem baseK_set (f : UInt32 → UInt32) (k : Nat) (hk : k < 32) : (Arr (baseK f k)).setIfInBounds k (.int .u32 (n32 (f (one k)))) = Arr (baseK f (k + 1)) := by
  have hd : 32 - k = (32 - (k + 1)) + 1 := by omega
  have e : (baseK f k).set k (f (one k)) = baseK f (k + 1) := by
    unfold baseK
    rw [hd, List.replicate_succ, List.set_append_right _ _ (by simp), List.length_map, List.length_range, Nat.sub_self, List.set_cons_zero, List.range_succ, List.map_append, List.append_assoc]
    rfl
  rw [← e]
  unfold Arr
  rw [List.map_set]
  simp
/-- the map m so often as n says, by squaring -/
def moveLoop : Nat → List UInt32 → UInt32 → Int → UInt32
  | 0, _, x, _ => x
  | f + 1, m, x, n => if 0 < n then moveLoop f (twice m) (if n % 2 == 1 then apply m x else x) (n / 2) else x
def movedR (x : UInt32) (n : Int) : UInt32 := moveLoop 64 (base (stepsR 8)) x n

set_option maxRecDepth 100000 in
set_option maxHeartbeats 1600000 in
theorem movedR_calls (x : UInt32) (n : Int) (w : World) (hn1 : -9223372036854775808 ≤ n) (hn2 : n ≤ 9223372036854775807) :
    Calls Tryd.prog 68 #[.int .u32 (n32 x), .int .i64 n] w fun e w' => e = .returned (.int .u32 (n32 (movedR x n))) ∧ Below w.heap.size w w' := by
  go_enter Tryd.func68, Tryd.ntmps68
  go_wp2
  go_loopw [6] (fun i wr => ∃ k : Nat, k ≤ 32 ∧ i = .int .i64 (k : Int) ∧ wr.heap[w.heap.size]? = some (.cells (Arr (baseK (stepsR 8) k)) 73 (0, 0)) ∧ Below w.heap.size w wr) (fun i _ => 32 - (intOf i).toNat)
  case atStart => exact ⟨0, by omega, rfl, by rw [baseK_zero]; exact heap_here _ _ _ rfl, (Below.refl _ _).alloc (Nat.le_refl _) _⟩
  case round =>
    obtain ⟨k, hk, rfl, hh0, hb⟩ := hrel
    by_cases hlt : k < 32
    · have hi : (k : Int) < 32 := by omega
      have hc := Arr_cell hh0 k (by rw [baseK_length _ k hk]; exact hlt)
      have hf := heap_frozen hh0 k
      have hone := Go.Lib.hid (one_eq k hlt)
      have H0 := Go.Lib.hid hh0
      clear hh0
      obtain ⟨wo, rfl⟩ : ∃ wo : World, wo = wr := ⟨_, rfl⟩
      go_wp2
      go_loop [7, 8] (fun y j => ∃ (m : Nat) (z : UInt32), m ≤ 8 ∧ j = .int .i64 ((8 - m : Nat) : Int) ∧ y = .int .u32 (n32 z) ∧ Hid (stepsR m z = stepsR 8 (one k))) (fun _ j => 8 - (intOf j).toNat)
      case atStart => exact ⟨8, one k, Nat.le_refl _, rfl, by rw [hone.out], rfl⟩
      case round =>
        obtain ⟨m, z, hm, rfl, rfl, HZ⟩ := hrel
        cases m with
        | zero =>
          go_wp2
          go_roundw
          case rel =>
            have hh := heap_setCell_same wo w.heap.size k _ _ (.int .u32 (n32 (stepsR 8 (one k)))) H0.out
            rw [baseK_set _ k hlt, ← HZ.out] at hh
            exact ⟨k + 1, by omega, by go_num, hh, hb.setCell (by show w.heap.size ≤ w.heap.size; omega) _⟩
          case measure => simp [intOf]; omega
        | succ m =>
          have h1 : ((8 - (m + 1) : Nat) : Int) < 8 := by omega
          have h2 : 0 ≤ ((8 - (m + 1) : Nat) : Int) := by omega
          go_wp2_with (go_at_call 47; refine (stepR_calls z _).mono ?_; rintro e w' ⟨rfl, rfl⟩)
          go_round
          case rel =>
            refine ⟨m, stepR z, by omega, ?_, rfl, HZ⟩
            congr 1; omega
          case measure => simp [intOf]; omega
    · rw [show k = 32 by omega, baseK_all] at hh0
      obtain ⟨wo, rfl⟩ : ∃ wo : World, wo = wr := ⟨_, rfl⟩
      go_wp2
      go_loopw [0, 1] (fun y i wr => ∃ (f : Nat) (m : List UInt32) (z : UInt32) (n' : Int), m.length = 32 ∧ -9223372036854775808 ≤ n' ∧ n' ≤ 9223372036854775807 ∧ i = .int .i64 n' ∧ y = .int .u32 (n32 z) ∧ Hid (n' < 2 ^ f) ∧
         Hid (moveLoop f m z n' = movedR x n) ∧ wr.heap[w.heap.size]? = some (.cells (Arr m) 73 (0, 0)) ∧ Below w.heap.size w wr) (fun _ i _ => (intOf i).toNat)
      case atStart => exact ⟨64, _, x, n, base_length _, hn1, hn2, rfl, rfl, by show n < 2 ^ 64; omega, rfl, hh0, hb⟩
      case round =>
        obtain ⟨f, m, z, n', hm, h1, h2, rfl, rfl, HF, HM, hh, hb'⟩ := hrel
        have H0 := Go.Lib.hid hh
        have HL := Go.Lib.hid hm
        clear hh0 hb hh hm hn1 hn2
        by_cases hpos : 0 < n'
        · cases hp : (n' % 2 == 1)
          · have HP := Go.Lib.hid hp
            go_wp2_with (first | (with_reducible refine wpList_load_arr rfl 73 (.tmp 5) rfl w.heap.size rfl H0.out Tryd.underlying73 rfl (by rw [Arr_size, HL.out]; kernel_rfl) ?_))
            refine (twiceR_calls m HL.out _).mono ?_
            rintro e w2 ⟨rfl, hb2⟩
            have H2 := Go.Lib.hid (below_heap hb2 H0.out)
            go_wp2_with (first | (with_reducible refine wpList_store_arr rfl 73 (.tmp 5) (.tmp 34) rfl w.heap.size (Arr (twice m)) rfl rfl H2.out (by rw [Arr_size, Arr_size, twice_length]) (by rw [Arr_size, twice_length, HL.out]; kernel_rfl) (Arr_one _) ?_; intro w3 hw3 hfar hszw hbel))
            go_roundw
            case rel =>
              refine ⟨f - 1, twice m, _, n' / 2, by rw [twice_length]; exact HL.out, by omega, by omega, rfl, rfl, ?_, ?_, hw3, hbel _ _ (below_then hb' hb2) (Nat.le_refl _)⟩
              · have := HF.out
                cases f with
                | zero => exact absurd HF.out (by show ¬ n' < 2 ^ 0; omega)
                | succ f => exact show n' / 2 < 2 ^ f by rw [Int.pow_succ] at this; omega
              · cases f with
                | zero => exact absurd HF.out (by show ¬ n' < 2 ^ 0; omega)
                | succ f =>
                  refine Eq.trans ?_ HM.out
                  rw [Nat.add_sub_cancel, moveLoop, if_pos hpos, HP.out]
                  rfl
            case measure => simp [intOf]; omega

          · have HP := Go.Lib.hid hp
            go_wp2_with (first | (with_reducible refine wpList_load_arr rfl 73 (.tmp 5) rfl w.heap.size rfl H0.out Tryd.underlying73 rfl (by rw [Arr_size, HL.out]; kernel_rfl) ?_))
            refine (applyR_calls m HL.out z _).mono ?_
            rintro e w1 ⟨rfl, hb1⟩
            have H1 := Go.Lib.hid (below_heap hb1 H0.out)
            go_wp2_with (first | (with_reducible refine wpList_load_arr rfl 73 (.tmp 5) rfl w.heap.size rfl H1.out Tryd.underlying73 rfl (by rw [Arr_size, HL.out]; kernel_rfl) ?_))
            refine (twiceR_calls m HL.out _).mono ?_
            rintro e w2 ⟨rfl, hb2⟩
            have H2 := Go.Lib.hid (below_heap hb2 H1.out)
            go_wp2_with (first | (with_reducible refine wpList_store_arr rfl 73 (.tmp 5) (.tmp 34) rfl w.heap.size (Arr (twice m)) rfl rfl H2.out (by rw [Arr_size, Arr_size, twice_length]) (by rw [Arr_size, twice_length, HL.out]; kernel_rfl) (Arr_one _) ?_; intro w3 hw3 hfar hszw hbel))
            go_roundw
            case rel =>
              refine ⟨f - 1, twice m, _, n' / 2, by rw [twice_length]; exact HL.out, by omega, by omega, rfl, rfl, ?_, ?_, hw3, hbel _ _ (below_then (below_then hb' hb1) hb2) (Nat.le_refl _)⟩
              · have := HF.out
                cases f with
                | zero => exact absurd HF.out (by show ¬ n' < 2 ^ 0; omega)
                | succ f => exact show n' / 2 < 2 ^ f by rw [Int.pow_succ] at this; omega
              · cases f with
                | zero => exact absurd HF.out (by show ¬ n' < 2 ^ 0; omega)
                | succ f =>
                  refine Eq.trans ?_ HM.out
                  rw [Nat.add_sub_cancel, moveLoop, if_pos hpos, HP.out]
                  rfl
            case measure => simp [intOf]; omega

        · go_wp2
          go_ret
          refine ⟨?_, hb'⟩
          rw [← HM.out]
          cases f with
          | zero => rfl
          | succ f => rw [moveLoop, if_neg (by omega)]; rfl

theorem joinR_calls (x y : UInt32) (n : Int) (w : World) (hn1 : -9223372036854775808 ≤ n) (hn2 : n ≤ 9223372036854775807) :
    Calls Tryd.prog 44 #[.int .u32 (n32 x), .int .u32 (n32 y), .int .i64 n] w fun e w' => e = .returned (.int .u32 (n32 (movedR x n ^^^ y))) ∧ Below w.heap.size w w' := by
  go_enter Tryd.func44, Tryd.ntmps44
  go_wp2_with (go_at_call 68; refine (movedR_calls x n _ hn1 hn2).mono ?_; rintro e w1 ⟨rfl, hb1⟩)
  go_ret
  exact ⟨rfl, hb1⟩

/-! the program's -/
def shrN (x : UInt32) : Nat → UInt32
  | 0 => x
  | k + 1 => shrN x k >>> 1
def ofK (m : List UInt32) (x : UInt32) : Nat → UInt32
  | 0 => 0
  | k + 1 => if shrN x k &&& 1 == 1 then ofK m x k ^^^ at32 m k else ofK m x k
theorem shrN_toNat (x : UInt32) (k : Nat) : (shrN x k).toNat = x.toNat >>> k := by
  induction k with
  | zero => rfl
  | succ k ih => rw [shrN, UInt32.toNat_shiftRight, ih]; simp [Nat.shiftRight_add]
theorem shrN_32 (x : UInt32) : shrN x 32 = 0 := by
  apply UInt32.toNat_inj.1
  rw [shrN_toNat, Nat.shiftRight_eq_div_pow]
  have := x.toNat_lt
  exact Nat.div_eq_of_lt this
theorem shrN_stays (x : UInt32) (k j : Nat) (h : shrN x k = 0) : shrN x (k + j) = 0 := by
  induction j with
  | zero => exact h
  | succ j ih => rw [← Nat.add_assoc, shrN, ih]; rfl
theorem ofK_stays (m : List UInt32) (x : UInt32) (k j : Nat) (h : shrN x k = 0) : ofK m x (k + j) = ofK m x k := by
  induction j with
  | zero => rfl
  | succ j ih => rw [← Nat.add_assoc, ofK, shrN_stays x k j h, ih]; rfl

set_option maxHeartbeats 400000 in
theorem of_calls (m : List UInt32) (hm : m.length = 32) (x : UInt32) (g : Nat) (w : World) (hg : w.heap[g]? = some (.cells (Arr m) 74 (0, 0))) :
    Calls Tryd.prog 45 #[.pointer (some ⟨g, 0, none⟩), .int .u32 (n32 x)] w fun e w' => e = .returned (.int .u32 (n32 (ofK m x 32))) ∧ w' = w := by
  have H0 := Go.Lib.hid hg
  clear hg
  go_enter Tryd.func45, Tryd.ntmps45
  go_wp2
  go_loop [1, 5, 6] (fun v y i => ∃ k : Nat, k ≤ 32 ∧ i = .int .i64 (k : Int) ∧ v = .int .u32 (n32 (shrN x k)) ∧ y = .int .u32 (n32 (ofK m x k))) (fun _ _ i => 32 - (intOf i).toNat)
  case atStart => exact ⟨0, by omega, rfl, rfl, rfl⟩
  case round =>
    obtain ⟨k, hk, rfl, rfl, rfl⟩ := hrel
    cases hz : shrN x k == 0
    · have hlt : k < 32 := by
        rcases Nat.lt_or_ge k 32 with h | h
        · exact h
        · obtain rfl : k = 32 := by omega
          rw [shrN_32] at hz
          exact absurd hz (by decide)
      have hcell := Arr_cell H0.out k (by omega)
      have HS := Go.Lib.hid (show ofK m x (k + 1) = if shrN x k &&& 1 == 1 then ofK m x k ^^^ at32 m k else ofK m x k from rfl)
      have HT := Go.Lib.hid (show shrN x (k + 1) = shrN x k >>> 1 from rfl)
      generalize ofK m x k = y at *
      generalize shrN x k = v at *
      have hz' : (v != 0) = true := by simp only [bne, hz]; rfl
      clear hz
      cases hb : v &&& 1 == 1
      all_goals
        have HB := Go.Lib.hid hb
        go_wp2
        go_round
        case rel => exact ⟨k + 1, by omega, by go_num, by rw [HT.out], by rw [HS.out, HB.out]; rfl⟩
        case measure => simp [intOf]; omega
    · have HZ := Go.Lib.hid (eq_of_beq hz)
      have hz' : (shrN x k != 0) = false := by simp only [bne, hz]; rfl
      clear hz
      go_wp2
      go_ret
      refine ⟨?_, rfl⟩
      have := ofK_stays m x k (32 - k) HZ.out
      rw [show k + (32 - k) = 32 by omega] at this
      rw [this]; rfl

/-- what 'twice' of the program has laid behind k rounds -/
def twiceS (m : List UInt32) : List UInt32 := m.map fun x => ofK m x 32
def acc2K (m : List UInt32) (k : Nat) : List UInt32 := (m.take k).map (fun x => ofK m x 32) ++ List.replicate (32 - k) 0
theorem acc2K_length (m : List UInt32) (hm : m.length = 32) (k : Nat) (hk : k ≤ 32) : (acc2K m k).length = 32 := by simp [acc2K]; omega
theorem acc2K_zero (m : List UInt32) : acc2K m 0 = zeros32 := by simp [acc2K, zeros32]
theorem acc2K_all (m : List UInt32) (hm : m.length = 32) : acc2K m 32 = twiceS m := by simp [acc2K, twiceS, ← hm]
theorem acc2K_set (m : List UInt32) (hm : m.length = 32) (k : Nat) (hk : k < 32) : (Arr (acc2K m k)).setIfInBounds k (.int .u32 (n32 (ofK m (at32 m k) 32))) = Arr (acc2K m (k + 1)) := by
  have hd : 32 - k = (32 - (k + 1)) + 1 := by omega
  have hlen : ((m.take k).map (fun x => ofK m x 32)).length = k := by simp; omega
  have e : (acc2K m k).set k (ofK m (at32 m k) 32) = acc2K m (k + 1) := by
    unfold acc2K
    rw [hd, List.replicate_succ, List.set_append_right _ _ (by omega), hlen, Nat.sub_self, List.set_cons_zero, List.take_succ_eq_append_getElem (by omega), List.map_append, List.append_assoc]
    simp [at32, hm, hk]
  rw [← e]
  unfold Arr
  rw [List.map_set]
  simp

set_option maxRecDepth 100000 in
set_option maxHeartbeats 1600000 in
theorem twice_calls (m : List UInt32) (hm : m.length = 32) (w : World) :
    Calls Tryd.prog 46 #[.agg (Arr m)] w fun e w' => e = .returned (.agg (Arr (twiceS m))) ∧ Below w.heap.size w w' := by
  go_enter Tryd.func46, Tryd.ntmps46
  go_wp2
  go_loopw [5] (fun i wr => ∃ k : Nat, k ≤ 32 ∧ i = .int .i64 (k : Int) ∧ wr.heap[w.heap.size]? = some (.cells (Arr m) 74 (0, 0)) ∧ wr.heap[w.heap.size + 1]? = some (.cells (Arr zeros32) 74 (0, 0)) ∧
      wr.heap[w.heap.size + 1 + 1]? = some (.cells (Arr (acc2K m k)) 74 (0, 0)) ∧ Below w.heap.size w wr) (fun i _ => 32 - (intOf i).toNat)
  case atStart =>
    exact ⟨0, by omega, rfl, heap_before _ _ _ _ (by simp only [World.size_alloc]; omega) (heap_before _ _ _ _ (by simp only [World.size_alloc]; omega) (heap_here _ _ _ rfl)),
      heap_before _ _ _ _ (by simp only [World.size_alloc]; omega) (heap_here _ _ _ (by simp only [World.size_alloc])), by rw [acc2K_zero]; exact heap_here _ _ _ (by simp only [World.size_alloc]), (((Below.refl _ _).alloc (Nat.le_refl _) _).alloc (by simp) _).alloc (by simp; omega) _⟩
  case round =>
    obtain ⟨k, hk, rfl, hh0, hh1, hh2, hb⟩ := hrel
    have H0 := Go.Lib.hid hh0
    have H1 := Go.Lib.hid hh1
    have H2 := Go.Lib.hid hh2
    clear hh0 hh1 hh2
    by_cases hlt : k < 32
    · have hc := Arr_cell H0.out k (by omega)
      have hc2 := Arr_cell H2.out k (by rw [acc2K_length m hm k hk]; exact hlt)
      have hf2 := heap_frozen H2.out k
      have hi : (k : Int) < 32 := by omega
      go_wp2_with fail
      refine (of_calls m hm (at32 m k) w.heap.size _ H0.out).mono ?_
      rintro e w1 ⟨rfl, rfl⟩
      go_wp2
      go_roundw
      case rel =>
        have hh2' := heap_setCell_same w1 (w.heap.size + 1 + 1) k _ _ (.int .u32 (n32 (ofK m (at32 m k) 32))) H2.out
        rw [acc2K_set m hm k hlt] at hh2'
        exact ⟨k + 1, by omega, by go_num, far_heap (by show w.heap.size ≠ w.heap.size + 1 + 1; omega) H0.out, far_heap (by show w.heap.size + 1 ≠ w.heap.size + 1 + 1; omega) H1.out, hh2',
          hb.setCell (by show w.heap.size ≤ w.heap.size + 1 + 1; omega) _⟩
      case measure => simp [intOf]; omega
    · have H2' : Hid (wr.heap[w.heap.size + 1 + 1]? = some (.cells (Arr (twiceS m)) 74 (0, 0))) := by
        have := H2.out
        rw [show k = 32 by omega, acc2K_all m hm] at this
        exact this
      have HZ : Hid ((Arr (twiceS m)).size = 32) := by show (Arr (twiceS m)).size = 32; rw [Arr_size]; simp [twiceS, hm]
      have HZ2 : Hid ((Arr zeros32).size = 32) := by show (Arr zeros32).size = 32; rw [Arr_size]; rfl
      go_wp2_with (first
        | (with_reducible refine wpList_load_arr rfl 74 (.tmp 3) rfl (w.heap.size + 1 + 1) rfl H2'.out Tryd.underlying74 rfl (by rw [HZ.out]; kernel_rfl) ?_)
        | (with_reducible refine wpList_store_arr rfl 74 (.tmp 2) (.tmp 15) rfl (w.heap.size + 1) (Arr (twiceS m)) rfl rfl H1.out (by rw [HZ.out, HZ2.out]) (by rw [HZ.out]; kernel_rfl) (Arr_one _) ?_; intro w2 hw2 hfar hszw hbel))
      refine bodyPost_ret (results_cell_row (p := 2) (ty := 74) rfl _ w2 (w.heap.size + 1) _ _ _ _ rfl hw2 Tryd.underlying74 rfl (by rw [HZ.out]; kernel_rfl)) rfl ?_
      exact ⟨rfl, hbel _ _ hb (by omega)⟩

def twoHalves (x : UInt32) : UInt32 := half (half x)
/-- the map m so often as n says, by squaring, as the program does it -/
def joinLoop : Nat → List UInt32 → UInt32 → Int → UInt32
  | 0, _, x, _ => x
  | f + 1, m, x, n => if 0 < n then joinLoop f (twiceS m) (if n % 2 == 1 then ofK m x 32 else x) (n / 2) else x
def joinS (x y : UInt32) (n : Int) : UInt32 := if n < 1 then x ^^^ y else joinLoop 64 (base twoHalves) x n ^^^ y
def halfN : Nat → UInt32 → UInt32
  | 0, x => x
  | n + 1, x => halfN n (half x)
theorem twiceS_length (m : List UInt32) : (twiceS m).length = m.length := by simp [twiceS]

set_option maxRecDepth 100000 in
set_option maxHeartbeats 1600000 in
theorem join_calls (x y : UInt32) (n : Int) (w : World) (hT : Tab w) (hn1 : -9223372036854775808 ≤ n) (hn2 : n ≤ 9223372036854775807) :
    Calls Tryd.prog 20 #[.int .u32 (n32 x), .int .u32 (n32 y), .int .i64 n] w fun e w' => e = .returned (.int .u32 (n32 (joinS x y n))) ∧ Below w.heap.size w w' := by
  by_cases hpos : n < 1
  · have HP := Go.Lib.hid (show joinS x y n = x ^^^ y by unfold joinS; rw [if_pos hpos])
    go_enter Tryd.func20, Tryd.ntmps20
    go_wp2
    go_ret
    exact ⟨by rw [HP.out]; rfl, Below.refl _ _⟩
  have HP := Go.Lib.hid (show joinS x y n = joinLoop 64 (base twoHalves) x n ^^^ y by unfold joinS; rw [if_neg hpos])
  go_enter Tryd.func20, Tryd.ntmps20
  go_wp2
  go_loopw [15] (fun i wr => ∃ k : Nat, k ≤ 32 ∧ i = .int .i64 (k : Int) ∧ wr.heap[w.heap.size]? = some (.cells (Arr (baseK twoHalves k)) 74 (0, 0)) ∧ Below w.heap.size w wr) (fun i _ => 32 - (intOf i).toNat)
  case atStart => exact ⟨0, by omega, rfl, by rw [baseK_zero]; exact heap_here _ _ _ rfl, (Below.refl _ _).alloc (Nat.le_refl _) _⟩
  case round =>
    obtain ⟨k, hk, rfl, hh0, hb⟩ := hrel
    have hT' : Tab wr := fun v => below_cell hb (hT v)
    by_cases hlt : k < 32
    · have hi : (k : Int) < 32 := by omega
      have hc := Arr_cell hh0 k (by rw [baseK_length _ k hk]; exact hlt)
      have hf := heap_frozen hh0 k
      have hone := Go.Lib.hid (one_eq k hlt)
      have H0 := Go.Lib.hid hh0
      clear hh0
      clear hT
      obtain ⟨wo, rfl⟩ : ∃ wo : World, wo = wr := ⟨_, rfl⟩
      go_wp2
      go_loop [9, 20] (fun y j => ∃ (m : Nat) (z : UInt32), m ≤ 2 ∧ j = .int .i64 ((2 - m : Nat) : Int) ∧ y = .int .u32 (n32 z) ∧ Hid (halfN m z = halfN 2 (one k))) (fun _ j => 2 - (intOf j).toNat)
      case atStart => exact ⟨2, one k, Nat.le_refl _, rfl, by rw [hone.out], rfl⟩
      case round =>
        obtain ⟨m, z, hm, rfl, rfl, HZ⟩ := hrel
        cases m with
        | zero =>
          go_wp2
          go_roundw
          case rel =>
            have hh := heap_setCell_same wo w.heap.size k _ _ (.int .u32 (n32 (twoHalves (one k)))) H0.out
            rw [baseK_set _ k hlt, show twoHalves (one k) = z from HZ.out.symm] at hh
            exact ⟨k + 1, by omega, by go_num, hh, hb.setCell (by show w.heap.size ≤ w.heap.size; omega) _⟩
          case measure => simp [intOf]; omega
        | succ m =>
          have h1 : ((2 - (m + 1) : Nat) : Int) < 2 := by omega
          have h2 : 0 ≤ ((2 - (m + 1) : Nat) : Int) := by omega
          have ht := hT' z
          go_wp2
          go_round
          case rel =>
            refine ⟨m, half z, by omega, ?_, rfl, HZ⟩
            congr 1; omega
          case measure => simp [intOf]; omega
    · rw [show k = 32 by omega, baseK_all] at hh0
      clear hT hT'
      obtain ⟨wo, rfl⟩ : ∃ wo : World, wo = wr := ⟨_, rfl⟩
      go_wp2
      go_loopw [0, 2] (fun y i wr => ∃ (f : Nat) (m : List UInt32) (z : UInt32) (n' : Int), m.length = 32 ∧ -9223372036854775808 ≤ n' ∧ n' ≤ 9223372036854775807 ∧ i = .int .i64 n' ∧ y = .int .u32 (n32 z) ∧ Hid (n' < 2 ^ f) ∧
         Hid (joinLoop f m z n' = joinLoop 64 (base twoHalves) x n) ∧ wr.heap[w.heap.size]? = some (.cells (Arr m) 74 (0, 0)) ∧ Below w.heap.size w wr) (fun _ i _ => (intOf i).toNat)
      case atStart => exact ⟨64, _, x, n, base_length _, hn1, hn2, rfl, rfl, by show n < 2 ^ 64; omega, rfl, hh0, hb⟩
      case round =>
        obtain ⟨f, m, z, n', hm, h1, h2, rfl, rfl, HF, HM, hh, hb'⟩ := hrel
        have H0 := Go.Lib.hid hh
        have HL := Go.Lib.hid hm
        clear hh0 hb hh hm hn1 hn2 hpos
        by_cases hpos : 0 < n'
        · have hand := and_i64_1 n' (by omega) h2
          cases hp : (n' % 2 == 1)
          · have HP := Go.Lib.hid hp
            go_wp2_with (first | (with_reducible refine wpList_load_arr rfl 74 (.tmp 7) rfl w.heap.size rfl H0.out Tryd.underlying74 rfl (by rw [Arr_size, HL.out]; kernel_rfl) ?_))
            refine (twice_calls m HL.out _).mono ?_
            rintro e w2 ⟨rfl, hb2⟩
            have H2 := Go.Lib.hid (below_heap hb2 H0.out)
            go_wp2_with (first | (with_reducible refine wpList_store_arr rfl 74 (.tmp 7) (.tmp 44) rfl w.heap.size (Arr (twiceS m)) rfl rfl H2.out (by rw [Arr_size, Arr_size, twiceS_length]) (by rw [Arr_size, twiceS_length, HL.out]; kernel_rfl) (Arr_one _) ?_; intro w3 hw3 hfar hszw hbel))
            go_roundw
            case rel =>
              refine ⟨f - 1, twiceS m, _, n' / 2, by rw [twiceS_length]; exact HL.out, by omega, by omega, rfl, rfl, ?_, ?_, hw3, hbel _ _ (below_then hb' hb2) (Nat.le_refl _)⟩
              · have := HF.out
                cases f with
                | zero => exact absurd HF.out (by show ¬ n' < 2 ^ 0; omega)
                | succ f => exact show n' / 2 < 2 ^ f by rw [Int.pow_succ] at this; omega
              · cases f with
                | zero => exact absurd HF.out (by show ¬ n' < 2 ^ 0; omega)
                | succ f =>
                  refine Eq.trans ?_ HM.out
                  rw [Nat.add_sub_cancel, joinLoop, if_pos hpos, HP.out]
                  rfl
            case measure => simp [intOf]; omega
          · have HP := Go.Lib.hid hp
            go_wp2_with (first | (go_at_call 45; refine (of_calls m HL.out z w.heap.size _ H0.out).mono ?_; rintro e w1 ⟨rfl, rfl⟩) | (with_reducible refine wpList_load_arr rfl 74 (.tmp 7) rfl w.heap.size rfl H0.out Tryd.underlying74 rfl (by rw [Arr_size, HL.out]; kernel_rfl) ?_))
            refine (twice_calls m HL.out _).mono ?_
            rintro e w2 ⟨rfl, hb2⟩
            have H2 := Go.Lib.hid (below_heap hb2 H0.out)
            go_wp2_with (first | (with_reducible refine wpList_store_arr rfl 74 (.tmp 7) (.tmp 44) rfl w.heap.size (Arr (twiceS m)) rfl rfl H2.out (by rw [Arr_size, Arr_size, twiceS_length]) (by rw [Arr_size, twiceS_length, HL.out]; kernel_rfl) (Arr_one _) ?_; intro w3 hw3 hfar hszw hbel))
            go_roundw
            case rel =>
              refine ⟨f - 1, twiceS m, _, n' / 2, by rw [twiceS_length]; exact HL.out, by omega, by omega, rfl, rfl, ?_, ?_, hw3, hbel _ _ (below_then hb' hb2) (Nat.le_refl _)⟩
              · have := HF.out
                cases f with
                | zero => exact absurd HF.out (by show ¬ n' < 2 ^ 0; omega)
                | succ f => exact show n' / 2 < 2 ^ f by rw [Int.pow_succ] at this; omega
              · cases f with
                | zero => exact absurd HF.out (by show ¬ n' < 2 ^ 0; omega)
                | succ f =>
                  refine Eq.trans ?_ HM.out
                  rw [Nat.add_sub_cancel, joinLoop, if_pos hpos, HP.out]
                  rfl
            case measure => simp [intOf]; omega
        · go_wp2
          go_ret
          refine ⟨?_, hb'⟩
          rw [HP.out, ← HM.out]
          cases f with
          | zero => rfl
          | succ f => rw [joinLoop, if_neg (by omega)]; rfl
end Go.Proofs.YtjkocjkfedcdoaaDoor
