/- The walks of package crc and its reference over arrays of 32 numbers. -/
import Derived.Test.YtipjdkdonmoojaaDoorCrcWalk
import Derived.Laws.Rows
import Derived.Deep.RegionHeld3
import Derived.Deep.MidRow
import Derived.KernelRfl
namespace Go.Proofs.YtipjdkdonmoojaaDoor
open Go Go.RowKit
set_option linter.unusedVariables false
set_option linter.unusedSimpArgs false
attribute [local go_sem] beq_n32_0 bne_n32_0 n32_self mod32_2 div32_2 beq_n32_1 xor32_poly xor32 and32 or32 not32 shr32_4 shr32_1 and32_15 and32_1 c8_32 n32_nonneg n32_and15_lt beq_n32

/-- an array of numbers as the model's cells -/
def Arr (m : List UInt32) : Array Value := (m.map fun x => Value.int .u32 (n32 x)).toArray
theorem Arr_size (m : List UInt32) : (Arr m).size = m.length := by simp [Arr]
theorem Arr_one (m : List UInt32) : (Arr m).all (·.oneCell') = true := by simp [Arr, Value.oneCell']
/-- the number in place i, behind a name -/
def at32 (m : List UInt32) (i : Nat) : UInt32 := m.getD i 0
theorem Arr_get (m : List UInt32) (i : Nat) (h : i < m.length) : (Arr m)[i]? = some (.int .u32 (n32 (at32 m i))) := by
  simp [Arr, at32, h]
theorem Arr_cell {w : World} {g t : Nat} {m : List UInt32} (h : w.heap[g]? = some (.cells (Arr m) t (0, 0))) (i : Nat) (hi : i < m.length) : w.cell? ⟨g, i, none⟩ = some (.int .u32 (n32 (at32 m i))) := by
  rw [cell_of_row w g i _ _ _ h, Arr_get m i hi]
/-- the same as a list -/
def ArrL (m : List UInt32) : List Value := m.map fun x => Value.int .u32 (n32 x)
theorem ArrL_toArray (m : List UInt32) : (ArrL m).toArray = Arr m := rfl
theorem ArrL_length (m : List UInt32) : (ArrL m).length = m.length := by simp [ArrL]
theorem Arr_range {w : World} {g t : Nat} {m : List UInt32} (h : w.heap[g]? = some (.cells (Arr m) t (0, 0))) : w.rangeAt g 0 (ArrL m) := by
  intro j v hv
  rw [cell_of_row w g _ _ _ _ h, Nat.zero_add, ← ArrL_toArray]
  simpa using hv
/-- 32 zeros, as 'alloc' lays them -/
def zeros32 : List UInt32 := List.replicate 32 0

/-- is there a one in place k of x? (spelt as the walk spells it) -/
def bitK (x : UInt32) (k : Nat) : Bool := (n32 x / 2 ^ k).tmod 2 == 1
/-- what the numbers m give for the ones of x in the places below k -/
def applyK (m : List UInt32) (x : UInt32) : Nat → UInt32
  | 0 => 0
  | k + 1 => if bitK x k then applyK m x k ^^^ at32 m k else applyK m x k
def apply (m : List UInt32) (x : UInt32) : UInt32 := applyK m x 32

def twice (m : List UInt32) : List UInt32 := m.map (apply m)
/-- what 'twice' has laid behind k rounds -/
def accK (m : List UInt32) (k : Nat) : List UInt32 := (m.take k).map (apply m) ++ List.replicate (32 - k) 0
theorem accK_length (m : List UInt32) (hm : m.length = 32) (k : Nat) (hk : k ≤ 32) : (accK m k).length = 32 := by simp [accK]; omega
theorem accK_zero (m : List UInt32) : accK m 0 = zeros32 := by simp [accK, zeros32]
theorem accK_all (m : List UInt32) (hm : m.length = 32) : accK m 32 = twice m := by simp [accK, twice, ← hm]
theorem accK_set (m : List UInt32) (hm : m.length = 32) (k : Nat) (hk : k < 32) : (Arr (accK m k)).setIfInBounds k (.int .u32 (n32 (apply m (at32 m k)))) = Arr (accK m (k + 1)) := by
  have hd : 32 - k = (32 - (k + 1)) + 1 := by omega
  have hlen : ((m.take k).map (apply m)).length = k := by simp; omega
  have e : (accK m k).set k (apply m (at32 m k)) = accK m (k + 1) := by
    unfold accK
    rw [hd, List.replicate_succ, List.set_append_right _ _ (by omega), hlen, Nat.sub_self, List.set_cons_zero, List.take_succ_eq_append_getElem (by omega), List.map_append, List.append_assoc]
    simp [at32, hm, hk]
  rw [← e]
  unfold Arr
  rw [List.map_set]
  simp

/-- the one in place k -/
def one (k : Nat) : UInt32 := (1 : UInt32) <<< UInt32.ofNat k
theorem one_eq (k : Nat) (hk : k < 32) : (2 : Int) ^ k % 4294967296 = n32 (one k) := by
  have h2 : (2 : Nat) ^ k < 2 ^ 32 := Nat.pow_lt_pow_right (by decide) hk
  have h1 : (one k).toNat = 2 ^ k := by
    unfold one
    rw [UInt32.toNat_shiftLeft, UInt32.toNat_ofNat_of_lt' (by show k < 4294967296; omega), Nat.mod_eq_of_lt hk, Nat.shiftLeft_eq]
    simp; omega
  unfold n32
  rw [h1]
  have h3 : ((2 : Int) ^ k) = ((2 ^ k : Nat) : Int) := by simp
  rw [h3]
  omega
/-- what f makes of the ones below place k; 0 from there on -/
def baseK (f : UInt32 → UInt32) (k : Nat) : List UInt32 := (List.range k).map (fun i => f (one i)) ++ List.replicate (32 - k) 0
/-- the map f in its matrix -/
def base (f : UInt32 → UInt32) : List UInt32 := (List.range 32).map fun i => f (one i)
theorem baseK_zero (f : UInt32 → UInt32) : baseK f 0 = zeros32 := by simp [baseK, zeros32]
theorem baseK_all (f : UInt32 → UInt32) : baseK f 32 = base f := by simp [baseK, base]
theorem baseK_length (f : UInt32 → UInt32) (k : Nat) (hk : k ≤ 32) : (baseK f k).length = 32 := by simp [baseK]; omega
theorem base_length (f : UInt32 → UInt32) : (base f).length = 32 := by simp [base]
theorem twice_length (m : List UInt32) : (twice m).length = m.length := by simp [twice]
theorem baseK_set (f : UInt32 → UInt32) (k : Nat) (hk : k < 32) : (Arr (baseK f k)).setIfInBounds k (.int .u32 (n32 (f (one k)))) = Arr (baseK f (k + 1)) := by
  have hd : 32 - k = (32 - (k + 1)) + 1 := by omega
  have e : (baseK f k).set k (f (one k)) = baseK f (k + 1) := by
    unfold baseK
    rw [hd, List.replicate_succ, List.set_append_right _ _ (by simp), List.length_map, List.length_range, Nat.sub_self, List.set_cons_zero, List.range_succ, List.map_append, List.append_assoc]
    rfl
  rw [← e]
  unfold Arr
  rw [List.map_set]
  simp
/-- the map m so often as n says, by squaring -/
def moveLoop : Nat → List UInt32 → UInt32 → Int → UInt32
  | 0, _, x, _ => x
  | f + 1, m, x, n => if 0 < n then moveLoop f (twice m) (if n % 2 == 1 then apply m x else x) (n / 2) else x
def movedR (x : UInt32) (n : Int) : UInt32 := moveLoop 64 (base (stepsR 8)) x n

/-! the program's -/
def shrN (x : UInt32) : Nat → UInt32
  | 0 => x
  | k + 1 => shrN x k >>> 1
def ofK (m : List UInt32) (x : UInt32) : Nat → UInt32
  | 0 => 0
  | k + 1 => if shrN x k &&& 1 == 1 then ofK m x k ^^^ at32 m k else ofK m x k
theorem shrN_toNat (x : UInt32) (k : Nat) : (shrN x k).toNat = x.toNat >>> k := by
  induction k with
  | zero => rfl
  | succ k ih => rw [shrN, UInt32.toNat_shiftRight, ih]; simp [Nat.shiftRight_add]
theorem shrN_32 (x : UInt32) : shrN x 32 = 0 := by
  apply UInt32.toNat_inj.1
  rw [shrN_toNat, Nat.shiftRight_eq_div_pow]
  have := x.toNat_lt
  exact Nat.div_eq_of_lt this
theorem shrN_stays (x : UInt32) (k j : Nat) (h : shrN x k = 0) : shrN x (k + j) = 0 := by
  induction j with
  | zero => exact h
  | succ j ih => rw [← Nat.add_assoc, shrN, ih]; rfl
theorem ofK_stays (m : List UInt32) (x : UInt32) (k j : Nat) (h : shrN x k = 0) : ofK m x (k + j) = ofK m x k := by
  induction j with
  | zero => rfl
  | succ j ih => rw [← Nat.add_assoc, ofK, shrN_stays x k j h, ih]; rfl

/-- what 'twice' of the program has laid behind k rounds -/
def twiceS (m : List UInt32) : List UInt32 := m.map fun x => ofK m x 32
def acc2K (m : List UInt32) (k : Nat) : List UInt32 := (m.take k).map (fun x => ofK m x 32) ++ List.replicate (32 - k) 0
theorem acc2K_length (m : List UInt32) (hm : m.length = 32) (k : Nat) (hk : k ≤ 32) : (acc2K m k).length = 32 := by simp [acc2K]; omega
theorem acc2K_zero (m : List UInt32) : acc2K m 0 = zeros32 := by simp [acc2K, zeros32]
theorem acc2K_all (m : List UInt32) (hm : m.length = 32) : acc2K m 32 = twiceS m := by simp [acc2K, twiceS, ← hm]
theorem acc2K_set (m : List UInt32) (hm : m.length = 32) (k : Nat) (hk : k < 32) : (Arr (acc2K m k)).setIfInBounds k (.int .u32 (n32 (ofK m (at32 m k) 32))) = Arr (acc2K m (k + 1)) := by
  have hd : 32 - k = (32 - (k + 1)) + 1 := by omega
  have hlen : ((m.take k).map (fun x => ofK m x 32)).length = k := by simp; omega
  have e : (acc2K m k).set k (ofK m (at32 m k) 32) = acc2K m (k + 1) := by
    unfold acc2K
    rw [hd, List.replicate_succ, List.set_append_right _ _ (by omega), hlen, Nat.sub_self, List.set_cons_zero, List.take_succ_eq_append_getElem (by omega), List.map_append, List.append_assoc]
    simp [at32, hm, hk]
  rw [← e]
  unfold Arr
  rw [List.map_set]
  simp

def twoHalves (x : UInt32) : UInt32 := half (half x)
/-- the map m so often as n says, by squaring, as the program does it -/
def joinLoop : Nat → List UInt32 → UInt32 → Int → UInt32
  | 0, _, x, _ => x
  | f + 1, m, x, n => if 0 < n then joinLoop f (twiceS m) (if n % 2 == 1 then ofK m x 32 else x) (n / 2) else x
def joinS (x y : UInt32) (n : Int) : UInt32 := if n < 1 then x ^^^ y else joinLoop 64 (base twoHalves) x n ^^^ y
def halfN : Nat → UInt32 → UInt32
  | 0, x => x
  | n + 1, x => halfN n (half x)
theorem twiceS_length (m : List UInt32) : (twiceS m).length = m.length := by simp [twiceS]

end Go.Proofs.YtipjdkdonmoojaaDoor
