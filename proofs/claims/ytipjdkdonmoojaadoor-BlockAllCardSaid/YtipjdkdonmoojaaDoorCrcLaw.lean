/- Plain laws of CRC-32C: a step is linear and loses nothing; the program's ways and the reference's come to the same numbers. No program here. -/
import Derived.Test.YtipjdkdonmoojaaDoorCrcArr
namespace Go.Proofs.YtipjdkdonmoojaaDoor
set_option linter.unusedVariables false
set_option linter.unusedSimpArgs false

theorem xor_cancel (a b : UInt32) : a ^^^ (a ^^^ b) = b := by rw [← UInt32.xor_assoc, UInt32.xor_self, UInt32.zero_xor]
def sel (b : Bool) : UInt32 := if b then 0x82f63b78 else 0
theorem sel_xor (a b : Bool) : sel (a ^^ b) = sel a ^^^ sel b := by cases a <;> cases b <;> decide
theorem stepR_sel (x : UInt32) : stepR x = (x >>> 1) ^^^ sel (x % 2 == 1) := by
  have h : x / (2 : UInt32) = x >>> (1 : UInt32) := by
    apply UInt32.toNat_inj.1
    rw [UInt32.toNat_div, UInt32.toNat_shiftRight]
    simp [Nat.shiftRight_eq_div_pow]
  unfold stepR sel
  rw [h]
  cases x % 2 == 1 <;> simp
theorem odd_xor (a b : UInt32) : ((a ^^^ b) % 2 == 1) = ((a % 2 == 1) ^^ (b % 2 == 1)) := by
  have e : ∀ x : UInt32, (x % 2 == 1) = x.toNat.testBit 0 := fun x => by
    rw [Nat.testBit_zero, Bool.eq_iff_iff, beq_iff_eq, ← UInt32.toNat_inj, UInt32.toNat_mod]
    simp
  rw [e, e, e, UInt32.toNat_xor, Nat.testBit_xor]
theorem shr_xor (a b k : UInt32) : (a ^^^ b) >>> k = a >>> k ^^^ b >>> k := by
  apply UInt32.toNat_inj.1
  rw [UInt32.toNat_xor, UInt32.toNat_shiftRight, UInt32.toNat_shiftRight, UInt32.toNat_shiftRight, UInt32.toNat_xor, Nat.shiftRight_xor_distrib]
theorem xor_swap (a b c d : UInt32) : (a ^^^ b) ^^^ (c ^^^ d) = (a ^^^ c) ^^^ (b ^^^ d) := by
  rw [UInt32.xor_assoc, UInt32.xor_assoc, ← UInt32.xor_assoc b, UInt32.xor_comm b c, UInt32.xor_assoc]
/-- a step is linear -/
theorem stepR_xor (a b : UInt32) : stepR (a ^^^ b) = stepR a ^^^ stepR b := by
  rw [stepR_sel, stepR_sel, stepR_sel, shr_xor, odd_xor, sel_xor, xor_swap]
theorem stepsR_xor (n : Nat) : ∀ a b, stepsR n (a ^^^ b) = stepsR n a ^^^ stepsR n b := by
  induction n with
  | zero => intro a b; rfl
  | succ n ih => intro a b; rw [stepsR, stepR_xor, ih]; rfl
theorem stepR_zero : stepR 0 = 0 := by decide
theorem stepsR_zero (n : Nat) : stepsR n 0 = 0 := by
  induction n with
  | zero => rfl
  | succ n ih => rw [stepsR, stepR_zero, ih]
theorem stepsR_add (n m : Nat) : ∀ x, stepsR (n + m) x = stepsR m (stepsR n x) := by
  induction n with
  | zero => intro x; rw [Nat.zero_add]; rfl
  | succ n ih => intro x; rw [Nat.succ_add, stepsR, ih]; rfl
/-- a step loses nothing: what comes to 0 was 0 -/
theorem stepR_inj0 (x : UInt32) (h : stepR x = 0) : x = 0 := by
  rw [stepR_sel] at h
  cases hb : x % 2 == 1
  · rw [hb] at h
    have h1 : x >>> 1 = 0 := by simpa [sel] using h
    have h2 := congrArg UInt32.toNat h1
    rw [UInt32.toNat_shiftRight] at h2
    simp [Nat.shiftRight_eq_div_pow] at h2
    have h3 : ¬ (x % 2) = 1 := by simpa using hb
    apply UInt32.toNat_inj.1
    have h4 : (x % 2).toNat ≠ 1 := fun e => h3 (UInt32.toNat_inj.1 e)
    rw [UInt32.toNat_mod] at h4
    have h5 : (2 : UInt32).toNat = 2 := rfl
    rw [h5] at h4
    show x.toNat = 0
    omega
  · rw [hb] at h
    have h1 : x >>> 1 = 0x82f63b78 := by
      have := congrArg (· ^^^ (0x82f63b78 : UInt32)) h
      simpa [sel, UInt32.xor_assoc] using this
    have h2 := congrArg UInt32.toNat h1
    rw [UInt32.toNat_shiftRight] at h2
    simp [Nat.shiftRight_eq_div_pow] at h2
    have := x.toNat_lt
    omega
theorem stepsR_inj0 (n : Nat) : ∀ x, stepsR n x = 0 → x = 0 := by
  induction n with
  | zero => intro x h; exact h
  | succ n ih => intro x h; exact stepR_inj0 _ (ih _ h)
theorem stepsR_inj (n : Nat) (x y : UInt32) (h : stepsR n x = stepsR n y) : x = y := by
  have : stepsR n (x ^^^ y) = 0 := by rw [stepsR_xor, h, UInt32.xor_self]
  have := stepsR_inj0 n _ this
  have h2 := congrArg (· ^^^ y) this
  simpa [UInt32.xor_assoc] using h2

/-! four steps at once -/
theorem stepR_even (x : UInt32) (m : Nat) (h : x.toNat = 2 * m) : (stepR x).toNat = m := by
  have hb : (x % 2 == 1) = false := by
    rw [beq_eq_false_iff_ne]
    intro e
    have := congrArg UInt32.toNat e
    rw [UInt32.toNat_mod, h] at this
    have h5 : (2 : UInt32).toNat = 2 := rfl
    have h6 : (1 : UInt32).toNat = 1 := rfl
    rw [h5, h6] at this
    omega
  unfold stepR
  rw [hb, if_neg (by decide), UInt32.toNat_div, h]
  have h5 : (2 : UInt32).toNat = 2 := rfl
  rw [h5]
  omega
theorem low4 (x : UInt32) : x = ((x >>> 4) <<< 4) ^^^ (x &&& 15) := by
  apply UInt32.toNat_inj.1
  rw [UInt32.toNat_xor, UInt32.toNat_and, UInt32.toNat_shiftLeft, UInt32.toNat_shiftRight]
  have h4 : (4 : UInt32).toNat % 32 = 4 := by decide
  have h15 : (15 : UInt32).toNat = 2 ^ 4 - 1 := by decide
  have hx := x.toNat_lt
  rw [h4, h15, Nat.and_two_pow_sub_one_eq_mod, Nat.shiftRight_eq_div_pow, Nat.shiftLeft_eq, Nat.mod_eq_of_lt (by omega)]
  apply Nat.eq_of_testBit_eq
  intro i
  rw [Nat.testBit_xor, Nat.testBit_mul_two_pow, Nat.testBit_div_two_pow, Nat.testBit_mod_two_pow]
  by_cases hi : i < 4
  · simp [hi, Nat.not_le.2 hi]
  · simp [hi, Nat.sub_add_cancel (Nat.le_of_not_lt hi), Nat.le_of_not_lt hi]
theorem tab_ok : ∀ i : Fin 16, stepsR 4 (UInt32.ofNat i.val) = tab.getD i.val 0 := by decide
theorem half_eq (x : UInt32) : half x = stepsR 4 x := by
  have h1 : stepsR 4 ((x >>> 4) <<< 4) = x >>> 4 := by
    apply UInt32.toNat_inj.1
    have h4 : (4 : UInt32).toNat % 32 = 4 := by decide
    have hx := x.toNat_lt
    have e : ((x >>> 4) <<< 4).toNat = 2 * (2 * (2 * (2 * (x >>> 4).toNat))) := by
      rw [UInt32.toNat_shiftLeft, UInt32.toNat_shiftRight, h4, Nat.shiftRight_eq_div_pow, Nat.shiftLeft_eq]
      omega
    exact stepR_even _ _ (stepR_even _ _ (stepR_even _ _ (stepR_even _ _ e)))
  have h2 : stepsR 4 (x &&& 15) = nib x := by
    have hlt : (x &&& 15).toNat < 16 := by
      rw [UInt32.toNat_and]
      exact Nat.lt_of_le_of_lt Nat.and_le_right (by decide)
    have := tab_ok ⟨(x &&& 15).toNat, hlt⟩
    rw [UInt32.ofNat_toNat] at this
    exact this
  conv => rhs; rw [low4 x, stepsR_xor, h1, h2]
  rfl
theorem feed_eq (x : UInt32) (c : UInt8) : feed x c = feedR x c := by
  unfold feed feedR
  rw [half_eq, half_eq, ← stepsR_add]
theorem addS_eq (s : UInt32) (l : List UInt8) : addS s l = addR s l := by
  unfold addS addR
  rw [show feed = feedR from funext fun x => funext fun c => feed_eq x c]
theorem sumOfS_eq (ls : List (List UInt8)) : sumOfS ls = sumOfR ls := by
  unfold sumOfS sumOfR
  rw [show addS = addR from funext fun x => funext fun c => addS_eq x c]

/-! the arrays: what a matrix makes of a number -/
theorem bitK_eq (x : UInt32) (k : Nat) : bitK x k = x.toNat.testBit k := by
  unfold bitK n32
  rw [Nat.testBit_eq_decide_div_mod_eq]
  have h : ((x.toNat : Int) / 2 ^ k).tmod 2 = (((x.toNat / 2 ^ k) % 2 : Nat) : Int) := by
    have : ((x.toNat : Int) / 2 ^ k) = ((x.toNat / 2 ^ k : Nat) : Int) := by simp
    rw [this]; rfl
  rw [h, Bool.eq_iff_iff, beq_iff_eq, decide_eq_true_iff]
  omega
theorem shrBit (x : UInt32) (k : Nat) : (shrN x k &&& 1 == 1) = x.toNat.testBit k := by
  rw [Bool.eq_iff_iff, beq_iff_eq, ← UInt32.toNat_inj, UInt32.toNat_and, shrN_toNat]
  have h1 : (1 : UInt32).toNat = 1 := rfl
  rw [h1, Nat.and_one_is_mod, Nat.testBit_eq_decide_div_mod_eq, decide_eq_true_iff, Nat.shiftRight_eq_div_pow]
theorem ofK_eq (m : List UInt32) (x : UInt32) (k : Nat) : ofK m x k = applyK m x k := by
  induction k with
  | zero => rfl
  | succ k ih => rw [ofK, applyK, ih, shrBit, bitK_eq]
theorem of_apply (m : List UInt32) (x : UInt32) : ofK m x 32 = apply m x := ofK_eq m x 32
theorem twiceS_eq (m : List UInt32) : twiceS m = twice m := by
  unfold twiceS twice
  rw [show (fun x => ofK m x 32) = apply m from funext fun x => of_apply m x]
theorem twoHalves_eq : twoHalves = stepsR 8 := by
  funext x
  unfold twoHalves
  rw [half_eq, half_eq, ← stepsR_add]
theorem joinLoop_eq (f : Nat) : ∀ m x n, joinLoop f m x n = moveLoop f m x n := by
  induction f with
  | zero => intro m x n; rfl
  | succ f ih => intro m x n; rw [joinLoop, moveLoop, ih, twiceS_eq, of_apply]
theorem joinS_eq (x y : UInt32) (n : Int) : joinS x y n = movedR x n ^^^ y := by
  unfold joinS movedR
  split
  · rename_i h
    rw [moveLoop, if_neg (by omega)]
  · rw [joinLoop_eq, twoHalves_eq]
end Go.Proofs.YtipjdkdonmoojaaDoor
