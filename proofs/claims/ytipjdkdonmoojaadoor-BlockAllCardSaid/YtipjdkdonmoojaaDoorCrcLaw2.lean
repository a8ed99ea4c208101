/- Plain laws of CRC-32C: moving on by squaring is moving on step by step; cuts, moves, zeros, turned bytes. No program here. -/
import Derived.Test.YtipjdkdonmoojaaDoorCrcLaw
namespace Go.Proofs.YtipjdkdonmoojaaDoor
set_option linter.unusedVariables false
set_option linter.unusedSimpArgs false

/-! a matrix made of a linear map does what the map does -/
theorem one_toNat (k : Nat) (hk : k < 32) : (one k).toNat = 2 ^ k := by
  have h2 : (2 : Nat) ^ k < 2 ^ 32 := Nat.pow_lt_pow_right (by decide) hk
  unfold one
  rw [UInt32.toNat_shiftLeft, UInt32.toNat_ofNat_of_lt' (by show k < 4294967296; omega), Nat.mod_eq_of_lt hk, Nat.shiftLeft_eq]
  simp; omega
def low (x : UInt32) (k : Nat) : UInt32 := UInt32.ofNat (x.toNat % 2 ^ k)
theorem low_toNat (x : UInt32) (k : Nat) : (low x k).toNat = x.toNat % 2 ^ k := by
  unfold low
  rw [UInt32.toNat_ofNat_of_lt']
  exact Nat.lt_of_le_of_lt (Nat.mod_le _ _) x.toNat_lt
theorem low_succ (x : UInt32) (k : Nat) (hk : k < 32) : low x (k + 1) = if x.toNat.testBit k then low x k ^^^ one k else low x k := by
  apply UInt32.toNat_inj.1
  rw [low_toNat]
  apply Nat.eq_of_testBit_eq
  intro i
  rw [Nat.testBit_mod_two_pow]
  cases hb : x.toNat.testBit k
  · rw [if_neg (by decide), low_toNat, Nat.testBit_mod_two_pow]
    by_cases h : i = k
    · subst h; simp [hb]
    · have : (i < k + 1) ↔ (i < k) := by omega
      simp [this]
  · rw [if_pos rfl, UInt32.toNat_xor, low_toNat, one_toNat k hk, Nat.testBit_xor, Nat.testBit_mod_two_pow, Nat.testBit_two_pow]
    by_cases h : i = k
    · subst h; simp [hb]
    · have : (i < k + 1) ↔ (i < k) := by omega
      simp [this, Ne.symm h]
theorem low_all (x : UInt32) : low x 32 = x := by
  apply UInt32.toNat_inj.1
  rw [low_toNat]
  exact Nat.mod_eq_of_lt x.toNat_lt
theorem at_base (f : UInt32 → UInt32) (k : Nat) (hk : k < 32) : at32 (base f) k = f (one k) := by
  unfold at32 base
  simp [hk]
theorem applyK_base (f : UInt32 → UInt32) (hf : ∀ a b, f (a ^^^ b) = f a ^^^ f b) (h0 : f 0 = 0) (x : UInt32) (k : Nat) (hk : k ≤ 32) : applyK (base f) x k = f (low x k) := by
  induction k with
  | zero =>
    have : low x 0 = 0 := by
      apply UInt32.toNat_inj.1
      rw [low_toNat]; simp [Nat.mod_one]
    rw [this, h0]; rfl
  | succ k ih =>
    rw [applyK, ih (by omega), bitK_eq, at_base f k (by omega), low_succ x k (by omega)]
    split
    · rw [hf]
    · rfl
theorem apply_base (f : UInt32 → UInt32) (hf : ∀ a b, f (a ^^^ b) = f a ^^^ f b) (h0 : f 0 = 0) (x : UInt32) : apply (base f) x = f x := by
  unfold apply
  rw [applyK_base f hf h0 x 32 (Nat.le_refl _), low_all]
theorem twice_base (f : UInt32 → UInt32) (hf : ∀ a b, f (a ^^^ b) = f a ^^^ f b) (h0 : f 0 = 0) : twice (base f) = base (fun x => f (f x)) := by
  unfold twice
  conv => lhs; arg 2; unfold base
  rw [List.map_map]
  unfold base
  apply List.map_congr_left
  intro i _
  show apply (base f) (f (one i)) = _
  rw [apply_base f hf h0]
theorem moveLoop_steps (f : Nat) : ∀ (k : Nat) (x : UInt32) (n : Int), n < 2 ^ f → moveLoop f (base (stepsR k)) x n = stepsR (k * n.toNat) x := by
  induction f with
  | zero =>
    intro k x n hn
    have : n.toNat = 0 := by omega
    rw [this]; rfl
  | succ f ih =>
    intro k x n hn
    rw [moveLoop]
    split
    · rename_i hpos
      rw [twice_base _ (stepsR_xor k) (stepsR_zero k), show (fun x => stepsR k (stepsR k x)) = stepsR (k + k) from funext fun x => (stepsR_add k k x).symm,
        apply_base _ (stepsR_xor k) (stepsR_zero k), ih _ _ _ (by rw [Int.pow_succ] at hn; omega)]
      cases hp : n % 2 == 1
      · have h2 : ¬ n % 2 = 1 := by simpa using hp
        obtain ⟨m, rfl⟩ : ∃ m : Int, n = 2 * m := ⟨n / 2, by omega⟩
        have e1 : (2 * m / 2 : Int) = m := by omega
        have e2 : (2 * m).toNat = 2 * m.toNat := by omega
        rw [if_neg (by decide), e1, e2]
        congr 1
        rw [← Nat.mul_assoc, Nat.mul_comm k 2, Nat.two_mul]
      · have h2 : n % 2 = 1 := by simpa using hp
        obtain ⟨m, rfl⟩ : ∃ m : Int, n = 2 * m + 1 := ⟨n / 2, by omega⟩
        have e1 : ((2 * m + 1) / 2 : Int) = m := by omega
        have e2 : (2 * m + 1).toNat = 1 + 2 * m.toNat := by omega
        rw [if_pos rfl, e1, e2, ← stepsR_add]
        congr 1
        rw [Nat.mul_add, Nat.mul_one, ← Nat.mul_assoc, Nat.mul_comm k 2, Nat.two_mul]
    · have : n.toNat = 0 := by omega
      rw [this]; rfl
/-- moving on by n bytes of zeros is 8 * n steps -/
theorem movedR_steps (x : UInt32) (n : Int) (hn : n ≤ 9223372036854775807) : movedR x n = stepsR (8 * n.toNat) x := by
  unfold movedR
  exact moveLoop_steps 64 8 x n (by omega)

/-! bytes -/
def run (x : UInt32) (l : List UInt8) : UInt32 := l.foldl feedR x
theorem addR_run (s : UInt32) (l : List UInt8) : addR s l = ~~~ run (~~~ s) l := rfl
theorem run_append (x : UInt32) (a b : List UInt8) : run x (a ++ b) = run (run x a) b := by unfold run; rw [List.foldl_append]
theorem run_xor (l : List UInt8) : ∀ x y, run (x ^^^ y) l = run x l ^^^ stepsR (8 * l.length) y := by
  induction l with
  | nil => intro x y; rfl
  | cons c l ih =>
    intro x y
    show run (feedR (x ^^^ y) c) l = run (feedR x c) l ^^^ _
    have : feedR (x ^^^ y) c = feedR x c ^^^ stepsR 8 y := by
      unfold feedR
      rw [← stepsR_xor]
      congr 1
      rw [UInt32.xor_assoc, UInt32.xor_comm y, ← UInt32.xor_assoc]
    rw [this, ih, ← stepsR_add, List.length_cons, Nat.mul_succ, Nat.add_comm]
theorem not_xor (a b : UInt32) : ~~~ (a ^^^ b) = ~~~ a ^^^ b := by
  apply UInt32.toBitVec_inj.1
  simp only [UInt32.toBitVec_not, UInt32.toBitVec_xor]
  ext i hi
  simp
theorem not_not32 (a : UInt32) : ~~~ (~~~ a) = a := by
  apply UInt32.toBitVec_inj.1
  simp
/-- sums of pieces whose sums alone are known -/
theorem addR_moved (s : UInt32) (l : List UInt8) (hl : l.length ≤ 9223372036854775807) : addR s l = movedR s (l.length : Int) ^^^ addR 0 l := by
  rw [movedR_steps s _ (by omega), addR_run, addR_run]
  have h : ~~~ s = ~~~ (0 : UInt32) ^^^ s := by rw [← not_xor, UInt32.zero_xor]
  rw [h, run_xor, not_xor, UInt32.xor_comm]
  simp
theorem addR_addR (s : UInt32) (a b : List UInt8) : addR (addR s a) b = addR s (a ++ b) := by
  rw [addR_run, addR_run, addR_run, not_not32, run_append]
theorem sumOfR_flat (ls : List (List UInt8)) : ∀ s, ls.foldl addR s = addR s ls.flatten := by
  induction ls with
  | nil => intro s; show s = addR s []; rw [addR_run]; exact (not_not32 s).symm
  | cons a ls ih => intro s; rw [List.foldl_cons, ih, addR_addR, List.flatten_cons]

/-! up to four bytes are one word -/
def word : List UInt8 → Nat
  | [] => 0
  | b :: d => b.toNat + 256 * word d
theorem word_lt (d : List UInt8) : word d < 256 ^ d.length := by
  induction d with
  | nil => decide
  | cons b d ih =>
    have := b.toNat_lt
    rw [word, List.length_cons, Nat.pow_succ]
    omega
theorem word_inj : ∀ (d e : List UInt8), d.length = e.length → word d = word e → d = e
  | [], [], _, _ => rfl
  | b :: d, c :: e, hl, h => by
    have h1 := b.toNat_lt
    have h2 := c.toNat_lt
    simp only [word] at h
    have : b = c := UInt8.toNat_inj.1 (by omega)
    rw [this, word_inj d e (by simpa using hl) (by omega)]
theorem steps8_shl (y : Nat) (hy : y < 16777216) : stepsR 8 (UInt32.ofNat (256 * y)) = UInt32.ofNat y := by
  apply UInt32.toNat_inj.1
  rw [UInt32.toNat_ofNat_of_lt' (show y < 4294967296 by omega)]
  have e : (UInt32.ofNat (256 * y)).toNat = 2 * (2 * (2 * (2 * (2 * (2 * (2 * (2 * y))))))) := by
    rw [UInt32.toNat_ofNat_of_lt' (show 256 * y < 4294967296 by omega)]; omega
  exact stepR_even _ _ (stepR_even _ _ (stepR_even _ _ (stepR_even _ _ (stepR_even _ _ (stepR_even _ _ (stepR_even _ _ (stepR_even _ _ e)))))))
theorem ofNat_word (b : UInt8) (y : Nat) (hy : y < 16777216) : UInt32.ofNat (b.toNat + 256 * y) = b.toUInt32 ^^^ UInt32.ofNat (256 * y) := by
  apply UInt32.toNat_inj.1
  have hb := b.toNat_lt
  rw [UInt32.toNat_ofNat_of_lt' (show b.toNat + 256 * y < 4294967296 by omega), UInt32.toNat_xor, UInt32.toNat_ofNat_of_lt' (show 256 * y < 4294967296 by omega), UInt8.toNat_toUInt32]
  apply Nat.eq_of_testBit_eq
  intro i
  have e : b.toNat + 256 * y = 2 ^ 8 * y + b.toNat := by omega
  have e2 : 256 * y = 2 ^ 8 * y + 0 := by omega
  rw [Nat.testBit_xor, e, Nat.testBit_two_pow_mul_add y hb, e2, Nat.testBit_two_pow_mul_add y (by decide)]
  by_cases hi : i < 8
  · simp [hi]
  · have : b.toNat.testBit i = false := Nat.testBit_lt_two_pow (Nat.lt_of_lt_of_le hb (Nat.pow_le_pow_right (by decide) (Nat.le_of_not_lt hi)))
    simp [hi, this]
theorem run_word (d : List UInt8) : ∀ (x : UInt32), d.length ≤ 4 → run x d = stepsR (8 * d.length) (x ^^^ UInt32.ofNat (word d)) := by
  induction d with
  | nil => intro x _; show x = x ^^^ UInt32.ofNat 0; rw [show UInt32.ofNat 0 = 0 from rfl, UInt32.xor_zero]
  | cons b d ih =>
    intro x hl
    have hl' : d.length ≤ 3 := by simpa using hl
    have hw : word d < 16777216 := Nat.lt_of_lt_of_le (word_lt d) (Nat.pow_le_pow_right (by decide) hl')
    show run (feedR x b) d = _
    rw [ih _ (by omega), word, ofNat_word b _ hw, List.length_cons, Nat.mul_succ, Nat.add_comm, stepsR_add]
    congr 1
    unfold feedR
    rw [← UInt32.xor_assoc, stepsR_xor 8 (x ^^^ b.toUInt32), steps8_shl _ hw]
/-- two lists that differ within four bytes side by side alone have unlike sums -/
theorem turned (p d e s : List UInt8) (hl : d.length = e.length) (h4 : d.length ≤ 4) (hne : d ≠ e) : addR 0 (p ++ d ++ s) ≠ addR 0 (p ++ e ++ s) := by
  intro h
  apply hne
  rw [addR_run, addR_run] at h
  have h1 := congrArg (fun x => ~~~ x) h
  simp only [not_not32] at h1
  rw [run_append, run_append, run_append, run_append] at h1
  have hinj : ∀ (l : List UInt8) (x y : UInt32), run x l = run y l → x = y := by
    intro l x y hxy
    have : run (x ^^^ (x ^^^ y)) l = run x l ^^^ stepsR (8 * l.length) (x ^^^ y) := run_xor l x (x ^^^ y)
    rw [xor_cancel, ← hxy] at this
    have h2 := congrArg (run x l ^^^ ·) this
    simp only [xor_cancel, UInt32.xor_self] at h2
    have h3 := stepsR_inj0 _ _ h2.symm
    have h4 := congrArg (x ^^^ ·) h3
    simpa [xor_cancel] using h4.symm
  have h2 := hinj _ _ _ h1
  rw [run_word d _ h4, run_word e _ (by omega), ← hl] at h2
  have h3 := stepsR_inj _ _ _ h2
  have h5 := congrArg (run (~~~ 0) p ^^^ ·) h3
  simp only [xor_cancel] at h5
  have h6 := congrArg UInt32.toNat h5
  have b1 : word d < 4294967296 := Nat.lt_of_lt_of_le (word_lt d) (show 256 ^ d.length ≤ 256 ^ 4 from Nat.pow_le_pow_right (by decide) h4)
  have b2 : word e < 4294967296 := Nat.lt_of_lt_of_le (word_lt e) (show 256 ^ e.length ≤ 256 ^ 4 from Nat.pow_le_pow_right (by decide) (by omega))
  rw [UInt32.toNat_ofNat_of_lt' b1, UInt32.toNat_ofNat_of_lt' b2] at h6
  exact word_inj d e hl h6
/-- bytes with their own sum behind them have one sum -/
theorem own_sum (s : UInt32) (b0 b1 b2 b3 : UInt8) (h : UInt32.ofNat (word [b0, b1, b2, b3]) = s) : addR s [b0, b1, b2, b3] = 0x48674bc7 := by
  rw [addR_run, run_word _ _ (by simp), h]
  have : ~~~ s ^^^ s = 0xffffffff := by rw [← not_xor, UInt32.xor_self]; rfl
  rw [this]
  show ~~~ stepsR 32 0xffffffff = _
  decide +kernel
end Go.Proofs.YtipjdkdonmoojaaDoor
