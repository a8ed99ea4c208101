/- Plain law: what PutNumber writes is what Number reads, and nothing else is. -/
import Derived.Test.YtonfeppenhebjaaDoorPackR
namespace Go.Proofs.YtonfeppenhebjaaDoor
open Go Go.RowKit
set_option linter.unusedVariables false
set_option linter.unusedSimpArgs false

theorem or_128 (v : UInt64) : (v.toUInt8 ||| 128).toNat = 128 + v.toNat % 128 := by
  rw [UInt8.toNat_or, show (128 : UInt8).toNat = 128 by decide, show v.toUInt8.toNat = v.toNat % 256 by simp]
  have h : ∀ k, k < 256 → k ||| 128 = 128 + k % 128 := by decide +kernel
  rw [h _ (Nat.mod_lt _ (by decide))]
  omega
theorem shr7_nat (v : UInt64) : (v >>> 7).toNat = v.toNat / 128 := by
  rw [UInt64.toNat_shiftRight, show (7 : UInt64).toNat % 64 = 7 by decide, Nat.shiftRight_eq_div_pow]
theorem gt127_nat (v : UInt64) : (127 < v) ↔ 127 < v.toNat := by
  rw [UInt64.lt_iff_toNat_lt, show (127 : UInt64).toNat = 127 by decide]
theorem and127_nat (u : UInt8) : (u.toUInt64 &&& 127).toNat = u.toNat % 128 := by
  rw [UInt64.toNat_and, show (127 : UInt64).toNat = 2 ^ 7 - 1 by decide, Nat.and_two_pow_sub_one_eq_mod]
  simp

/-- one group more -/
theorem grp_add (i : Nat) (x : UInt64) (u : UInt8) (hi : i ≤ 9) (hx : x.toNat < 2 ^ (7 * i)) (h9 : i = 9 → u.toNat ≤ 1) :
    (x ||| shl (u.toUInt64 &&& 127) (7 * i)).toNat = x.toNat + (u.toNat % 128) * 2 ^ (7 * i) := by
  have hlt : (u.toNat % 128) * 2 ^ (7 * i) < 2 ^ 64 := by
    by_cases h : i = 9
    · subst h
      have := h9 rfl
      have e : u.toNat % 128 ≤ 1 := by omega
      calc _ ≤ 1 * 2 ^ (7 * 9) := Nat.mul_le_mul_right _ e
        _ < 2 ^ 64 := by decide
    · have e : u.toNat % 128 < 2 ^ 7 := by have := Nat.mod_lt u.toNat (show 128 > 0 by decide); omega
      calc _ < 2 ^ 7 * 2 ^ (7 * i) := Nat.mul_lt_mul_of_pos_right e (Nat.pos_of_ne_zero (by simp))
        _ = 2 ^ (7 + 7 * i) := (Nat.pow_add _ _ _).symm
        _ ≤ 2 ^ 64 := Nat.pow_le_pow_right (by decide) (by omega)
  rw [UInt64.toNat_or, shl, UInt64.toNat_ofNat', and127_nat, Nat.mod_eq_of_lt hlt, Nat.or_comm, ← Nat.shiftLeft_eq, ← Nat.shiftLeft_add_eq_or_of_lt hx, Nat.shiftLeft_eq]
  omega
theorem grp_lt (i a b : Nat) (ha : a < 2 ^ (7 * i)) (hb : b < 128) : a + b * 2 ^ (7 * i) < 2 ^ (7 * (i + 1)) := by
  have e : 2 ^ (7 * (i + 1)) = 128 * 2 ^ (7 * i) := by rw [show 7 * (i + 1) = 7 + 7 * i by omega, Nat.pow_add]
  rw [e]
  calc a + b * 2 ^ (7 * i) < 2 ^ (7 * i) + b * 2 ^ (7 * i) := by omega
    _ = (b + 1) * 2 ^ (7 * i) := by rw [Nat.add_mul, Nat.one_mul, Nat.add_comm]
    _ ≤ 128 * 2 ^ (7 * i) := Nat.mul_le_mul_right _ (by omega)

theorem numS_small (v : UInt64) (n : Nat) (h : v.toNat ≤ 127) : numS v n = [v.toUInt8] := by
  cases n with
  | zero => rfl
  | succ n => rw [numS, if_neg (by rw [gt127_nat]; omega)]

theorem grp_inr (b : List UInt8) : ∀ (i : Nat) (x y : UInt64) (rest : List UInt8), i ≤ 9 → x.toNat < 2 ^ (7 * i) → grp i x b = .inr (y, rest) →
    ∃ v : UInt64, b = numS v (9 - i) ++ rest ∧ y.toNat = x.toNat + v.toNat * 2 ^ (7 * i) ∧ (i = 0 ∨ v.toNat ≠ 0) := by
  induction b with
  | nil => intro i x y rest _ _ h; cases h
  | cons u l ih =>
    intro i x y rest hi hx h
    rw [grp] at h
    by_cases hbad : (i = 9 ∧ 1 < u) ∨ (0 < i ∧ u = 0)
    · rw [if_pos hbad] at h; cases h
    rw [if_neg hbad] at h
    have hu9 : i = 9 → u.toNat ≤ 1 := by
      intro h9
      have : ¬ 1 < u := fun h => hbad (.inl ⟨h9, h⟩)
      rw [UInt8.lt_iff_toNat_lt, show (1 : UInt8).toNat = 1 by decide] at this
      omega
    have hu0 : 0 < i → u.toNat ≠ 0 := by
      intro h0 hz
      exact hbad (.inr ⟨h0, UInt8.toNat_inj.1 hz⟩)
    have hadd := grp_add i x u hi hx hu9
    by_cases hlt : u < 128
    · rw [if_pos hlt] at h
      have hlt' : u.toNat < 128 := by rw [UInt8.lt_iff_toNat_lt] at hlt; exact hlt
      cases h
      refine ⟨u.toUInt64, ?_, ?_, ?_⟩
      · rw [numS_small _ _ (by simp; omega)]
        simp
      · rw [hadd, Nat.mod_eq_of_lt hlt']
        simp
      · rcases Nat.eq_zero_or_pos i with h0 | h0
        · exact .inl h0
        · right; have := hu0 h0; simpa using this
    · rw [if_neg hlt] at h
      have hge : 128 ≤ u.toNat := by rw [UInt8.lt_iff_toNat_lt, show (128 : UInt8).toNat = 128 by decide] at hlt; omega
      have hi8 : i ≤ 8 := by
        rcases Nat.lt_or_ge i 9 with h | h
        · omega
        · have := hu9 (by omega); omega
      obtain ⟨v', hl, hy, hv⟩ := ih (i + 1) _ y rest (by omega) (by rw [hadd]; exact grp_lt i _ _ hx (Nat.mod_lt _ (by decide))) h
      have hv0 : v'.toNat ≠ 0 := by rcases hv with h | h <;> omega
      have hp : 2 ^ (7 * (i + 1)) = 128 * 2 ^ (7 * i) := by rw [show 7 * (i + 1) = 7 + 7 * i by omega, Nat.pow_add]
      have hsum : y.toNat = x.toNat + (u.toNat % 128 + 128 * v'.toNat) * 2 ^ (7 * i) := by
        rw [hy, hadd, hp, Nat.add_mul, Nat.add_assoc, Nat.mul_comm 128 v'.toNat, Nat.mul_assoc]
      have hbound : u.toNat % 128 + 128 * v'.toNat < 2 ^ 64 := by
        have h1 := y.toNat_lt
        have h2 : (u.toNat % 128 + 128 * v'.toNat) * 1 ≤ (u.toNat % 128 + 128 * v'.toNat) * 2 ^ (7 * i) := Nat.mul_le_mul_left _ (Nat.pos_of_ne_zero (by simp))
        omega
      have hvn : (UInt64.ofNat (u.toNat % 128 + 128 * v'.toNat)).toNat = u.toNat % 128 + 128 * v'.toNat := by
        rw [UInt64.toNat_ofNat', Nat.mod_eq_of_lt hbound]
      generalize UInt64.ofNat (u.toNat % 128 + 128 * v'.toNat) = v at *
      refine ⟨v, ?_, by rw [hsum, hvn], .inr (by rw [hvn]; omega)⟩
      rw [show 9 - i = (9 - (i + 1)) + 1 by omega, numS, if_pos (by rw [gt127_nat, hvn]; omega)]
      have e1 : v.toUInt8 ||| 128 = u := by
        apply UInt8.toNat_inj.1
        rw [or_128, hvn]
        have := u.toNat_lt
        omega
      have e2 : v >>> 7 = v' := by
        apply UInt64.toNat_inj.1
        rw [shr7_nat, hvn]
        omega
      rw [e1, e2, hl]
      rfl

theorem grp_numS (tail : List UInt8) : ∀ (n i : Nat) (v x : UInt64), i + n = 9 → v.toNat < 2 ^ (64 - 7 * i) → x.toNat < 2 ^ (7 * i) → (i = 0 ∨ v.toNat ≠ 0) →
    ∃ y : UInt64, grp i x (numS v n ++ tail) = .inr (y, tail) ∧ y.toNat = x.toNat + v.toNat * 2 ^ (7 * i) := by
  have small : ∀ (n i : Nat) (v x : UInt64), i + n = 9 → v.toNat < 2 ^ (64 - 7 * i) → x.toNat < 2 ^ (7 * i) → (i = 0 ∨ v.toNat ≠ 0) → v.toNat ≤ 127 →
      ∃ y : UInt64, grp i x (numS v n ++ tail) = .inr (y, tail) ∧ y.toNat = x.toNat + v.toNat * 2 ^ (7 * i) := by
    intro n i v x hin hv hx h0 hs
    rw [numS_small v n hs]
    have hu : v.toUInt8.toNat = v.toNat := by simp; omega
    have hu9 : i = 9 → v.toUInt8.toNat ≤ 1 := by intro h; subst h; rw [hu]; omega
    have hbad : ¬ ((i = 9 ∧ 1 < v.toUInt8) ∨ (0 < i ∧ v.toUInt8 = 0)) := by
      rintro (⟨h9, h⟩ | ⟨hi, h⟩)
      · rw [UInt8.lt_iff_toNat_lt, show (1 : UInt8).toNat = 1 by decide] at h
        have := hu9 h9; omega
      · have := congrArg UInt8.toNat h
        rw [hu, show (0 : UInt8).toNat = 0 by decide] at this
        omega
    have hlt : v.toUInt8 < 128 := by rw [UInt8.lt_iff_toNat_lt, hu, show (128 : UInt8).toNat = 128 by decide]; omega
    refine ⟨x ||| shl (v.toUInt8.toUInt64 &&& 127) (7 * i), ?_, ?_⟩
    · rw [List.singleton_append, grp, if_neg hbad, if_pos hlt]
    · rw [grp_add i x _ (by omega) hx hu9, hu, Nat.mod_eq_of_lt (by omega)]
  intro n
  induction n with
  | zero =>
    intro i v x hin hv hx h0
    refine small 0 i v x hin hv hx h0 ?_
    obtain rfl : i = 9 := by omega
    omega
  | succ n ih =>
    intro i v x hin hv hx h0
    by_cases hs : v.toNat ≤ 127
    · exact small (n + 1) i v x hin hv hx h0 hs
    rw [numS, if_pos (by rw [gt127_nat]; omega), List.cons_append, grp]
    have hu := or_128 v
    generalize v.toUInt8 ||| 128 = u at *
    have hbad : ¬ ((i = 9 ∧ 1 < u) ∨ (0 < i ∧ u = 0)) := by
      rintro (⟨h9, h⟩ | ⟨hi, h⟩)
      · omega
      · have := congrArg UInt8.toNat h
        rw [hu, show (0 : UInt8).toNat = 0 by decide] at this
        omega
    have hlt : ¬ u < 128 := by rw [UInt8.lt_iff_toNat_lt, hu, show (128 : UInt8).toNat = 128 by decide]; omega
    rw [if_neg hbad, if_neg hlt]
    have hadd := grp_add i x u (by omega) hx (fun h => by omega)
    have hm : u.toNat % 128 = v.toNat % 128 := by rw [hu]; omega
    have hb : (v >>> 7).toNat < 2 ^ (64 - 7 * (i + 1)) := by
      rw [shr7_nat, Nat.div_lt_iff_lt_mul (by decide)]
      have : 2 ^ (64 - 7 * (i + 1)) * 128 = 2 ^ (64 - 7 * i) := by rw [show (128 : Nat) = 2 ^ 7 by decide, ← Nat.pow_add]; congr 1; omega
      rw [this]; exact hv
    obtain ⟨y, hy, hyn⟩ := ih (i + 1) (v >>> 7) _ (by omega) hb (by rw [hadd]; exact grp_lt i _ _ hx (Nat.mod_lt _ (by decide))) (.inr (by rw [shr7_nat]; omega))
    refine ⟨y, hy, ?_⟩
    have hp : 2 ^ (7 * (i + 1)) = 128 * 2 ^ (7 * i) := by rw [show 7 * (i + 1) = 7 + 7 * i by omega, Nat.pow_add]
    rw [hyn, hadd, hm, shr7_nat, hp, Nat.add_assoc, ← Nat.mul_assoc, ← Nat.add_mul]
    congr 2
    omega

/-- what is read without a fault is what PutNumber writes -/
theorem number_form {b rest : List UInt8} {y : UInt64} (h : numberS b = (y, rest, 0)) : b = numS y 9 ++ rest := by
  unfold numberS at h
  cases hg : grp 0 0 b with
  | inl f =>
    rw [hg] at h
    simp only [Prod.mk.injEq] at h
    have : ∀ (b : List UInt8) (i : Nat) (x : UInt64) (f : Nat), grp i x b = .inl f → f ≠ 0 := by
      intro b
      induction b with
      | nil => intro i x f h; cases h; decide
      | cons u l ih =>
        intro i x f h
        rw [grp] at h
        split at h
        · cases h; decide
        · split at h
          · cases h
          · exact ih _ _ _ h
    exact absurd h.2.2 (this b 0 0 f hg)
  | inr p =>
    obtain ⟨x, l⟩ := p
    rw [hg] at h
    simp only [Prod.mk.injEq] at h
    obtain ⟨rfl, rfl, _⟩ := h
    obtain ⟨v, hb, hv, _⟩ := grp_inr b 0 0 x l (by decide) (by decide) hg
    have : x = v := UInt64.toNat_inj.1 (by rw [hv]; simp)
    rw [this]; exact hb
/-- what PutNumber writes is read back -/
theorem number_back (x : UInt64) (tail : List UInt8) : numberS (numS x 9 ++ tail) = (x, tail, 0) := by
  obtain ⟨y, hy, hyn⟩ := grp_numS tail 9 0 x 0 rfl (by have := x.toNat_lt; simpa using this) (by decide) (.inl rfl)
  unfold numberS
  rw [hy]
  have : y = x := UInt64.toNat_inj.1 (by rw [hyn]; simp)
  rw [this]
theorem number_fault {b rest : List UInt8} {y : UInt64} {f : Nat} (h : numberS b = (y, rest, f)) (hf : f ≠ 0) : y = 0 ∧ rest = b ∧ ∀ x, (numS x 9).length ≤ b.length → numS x 9 ≠ b.take (numS x 9).length := by
  have h' := h
  unfold numberS at h
  cases hg : grp 0 0 b with
  | inr p => rw [hg] at h; simp only [Prod.mk.injEq] at h; exact absurd h.2.2.symm hf
  | inl k =>
    rw [hg] at h
    simp only [Prod.mk.injEq] at h
    refine ⟨h.1.symm, h.2.1.symm, fun x hl he => ?_⟩
    have e : b = numS x 9 ++ b.drop (numS x 9).length := by
      conv => lhs; rw [← List.take_append_drop (numS x 9).length b, ← he]
    rw [e, number_back] at h'
    simp only [Prod.mk.injEq] at h'
    exact hf h'.2.2.symm
theorem numS_length (x : UInt64) (n : Nat) : (numS x n).length ≤ n + 1 := by
  induction n generalizing x with
  | zero => simp [numS]
  | succ n ih => rw [numS]; split <;> simp; exact ih _
theorem fault_le (b : List UInt8) : (numberS b).2.2 = 0 ∨ (numberS b).2.2 = 1 ∨ (numberS b).2.2 = 2 := by
  unfold numberS
  cases hg : grp 0 0 b with
  | inr p => exact .inl rfl
  | inl k =>
    right
    have : ∀ (b : List UInt8) (i : Nat) (x : UInt64) (f : Nat), grp i x b = .inl f → f = 1 ∨ f = 2 := by
      intro b
      induction b with
      | nil => intro i x f h; cases h; exact .inl rfl
      | cons u l ih =>
        intro i x f h
        rw [grp] at h
        split at h
        · cases h; exact .inr rfl
        · split at h
          · cases h
          · exact ih _ _ _ h
    exact this b 0 0 k hg
end Go.Proofs.YtonfeppenhebjaaDoor
