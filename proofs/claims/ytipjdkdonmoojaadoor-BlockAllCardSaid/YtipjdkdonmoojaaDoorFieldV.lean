/- Plain law: fields that were put are taken, and what is taken was put. -/
import Derived.Test.YtipjdkdonmoojaaDoorDPackR4
namespace Go.Proofs.YtipjdkdonmoojaaDoor
open Go Go.RowKit
set_option linter.unusedVariables false
set_option linter.unusedSimpArgs false

theorem shl_or (x : UInt64) (b : UInt8) : (x <<< (8 : UInt64)) + b.toUInt64 = (x <<< (8 : UInt64)) ||| b.toUInt64 := by
  apply UInt64.toNat_inj.1
  rw [UInt64.toNat_or, UInt64.toNat_add, UInt64.toNat_shiftLeft, show (8 : UInt64).toNat % 64 = 8 by decide, Nat.shiftLeft_eq]
  have hb : b.toUInt64.toNat < 2 ^ 8 := by have := b.toNat_lt; simp; omega
  generalize b.toUInt64.toNat = y at *
  have p64 : (2 : Nat) ^ 64 = 18446744073709551616 := by decide
  have p56 : (2 : Nat) ^ 56 = 72057594037927936 := by decide
  have p8 : (2 : Nat) ^ 8 = 256 := by decide
  have e1 : x.toNat * 2 ^ 8 % 2 ^ 64 = (x.toNat % 2 ^ 56) <<< 8 := by rw [Nat.shiftLeft_eq, p64, p56, p8]; omega
  rw [e1, ← Nat.shiftLeft_add_eq_or_of_lt hb, Nat.shiftLeft_eq, p64, p56, p8]
  rw [p8] at hb
  have hx : x.toNat % 72057594037927936 < 72057594037927936 := Nat.mod_lt _ (by decide)
  generalize x.toNat % 72057594037927936 = z at *
  exact Nat.mod_eq_of_lt (by omega)
theorem takeS_app (l t : List UInt8) (n : Nat) (hn : l.length = n) : takeS (l ++ t) 0 n = (some l, t, 0) := by
  subst hn
  unfold takeS
  rw [if_pos rfl, if_neg (by simp)]
  simp
theorem takeS_short (q : List UInt8) (n : Nat) (hn : q.length < n) : takeS q 0 n = (none, q, 1) := by
  unfold takeS
  rw [if_pos rfl, if_pos hn]
theorem takeS_faulted (q : List UInt8) (f n : Nat) (hf : f ≠ 0) : takeS q f n = (none, q, f) := by
  unfold takeS
  rw [if_neg hf]
theorem fixedS_app (l t : List UInt8) (n : Nat) (hn : l.length = n) : fixedS (l ++ t) 0 n = (leV l, t, 0) := by
  unfold fixedS; rw [takeS_app l t n hn]
theorem fixedS_short (q : List UInt8) (n : Nat) (hn : q.length < n) : fixedS q 0 n = (0, q, 1) := by
  unfold fixedS; rw [takeS_short q n hn]
theorem fixedS_faulted (q : List UInt8) (f n : Nat) (hf : f ≠ 0) : fixedS q f n = (0, q, f) := by
  unfold fixedS; rw [takeS_faulted q f n hf]
theorem textS_faulted (q : List UInt8) (f : Nat) (hf : f ≠ 0) : textS q f = ([], q, f) := by
  unfold textS
  simp only [fixedS_faulted q f 2 hf, takeS_faulted q f _ hf]

theorem leV_leS (n : Nat) : ∀ x : UInt64, n ≤ 8 → (leV (leS x n)).toNat = x.toNat % 2 ^ (8 * n) := by
  induction n with
  | zero => intro x _; simp [leS, leV]; omega
  | succ n ih =>
    intro x hn
    have e : leV (leS x (n + 1)) = (leV (leS (x >>> 8) n) <<< (8 : UInt64)) ||| x.toUInt8.toUInt64 := rfl
    have hi := ih (x >>> 8) (by omega)
    rw [UInt64.toNat_shiftRight, show (8 : UInt64).toNat % 64 = 8 by decide, Nat.shiftRight_eq_div_pow] at hi
    rw [e, ← shl_or, UInt64.toNat_add, UInt64.toNat_shiftLeft, show (8 : UInt64).toNat % 64 = 8 by decide, Nat.shiftLeft_eq, hi]
    have hb : x.toUInt8.toUInt64.toNat = x.toNat % 256 := by simp
    rw [hb, show 8 * (n + 1) = 8 * n + 8 by omega, Nat.pow_add, Nat.mul_comm (2 ^ (8 * n)) (2 ^ 8)]
    have hm : x.toNat % (2 ^ 8 * 2 ^ (8 * n)) = x.toNat % 2 ^ 8 + 2 ^ 8 * (x.toNat / 2 ^ 8 % 2 ^ (8 * n)) := Nat.mod_mul
    rw [hm]
    have hlt : x.toNat / 2 ^ 8 % 2 ^ (8 * n) < 2 ^ (8 * n) := Nat.mod_lt _ (Nat.pow_pos (by decide))
    have hle : 2 ^ (8 * n) ≤ 2 ^ 56 := Nat.pow_le_pow_right (by decide) (by omega)
    generalize x.toNat / 2 ^ 8 % 2 ^ (8 * n) = z at *
    have p64 : (2 : Nat) ^ 64 = 18446744073709551616 := by decide
    have p56 : (2 : Nat) ^ 56 = 72057594037927936 := by decide
    rw [p56] at hle
    rw [p64, show (2 : Nat) ^ 8 = 256 by decide]
    have h3 := Nat.mod_lt x.toNat (by decide : 256 > 0)
    omega
theorem leV8 (x : UInt64) : leV (leS x 8) = x := by
  apply UInt64.toNat_inj.1
  rw [leV_leS 8 x (Nat.le_refl _)]
  exact Nat.mod_eq_of_lt x.toNat_lt
theorem leV2 (x : UInt16) : (leV (leS x.toUInt64 2)).toUInt16 = x := by
  apply UInt16.toNat_inj.1
  have h := leV_leS 2 x.toUInt64 (by decide)
  have := x.toNat_lt
  simp only [UInt64.toNat_toUInt16, h, UInt16.toNat_toUInt64]
  omega
theorem leV4 (x : UInt32) : (leV (leS x.toUInt64 4)).toUInt32 = x := by
  apply UInt32.toNat_inj.1
  have h := leV_leS 4 x.toUInt64 (by decide)
  have := x.toNat_lt
  simp only [UInt64.toNat_toUInt32, h, UInt32.toNat_toUInt64]
  omega
theorem leV_len (n : Nat) (h : n ≤ 65535) : (leV (leS (UInt64.ofNat n) 2)).toNat = n := by
  rw [leV_leS 2 _ (by decide), UInt64.toNat_ofNat']
  omega

theorem textS_app (s t : List UInt8) (hs : s.length ≤ 65535) : textS (leS (UInt64.ofNat s.length) 2 ++ s ++ t) 0 = (s, t, 0) := by
  unfold textS
  simp only [List.append_assoc]
  rw [fixedS_app _ _ 2 (leS_length _ _)]
  simp only
  rw [takeS_app s t _ (leV_len s.length hs).symm]
theorem textS_cut (s : List UInt8) (hs : s.length ≤ 65535) (j : Nat) (hj : j < 2 + s.length) : textS ((leS (UInt64.ofNat s.length) 2 ++ s).take j) 0 = ([], (leS (UInt64.ofNat s.length) 2 ++ s).take j, 1) := by
  by_cases h2 : j < 2
  · generalize hq : (leS (UInt64.ofNat s.length) 2 ++ s).take j = q
    have hl : q.length < 2 := by rw [← hq, List.length_take]; omega
    unfold textS
    simp only [fixedS_short q 2 hl, takeS_faulted q 1 _ (by decide)]
  · have e : (leS (UInt64.ofNat s.length) 2 ++ s).take j = leS (UInt64.ofNat s.length) 2 ++ s.take (j - 2) := by
      rw [List.take_append, leS_length, List.take_of_length_le (by rw [leS_length]; omega)]
    rw [e]
    unfold textS
    rw [fixedS_app _ _ 2 (leS_length _ _)]
    simp only
    rw [takeS_short _ _ (by rw [leV_len s.length hs, List.length_take]; omega)]

/-! Backwards -/
theorem leV_cons (u : UInt8) (l : List UInt8) : leV (u :: l) = (leV l <<< (8 : UInt64)) ||| u.toUInt64 := rfl
theorem leV_bound : ∀ l : List UInt8, l.length ≤ 8 → (leV l).toNat < 2 ^ (8 * l.length)
  | [], _ => by decide
  | u :: l, h => by
    have ih := leV_bound l (by simp at h; omega)
    simp only [List.length_cons] at h ⊢
    rw [leV_cons, ← shl_or, UInt64.toNat_add, UInt64.toNat_shiftLeft, show (8 : UInt64).toNat % 64 = 8 by decide, Nat.shiftLeft_eq]
    have hu := u.toNat_lt
    have e : 2 ^ (8 * (l.length + 1)) = 256 * 2 ^ (8 * l.length) := by rw [show 8 * (l.length + 1) = 8 + 8 * l.length by omega, Nat.pow_add]
    have hle : 2 ^ (8 * l.length) ≤ 2 ^ 56 := Nat.pow_le_pow_right (by decide) (by omega)
    have hb : u.toUInt64.toNat = u.toNat := by simp
    rw [hb, e]
    generalize 2 ^ (8 * l.length) = z at *
    have p64 : (2 : Nat) ^ 64 = 18446744073709551616 := by decide
    have p56 : (2 : Nat) ^ 56 = 72057594037927936 := by decide
    have p8 : (2 : Nat) ^ 8 = 256 := by decide
    rw [p56] at hle
    rw [p64, p8]
    omega
theorem leS_leV : ∀ l : List UInt8, l.length ≤ 8 → leS (leV l) l.length = l
  | [], _ => rfl
  | u :: l, h => by
    have hl : l.length ≤ 7 := by simp at h; omega
    have ih := leS_leV l (by omega)
    have hb := leV_bound l (by omega)
    have hu := u.toNat_lt
    have hle : 2 ^ (8 * l.length) ≤ 2 ^ 56 := Nat.pow_le_pow_right (by decide) (by omega)
    have p64 : (2 : Nat) ^ 64 = 18446744073709551616 := by decide
    have p56 : (2 : Nat) ^ 56 = 72057594037927936 := by decide
    have p8 : (2 : Nat) ^ 8 = 256 := by decide
    have hn : (leV (u :: l)).toNat = (leV l).toNat * 256 + u.toNat := by
      rw [leV_cons, ← shl_or, UInt64.toNat_add, UInt64.toNat_shiftLeft, show (8 : UInt64).toNat % 64 = 8 by decide, Nat.shiftLeft_eq, show u.toUInt64.toNat = u.toNat by simp, p64, p8]
      rw [p56] at hle
      omega
    simp only [List.length_cons]
    rw [leS]
    congr 1
    · apply UInt8.toNat_inj.1
      rw [UInt64.toNat_toUInt8, hn]
      omega
    · have : leV (u :: l) >>> 8 = leV l := by
        apply UInt64.toNat_inj.1
        rw [UInt64.toNat_shiftRight, show (8 : UInt64).toNat % 64 = 8 by decide, Nat.shiftRight_eq_div_pow, hn]
        omega
      rw [this]; exact ih
theorem fixedS_inv (rest : List UInt8) (f n : Nat) (hn : n ≤ 8) (h : (fixedS rest f n).2.2 = 0) : f = 0 ∧ rest = leS (fixedS rest f n).1 n ++ (fixedS rest f n).2.1 := by
  by_cases hf : f = 0
  · subst hf
    refine ⟨rfl, ?_⟩
    by_cases hl : rest.length < n
    · rw [fixedS_short rest n hl] at h; cases h
    · have e : rest = rest.take n ++ rest.drop n := (List.take_append_drop n rest).symm
      have hlen : (rest.take n).length = n := by rw [List.length_take]; omega
      have hx : fixedS rest 0 n = (leV (rest.take n), rest.drop n, 0) := by
        have := fixedS_app (rest.take n) (rest.drop n) n hlen
        rwa [← e] at this
      rw [hx]
      have := leS_leV (rest.take n) (by omega)
      rw [hlen] at this
      rw [this]; exact e
  · rw [fixedS_faulted rest f n hf] at h; exact absurd h hf
theorem leS_2 (x : UInt64) (k : Nat) (hk : x.toNat = k) : leS x 2 = leS (UInt64.ofNat k) 2 := by
  have : UInt64.ofNat k = x := by apply UInt64.toNat_inj.1; rw [← hk]; simp
  rw [this]
theorem textS_inv (rest : List UInt8) (f : Nat) (h : (textS rest f).2.2 = 0) : f = 0 ∧ (textS rest f).1.length ≤ 65535 ∧ rest = leS (UInt64.ofNat (textS rest f).1.length) 2 ++ (textS rest f).1 ++ (textS rest f).2.1 := by
  by_cases hq : (fixedS rest f 2).2.2 = 0
  · obtain ⟨hf, hr⟩ := fixedS_inv rest f 2 (by decide) hq
    have hlt := fixed2_lt rest f
    unfold textS at h ⊢
    simp only at h ⊢
    rw [hq] at h ⊢
    generalize hg : fixedS rest f 2 = q at *
    by_cases hl : q.2.1.length < q.1.toNat
    · rw [takeS_short _ _ hl] at h; cases h
    · have hs : takeS q.2.1 0 q.1.toNat = (some (q.2.1.take q.1.toNat), q.2.1.drop q.1.toNat, 0) := by unfold takeS; rw [if_pos rfl, if_neg hl]
      rw [hs]
      simp only
      have hll : (q.2.1.take q.1.toNat).length = q.1.toNat := by rw [List.length_take]; omega
      refine ⟨hf, by omega, ?_⟩
      rw [← leS_2 q.1 _ hll.symm, List.append_assoc, List.take_append_drop]
      exact hr
  · exfalso
    unfold textS at h
    simp only [takeS_faulted _ _ _ hq] at h
    exact hq h
theorem fixedS_cons (u : UInt8) (t : List UInt8) : fixedS (u :: t) 0 1 = (u.toUInt64, t, 0) := by
  have h := fixedS_app [u] t 1 rfl
  have e : leV [u] = u.toUInt64 := by unfold leV; simp
  rw [e] at h
  exact h
theorem fixedS_nil : fixedS [] 0 1 = (0, [], 1) := rfl
theorem u8_64 (u : UInt8) : u.toUInt64.toUInt8 = u := by simp
end Go.Proofs.YtipjdkdonmoojaaDoor
