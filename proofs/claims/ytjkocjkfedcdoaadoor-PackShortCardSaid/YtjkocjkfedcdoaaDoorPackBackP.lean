/- Plain law: what was put is taken; of a beginning the rest is short. -/
import Derived.Test.YtjkocjkfedcdoaaDoorPuts
import Derived.Test.YtjkocjkfedcdoaaDoorPackR4
import Derived.Test.YtjkocjkfedcdoaaDoorPackNum
import Derived.Test.YtjkocjkfedcdoaaDoorRefT
namespace Go.Proofs.YtjkocjkfedcdoaaDoor
open Go Go.RowKit

theorem takeS_app (l t : List UInt8) (n : Nat) (hn : l.length = n) : takeS (l ++ t) 0 n = (some l, t, 0) := by
  subst hn
  unfold takeS
  rw [if_pos rfl, if_neg (by simp)]
  simp
theorem takeS_short (q : List UInt8) (n : Nat) (hn : q.length < n) : takeS q 0 n = (none, q, 1) := by
  unfold takeS
  rw [if_pos rfl, if_pos hn]
theorem takeS_faulted (q : List UInt8) (f n : Nat) (hf : f ≠ 0) : takeS q f n = (none, q, f) := by
  unfold takeS
  rw [if_neg hf]
theorem fixedS_app (l t : List UInt8) (n : Nat) (hn : l.length = n) : fixedS (l ++ t) 0 n = (leV l, t, 0) := by
  unfold fixedS; rw [takeS_app l t n hn]
theorem fixedS_short (q : List UInt8) (n : Nat) (hn : q.length < n) : fixedS q 0 n = (0, q, 1) := by
  unfold fixedS; rw [takeS_short q n hn]
theorem fixedS_faulted (q : List UInt8) (f n : Nat) (hf : f ≠ 0) : fixedS q f n = (0, q, f) := by
  unfold fixedS; rw [takeS_faulted q f n hf]
theorem textS_faulted (q : List UInt8) (f : Nat) (hf : f ≠ 0) : textS q f = ([], q, f) := by
  unfold textS
  simp only [fixedS_faulted q f 2 hf, takeS_faulted q f _ hf]

theorem leV_leS (n : Nat) : ∀ x : UInt64, n ≤ 8 → (leV (leS x n)).toNat = x.toNat % 2 ^ (8 * n) := by
  induction n with
  | zero => intro x _; simp [leS, leV]; omega
  | succ n ih =>
    intro x hn
    have e : leV (leS x (n + 1)) = (leV (leS (x >>> 8) n) <<< (8 : UInt64)) ||| x.toUInt8.toUInt64 := rfl
    have hi := ih (x >>> 8) (by omega)
    rw [UInt64.toNat_shiftRight, show (8 : UInt64).toNat % 64 = 8 by decide, Nat.shiftRight_eq_div_pow] at hi
    rw [e, ← shl_or, UInt64.toNat_add, UInt64.toNat_shiftLeft, show (8 : UInt64).toNat % 64 = 8 by decide, Nat.shiftLeft_eq, hi]
    have hb : x.toUInt8.toUInt64.toNat = x.toNat % 256 := by simp
    rw [hb, show 8 * (n + 1) = 8 * n + 8 by omega, Nat.pow_add, Nat.mul_comm (2 ^ (8 * n)) (2 ^ 8)]
    have hm : x.toNat % (2 ^ 8 * 2 ^ (8 * n)) = x.toNat % 2 ^ 8 + 2 ^ 8 * (x.toNat / 2 ^ 8 % 2 ^ (8 * n)) := Nat.mod_mul
    rw [hm]
    have hlt : x.toNat / 2 ^ 8 % 2 ^ (8 * n) < 2 ^ (8 * n) := Nat.mod_lt _ (Nat.pow_pos (by decide))
    have hle : 2 ^ (8 * n) ≤ 2 ^ 56 := Nat.pow_le_pow_right (by decide) (by omega)
    generalize x.toNat / 2 ^ 8 % 2 ^ (8 * n) = z at *
    have p64 : (2 : Nat) ^ 64 = 18446744073709551616 := by decide
    have p56 : (2 : Nat) ^ 56 = 72057594037927936 := by decide
    rw [p56] at hle
    rw [p64, show (2 : Nat) ^ 8 = 256 by decide]
    have h3 := Nat.mod_lt x.toNat (by decide : 256 > 0)
    omega
theorem leV8 (x : UInt64) : leV (leS x 8) = x := by
  apply UInt64.toNat_inj.1
  rw [leV_leS 8 x (Nat.le_refl _)]
  exact Nat.mod_eq_of_lt x.toNat_lt
theorem leV2 (x : UInt16) : (leV (leS x.toUInt64 2)).toUInt16 = x := by
  apply UInt16.toNat_inj.1
  have h := leV_leS 2 x.toUInt64 (by decide)
  have := x.toNat_lt
  simp only [UInt64.toNat_toUInt16, h, UInt16.toNat_toUInt64]
  omega
theorem leV4 (x : UInt32) : (leV (leS x.toUInt64 4)).toUInt32 = x := by
  apply UInt32.toNat_inj.1
  have h := leV_leS 4 x.toUInt64 (by decide)
  have := x.toNat_lt
  simp only [UInt64.toNat_toUInt32, h, UInt32.toNat_toUInt64]
  omega
theorem leV_len (n : Nat) (h : n ≤ 65535) : (leV (leS (UInt64.ofNat n) 2)).toNat = n := by
  rw [leV_leS 2 _ (by decide), UInt64.toNat_ofNat']
  omega

theorem textS_app (s t : List UInt8) (hs : s.length ≤ 65535) : textS (leS (UInt64.ofNat s.length) 2 ++ s ++ t) 0 = (s, t, 0) := by
  unfold textS
  simp only [List.append_assoc]
  rw [fixedS_app _ _ 2 (leS_length _ _)]
  simp only
  rw [takeS_app s t _ (leV_len s.length hs).symm]
theorem textS_cut (s : List UInt8) (hs : s.length ≤ 65535) (j : Nat) (hj : j < 2 + s.length) : textS ((leS (UInt64.ofNat s.length) 2 ++ s).take j) 0 = ([], (leS (UInt64.ofNat s.length) 2 ++ s).take j, 1) := by
  by_cases h2 : j < 2
  · generalize hq : (leS (UInt64.ofNat s.length) 2 ++ s).take j = q
    have hl : q.length < 2 := by rw [← hq, List.length_take]; omega
    unfold textS
    simp only [fixedS_short q 2 hl, takeS_faulted q 1 _ (by decide)]
  · have e : (leS (UInt64.ofNat s.length) 2 ++ s).take j = leS (UInt64.ofNat s.length) 2 ++ s.take (j - 2) := by
      rw [List.take_append, leS_length, List.take_of_length_le (by rw [leS_length]; omega)]
    rw [e]
    unfold textS
    rw [fixedS_app _ _ 2 (leS_length _ _)]
    simp only
    rw [takeS_short _ _ (by rw [leV_len s.length hs, List.length_take]; omega)]
theorem grp_cut : ∀ (n i : Nat) (v x : UInt64) (j : Nat), i + n = 9 → j < (numS v n).length → grp i x ((numS v n).take j) = .inl 1 := by
  intro n
  induction n with
  | zero =>
    intro i v x j _ hj
    obtain rfl : j = 0 := by simp [numS] at hj; exact hj
    rfl
  | succ n ih =>
    intro i v x j hi hj
    rw [numS] at hj ⊢
    by_cases h : 127 < v
    · rw [if_pos h] at hj ⊢
      rcases j with _ | j
      · rfl
      · have hb := or_128 v
        rw [List.take_succ_cons, grp, if_neg, if_neg]
        · exact ih (i + 1) _ _ j (by omega) (by simpa using hj)
        · rw [UInt8.lt_iff_toNat_lt, hb]; simp
        · rintro (⟨h9, _⟩ | ⟨_, h0⟩)
          · omega
          · have := congrArg UInt8.toNat h0
            rw [hb] at this
            simp at this
    · rw [if_neg h] at hj ⊢
      obtain rfl : j = 0 := by simpa using hj
      rfl
theorem numberS_cut (x : UInt64) (j : Nat) (hj : j < (numS x 9).length) : numberS ((numS x 9).take j) = (0, (numS x 9).take j, 1) := by
  unfold numberS
  rw [grp_cut 9 0 x 0 j rfl hj]

/-- one taking call for a put's kind: does it answer that; what is left; the fault -/
def takenS (kind : Int) (x : UInt64) (s rest : List UInt8) (f : Nat) : Bool × List UInt8 × Nat :=
  if kind = 1 then ((fixedS rest f 2).1.toUInt16 == x.toUInt16, (fixedS rest f 2).2)
  else if kind = 2 then ((fixedS rest f 4).1.toUInt32 == x.toUInt32, (fixedS rest f 4).2)
  else if kind = 3 then ((fixedS rest f 8).1 == x, (fixedS rest f 8).2)
  else if kind = 4 then ((textS rest f).1 == s, (textS rest f).2)
  else ((numberF rest f).1 == x, (numberF rest f).2)
/-- a put that is not refused -/
def OkPut (kind : Int) (s : List UInt8) : Prop := ¬ (kind = 4 ∧ 65535 < s.length)
/-- its bytes -/
def putB (kind : Int) (x : UInt64) (s : List UInt8) : List UInt8 := (putS kind x s []).1
theorem putS_ok (kind : Int) (x : UInt64) (s l : List UInt8) (h : OkPut kind s) : putS kind x s l = (l ++ putB kind x s, 0) := by
  unfold OkPut at h
  unfold putB putS textP
  repeat' split
  all_goals first | (simp only [List.nil_append]; done) | (simp only [List.nil_append, List.append_assoc]; done) | (exfalso; apply h; constructor <;> assumption) | simp
theorem putS_bad (kind : Int) (x : UInt64) (s l : List UInt8) (h : ¬ OkPut kind s) : putS kind x s l = ([], 4) := by
  unfold OkPut at h
  have h' : kind = 4 ∧ 65535 < s.length := Classical.not_not.1 h
  obtain ⟨rfl, hs⟩ := h'
  unfold putS textP
  rw [if_neg (by decide), if_neg (by decide), if_neg (by decide), if_pos rfl, if_pos hs]
theorem putB_length (kind : Int) (x : UInt64) (s : List UInt8) (h : OkPut kind s) : (putB kind x s).length ≤ 65537 := by
  unfold OkPut at h
  unfold putB putS textP
  have := numS_length x 9
  repeat' split
  all_goals (simp only [List.nil_append, List.length_append, leS_length, List.length_nil]; try omega)
theorem taken_back (kind : Int) (x : UInt64) (s t : List UInt8) (h : OkPut kind s) : takenS kind x s (putB kind x s ++ t) 0 = (true, t, 0) := by
  unfold OkPut at h
  unfold takenS putB putS textP
  by_cases k1 : kind = 1
  · rw [if_pos k1, if_pos k1, List.nil_append, fixedS_app _ _ 2 (leS_length _ _), leV2]; simp
  by_cases k2 : kind = 2
  · rw [if_neg k1, if_neg k1, if_pos k2, if_pos k2, List.nil_append, fixedS_app _ _ 4 (leS_length _ _), leV4]; simp
  by_cases k3 : kind = 3
  · rw [if_neg k1, if_neg k1, if_neg k2, if_neg k2, if_pos k3, if_pos k3, List.nil_append, fixedS_app _ _ 8 (leS_length _ _), leV8]; simp
  by_cases k4 : kind = 4
  · have hs : ¬ 65535 < s.length := fun hs => h ⟨k4, hs⟩
    rw [if_neg k1, if_neg k1, if_neg k2, if_neg k2, if_neg k3, if_neg k3, if_pos k4, if_pos k4, if_neg hs, List.nil_append, textS_app s t (by omega)]; simp
  · rw [if_neg k1, if_neg k1, if_neg k2, if_neg k2, if_neg k3, if_neg k3, if_neg k4, if_neg k4, List.nil_append, show numberF (numS x 9 ++ t) 0 = numberS (numS x 9 ++ t) from rfl, number_back]; simp
theorem taken_cut (kind : Int) (x : UInt64) (s : List UInt8) (h : OkPut kind s) (j : Nat) (hj : j < (putB kind x s).length) : ∃ q, takenS kind x s ((putB kind x s).take j) 0 = (q, (putB kind x s).take j, 1) := by
  unfold OkPut at h
  unfold putB putS textP at *
  unfold takenS
  by_cases k1 : kind = 1
  · rw [if_pos k1] at hj ⊢
    simp only [List.nil_append, leS_length, if_pos k1] at hj ⊢
    rw [fixedS_short _ 2 (by rw [List.length_take]; omega)]
    exact ⟨_, rfl⟩
  by_cases k2 : kind = 2
  · rw [if_neg k1, if_pos k2] at hj ⊢
    simp only [List.nil_append, leS_length, if_neg k1, if_pos k2] at hj ⊢
    rw [fixedS_short _ 4 (by rw [List.length_take]; omega)]
    exact ⟨_, rfl⟩
  by_cases k3 : kind = 3
  · rw [if_neg k1, if_neg k2, if_pos k3] at hj ⊢
    simp only [List.nil_append, leS_length, if_neg k1, if_neg k2, if_pos k3] at hj ⊢
    rw [fixedS_short _ 8 (by rw [List.length_take]; omega)]
    exact ⟨_, rfl⟩
  by_cases k4 : kind = 4
  · have hs : ¬ 65535 < s.length := fun hs => h ⟨k4, hs⟩
    rw [if_neg k1, if_neg k2, if_neg k3, if_pos k4, if_neg hs] at hj ⊢
    simp only [List.nil_append, List.length_append, leS_length, if_neg k1, if_neg k2, if_neg k3, if_pos k4] at hj ⊢
    rw [textS_cut s (by omega) j hj]
    exact ⟨_, rfl⟩
  · rw [if_neg k1, if_neg k2, if_neg k3, if_neg k4] at hj ⊢
    simp only [List.nil_append, if_neg k1, if_neg k2, if_neg k3, if_neg k4] at hj ⊢
    rw [show numberF ((numS x 9).take j) 0 = numberS ((numS x 9).take j) from rfl, numberS_cut x j hj]
    exact ⟨_, rfl⟩
end Go.Proofs.YtjkocjkfedcdoaaDoor
