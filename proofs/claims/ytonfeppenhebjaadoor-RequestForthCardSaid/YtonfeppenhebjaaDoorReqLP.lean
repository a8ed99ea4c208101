/- Plain law: requests and their payloads. -/
import Derived.Test.YtonfeppenhebjaaDoorReqV
namespace Go.Proofs.YtonfeppenhebjaaDoor
open Go Go.RowKit
set_option linter.unusedVariables false
set_option linter.unusedSimpArgs false

theorem takePolS_app (p : Pol) (t : List UInt8) (h : sayS p = true) : takePolS (polB p ++ t) 0 = (p, 0, t, 0) := by
  obtain ⟨kind, gap, slack, limit, span⟩ := p
  unfold sayS at h
  simp only at h
  by_cases k1 : kind = 1
  · subst k1
    simp at h
    obtain ⟨rfl, rfl⟩ := h
    unfold takePolS polB
    simp only [List.cons_append, fixedS_cons]
    rw [if_neg (by decide), List.append_assoc]
    unfold takePolQ
    simp only [u8_64]
    rw [fixedS_app _ _ 8 (leS_length _ _)]
    simp only
    rw [fixedS_app _ _ 8 (leS_length _ _), leV8, leV8]
    rfl
  · rw [if_neg k1] at h
    by_cases k2 : kind = 2
    · subst k2
      simp at h
      obtain ⟨rfl, rfl⟩ := h
      unfold takePolS polB
      simp only [List.cons_append, fixedS_cons]
      rw [if_pos trivial, List.append_assoc]
      unfold takePolQ
      simp only [u8_64]
      rw [fixedS_app _ _ 8 (leS_length _ _)]
      simp only
      rw [fixedS_app _ _ 8 (leS_length _ _), leV8, leV8]
      rfl
    · rw [if_neg k2] at h; cases h
theorem take_leS_le (x : UInt64) (n j : Nat) (t : List UInt8) (h : j ≤ n) : (leS x n ++ t).take j = (leS x n).take j := by
  rw [List.take_append_of_le_length (by rw [leS_length]; exact h)]
theorem take_leS_ge (x : UInt64) (n j : Nat) (t : List UInt8) (h : n ≤ j) : (leS x n ++ t).take j = leS x n ++ t.take (j - n) := by
  rw [List.take_append, leS_length, List.take_of_length_le (by rw [leS_length]; exact h)]
/-- of a beginning one field is short -/
theorem fixedS_cut (x : UInt64) (n j : Nat) (t : List UInt8) (h : j < n) : fixedS ((leS x n ++ t).take j) 0 n = (0, (leS x n).take j, 1) := by
  rw [take_leS_le x n j t (by omega)]
  exact fixedS_short _ n (by rw [List.length_take, leS_length]; omega)
theorem fixedS_at (x : UInt64) (n j : Nat) (t : List UInt8) (h : n ≤ j) : fixedS ((leS x n ++ t).take j) 0 n = (leV (leS x n), t.take (j - n), 0) := by
  rw [take_leS_ge x n j t h]
  exact fixedS_app _ _ n (leS_length _ _)
theorem two_cut (x y : UInt64) (j : Nat) (h : j < 16) : (fixedS (fixedS ((leS x 8 ++ leS y 8).take j) 0 8).2.1 (fixedS ((leS x 8 ++ leS y 8).take j) 0 8).2.2 8).2.2 = 1 := by
  by_cases h8 : j < 8
  · rw [fixedS_cut x 8 j _ h8]
    simp only
    rw [fixedS_faulted _ _ _ (by decide)]
  · rw [fixedS_at x 8 j _ (by omega)]
    simp only
    rw [← List.append_nil (leS y 8), fixedS_cut y 8 _ _ (by omega)]
theorem takePolS_cut (p : Pol) (j : Nat) (h : sayS p = true) (hj : j < 17) : (takePolS ((polB p).take j) 0).2.1 = 2 := by
  obtain ⟨kind, gap, slack, limit, span⟩ := p
  rcases j with _ | j
  · rfl
  unfold sayS at h
  simp only at h
  by_cases k1 : kind = 1
  · subst k1
    unfold takePolS polB
    simp only [List.take_succ_cons, fixedS_cons]
    rw [if_neg (by decide)]
    unfold takePolQ
    simp only [u8_64]
    rw [if_neg (by decide), if_pos (by decide), two_cut gap slack j (by omega)]
    rfl
  · rw [if_neg k1] at h
    by_cases k2 : kind = 2
    · subst k2
      unfold takePolS polB
      simp only [List.take_succ_cons, fixedS_cons]
      rw [if_pos trivial]
      unfold takePolQ
      simp only [u8_64]
      rw [if_neg (by decide), if_neg (by decide), if_pos (by decide), two_cut limit span j (by omega)]
      rfl
    · rw [if_neg k2] at h; cases h
theorem takePolS_inv (rest : List UInt8) (f : Nat) (h : (takePolS rest f).2.1 = 0) : f = 0 ∧ sayS (takePolS rest f).1 = true ∧ (takePolS rest f).2.2.2 = 0 ∧ rest = polB (takePolS rest f).1 ++ (takePolS rest f).2.2.1 := by
  have fz : ∀ k, fault k = 0 → k = 0 := fun k => by rcases k with _ | _ | k <;> simp [fault]
  unfold takePolS at h ⊢
  by_cases hq : (fixedS rest f 1).2.2 = 0
  · obtain ⟨hf, hr⟩ := fixedS_inv rest f 1 (by decide) hq
    generalize hg : fixedS rest f 1 = q at *
    unfold takePolQ at h ⊢
    rw [if_neg (by rw [hq]; decide)] at h ⊢
    simp only at h ⊢
    by_cases b1 : q.1.toUInt8 = 1
    · rw [if_pos b1] at h ⊢
      simp only at h ⊢
      have hs := fz _ h
      obtain ⟨hs0, hs1⟩ := fixedS_inv _ _ 8 (by decide) hs
      obtain ⟨hg0, hg1⟩ := fixedS_inv _ _ 8 (by decide) hs0
      refine ⟨hf, by simp [sayS], hs, ?_⟩
      unfold polB
      simp only
      rw [if_neg (by decide), List.cons_append, List.append_assoc, ← hs1, ← hg1]
      rw [hr, leS, b1]
      rfl
    · rw [if_neg b1] at h ⊢
      by_cases b2 : q.1.toUInt8 = 2
      · rw [if_pos b2] at h ⊢
        simp only at h ⊢
        have hs := fz _ h
        obtain ⟨hs0, hs1⟩ := fixedS_inv _ _ 8 (by decide) hs
        obtain ⟨hg0, hg1⟩ := fixedS_inv _ _ 8 (by decide) hs0
        refine ⟨hf, by simp [sayS], hs, ?_⟩
        unfold polB
        simp only
        rw [if_pos trivial, List.cons_append, List.append_assoc, ← hs1, ← hg1]
        rw [hr, leS, b2]
        rfl
      · rw [if_neg b2] at h; simp at h
  · exfalso
    unfold takePolQ at h
    rw [if_pos hq] at h
    exact hq (fz _ h)

theorem req_kinds (r : Req) (h : sayR r = true) : (r.op = 1 ∧ sayS r.pol = true ∧ r.units = 0) ∨ (r.op = 2 ∧ r.pol = polZ) ∨ ((r.op = 3 ∨ r.op = 4) ∧ r.pol = polZ ∧ r.units = 0) ∨ (r.op = 5 ∧ r.pol = polZ ∧ r.units = 0 ∧ r.key = []) := by
  unfold sayR at h
  simp only [Bool.and_eq_true, decide_eq_true_eq, Bool.or_eq_true, beq_iff_eq, Bool.not_eq_true', beq_eq_false_iff_ne] at h
  obtain ⟨⟨⟨⟨h1, h5⟩, hp⟩, hu⟩, hk⟩ := h
  by_cases o1 : r.op = 1
  · rw [if_pos o1] at hp
    exact .inl ⟨o1, hp, by rcases hu with h | h; exact h; omega⟩
  rw [if_neg o1] at hp
  have hp' : r.pol = polZ := by simpa using hp
  by_cases o2 : r.op = 2
  · exact .inr (.inl ⟨o2, hp'⟩)
  have hu' : r.units = 0 := by rcases hu with h | h; exact h; omega
  by_cases o5 : r.op = 5
  · exact .inr (.inr (.inr ⟨o5, hp', hu', by rcases hk with h | h; exact h; omega⟩))
  · exact .inr (.inr (.inl ⟨by omega, hp', hu'⟩))
/-- a request's bytes, and what stands behind them -/
theorem decQ_app (r : Req) (t : List UInt8) (n : Nat) (h : sayR r = true) (hk : r.key.length ≤ 256) :
    decQ n (fixedS (encBody r ++ t) 0 1) = reqOr r (endE t 0 n) := by
  have hk' : r.key.length ≤ 65535 := by omega
  have e : encBody r ++ t = b8 r.op :: (((if r.op = 5 then [] else leS (UInt64.ofNat r.key.length) 2 ++ r.key) ++ (if r.op = 1 then polB r.pol else if r.op = 2 then leS r.units 8 else [])) ++ t) := rfl
  rw [e, fixedS_cons]
  unfold decQ
  rw [if_neg (by simp)]
  simp only [u8_64]
  obtain ⟨op, key, pol, units⟩ := r
  rcases req_kinds _ h with ⟨ho, hs, hu⟩ | ⟨ho, hs⟩ | ⟨ho | ho, hs, hu⟩ | ⟨ho, hs, hu, hkey⟩
  · simp only at ho hs hu hk'
    subst ho; subst hu
    simp only [show (b8 1).toNat = 1 by decide]
    rw [if_neg (by decide), if_neg (by decide), if_neg (by decide), if_pos trivial, List.append_assoc, textS_app key _ hk']
    unfold decOp
    rw [if_neg (by simp), if_pos rfl]
    simp only [takePolS_app pol t hs]
    rw [if_neg (by simp)]
  · simp only at ho hs hk'
    subst ho; subst hs
    simp only [show (b8 2).toNat = 2 by decide]
    rw [if_neg (by decide), if_neg (by decide), if_neg (by decide), if_neg (by decide), if_pos trivial, List.append_assoc, textS_app key _ hk']
    unfold decOp
    rw [if_neg (by simp), if_neg (by decide), if_pos rfl]
    simp only [fixedS_app _ _ 8 (leS_length _ _), leV8]
  · simp only at ho hs hu hk'
    subst ho; subst hs; subst hu
    simp only [show (b8 3).toNat = 3 by decide]
    rw [if_neg (by decide), if_neg (by decide), if_neg (by decide), if_neg (by decide), if_neg (by decide), List.append_nil, textS_app key _ hk']
    unfold decOp
    rw [if_neg (by simp), if_neg (by decide), if_neg (by decide)]
    rfl
  · simp only at ho hs hu hk'
    subst ho; subst hs; subst hu
    simp only [show (b8 4).toNat = 4 by decide]
    rw [if_neg (by decide), if_neg (by decide), if_neg (by decide), if_neg (by decide), if_neg (by decide), List.append_nil, textS_app key _ hk']
    unfold decOp
    rw [if_neg (by simp), if_neg (by decide), if_neg (by decide)]
    rfl
  · simp only at ho hs hu hkey
    subst ho; subst hs; subst hu; subst hkey
    simp only [show (b8 5).toNat = 5 by decide]
    rw [if_neg (by decide)]
    simp only [if_true]
    rw [if_neg (by decide), if_neg (by decide)]
    unfold decOp
    rw [if_neg (by simp), if_neg (by decide), if_neg (by decide)]
    rfl
theorem encBody_length (r : Req) : (encBody r).length = 1 + (if r.op = 5 then 0 else 2 + r.key.length) + (if r.op = 1 then 17 else if r.op = 2 then 8 else 0) := by
  unfold encBody
  rw [List.length_cons, List.length_append]
  have h1 : (if r.op = 5 then ([] : List UInt8) else leS (UInt64.ofNat r.key.length) 2 ++ r.key).length = if r.op = 5 then 0 else 2 + r.key.length := by split <;> simp [leS_length]
  have h2 : (if r.op = 1 then polB r.pol else if r.op = 2 then leS r.units 8 else []).length = if r.op = 1 then 17 else if r.op = 2 then 8 else 0 := by
    split
    · exact polB_length _
    · split <;> simp [leS_length]
  rw [h1, h2]
  omega
/-- what Encode takes -/
theorem encS_cases (r : Req) : ((encS r).1 = [] ∧ ((encS r).2 = 1 ∨ (encS r).2 = 4 ∧ 235 < r.key.length)) ∨ (encS r = (encBody r, 0) ∧ sayR r = true ∧ r.key.length ≤ 256 ∧ (encBody r).length ≤ 256) := by
  unfold encS
  by_cases hs : sayR r = false
  · rw [if_pos hs]; exact .inl ⟨rfl, .inl rfl⟩
  rw [if_neg hs]
  by_cases hk : 256 < r.key.length
  · rw [if_pos hk]; exact .inl ⟨rfl, .inr ⟨rfl, by omega⟩⟩
  rw [if_neg hk]
  by_cases hb : 256 < (encBody r).length
  · rw [fit_big _ hb]
    refine .inl ⟨rfl, .inr ⟨rfl, ?_⟩⟩
    rw [encBody_length] at hb
    split at hb <;> split at hb <;> try split at hb
    all_goals omega
  · rw [fit_small _ hb]
    exact .inr ⟨rfl, by simpa using hs, by omega, by omega⟩
theorem endE_nil (n : Nat) (h : n ≤ 256) : endE [] 0 n = 0 := by
  unfold endE
  rw [if_neg (by decide), if_neg (by rintro (h | h); exact h rfl; omega)]
theorem endE_more (t : List UInt8) (n : Nat) (h : t ≠ []) : endE t 0 n = 3 := by
  have : t.length ≠ 0 := fun e => h (List.length_eq_zero_iff.1 e)
  unfold endE
  rw [if_neg (by decide), if_pos (.inl this)]
theorem dec_back (r : Req) (h : sayR r = true) (hk : r.key.length ≤ 256) (hb : (encBody r).length ≤ 256) : decS (encBody r) = (r, 0) := by
  unfold decS
  have := decQ_app r [] (encBody r).length h hk
  rw [List.append_nil] at this
  rw [this, endE_nil _ hb]
  rfl
theorem dec_more (r : Req) (t : List UInt8) (h : sayR r = true) (hk : r.key.length ≤ 256) (ht : t ≠ []) : decS (encBody r ++ t) = (reqZ, 3) := by
  unfold decS
  rw [decQ_app r t _ h hk, endE_more _ _ ht]
  rfl
end Go.Proofs.YtonfeppenhebjaaDoor
