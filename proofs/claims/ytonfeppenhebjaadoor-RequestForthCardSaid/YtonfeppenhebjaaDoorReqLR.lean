/- Plain law: replies and their payloads. -/
import Derived.Test.YtonfeppenhebjaaDoorReqLP2
namespace Go.Proofs.YtonfeppenhebjaaDoor
open Go Go.RowKit
set_option linter.unusedVariables false
set_option linter.unusedSimpArgs false

theorem pair_nat (op code : Int) (h : pairS op code = true) : ∃ o c : Nat, op = (o : Int) ∧ code = (c : Int) ∧ o ≤ 5 ∧ c ≤ 9 ∧ (o = 0 ↔ c = 9) ∧ (c = 1 → o = 2) := by
  have e0 : n8 (0 : UInt8) = 0 := rfl
  have e1 : n8 (1 : UInt8) = 1 := rfl
  have e2 : n8 (2 : UInt8) = 2 := rfl
  have e3 : n8 (3 : UInt8) = 3 := rfl
  have e4 : n8 (4 : UInt8) = 4 := rfl
  have e5 : n8 (5 : UInt8) = 5 := rfl
  have e6 : n8 (6 : UInt8) = 6 := rfl
  have e7 : n8 (7 : UInt8) = 7 := rfl
  have e8 : n8 (8 : UInt8) = 8 := rfl
  have e9 : n8 (9 : UInt8) = 9 := rfl
  unfold pairS pairL at h
  repeat' split at h
  all_goals simp only [List.any_cons, List.any_nil, Bool.or_false, Bool.or_eq_true, beq_iff_eq, e0, e1, e2, e3, e4, e5, e6, e7, e8, e9] at h
  all_goals first
    | (cases h; done)
    | exact ⟨op.toNat, code.toNat, by omega, by omega, by omega, by omega, by omega, by omega⟩
theorem ansOr_nil (a : Ans) (n : Nat) (h : n ≤ 256) : ansOr a (endE [] 0 n) = (a, 0) := by rw [endE_nil n h]; rfl
theorem ansOr_more (a : Ans) (t : List UInt8) (n : Nat) (h : t ≠ []) : ansOr a (endE t 0 n) = (ansZ, 3) := by rw [endE_more t n h]; rfl
theorem sayA_parts (a : Ans) (h : sayA a = true) : pairS a.op a.rep.code = true ∧ keptS a = a.rep ∧ (a.op = 3 ∧ a.rep.code = 0 → sayS a.rep.pol = true) := by
  unfold sayA at h
  simp only [Bool.and_eq_true, beq_iff_eq] at h
  obtain ⟨⟨h1, h2⟩, h3⟩ := h
  refine ⟨h1, h2, fun hc => ?_⟩
  rw [if_pos hc] at h3
  exact h3
/-- a reply's bytes, and what stands behind them -/
theorem decRQ_app (a : Ans) (t : List UInt8) (n : Nat) (h : sayA a = true) : decRQ n (fixedS (encRBody a ++ t) 0 1) = ansOr a (endE t 0 n) := by
  obtain ⟨hp, hk, hs⟩ := sayA_parts a h
  obtain ⟨o, c, ho, hc, ho5, hc9, _, hc1⟩ := pair_nat _ _ hp
  obtain ⟨op, ⟨code, at_, retry, pol, lev⟩⟩ := a
  simp only at ho hc hp hs
  subst ho; subst hc
  unfold encRBody
  simp only [List.cons_append]
  rw [fixedS_cons]
  unfold decRQ
  rw [if_neg (by simp)]
  simp only [u8_64, b8_nat o (by omega)]
  rw [if_neg (by omega), fixedS_cons]
  unfold decR2
  rw [if_neg (by simp)]
  simp only [u8_64, b8_nat c (by omega)]
  rw [if_neg (by rw [hp]; decide)]
  unfold keptS at hk
  simp only at hk
  by_cases h21 : o = 2 ∧ c = 1
  · obtain ⟨rfl, rfl⟩ := h21
    rw [if_pos (by decide)] at hk
    simp only [Rep.mk.injEq, true_and] at hk
    obtain ⟨rfl, rfl⟩ := hk
    unfold decRC
    rw [if_pos (by decide), if_pos (by decide), List.append_assoc]
    simp only [fixedS_app _ _ 8 (leS_length _ _), leV8]
    rfl
  by_cases h20 : o = 2 ∧ c = 0
  · obtain ⟨rfl, rfl⟩ := h20
    rw [if_neg (by decide), if_pos (by decide)] at hk
    simp only [Rep.mk.injEq, true_and] at hk
    obtain ⟨rfl, rfl, rfl⟩ := hk
    unfold decRC
    rw [if_neg (by decide), if_pos (by decide), if_neg (by decide), if_pos (by decide)]
    simp only [fixedS_app _ _ 8 (leS_length _ _), leV8]
    rfl
  by_cases h30 : o = 3 ∧ c = 0
  · obtain ⟨rfl, rfl⟩ := h30
    rw [if_neg (by decide), if_neg (by decide), if_pos (by decide)] at hk
    simp only [Rep.mk.injEq, true_and, and_true] at hk
    obtain rfl := hk
    have hs' := hs (by decide)
    unfold decRC
    rw [if_neg (by decide), if_neg (by decide), if_pos (by decide), if_neg (by decide), if_neg (by decide), if_pos (by decide)]
    simp only [List.append_assoc, fixedS_app _ _ 8 (leS_length _ _), leV8, takePolS_app pol _ hs']
    unfold decR3
    simp only [List.append_assoc, fixedS_app _ _ 8 (leS_length _ _), leV8]
    rfl
  · have i1 : ¬ ((o : Int) = 2 ∧ (c : Int) = 1) := by omega
    have i2 : ¬ ((o : Int) = 2 ∧ (c : Int) = 0) := by omega
    have i3 : ¬ ((o : Int) = 3 ∧ (c : Int) = 0) := by omega
    rw [if_neg i1, if_neg i2, if_neg i3] at hk
    simp only [Rep.mk.injEq, true_and] at hk
    obtain ⟨rfl, rfl, rfl, rfl⟩ := hk
    unfold decRC
    rw [if_neg i1, if_neg i2, if_neg i3, if_neg h21, if_neg h20, if_neg h30, List.nil_append]
theorem encRBody_length (a : Ans) : (encRBody a).length = 2 + (if a.op = 2 ∧ a.rep.code = 1 then 16 else if a.op = 2 ∧ a.rep.code = 0 then 8 else if a.op = 3 ∧ a.rep.code = 0 then 49 else 0) := by
  unfold encRBody
  repeat' split
  all_goals simp [leS_length, polB_length]
theorem encRBody_le (a : Ans) : (encRBody a).length ≤ 256 := by
  rw [encRBody_length]
  repeat' split
  all_goals omega
theorem encR_cases (a : Ans) : encR a = ([], 1) ∨ (encR a = (encRBody a, 0) ∧ sayA a = true) := by
  unfold encR
  by_cases h : sayA a = true
  · rw [if_pos h]; exact .inr ⟨rfl, h⟩
  · rw [if_neg h]; exact .inl rfl
theorem decR_back (a : Ans) (h : sayA a = true) : decR (encRBody a) = (a, 0) := by
  unfold decR
  have := decRQ_app a [] (encRBody a).length h
  rw [List.append_nil] at this
  rw [this, ansOr_nil _ _ (encRBody_le a)]
theorem decR_more (a : Ans) (t : List UInt8) (h : sayA a = true) (ht : t ≠ []) : decR (encRBody a ++ t) = (ansZ, 3) := by
  unfold decR
  rw [decRQ_app a t _ h, ansOr_more _ _ _ ht]
theorem ansOr_short (a : Ans) (rest : List UInt8) (n : Nat) : ansOr a (endE rest 1 n) = (ansZ, 2) := rfl
theorem takePolS_faulted (q : List UInt8) : (takePolS q 1).2.1 = 2 := by
  unfold takePolS
  rw [fixedS_faulted q 1 1 (by decide)]
  rfl
theorem three_cut (x y z : UInt64) (j : Nat) (h : j < 24) (l : List UInt8) (hl : l = (leS x 8 ++ leS y 8 ++ leS z 8).take j) :
    (fixedS (fixedS (fixedS l 0 8).2.1 (fixedS l 0 8).2.2 8).2.1 (fixedS (fixedS l 0 8).2.1 (fixedS l 0 8).2.2 8).2.2 8).2.2 = 1 := by
  subst hl
  rw [List.append_assoc]
  by_cases h8 : j < 8
  · rw [fixedS_cut x 8 j _ h8]
    simp only
    simp only [fixedS_faulted _ 1 8 (by decide)]
  · rw [fixedS_at x 8 j _ (by omega)]
    simp only
    exact two_cut y z (j - 8) (by omega)
theorem decR_cut (a : Ans) (j : Nat) (h : sayA a = true) (hj : j < (encRBody a).length) : decR ((encRBody a).take j) = (ansZ, 2) := by
  obtain ⟨hp, hk, hs⟩ := sayA_parts a h
  obtain ⟨o, c, ho, hc, ho5, hc9, _, hc1⟩ := pair_nat _ _ hp
  rw [encRBody_length] at hj
  obtain ⟨op, ⟨code, at_, retry, pol, lev⟩⟩ := a
  simp only at ho hc hp hs hj
  subst ho; subst hc
  rcases j with _ | _ | j
  · rfl
  · unfold decR encRBody
    simp only [List.take_succ_cons, List.take_zero]
    rw [fixedS_cons]
    unfold decRQ
    rw [if_neg (by simp)]
    simp only [u8_64, b8_nat o (by omega)]
    rw [if_neg (by omega)]
    rfl
  unfold decR encRBody
  generalize (List.take (j + 1 + 1) _).length = n
  simp only [List.take_succ_cons]
  rw [fixedS_cons]
  unfold decRQ
  rw [if_neg (by simp)]
  simp only [u8_64, b8_nat o (by omega)]
  rw [if_neg (by omega), fixedS_cons]
  unfold decR2
  rw [if_neg (by simp)]
  simp only [u8_64, b8_nat c (by omega)]
  rw [if_neg (by rw [hp]; decide)]
  by_cases h21 : o = 2 ∧ c = 1
  · obtain ⟨rfl, rfl⟩ := h21
    rw [if_pos (by decide)] at hj
    unfold decRC
    rw [if_pos (by decide), if_pos (by decide)]
    rw [two_cut at_ retry j (by omega)]
    rfl
  by_cases h20 : o = 2 ∧ c = 0
  · obtain ⟨rfl, rfl⟩ := h20
    rw [if_neg (by decide), if_pos (by decide)] at hj
    unfold decRC
    rw [if_neg (by decide), if_pos (by decide), if_neg (by decide), if_pos (by decide)]
    rw [fixedS_short _ 8 (by rw [List.length_take, leS_length]; omega)]
    rfl
  by_cases h30 : o = 3 ∧ c = 0
  · obtain ⟨rfl, rfl⟩ := h30
    rw [if_neg (by decide), if_neg (by decide), if_pos (by decide)] at hj
    have hs' := hs (by decide)
    unfold decRC
    rw [if_neg (by decide), if_neg (by decide), if_pos (by decide), if_neg (by decide), if_neg (by decide), if_pos (by decide)]
    simp only [List.append_assoc]
    unfold decR3
    by_cases h8 : j < 8
    · simp only [fixedS_cut at_ 8 j _ h8, takePolS_faulted]
      rfl
    simp only [fixedS_at at_ 8 j _ (show 8 ≤ j by omega), leV8]
    rcases take_field (polB pol) (leS lev.tat 8 ++ (leS lev.index 8 ++ leS lev.count 8)) 17 (j - 8) (polB_length pol) with ⟨hl, e⟩ | ⟨hl, e⟩
    · rw [e, if_pos (by rw [takePolS_cut pol _ hs' hl]; decide), takePolS_cut pol _ hs' hl]
    · rw [e]
      simp only [takePolS_app pol _ hs']
      rw [if_neg (by decide), three_cut lev.tat lev.index lev.count (j - 8 - 17) (by omega) _ (by rw [List.append_assoc])]
      rfl
  · exfalso
    have i1 : ¬ ((o : Int) = 2 ∧ (c : Int) = 1) := by omega
    have i2 : ¬ ((o : Int) = 2 ∧ (c : Int) = 0) := by omega
    have i3 : ¬ ((o : Int) = 3 ∧ (c : Int) = 0) := by omega
    rw [if_neg i1, if_neg i2, if_neg i3] at hj
    omega
end Go.Proofs.YtonfeppenhebjaaDoor
