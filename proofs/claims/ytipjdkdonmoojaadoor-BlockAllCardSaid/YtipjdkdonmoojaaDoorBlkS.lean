/- Blocks, in plain Lean: what Encode, Decode, Pack, Scan answer; there and back. -/
import Derived.Test.YtipjdkdonmoojaaDoorFieldV
import Derived.Test.YtipjdkdonmoojaaDoorCrcLaw2
namespace Go.Proofs.YtipjdkdonmoojaaDoor
open Go Go.RowKit
set_option linter.unusedVariables false
set_option linter.unusedSimpArgs false

def magicB : List UInt8 := [84, 66, 48, 49]
/-- a record in a block -/
def recB (r : List UInt8) : List UInt8 := leS (UInt64.ofNat r.length) 2 ++ r
def bodyB (rs : List (List UInt8)) : List UInt8 := rs.flatMap recB
def headB (first : UInt64) (n : Nat) : List UInt8 := magicB ++ leS first 8 ++ leS (UInt64.ofNat n) 2
def restB (rs : List (List UInt8)) : List UInt8 := bodyB rs ++ List.replicate (494 - (bodyB rs).length) 0
def sumB (h r : List UInt8) : UInt32 := addS (addS (addS 0 h) [0, 0, 0, 0]) r
def blockB (first : UInt64) (rs : List (List UInt8)) : List UInt8 := headB first rs.length ++ leS (sumB (headB first rs.length) (restB rs)).toUInt64 4 ++ restB rs
/-- have so many records from first on numbers? (n is not 0) -/
def numOK (first : UInt64) (n : Nat) : Bool := decide (1 ≤ first.toNat ∧ first.toNat + n ≤ 4611686018427387905)
def longS (rs : List (List UInt8)) : Bool := rs.any (fun r => decide (200 < r.length)) || decide (494 < (bodyB rs).length)
def encB (first : UInt64) (rs : List (List UInt8)) : List UInt8 × Nat :=
  if rs.length = 0 ∨ numOK first rs.length = false then ([], 1) else if longS rs = true then ([], 4) else (blockB first rs, 0)
/-- the next n records -/
def takeRecs : Nat → List UInt8 → Option (List (List UInt8) × List UInt8)
  | 0, r => some ([], r)
  | n + 1, r => if (textS r 0).2.2 ≠ 0 ∨ 200 < (textS r 0).1.length then none else
    match takeRecs n (textS r 0).2.1 with
    | none => none
    | some (l, q) => some ((textS r 0).1 :: l, q)
def firstB (b : List UInt8) : UInt64 := leV ((b.drop 4).take 8)
def countB (b : List UInt8) : Nat := (leV ((b.drop 12).take 2)).toNat
def toldB (b : List UInt8) : UInt32 := (leV ((b.drop 14).take 4)).toUInt32
def decB (b : List UInt8) : UInt64 × List (List UInt8) × Nat :=
  if b.length < 512 then (0, [], 2) else
  if 512 < b.length ∨ b.take 4 ≠ magicB then (0, [], 3) else
  if toldB b ≠ sumB (b.take 14) (b.drop 18) then (0, [], 5) else
  if countB b = 0 ∨ numOK (firstB b) (countB b) = false then (0, [], 3) else
  match takeRecs (countB b) (b.drop 18) with
  | none => (0, [], 3)
  | some (l, q) => if q.all (· == 0) = true then (firstB b, l, 0) else (0, [], 3)

theorem recB_length (r : List UInt8) : (recB r).length = 2 + r.length := by unfold recB; rw [List.length_append, leS_length]
theorem bodyB_nil : bodyB [] = [] := rfl
theorem bodyB_cons (r : List UInt8) (rs : List (List UInt8)) : bodyB (r :: rs) = recB r ++ bodyB rs := rfl
theorem bodyB_append (a b : List (List UInt8)) : bodyB (a ++ b) = bodyB a ++ bodyB b := by unfold bodyB; simp
theorem bodyB_len (rs : List (List UInt8)) : (bodyB rs).length = 2 * rs.length + (rs.map List.length).sum := by
  induction rs with
  | nil => rfl
  | cons r rs ih => rw [bodyB_cons, List.length_append, recB_length, ih, List.length_cons, List.map_cons, List.sum_cons]; omega
theorem body_count (rs : List (List UInt8)) : 2 * rs.length ≤ (bodyB rs).length := by rw [bodyB_len]; omega
theorem headB_length (first : UInt64) (n : Nat) : (headB first n).length = 14 := by unfold headB magicB; simp [leS_length]
theorem restB_length (rs : List (List UInt8)) (h : (bodyB rs).length ≤ 494) : (restB rs).length = 494 := by unfold restB; simp; omega
theorem blockB_length (first : UInt64) (rs : List (List UInt8)) (h : (bodyB rs).length ≤ 494) : (blockB first rs).length = 512 := by
  unfold blockB; rw [List.length_append, List.length_append, headB_length, leS_length, restB_length rs h]
/-- a block's parts -/
theorem parts (h s r : List UInt8) (hh : h.length = 14) (hs : s.length = 4) : (h ++ s ++ r).take 14 = h ∧ ((h ++ s ++ r).drop 14).take 4 = s ∧ (h ++ s ++ r).drop 18 = r := by
  refine ⟨?_, ?_, ?_⟩
  · rw [List.append_assoc, ← hh, List.take_left]
  · rw [List.append_assoc, ← hh, List.drop_left, ← hs, List.take_left]
  · rw [← show (h ++ s).length = 18 by rw [List.length_append, hh, hs], List.drop_left]
theorem head_parts (first : UInt64) (n : Nat) (t : List UInt8) : (headB first n ++ t).take 4 = magicB ∧ ((headB first n ++ t).drop 4).take 8 = leS first 8 ∧ ((headB first n ++ t).drop 12).take 2 = leS (UInt64.ofNat n) 2 := by
  unfold headB
  have h8 := leS_length first 8
  have h2 := leS_length (UInt64.ofNat n) 2
  generalize leS first 8 = a at *
  generalize leS (UInt64.ofNat n) 2 = c at *
  refine ⟨?_, ?_, ?_⟩
  · unfold magicB; simp
  · rw [List.append_assoc, List.append_assoc, ← show magicB.length = 4 from rfl, List.drop_left, ← h8, List.take_left]
  · rw [List.append_assoc, ← show (magicB ++ a).length = 12 by rw [List.length_append, h8]; rfl, List.drop_left, ← h2, List.take_left]
theorem takeRecs_body (rs : List (List UInt8)) (t : List UInt8) (h : ∀ r ∈ rs, r.length ≤ 200) : takeRecs rs.length (bodyB rs ++ t) = some (rs, t) := by
  induction rs with
  | nil => rfl
  | cons r rs ih =>
    have hr := h r (by simp)
    have e : textS (bodyB (r :: rs) ++ t) 0 = (r, bodyB rs ++ t, 0) := by
      rw [bodyB_cons, recB, List.append_assoc (leS _ 2 ++ r)]
      exact textS_app r (bodyB rs ++ t) (by omega)
    rw [List.length_cons, takeRecs, e, if_neg (by simp; omega)]
    simp only [ih (fun x hx => h x (by simp [hx]))]
theorem takeRecs_inv : ∀ (n : Nat) (r : List UInt8) (l : List (List UInt8)) (q : List UInt8), takeRecs n r = some (l, q) → r = bodyB l ++ q ∧ l.length = n ∧ ∀ x ∈ l, x.length ≤ 200
  | 0, r, l, q, h => by
    simp only [takeRecs, Option.some.injEq, Prod.mk.injEq] at h
    obtain ⟨rfl, rfl⟩ := h
    exact ⟨by simp [bodyB], rfl, fun x hx => by cases hx⟩
  | n + 1, r, l, q, h => by
    rw [takeRecs] at h
    split at h
    · cases h
    · rename_i hc
      have h0 : (textS r 0).2.2 = 0 := by
        by_cases hz : (textS r 0).2.2 = 0
        · exact hz
        · exact absurd (.inl hz) hc
      have h1 : (textS r 0).1.length ≤ 200 := by
        by_cases hz : 200 < (textS r 0).1.length
        · exact absurd (.inr hz) hc
        · omega
      split at h
      · cases h
      · rename_i l' q' hl
        simp only [Option.some.injEq, Prod.mk.injEq] at h
        obtain ⟨rfl, rfl⟩ := h
        obtain ⟨e1, e2, e3⟩ := takeRecs_inv n _ l' q' hl
        obtain ⟨_, _, e4⟩ := textS_inv r 0 h0
        refine ⟨?_, by rw [List.length_cons, e2], ?_⟩
        · rw [bodyB_cons, recB, List.append_assoc, ← e1]; exact e4
        · intro x hx
          rcases List.mem_cons.1 hx with rfl | hx
          · exact h1
          · exact e3 x hx
theorem longS_false {rs : List (List UInt8)} (h : longS rs = false) : (∀ r ∈ rs, r.length ≤ 200) ∧ (bodyB rs).length ≤ 494 := by
  unfold longS at h
  rw [Bool.or_eq_false_iff] at h
  refine ⟨fun r hr => ?_, by have := of_decide_eq_false h.2; omega⟩
  have := List.any_eq_false.1 h.1 r hr
  simp at this
  omega
theorem longS_of {rs : List (List UInt8)} (h1 : ∀ r ∈ rs, r.length ≤ 200) (h2 : (bodyB rs).length ≤ 494) : longS rs = false := by
  unfold longS
  rw [Bool.or_eq_false_iff]
  refine ⟨List.any_eq_false.2 fun r hr => ?_, decide_eq_false (by omega)⟩
  have := h1 r hr
  simp
  omega
theorem encB_cases (first : UInt64) (rs : List (List UInt8)) : (encB first rs = ([], 1) ∧ (rs.length = 0 ∨ numOK first rs.length = false)) ∨ (encB first rs = ([], 4) ∧ rs.length ≠ 0 ∧ numOK first rs.length = true ∧ longS rs = true) ∨ (encB first rs = (blockB first rs, 0) ∧ rs.length ≠ 0 ∧ numOK first rs.length = true ∧ longS rs = false) := by
  unfold encB
  by_cases h1 : rs.length = 0 ∨ numOK first rs.length = false
  · exact .inl ⟨by rw [if_pos h1], h1⟩
  · rw [if_neg h1]
    have h2 : rs.length ≠ 0 := fun h => h1 (.inl h)
    have h3 : numOK first rs.length = true := by
      cases h : numOK first rs.length
      · exact absurd (.inr h) h1
      · rfl
    cases hl : longS rs
    · exact .inr (.inr ⟨by rw [if_neg (by simp)], h2, h3, rfl⟩)
    · exact .inr (.inl ⟨by rw [if_pos rfl], h2, h3, rfl⟩)
theorem u32_64 (x : UInt32) : (leV (leS x.toUInt64 4)).toUInt32 = x := leV4 x
theorem all_zeros (n : Nat) : (List.replicate n (0 : UInt8)).all (· == 0) = true := by simp
theorem zeros_of {q : List UInt8} (h : q.all (· == 0) = true) : q = List.replicate q.length 0 := by
  rw [List.eq_replicate_iff]
  exact ⟨rfl, fun x hx => by have := List.all_eq_true.1 h x hx; simpa using this⟩
/-- what Encode took, Decode gives back -/
theorem dec_block (first : UInt64) (rs : List (List UInt8)) (h0 : rs.length ≠ 0) (hn : numOK first rs.length = true) (hl : longS rs = false) : decB (blockB first rs) = (first, rs, 0) := by
  obtain ⟨h200, h494⟩ := longS_false hl
  have hcount : rs.length ≤ 65535 := by have := body_count rs; omega
  have hlen := blockB_length first rs h494
  obtain ⟨p1, p2, p3⟩ := parts (headB first rs.length) (leS (sumB (headB first rs.length) (restB rs)).toUInt64 4) (restB rs) (headB_length _ _) (leS_length _ _)
  change (blockB first rs).take 14 = _ at p1
  change ((blockB first rs).drop 14).take 4 = _ at p2
  change (blockB first rs).drop 18 = _ at p3
  obtain ⟨q1, q2, q3⟩ := head_parts first rs.length (leS (sumB (headB first rs.length) (restB rs)).toUInt64 4 ++ restB rs)
  rw [← List.append_assoc] at q1 q2 q3
  change (blockB first rs).take 4 = _ at q1
  change ((blockB first rs).drop 4).take 8 = _ at q2
  change ((blockB first rs).drop 12).take 2 = _ at q3
  have e1 : firstB (blockB first rs) = first := by unfold firstB; rw [q2, leV8]
  have e2 : countB (blockB first rs) = rs.length := by unfold countB; rw [q3, leV_len _ hcount]
  have e3 : toldB (blockB first rs) = sumB (headB first rs.length) (restB rs) := by unfold toldB; rw [p2, leV4]
  unfold decB
  rw [if_neg (by omega), if_neg (by rw [hlen, q1]; simp), e3, p1, p3, if_neg (by simp), e2, e1, if_neg (by simp [hn]; intro h; exact h0 (by rw [h]; rfl))]
  rw [restB, takeRecs_body rs _ h200]
  simp only
  rw [if_pos (all_zeros _)]
theorem take4 {b : List UInt8} (h : 18 ≤ b.length) : b = b.take 4 ++ (b.drop 4).take 8 ++ (b.drop 12).take 2 ++ (b.drop 14).take 4 ++ b.drop 18 := by
  have e1 : b.drop 14 = (b.drop 14).take 4 ++ b.drop 18 := by
    rw [show b.drop 18 = (b.drop 14).drop 4 by rw [List.drop_drop], List.take_append_drop]
  have e2 : b.drop 12 = (b.drop 12).take 2 ++ b.drop 14 := by
    rw [show b.drop 14 = (b.drop 12).drop 2 by rw [List.drop_drop], List.take_append_drop]
  have e3 : b.drop 4 = (b.drop 4).take 8 ++ b.drop 12 := by
    rw [show b.drop 12 = (b.drop 4).drop 8 by rw [List.drop_drop], List.take_append_drop]
  have h := (List.take_append_drop 4 b).symm
  rw [e3, e2, e1] at h
  simp only [List.append_assoc]
  exact h
/-- what Decode takes -/
theorem decB_cases (b : List UInt8) : (∃ k, decB b = (0, [], k) ∧ (k = 2 ∧ b.length < 512 ∨ k = 3 ∧ ¬ b.length < 512 ∨ k = 5 ∧ ¬ b.length < 512)) ∨
    ∃ l q, decB b = (firstB b, l, 0) ∧ b.length = 512 ∧ b.take 4 = magicB ∧ toldB b = sumB (b.take 14) (b.drop 18) ∧ countB b ≠ 0 ∧ numOK (firstB b) (countB b) = true ∧ takeRecs (countB b) (b.drop 18) = some (l, q) ∧ q.all (· == 0) = true := by
  unfold decB
  by_cases h1 : b.length < 512
  · exact .inl ⟨2, by rw [if_pos h1], .inl ⟨rfl, h1⟩⟩
  rw [if_neg h1]
  by_cases h2 : 512 < b.length ∨ b.take 4 ≠ magicB
  · exact .inl ⟨3, by rw [if_pos h2], .inr (.inl ⟨rfl, h1⟩)⟩
  rw [if_neg h2]
  by_cases h3 : toldB b ≠ sumB (b.take 14) (b.drop 18)
  · exact .inl ⟨5, by rw [if_pos h3], .inr (.inr ⟨rfl, h1⟩)⟩
  rw [if_neg h3]
  by_cases h4 : countB b = 0 ∨ numOK (firstB b) (countB b) = false
  · exact .inl ⟨3, by rw [if_pos h4], .inr (.inl ⟨rfl, h1⟩)⟩
  rw [if_neg h4]
  cases h5 : takeRecs (countB b) (b.drop 18) with
  | none => exact .inl ⟨3, rfl, .inr (.inl ⟨rfl, h1⟩)⟩
  | some x =>
    obtain ⟨l, q⟩ := x
    by_cases h6 : q.all (· == 0) = true
    · refine .inr ⟨l, q, by simp only; rw [if_pos h6], ?_, ?_, ?_, fun h => h4 (.inl h), ?_, rfl, h6⟩
      · by_cases hx : 512 < b.length
        · exact absurd (.inl hx) h2
        · omega
      · by_cases hx : b.take 4 = magicB
        · exact hx
        · exact absurd (.inr hx) h2
      · by_cases hx : toldB b = sumB (b.take 14) (b.drop 18)
        · exact hx
        · exact absurd hx h3
      · cases hx : numOK (firstB b) (countB b)
        · exact absurd (.inr hx) h4
        · rfl
    · exact .inl ⟨3, by simp only; rw [if_neg h6], .inr (.inl ⟨rfl, h1⟩)⟩
theorem leS_toldB {b : List UInt8} (h : b.length = 512) : leS (toldB b).toUInt64 4 = (b.drop 14).take 4 := by
  have hl : ((b.drop 14).take 4).length = 4 := by rw [List.length_take, List.length_drop]; omega
  have h1 := leS_leV ((b.drop 14).take 4) (by omega)
  have h2 := leV_bound ((b.drop 14).take 4) (by omega)
  rw [hl] at h1 h2
  have e : (toldB b).toUInt64 = leV ((b.drop 14).take 4) := by
    apply UInt64.toNat_inj.1
    unfold toldB
    simp
    omega
  rw [e, h1]
/-- what Decode takes, Encode gives back -/
theorem enc_back {b : List UInt8} {first : UInt64} {l : List (List UInt8)} (h : decB b = (first, l, 0)) : encB first l = (b, 0) := by
  rcases decB_cases b with ⟨k, hk, h1⟩ | ⟨l', q, hd, hlen, hmag, htold, hcnt, hnum, htk, hz⟩
  · rw [hk] at h
    simp only [Prod.mk.injEq] at h
    omega
  · rw [hd] at h
    simp only [Prod.mk.injEq, and_true] at h
    obtain ⟨rfl, rfl⟩ := h
    obtain ⟨e1, e2, e3⟩ := takeRecs_inv _ _ _ _ htk
    have hql : (bodyB l').length + q.length = 494 := by rw [← List.length_append, ← e1, List.length_drop]; omega
    have hrest : restB l' = b.drop 18 := by
      unfold restB
      rw [e1, show 494 - (bodyB l').length = q.length by omega, ← zeros_of hz]
    have h8 : leS (firstB b) 8 = (b.drop 4).take 8 := by
      have hl : ((b.drop 4).take 8).length = 8 := by rw [List.length_take, List.length_drop]; omega
      have := leS_leV ((b.drop 4).take 8) (by omega)
      rw [hl] at this
      exact this
    have h2 : leS (UInt64.ofNat l'.length) 2 = (b.drop 12).take 2 := by
      have hl : ((b.drop 12).take 2).length = 2 := by rw [List.length_take, List.length_drop]; omega
      have := leS_leV ((b.drop 12).take 2) (by omega)
      rw [hl] at this
      rw [← this, e2]
      exact (leS_2 _ _ rfl).symm
    have hhead : headB (firstB b) l'.length = b.take 14 := by
      unfold headB
      rw [h8, h2, ← hmag]
      have := take4 (b := b) (by omega)
      conv => rhs; rw [this]
      rw [show b.take 4 ++ (b.drop 4).take 8 ++ (b.drop 12).take 2 ++ (b.drop 14).take 4 ++ b.drop 18 = (b.take 4 ++ (b.drop 4).take 8 ++ (b.drop 12).take 2) ++ ((b.drop 14).take 4 ++ b.drop 18) by simp]
      rw [← show (b.take 4 ++ (b.drop 4).take 8 ++ (b.drop 12).take 2).length = 14 by simp; omega, List.take_left]
    have hblock : blockB (firstB b) l' = b := by
      unfold blockB
      rw [hhead, hrest, ← htold, leS_toldB hlen]
      have e14 : b.drop 14 = (b.drop 14).take 4 ++ b.drop 18 := by
        rw [show b.drop 18 = (b.drop 14).drop 4 by rw [List.drop_drop], List.take_append_drop]
      rw [List.append_assoc, ← e14, List.take_append_drop]
    have hl0 : l'.length ≠ 0 := by rw [e2]; exact hcnt
    have hln : longS l' = false := longS_of e3 (by omega)
    unfold encB
    rw [if_neg (by rw [e2, hnum]; simp; exact hcnt), if_neg (by simp [hln]), hblock]
end Go.Proofs.YtipjdkdonmoojaaDoor
