/- Layer 8's law BlockPacks. -/
import Derived.Test.YtipjdkdonmoojaaDoorBlkLT
namespace Go.Proofs.YtipjdkdonmoojaaDoor
open Go Go.RowKit
set_option linter.unusedVariables false
set_option linter.unusedSimpArgs false
attribute [local go_sem] n8_self n64_self beq_n8 bne_n8 beq_n64 bne_n64

theorem pack_three (first : UInt64) (rs : List (List UInt8)) : (rs.length = 0 ∧ packB first rs = ([], 0)) ∨ (rs.length ≠ 0 ∧ (packB first rs = ([], 1) ∨ packB first rs = ([], 4))) ∨ (rs.length ≠ 0 ∧ ∃ cs, cs = chunks rs.length rs ∧ packB first rs = (packC first cs, 0) ∧ ChainOK first cs ∧ cs.flatten = rs) := by
  by_cases h0 : rs.length = 0
  · exact .inl ⟨h0, by unfold packB; rw [if_pos h0]⟩
  refine .inr ?_
  cases hN : numOK first rs.length
  · exact .inl ⟨h0, .inl (by unfold packB; rw [if_neg h0, hN, if_pos rfl])⟩
  by_cases h2 : rs.any (fun r => decide (200 < r.length)) = true
  · exact .inl ⟨h0, .inr (by unfold packB; rw [if_neg h0, hN, if_neg (by simp), if_pos h2])⟩
  have h200 : ∀ r ∈ rs, r.length ≤ 200 := fun r hr => by
    by_cases hl : 200 < r.length
    · exact absurd (List.any_eq_true.2 ⟨r, hr, decide_eq_true hl⟩) h2
    · omega
  exact .inr ⟨h0, _, rfl, by unfold packB; rw [if_neg h0, hN, if_neg (by simp), if_neg h2], chunks_ok _ _ _ (Nat.le_refl _) h200 (fun _ => hN), chunks_flat _ _ (Nat.le_refl _) h200⟩
theorem scan_all {first : UInt64} {cs : List (List (List UInt8))} (h : ChainOK first cs) : scanB (packC first cs) [] first = (cs.flatten, cs.length) := by
  have h1 := scanF_pre cs first 0 0 [] [] h (fun _ _ _ => rfl)
  unfold scanB
  rw [packC_length cs first h, Nat.mul_div_cancel_left _ (by decide)]
  rw [List.append_nil, Nat.zero_add] at h1
  rw [h1, scanF]
  simp
theorem chain_mem : ∀ (cs : List (List (List UInt8))) (first : UInt64) (k : Nat) (hk : k < cs.length), ChainOK first cs → cs[k].length ≠ 0 ∧ longS cs[k] = false
  | c :: cs, first, 0, _, h => ⟨h.1, h.2.2.1⟩
  | c :: cs, first, k + 1, hk, h => chain_mem cs _ k (by simpa using hk) h.2.2.2
theorem chunk_full : ∀ (f : Nat) (rs : List (List UInt8)) (k : Nat) (c : List (List UInt8)) (r : List UInt8), (chunks f rs)[k]? = some c → rs[((chunks f rs).take (k + 1)).flatten.length]? = some r → 494 < (bodyB c).length + 2 + r.length
  | 0, rs, k, c, r, h, _ => by simp [chunks] at h
  | f + 1, rs, k, c, r, h, hr => by
    rw [chunks] at h hr
    by_cases h0 : rs.length = 0
    · rw [if_pos h0] at h; simp at h
    · rw [if_neg h0] at h hr
      have hle := fitN_le rs 0
      have hl : (rs.take (fitN rs 0)).length = fitN rs 0 := by rw [List.length_take]; omega
      cases k with
      | zero =>
        simp only [List.getElem?_cons_zero, Option.some.injEq] at h
        subst h
        simp only [List.take_succ_cons, List.take_zero, List.flatten_cons, List.flatten_nil, List.append_nil, hl] at hr
        obtain ⟨hlt, he⟩ := List.getElem?_eq_some_iff.1 hr
        have := fitN_max rs 0 hlt
        rw [he] at this
        omega
      | succ k =>
        simp only [List.getElem?_cons_succ] at h
        simp only [List.take_succ_cons, List.flatten_cons, List.length_append, hl] at hr
        exact chunk_full f (rs.drop (fitN rs 0)) k c r h (by rw [List.getElem?_drop]; exact hr)
theorem flat_take (cs : List (List (List UInt8))) (k : Nat) (hk : k < cs.length) : (cs.take (k + 1)).flatten.length = (cs.take k).flatten.length + cs[k].length := by
  rw [List.take_succ_eq_append_getElem hk, List.flatten_append, List.length_append]
  simp
theorem flat_take_le (cs : List (List (List UInt8))) (k : Nat) : (cs.take k).flatten.length ≤ cs.flatten.length := by
  conv => rhs; rw [← List.take_append_drop k cs, List.flatten_append, List.length_append]
  omega
theorem chunks_len : ∀ (f : Nat) (rs : List (List UInt8)), (chunks f rs).length ≤ f
  | 0, _ => Nat.le_refl _
  | f + 1, rs => by
    rw [chunks]
    split
    · simp
    · have := chunks_len f (rs.drop (fitN rs 0)); simp; omega
end Go.Proofs.YtipjdkdonmoojaaDoor
