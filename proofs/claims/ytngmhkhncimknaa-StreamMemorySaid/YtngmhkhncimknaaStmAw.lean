/- many, awake. -/
import Derived.Test.YtngmhkhncimknaaStmSm
import Derived.Laws.IdiomStrings
namespace Go.Proofs.Ytngmhkhncimknaa
open Go Go.Conc Go.RowKit
set_option linter.unusedVariables false
set_option linter.unusedSimpArgs false

/-- all bytes, and one for each piece -/
def tot1 (ls : List (List UInt8)) : Nat := (ls.map fun l => l.length + 1).sum
theorem tot1_take (ls : List (List UInt8)) (k : Nat) (hk : k < ls.length) : tot1 (ls.take (k + 1)) = tot1 (ls.take k) + (ls[k].length + 1) := by
  unfold tot1
  rw [← List.take_append_getElem hk, List.map_append, List.sum_append]
  simp

set_option maxRecDepth 100000 in
set_option maxHeartbeats 3200000 in
theorem many_calls {Post : Value → World → Prop} (A : Option Addr) (cc : Nat) (ls : List (List UInt8)) (hL : ls.length ≤ 9223372036854775807) (hP : ∀ l ∈ ls, l.length ≤ 140737488351232) (w0 : World) (hA : RowsB w0 A ls) :
    callM Try.prog (XF Try.prog (XEnds Try.prog Post)) 18 #[.slice A ls.length cc] (fun γ v w' => γ = none ∧ (∃ b, v = .bool b ∧ (b = false → tot1 ls ≤ 16777216)) ∧ Below w0.heap.size w0 w') none w0 := by
  have KK := kitF (P := Try.prog) (X := XEnds Try.prog Post) XEnds.back XEnds.at_
  have hF : FA w0 [] w0 := ⟨Below.refl _ _, fun p hp => by cases hp⟩
  have HA := Go.Lib.hid hA
  have HP := Go.Lib.hid hP
  clear hA hP
  refine callM_of_wpM KK Try.func18 rfl ?_
  simp only [Try.ntmps18, List.size_toArray, List.length_cons, List.length_nil, Nat.reduceAdd, Nat.reduceSub, Array.replicate_succ, Array.replicate_zero, List.push_toArray, List.append_toArray, List.nil_append, List.cons_append]
  refine wpM_seq KK ?_
  refine wpM_region KK ?_
  simp only [List.size_toArray, List.length_cons, List.length_nil, Nat.reduceAdd, Nat.zero_add, List.range, List.range.loop]
  refine opsN_k KK rfl (by rfl) (by rfl) ?_
  intro _ hR C hC
  replace hF := FA.rely hF hR
  clear hR
  go_simp
  refine hC _ _ ?_
  clear hC C
  try walk_nrm
  refine opsM_nil KK ?_
  try simp only [thenM, Exit.inBlock, if_true, if_false, reduceIte, Nat.reduceEqDiff]
  refine wpM_seq KK ?_
  refine wpM_region KK ?_
  simp only [List.size_toArray, List.length_cons, List.length_nil, Nat.reduceAdd, Nat.zero_add, List.range, List.range.loop]
  refine opsN_k KK rfl (by rfl) (by rfl) ?_
  intro _ hR C hC
  replace hF := FA.rely hF hR
  clear hR
  go_simp
  refine hC _ _ ?_
  clear hC C
  try walk_nrm
  refine opsM_nil KK ?_
  try simp only [thenM, Exit.inBlock, if_true, if_false, reduceIte, Nat.reduceEqDiff]
  refine wpM_seq KK ?_
  refine wpM_seq KK ?_
  refine wpM_region KK ?_
  simp only [List.size_toArray, List.length_cons, List.length_nil, Nat.reduceAdd, Nat.zero_add, List.range, List.range.loop]
  refine opsN_k KK rfl (by rfl) (by rfl) ?_
  intro _ hR C hC
  replace hF := FA.rely hF hR
  clear hR
  go_simp
  refine hC _ _ ?_
  clear hC C
  try walk_nrm
  refine opsM_nil KK ?_
  try simp only [thenM, Exit.inBlock, if_true, if_false, reduceIte, Nat.reduceEqDiff]
  refine wpM_block KK ?_
  refine wpM_loop KK (fun (γ : Option (Duet × Proto)) (a : Act) (w : World) => ∃ (k : Nat) (m : Nat) (x1 x2 x5 x6 x7 x8 x9 x10 x11 x12 x13 x14 x15 x16 x17 x18 x19 x20 x21 x22 x23 x24 : Value), γ = none ∧ a = { tmps := #[.slice A ls.length cc, x1, x2, .int .i64 (m : Int), .int .i64 (k : Int), x5, x6, x7, x8, x9, x10, x11, x12, x13, x14, x15, x16, x17, x18, x19, x20, x21, x22, x23, x24], defers := [] } ∧ k ≤ ls.length ∧ Hid (m = tot1 (ls.take k)) ∧ m ≤ 140737505128450 ∧ FA w0 [] w) (fun _ a _ => ls.length - slotN a 4) ?startx ?roundx
  case startx => exact ⟨0, 0, _, _, _, _, _, _, _, _, _, _, _, _, _, _, _, _, _, _, _, _, _, _, rfl, rfl, by omega, by simp [RowKit.Hid, tot1], by omega, hF⟩
  case roundx =>
      clear hF
      intro γ a w hI
      obtain ⟨k, m, x1, x2, x5, x6, x7, x8, x9, x10, x11, x12, x13, x14, x15, x16, x17, x18, x19, x20, x21, x22, x23, x24, rfl, rfl, hk, HM, hm, hF⟩ := hI
      refine wpM_seq KK ?_
      refine wpM_seq KK ?_
      refine wpM_region KK ?_
      simp only [List.size_toArray, List.length_cons, List.length_nil, Nat.reduceAdd, Nat.zero_add, List.range, List.range.loop]
      by_cases hlt : k < ls.length
      · have e1 : decide ((k : Int) < (ls.length : Int)) = true := decide_eq_true (by omega)
        by_cases hm2 : m ≤ 16777216
        · have e2 : decide ((m : Int) ≤ 16777216) = true := decide_eq_true (by omega)
          have HT2 := Go.Lib.hid (tot1_take ls k hlt)
          obtain ⟨b, o, hAe, A1, c1, hl1, hc1, hr1⟩ := HA.out.row k hlt
          have HC := Go.Lib.hid hc1
          have i1 : (k : Int) < (ls.length : Int) := by omega
          have hz := HP.out _ (List.getElem_mem hlt)
          clear hc1 hr1
          have HZ : Hid (m + (ls[k].length + 1) = tot1 (ls.take (k + 1))) := by rw [RowKit.Hid, HT2.out, ← HM.out]
          clear HT2
          generalize ls[k].length = z at *
          subst hAe
          have wk : IntKind.i64.wrap ((k : Int) + 1) = ((k + 1 : Nat) : Int) := by rw [IntKind.wrap_i64]; omega
          have wz : IntKind.i64.wrap ((z : Int) + 1) = ((z + 1 : Nat) : Int) := by rw [IntKind.wrap_i64]; omega
          have wm : IntKind.i64.wrap ((m : Int) + ((z : Int) + 1)) = ((m + (z + 1) : Nat) : Int) := by rw [IntKind.wrap_i64]; omega
          refine opsN_k KK rfl (by rfl) (by rfl) ?_
          intro _ hR C hC
          replace hF := FA.rely hF hR
          clear hR
          go_simp
          refine hC _ _ ?_
          clear hC C
          try walk_nrm
          refine opsN_k KK rfl (by rfl) (by rfl) ?_
          intro _ hR C hC
          replace hF := FA.rely hF hR
          clear hR
          go_simp
          refine hC _ _ ?_
          clear hC C
          try walk_nrm
          refine opsN_k KK rfl (by rfl) (by rfl) ?_
          intro _ hR C hC
          replace hF := FA.rely hF hR
          clear hR
          go_simp
          refine hC _ _ ?_
          clear hC C
          try walk_nrm
          refine opsN_k KK rfl (by rfl) (by rfl) ?_
          intro _ hR C hC
          replace hF := FA.rely hF hR
          clear hR
          go_simp
          refine hC _ _ ?_
          clear hC C
          try walk_nrm
          refine opsN_k KK rfl (by rfl) (by rfl) ?_
          intro _ hR C hC
          replace hF := FA.rely hF hR
          clear hR
          go_simp
          refine hC _ _ ?_
          clear hC C
          try walk_nrm
          refine opsN_k KK rfl (by rfl) (by rfl) ?_
          intro _ hR C hC
          replace hF := FA.rely hF hR
          clear hR
          go_simp
          refine hC _ _ ?_
          clear hC C
          try walk_nrm
          refine opsN_k KK rfl (by rfl) (by rfl) ?_
          intro _ hR C hC
          replace hF := FA.rely hF hR
          clear hR
          go_simp
          refine hC _ _ ?_
          clear hC C
          try walk_nrm
          refine opsN_k KK rfl (by rfl) (by rfl) ?_
          intro _ hR C hC
          replace hF := FA.rely hF hR
          clear hR
          go_simp
          refine hC _ _ ?_
          clear hC C
          try walk_nrm
          refine opsM_nil KK ?_
          try simp only [thenM, Exit.inBlock, if_true, if_false, reduceIte, Nat.reduceEqDiff]
          refine wpM_cond KK rfl ?_
          first | simp only [if_true, if_false, reduceIte, Bool.false_eq_true] | fail "COND"
          refine wpM_skip KK ?_
          try simp only [thenM, Exit.inBlock, if_true, if_false, reduceIte, Nat.reduceEqDiff]
          refine wpM_seq KK ?_
          refine wpM_block KK ?_
          refine wpM_region KK ?_
          simp only [List.size_toArray, List.length_cons, List.length_nil, Nat.reduceAdd, Nat.zero_add, List.range, List.range.loop]
          refine opsN_k KK rfl (by rfl) (by rfl) ?_
          intro _ hR C hC
          replace hF := FA.rely hF hR
          clear hR
          go_simp
          refine hC _ _ ?_
          clear hC C
          try walk_nrm
          refine opsN_k KK rfl (by rfl) (by rfl) ?_
          intro _ hR C hC
          replace hF := FA.rely hF hR
          clear hR
          go_simp
          refine hC _ _ ?_
          clear hC C
          try walk_nrm
          refine opsN_k KK rfl (by rfl) (by rfl) ?_
          intro _ hR C hC
          replace hF := FA.rely hF hR
          clear hR
          go_simp
          refine hC _ _ ?_
          clear hC C
          try walk_nrm
          refine opsN_k KK rfl (by rfl) (by rfl) ?_
          intro _ hR C hC
          replace hF := FA.rely hF hR
          clear hR
          go_simp
          refine hC _ _ ?_
          clear hC C
          try walk_nrm
          refine opsN_k KK rfl (by rfl) (by rfl) ?_
          intro _ hR C hC
          replace hF := FA.rely hF hR
          clear hR
          have hc := below_cell hF.below HC.out
          go_simp
          refine hC _ _ ?_
          clear hC C
          try walk_nrm
          clear hc
          refine opsN_k KK rfl (by rfl) (by rfl) ?_
          intro _ hR C hC
          replace hF := FA.rely hF hR
          clear hR
          go_simp
          refine hC _ _ ?_
          clear hC C
          try walk_nrm
          refine opsN_k KK rfl (by rfl) (by rfl) ?_
          intro _ hR C hC
          replace hF := FA.rely hF hR
          clear hR
          go_simp
          refine hC _ _ ?_
          clear hC C
          try walk_nrm
          refine opsN_k KK rfl (by rfl) (by rfl) ?_
          intro _ hR C hC
          replace hF := FA.rely hF hR
          clear hR
          go_simp
          refine hC _ _ ?_
          clear hC C
          try walk_nrm
          refine opsN_k KK rfl (by rfl) (by rfl) ?_
          intro _ hR C hC
          replace hF := FA.rely hF hR
          clear hR
          go_simp
          refine hC _ _ ?_
          clear hC C
          try walk_nrm
          refine opsM_nil KK ?_
          try simp only [thenM, Exit.inBlock, if_true, if_false, reduceIte, Nat.reduceEqDiff]
          refine wpM_region KK ?_
          simp only [List.size_toArray, List.length_cons, List.length_nil, Nat.reduceAdd, Nat.zero_add, List.range, List.range.loop]
          refine opsN_k KK rfl (by rfl) (by rfl) ?_
          intro _ hR C hC
          replace hF := FA.rely hF hR
          clear hR
          go_simp
          refine hC _ _ ?_
          clear hC C
          try walk_nrm
          refine opsN_k KK rfl (by rfl) (by rfl) ?_
          intro _ hR C hC
          replace hF := FA.rely hF hR
          clear hR
          go_simp
          refine hC _ _ ?_
          clear hC C
          try walk_nrm
          refine opsN_k KK rfl (by rfl) (by rfl) ?_
          intro _ hR C hC
          replace hF := FA.rely hF hR
          clear hR
          go_simp
          refine hC _ _ ?_
          clear hC C
          try walk_nrm
          refine opsM_nil KK ?_
          try simp only [thenM, Exit.inBlock, if_true, if_false, reduceIte, Nat.reduceEqDiff]
          refine ⟨⟨k + 1, m + (z + 1), _, _, _, _, _, _, _, _, _, _, _, _, _, _, _, _, _, _, _, _, _, _, (by first | rfl | trivial), rfl, by omega, HZ.out, by omega, hF⟩, ?_⟩
          show ls.length - ((k : Int) + 1).toNat < ls.length - (k : Int).toNat
          omega
        · have e2 : decide ((m : Int) ≤ 16777216) = false := decide_eq_false (by omega)
          have e3 : decide ((16777216 : Int) < (m : Int)) = true := decide_eq_true (by omega)
          refine opsN_k KK rfl (by rfl) (by rfl) ?_
          intro _ hR C hC
          replace hF := FA.rely hF hR
          clear hR
          go_simp
          refine hC _ _ ?_
          clear hC C
          try walk_nrm
          refine opsN_k KK rfl (by rfl) (by rfl) ?_
          intro _ hR C hC
          replace hF := FA.rely hF hR
          clear hR
          go_simp
          refine hC _ _ ?_
          clear hC C
          try walk_nrm
          refine opsN_k KK rfl (by rfl) (by rfl) ?_
          intro _ hR C hC
          replace hF := FA.rely hF hR
          clear hR
          go_simp
          refine hC _ _ ?_
          clear hC C
          try walk_nrm
          refine opsN_k KK rfl (by rfl) (by rfl) ?_
          intro _ hR C hC
          replace hF := FA.rely hF hR
          clear hR
          go_simp
          refine hC _ _ ?_
          clear hC C
          try walk_nrm
          refine opsN_k KK rfl (by rfl) (by rfl) ?_
          intro _ hR C hC
          replace hF := FA.rely hF hR
          clear hR
          go_simp
          refine hC _ _ ?_
          clear hC C
          try walk_nrm
          refine opsN_k KK rfl (by rfl) (by rfl) ?_
          intro _ hR C hC
          replace hF := FA.rely hF hR
          clear hR
          go_simp
          refine hC _ _ ?_
          clear hC C
          try walk_nrm
          refine opsN_k KK rfl (by rfl) (by rfl) ?_
          intro _ hR C hC
          replace hF := FA.rely hF hR
          clear hR
          go_simp
          refine hC _ _ ?_
          clear hC C
          try walk_nrm
          refine opsN_k KK rfl (by rfl) (by rfl) ?_
          intro _ hR C hC
          replace hF := FA.rely hF hR
          clear hR
          go_simp
          refine hC _ _ ?_
          clear hC C
          try walk_nrm
          refine opsM_nil KK ?_
          try simp only [thenM, Exit.inBlock, if_true, if_false, reduceIte, Nat.reduceEqDiff]
          refine wpM_cond KK rfl ?_
          first | simp only [if_true, if_false, reduceIte, Bool.false_eq_true] | fail "COND"
          refine wpM_exit KK ?_
          try simp only [thenM, Exit.inBlock, if_true, if_false, reduceIte, Nat.reduceEqDiff]
          refine wpM_seq KK ?_
          refine wpM_region KK ?_
          simp only [List.size_toArray, List.length_cons, List.length_nil, Nat.reduceAdd, Nat.zero_add, List.range, List.range.loop]
          refine opsN_k KK rfl (by rfl) (by rfl) ?_
          intro _ hR C hC
          replace hF := FA.rely hF hR
          clear hR
          go_simp
          refine hC _ _ ?_
          clear hC C
          try walk_nrm
          refine opsN_k KK rfl (by rfl) (by rfl) ?_
          intro _ hR C hC
          replace hF := FA.rely hF hR
          clear hR
          go_simp
          refine hC _ _ ?_
          clear hC C
          try walk_nrm
          refine opsN_k KK rfl (by rfl) (by rfl) ?_
          intro _ hR C hC
          replace hF := FA.rely hF hR
          clear hR
          go_simp
          refine hC _ _ ?_
          clear hC C
          try walk_nrm
          refine opsM_nil KK ?_
          try simp only [thenM, Exit.inBlock, if_true, if_false, reduceIte, Nat.reduceEqDiff]
          refine wpM_ret KK ?_
          try simp only [thenM, Exit.inBlock, if_true, if_false, reduceIte, Nat.reduceEqDiff]
          exact ⟨rfl, _, resultsC_tmp (by rfl) _, rfl, ⟨true, by simp, fun h => by cases h⟩, hF.below⟩
      obtain rfl : k = ls.length := by omega
      have e1 : decide ((ls.length : Int) < (ls.length : Int)) = false := decide_eq_false (by omega)
      refine opsN_k KK rfl (by rfl) (by rfl) ?_
      intro _ hR C hC
      replace hF := FA.rely hF hR
      clear hR
      go_simp
      refine hC _ _ ?_
      clear hC C
      try walk_nrm
      refine opsN_k KK rfl (by rfl) (by rfl) ?_
      intro _ hR C hC
      replace hF := FA.rely hF hR
      clear hR
      go_simp
      refine hC _ _ ?_
      clear hC C
      try walk_nrm
      refine opsN_k KK rfl (by rfl) (by rfl) ?_
      intro _ hR C hC
      replace hF := FA.rely hF hR
      clear hR
      go_simp
      refine hC _ _ ?_
      clear hC C
      try walk_nrm
      refine opsN_k KK rfl (by rfl) (by rfl) ?_
      intro _ hR C hC
      replace hF := FA.rely hF hR
      clear hR
      go_simp
      refine hC _ _ ?_
      clear hC C
      try walk_nrm
      refine opsN_k KK rfl (by rfl) (by rfl) ?_
      intro _ hR C hC
      replace hF := FA.rely hF hR
      clear hR
      go_simp
      refine hC _ _ ?_
      clear hC C
      try walk_nrm
      refine opsM_pass KK rfl (by rfl) ?_
      try walk_nrm
      refine opsM_pass KK rfl (by rfl) ?_
      try walk_nrm
      refine opsN_k KK rfl (by rfl) (by rfl) ?_
      intro _ hR C hC
      replace hF := FA.rely hF hR
      clear hR
      go_simp
      refine hC _ _ ?_
      clear hC C
      try walk_nrm
      refine opsM_nil KK ?_
      try simp only [thenM, Exit.inBlock, if_true, if_false, reduceIte, Nat.reduceEqDiff]
      refine wpM_cond KK rfl ?_
      first | simp only [if_true, if_false, reduceIte, Bool.false_eq_true] | fail "COND"
      refine wpM_exit KK ?_
      try simp only [thenM, Exit.inBlock, if_true, if_false, reduceIte, Nat.reduceEqDiff]
      refine wpM_seq KK ?_
      refine wpM_region KK ?_
      simp only [List.size_toArray, List.length_cons, List.length_nil, Nat.reduceAdd, Nat.zero_add, List.range, List.range.loop]
      refine opsN_k KK rfl (by rfl) (by rfl) ?_
      intro _ hR C hC
      replace hF := FA.rely hF hR
      clear hR
      go_simp
      refine hC _ _ ?_
      clear hC C
      try walk_nrm
      refine opsN_k KK rfl (by rfl) (by rfl) ?_
      intro _ hR C hC
      replace hF := FA.rely hF hR
      clear hR
      go_simp
      refine hC _ _ ?_
      clear hC C
      try walk_nrm
      refine opsN_k KK rfl (by rfl) (by rfl) ?_
      intro _ hR C hC
      replace hF := FA.rely hF hR
      clear hR
      go_simp
      refine hC _ _ ?_
      clear hC C
      try walk_nrm
      refine opsM_nil KK ?_
      try simp only [thenM, Exit.inBlock, if_true, if_false, reduceIte, Nat.reduceEqDiff]
      refine wpM_ret KK ?_
      try simp only [thenM, Exit.inBlock, if_true, if_false, reduceIte, Nat.reduceEqDiff]
      refine ⟨rfl, _, resultsC_tmp (by rfl) _, rfl, ⟨decide ((16777216 : Int) < (m : Int)), by simp, fun h => ?_⟩, hF.below⟩
      have h1 := HM.out
      rw [List.take_length] at h1
      have := of_decide_eq_false h
      omega
end Go.Proofs.Ytngmhkhncimknaa
