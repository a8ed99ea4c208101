/- StreamCuts: the walk of the law. -/
import Derived.Test.YtngmhkhncimknaaStmHold
namespace Go.Proofs.Ytngmhkhncimknaa
open Go Go.Conc Go.RowKit
set_option linter.unusedVariables false
set_option linter.unusedSimpArgs false

set_option maxRecDepth 100000 in
set_option maxHeartbeats 6400000 in
theorem cuts_run {Post : Value → World → Prop} (A : Option Addr) (cc : Nat) (ls : List (List UInt8)) (hL : ls.length ≤ 9223372036854775807) (hP : ∀ l ∈ ls, l.length ≤ 140737488351232) (w0 : World) (hA : RowsB w0 A ls) (hpost : ∀ w', Below w0.heap.size w0 w' → Post (.bool true) w') :
    EndsRun Try.prog Post (solo (G (Frame.enter Try.prog 5 #[.slice A ls.length cc] .normal) []) w0) #[] := by
  have HA := Go.Lib.hid hA
  have HP := Go.Lib.hid hP
  clear hA hP
  have KK := kitF (P := Try.prog) (X := XEnds Try.prog Post) XEnds.back XEnds.at_
  have hF : FA w0 [] w0 := ⟨Below.refl _ _, fun p hp => by cases hp⟩
  refine runs_of_wpM Try.func5 rfl (by kernel_rfl) (by kernel_rfl) ?_
  simp only [Try.ntmps5, List.size_toArray, List.length_cons, List.length_nil, Nat.reduceAdd, Nat.reduceSub, Array.replicate_succ, Array.replicate_zero, List.push_toArray, List.append_toArray, List.nil_append, List.cons_append]
  refine wpM_seq KK ?_
  refine wpM_region KK ?_
  simp only [List.size_toArray, List.length_cons, List.length_nil, Nat.reduceAdd, Nat.zero_add, List.range, List.range.loop]
  refine opsN_k KK rfl (by rfl) (by rfl) ?_
  intro _ hR C hC
  replace hF := FA.rely hF hR
  clear hR
  go_simp
  refine hC _ _ ?_
  clear hC C
  try walk_nrm
  refine opsM_nil KK ?_
  try simp only [thenM, Exit.inBlock, if_true, if_false, reduceIte, Nat.reduceEqDiff]
  refine wpM_seq KK ?_
  refine wpM_seq KK ?_
  refine wpM_region KK ?_
  simp only [List.size_toArray, List.length_cons, List.length_nil, Nat.reduceAdd, Nat.zero_add, List.range, List.range.loop]
  refine opsM_fcall KK (vals := #[]) rfl (by rfl) rfl Try.func7 (by rfl) rfl (by first | rfl | simp) ?_
  refine callM_mono (awake_calls _) ?_
  rintro γ v w ⟨rfl, rfl, hB⟩
  replace hF := hF.next hB
  clear hB
  try walk_nrm
  refine opsN_k KK rfl (by rfl) (by rfl) ?_
  intro _ hR C hC
  replace hF := FA.rely hF hR
  clear hR
  go_simp
  refine hC _ _ ?_
  clear hC C
  try walk_nrm
  refine opsM_nil KK ?_
  try simp only [thenM, Exit.inBlock, if_true, if_false, reduceIte, Nat.reduceEqDiff]
  refine wpM_cond KK rfl ?_
  first | simp only [if_true, if_false, reduceIte, Bool.false_eq_true] | fail "COND"
  refine wpM_skip KK ?_
  try simp only [thenM, Exit.inBlock, if_true, if_false, reduceIte, Nat.reduceEqDiff]
  refine wpM_seq KK ?_
  refine wpM_seq KK ?_
  refine wpM_region KK ?_
  simp only [List.size_toArray, List.length_cons, List.length_nil, Nat.reduceAdd, Nat.zero_add, List.range, List.range.loop]
  refine opsN_k KK rfl (by rfl) (by rfl) ?_
  intro _ hR C hC
  replace hF := FA.rely hF hR
  clear hR
  go_simp
  refine hC _ _ ?_
  clear hC C
  try walk_nrm
  refine opsM_fcall KK (vals := #[.slice A ls.length cc]) rfl (by rfl) rfl Try.func18 (by rfl) rfl (by simp [Act.eval]) ?_
  refine callM_mono (many_calls A cc ls hL HP.out _ (rowsB_below hF.below HA.out)) ?_
  rintro γ v w ⟨rfl, ⟨b, rfl, hb⟩, hB⟩
  replace hF := hF.next hB
  have HM := Go.Lib.hid hb
  clear hB hb
  try walk_nrm
  refine opsM_nil KK ?_
  try simp only [thenM, Exit.inBlock, if_true, if_false, reduceIte, Nat.reduceEqDiff]
  cases b with
  | true =>
    refine wpM_cond KK rfl ?_
    first | simp only [if_true, if_false, reduceIte, Bool.false_eq_true] | fail "COND"
    refine wpM_seq KK ?_
    refine wpM_region KK ?_
    simp only [List.size_toArray, List.length_cons, List.length_nil, Nat.reduceAdd, Nat.zero_add, List.range, List.range.loop]
    refine opsN_k KK rfl (by rfl) (by rfl) ?_
    intro _ hR C hC
    replace hF := FA.rely hF hR
    clear hR
    go_simp
    refine hC _ _ ?_
    clear hC C
    try walk_nrm
    refine opsM_nil KK ?_
    try simp only [thenM, Exit.inBlock, if_true, if_false, reduceIte, Nat.reduceEqDiff]
    refine wpM_ret KK ?_
    try simp only [thenM, Exit.inBlock, if_true, if_false, reduceIte, Nat.reduceEqDiff]
    exact ⟨rfl, .bool true, resultsC_tmp (t := 2) (by rfl) _, rfl, fun d => hpost _ (FA.rely hF ⟨d, rfl⟩).below⟩
  | false =>
  have hM := HM.out rfl
  clear HM
  have hT : totL ls ≤ 16777216 := Nat.le_trans (totL_le ls) hM
  refine wpM_cond KK rfl ?_
  first | simp only [if_true, if_false, reduceIte, Bool.false_eq_true] | fail "COND"
  refine wpM_skip KK ?_
  try simp only [thenM, Exit.inBlock, if_true, if_false, reduceIte, Nat.reduceEqDiff]
  refine wpM_seq KK ?_
  refine wpM_region KK ?_
  simp only [List.size_toArray, List.length_cons, List.length_nil, Nat.reduceAdd, Nat.zero_add, List.range, List.range.loop]
  refine opsN_k KK rfl (by rfl) (by rfl) ?_
  intro _ hR C hC
  replace hF := FA.rely hF hR
  clear hR
  go_simp
  refine hC _ _ ?_
  clear hC C
  try walk_nrm
  refine opsM_nil KK ?_
  try simp only [thenM, Exit.inBlock, if_true, if_false, reduceIte, Nat.reduceEqDiff]
  replace hF : FO w0 w0.heap.size (.slice none 0 0) [] _ := ⟨hF.below, World.ownsRow_nil _ _ _ 1⟩
  refine wpM_seq KK ?_
  refine wpM_seq KK ?_
  refine wpM_region KK ?_
  simp only [List.size_toArray, List.length_cons, List.length_nil, Nat.reduceAdd, Nat.zero_add, List.range, List.range.loop]
  refine opsN_k KK rfl (by rfl) (by rfl) ?_
  intro _ hR C hC
  replace hF := FO.rely hF hR
  clear hR
  go_simp
  refine hC _ _ ?_
  clear hC C
  try walk_nrm
  refine opsM_nil KK ?_
  try simp only [thenM, Exit.inBlock, if_true, if_false, reduceIte, Nat.reduceEqDiff]
  refine wpM_block KK ?_
  refine wpM_loop KK (fun (γ : Option (Duet × Proto)) (a : Act) (w : World) => ∃ (k : Nat) (VA : Option Addr) (vn : Nat) (vc : Nat) (Fx : Nat → Value), γ = none ∧ a = { tmps := #[.slice A ls.length cc, Fx 1, Fx 2, .slice VA vn vc, .int .i64 (k : Int), Fx 5, Fx 6, Fx 7, Fx 8, Fx 9, Fx 10, Fx 11, Fx 12, Fx 13, Fx 14, Fx 15, Fx 16, Fx 17, Fx 18, Fx 19, Fx 20, Fx 21, Fx 22, Fx 23, Fx 24, Fx 25, Fx 26, Fx 27, Fx 28, Fx 29, Fx 30, Fx 31, Fx 32, Fx 33, Fx 34, Fx 35, Fx 36, Fx 37, Fx 38, Fx 39, Fx 40, Fx 41, Fx 42, Fx 43, Fx 44, Fx 45, Fx 46, Fx 47, Fx 48, Fx 49, Fx 50, Fx 51, Fx 52, Fx 53, Fx 54, Fx 55, Fx 56, Fx 57, Fx 58, Fx 59, Fx 60, Fx 61, Fx 62, Fx 63, Fx 64, Fx 65, Fx 66, Fx 67, Fx 68, Fx 69, Fx 70, Fx 71, Fx 72, Fx 73, Fx 74, Fx 75, Fx 76, Fx 77, Fx 78, Fx 79, Fx 80, Fx 81, Fx 82, Fx 83, Fx 84, Fx 85, Fx 86, Fx 87, Fx 88, Fx 89, Fx 90, Fx 91, Fx 92, Fx 93, Fx 94, Fx 95, Fx 96, Fx 97, Fx 98, Fx 99, Fx 100, Fx 101, Fx 102], defers := [] } ∧ k ≤ ls.length ∧ FO w0 w0.heap.size (.slice VA vn vc) ((ls.take k).flatten) w) (fun _ a _ => ls.length - slotN a 4) ?startx ?roundx
  case startx => exact ⟨0, none, 0, 0, (fun i => (#[undef, _, _, undef, undef, _, _, _, _, _, _, _, _, _, _, _, _, _, _, _, _, _, _, _, _, _, _, _, _, _, _, _, _, _, _, _, _, _, _, _, _, _, _, _, _, _, _, _, _, _, _, _, _, _, _, _, _, _, _, _, _, _, _, _, _, _, _, _, _, _, _, _, _, _, _, _, _, _, _, _, _, _, _, _, _, _, _, _, _, _, _, _, _, _, _, _, _, _, _, _, _, _, _] : Array Value).getD i undef), rfl, rfl, by omega, hF⟩
  case roundx =>
      clear hF
      intro γ a w hI
      obtain ⟨k, VA, vn, vc, Fx, rfl, rfl, hk, hF⟩ := hI
      refine wpM_seq KK ?_
      refine wpM_seq KK ?_
      refine wpM_region KK ?_
      simp only [List.size_toArray, List.length_cons, List.length_nil, Nat.reduceAdd, Nat.zero_add, List.range, List.range.loop]
      by_cases hlt : k < ls.length
      · have e1 : decide ((k : Int) < (ls.length : Int)) = true := decide_eq_true (by omega)
        have i1 : (k : Int) < (ls.length : Int) := by omega
        have HT := Go.Lib.hid (flat_take ls k hlt)
        have HS : Hid (((ls.take k).flatten).length ≤ 16777216 ∧ ls[k].length ≤ 16777216) := by
            have h1 := totL_take ls k hlt
            have h2 := totL_mono ls (k + 1)
            rw [RowKit.Hid, flatten_totL]
            omega
        obtain ⟨b, o, hAe, A1, c1, hcc, hc1, hr1⟩ := HA.out.row2 k hlt
        have HC := Go.Lib.hid hc1
        have HR := Go.Lib.hid hr1
        clear hc1 hr1 hcc
        generalize ls[k] = lb at *
        subst hAe
        refine opsN_k KK rfl (by rfl) (by rfl) ?_
        intro _ hR C hC
        replace hF := FO.rely hF hR
        clear hR
        go_simp
        refine hC _ _ ?_
        clear hC C
        try walk_nrm
        refine opsN_k KK rfl (by rfl) (by rfl) ?_
        intro _ hR C hC
        replace hF := FO.rely hF hR
        clear hR
        go_simp
        refine hC _ _ ?_
        clear hC C
        try walk_nrm
        refine opsN_k KK rfl (by rfl) (by rfl) ?_
        intro _ hR C hC
        replace hF := FO.rely hF hR
        clear hR
        go_simp
        refine hC _ _ ?_
        clear hC C
        try walk_nrm
        refine opsN_k KK rfl (by rfl) (by rfl) ?_
        intro _ hR C hC
        replace hF := FO.rely hF hR
        clear hR
        go_simp
        refine hC _ _ ?_
        clear hC C
        try walk_nrm
        refine opsM_nil KK ?_
        try simp only [thenM, Exit.inBlock, if_true, if_false, reduceIte, Nat.reduceEqDiff]
        refine wpM_cond KK rfl ?_
        first | simp only [if_true, if_false, reduceIte, Bool.false_eq_true] | fail "COND"
        refine wpM_skip KK ?_
        try simp only [thenM, Exit.inBlock, if_true, if_false, reduceIte, Nat.reduceEqDiff]
        refine wpM_seq KK ?_
        refine wpM_block KK ?_
        refine wpM_region KK ?_
        simp only [List.size_toArray, List.length_cons, List.length_nil, Nat.reduceAdd, Nat.zero_add, List.range, List.range.loop]
        refine opsN_k KK rfl (by rfl) (by rfl) ?_
        intro _ hR C hC
        replace hF := FO.rely hF hR
        clear hR
        go_simp
        refine hC _ _ ?_
        clear hC C
        try walk_nrm
        refine opsN_k KK rfl (by rfl) (by rfl) ?_
        intro _ hR C hC
        replace hF := FO.rely hF hR
        clear hR
        go_simp
        refine hC _ _ ?_
        clear hC C
        try walk_nrm
        refine opsN_k KK rfl (by rfl) (by rfl) ?_
        intro _ hR C hC
        replace hF := FO.rely hF hR
        clear hR
        go_simp
        refine hC _ _ ?_
        clear hC C
        try walk_nrm
        refine opsN_k KK rfl (by rfl) (by rfl) ?_
        intro _ hR C hC
        replace hF := FO.rely hF hR
        clear hR
        go_simp
        refine hC _ _ ?_
        clear hC C
        try walk_nrm
        refine opsN_k KK rfl (by rfl) (by rfl) ?_
        intro _ hR C hC
        replace hF := FO.rely hF hR
        clear hR
        have hc := below_cell hF.below HC.out
        go_simp
        refine hC _ _ ?_
        clear hC C
        try walk_nrm
        clear hc
        refine opsN_k KK rfl (by rfl) (by rfl) ?_
        intro w1 hR C hC
        replace hF := FO.rely hF hR
        clear hR
        obtain ⟨v', w', hr, ho, hg⟩ := run_append_bytes (P := Try.prog) w1 w0.heap.size 30 30 5 (by kernel_rfl) (by kernel_rfl) (.slice VA vn vc) ((ls.take k).flatten) lb A1 c1 hF.own (cells_below hF.below HR.out) (by have := HS.out; omega) hF.below.size
        rw [← HT.out] at ho
        replace hF : FO w0 w0.heap.size v' ((ls.take (k + 1)).flatten) w' := ⟨below_grown hF.below hF.own hg (Nat.le_refl _) hF.below.size, ho⟩
        obtain ⟨nA, nn, nc, rfl⟩ := hF.slice
        refine uponK_append _ _ _ rfl rfl rfl hr (hC _ _ ?_)
        clear hC C
        clear hr ho hg
        try walk_nrm
        refine opsN_k KK rfl (by rfl) (by rfl) ?_
        intro _ hR C hC
        replace hF := FO.rely hF hR
        clear hR
        go_simp
        refine hC _ _ ?_
        clear hC C
        try walk_nrm
        refine opsM_nil KK ?_
        try simp only [thenM, Exit.inBlock, if_true, if_false, reduceIte, Nat.reduceEqDiff]
        have wk : IntKind.i64.wrap ((k : Int) + 1) = ((k + 1 : Nat) : Int) := by rw [IntKind.wrap_i64]; omega
        refine wpM_region KK ?_
        simp only [List.size_toArray, List.length_cons, List.length_nil, Nat.reduceAdd, Nat.zero_add, List.range, List.range.loop]
        refine opsN_k KK rfl (by rfl) (by rfl) ?_
        intro _ hR C hC
        replace hF := FO.rely hF hR
        clear hR
        go_simp
        refine hC _ _ ?_
        clear hC C
        try walk_nrm
        refine opsN_k KK rfl (by rfl) (by rfl) ?_
        intro _ hR C hC
        replace hF := FO.rely hF hR
        clear hR
        go_simp
        refine hC _ _ ?_
        clear hC C
        try walk_nrm
        refine opsN_k KK rfl (by rfl) (by rfl) ?_
        intro _ hR C hC
        replace hF := FO.rely hF hR
        clear hR
        go_simp
        refine hC _ _ ?_
        clear hC C
        try walk_nrm
        refine opsM_nil KK ?_
        try simp only [thenM, Exit.inBlock, if_true, if_false, reduceIte, Nat.reduceEqDiff]
        refine ⟨⟨k + 1, nA, nn, nc, (fun i => (#[undef, _, _, undef, undef, _, _, _, _, _, _, _, _, _, _, _, _, _, _, _, _, _, _, _, _, _, _, _, _, _, _, _, _, _, _, _, _, _, _, _, _, _, _, _, _, _, _, _, _, _, _, _, _, _, _, _, _, _, _, _, _, _, _, _, _, _, _, _, _, _, _, _, _, _, _, _, _, _, _, _, _, _, _, _, _, _, _, _, _, _, _, _, _, _, _, _, _, _, _, _, _, _, _] : Array Value).getD i undef), (by first | rfl | trivial), rfl, by omega, hF⟩, ?_⟩
        show ls.length - ((k : Int) + 1).toNat < ls.length - (k : Int).toNat
        omega
      obtain rfl : k = ls.length := by omega
      have e1 : decide ((ls.length : Int) < (ls.length : Int)) = false := decide_eq_false (by omega)
      refine opsN_k KK rfl (by rfl) (by rfl) ?_
      intro _ hR C hC
      replace hF := FO.rely hF hR
      clear hR
      go_simp
      refine hC _ _ ?_
      clear hC C
      try walk_nrm
      refine opsN_k KK rfl (by rfl) (by rfl) ?_
      intro _ hR C hC
      replace hF := FO.rely hF hR
      clear hR
      go_simp
      refine hC _ _ ?_
      clear hC C
      try walk_nrm
      refine opsN_k KK rfl (by rfl) (by rfl) ?_
      intro _ hR C hC
      replace hF := FO.rely hF hR
      clear hR
      go_simp
      refine hC _ _ ?_
      clear hC C
      try walk_nrm
      refine opsN_k KK rfl (by rfl) (by rfl) ?_
      intro _ hR C hC
      replace hF := FO.rely hF hR
      clear hR
      go_simp
      refine hC _ _ ?_
      clear hC C
      try walk_nrm
      refine opsM_nil KK ?_
      try simp only [thenM, Exit.inBlock, if_true, if_false, reduceIte, Nat.reduceEqDiff]
      refine wpM_cond KK rfl ?_
      first | simp only [if_true, if_false, reduceIte, Bool.false_eq_true] | fail "COND"
      refine wpM_exit KK ?_
      try simp only [thenM, Exit.inBlock, if_true, if_false, reduceIte, Nat.reduceEqDiff]
      rw [List.take_length] at hF
      have HL := Go.Lib.hid (flatten_totL ls)
      obtain ⟨l, hl⟩ : ∃ l, ls.flatten = l := ⟨_, rfl⟩
      rw [hl] at hF HL
      have HFL := Go.Lib.hid hl
      clear hl
      have hll : l.length ≤ 16777216 := by have := HL.out; omega
      obtain ⟨rfl, q1, q2⟩ : vn = l.length ∧ l.length ≤ vc ∧ vc ≤ 9223372036854775807 := by
        obtain ⟨A', c', e, p1, p2, _⟩ := own_slice hF.own
        rw [Bs_length] at e p1
        simp only [Value.slice.injEq] at e
        obtain ⟨_, rfl, rfl⟩ := e
        exact ⟨rfl, p1, p2⟩
      have hF : FS w0 VA vc l (.slice none 0 0) 0 _ := ⟨hF.below, hF.own, World.ownsRow_nil _ _ _ 1⟩
      refine wpM_seq KK ?_
      refine wpM_region KK ?_
      simp only [List.size_toArray, List.length_cons, List.length_nil, Nat.reduceAdd, Nat.zero_add, List.range, List.range.loop]
      refine opsN_k KK rfl (by rfl) (by rfl) ?_
      intro _ hR C hC
      replace hF := FS.rely hF hR
      clear hR
      go_simp
      refine hC _ _ ?_
      clear hC C
      try walk_nrm
      refine opsM_nil KK ?_
      try simp only [thenM, Exit.inBlock, if_true, if_false, reduceIte, Nat.reduceEqDiff]
      refine wpM_seq KK ?_
      refine wpM_seq KK ?_
      refine wpM_region KK ?_
      simp only [List.size_toArray, List.length_cons, List.length_nil, Nat.reduceAdd, Nat.zero_add, List.range, List.range.loop]
      refine opsN_k KK rfl (by rfl) (by rfl) ?_
      intro _ hR C hC
      replace hF := FS.rely hF hR
      clear hR
      go_simp
      refine hC _ _ ?_
      clear hC C
      try walk_nrm
      refine opsM_nil KK ?_
      try simp only [thenM, Exit.inBlock, if_true, if_false, reduceIte, Nat.reduceEqDiff]
      refine wpM_block KK ?_
      refine wpM_loop KK (fun (γ : Option (Duet × Proto)) (a : Act) (w : World) => ∃ (k : Nat) (SA : Option Addr) (sn : Nat) (sc : Nat) (Fy : Nat → Value), γ = none ∧ a = { tmps := #[.slice A ls.length cc, Fy 1, Fy 2, .slice VA l.length vc, Fy 4, .slice SA sn sc, .int .i64 (k : Int), Fy 7, Fy 8, Fy 9, Fy 10, Fy 11, Fy 12, Fy 13, Fy 14, Fy 15, Fy 16, Fy 17, Fy 18, Fy 19, Fy 20, Fy 21, Fy 22, Fy 23, Fy 24, Fy 25, Fy 26, Fy 27, Fy 28, Fy 29, Fy 30, Fy 31, Fy 32, Fy 33, Fy 34, Fy 35, Fy 36, Fy 37, Fy 38, Fy 39, Fy 40, Fy 41, Fy 42, Fy 43, Fy 44, Fy 45, Fy 46, Fy 47, Fy 48, Fy 49, Fy 50, Fy 51, Fy 52, Fy 53, Fy 54, Fy 55, Fy 56, Fy 57, Fy 58, Fy 59, Fy 60, Fy 61, Fy 62, Fy 63, Fy 64, Fy 65, Fy 66, Fy 67, Fy 68, Fy 69, Fy 70, Fy 71, Fy 72, Fy 73, Fy 74, Fy 75, Fy 76, Fy 77, Fy 78, Fy 79, Fy 80, Fy 81, Fy 82, Fy 83, Fy 84, Fy 85, Fy 86, Fy 87, Fy 88, Fy 89, Fy 90, Fy 91, Fy 92, Fy 93, Fy 94, Fy 95, Fy 96, Fy 97, Fy 98, Fy 99, Fy 100, Fy 101, Fy 102], defers := [] } ∧ k ≤ l.length ∧ FS w0 VA vc l (.slice SA sn sc) k w) (fun _ a _ => l.length - slotN a 6) ?starty ?roundy
      case starty => exact ⟨0, none, 0, 0, (fun i => (#[undef, _, _, undef, _, undef, undef, _, _, _, _, _, _, _, _, _, _, _, _, _, _, _, _, _, _, _, _, _, _, _, _, _, _, _, _, _, _, _, _, _, _, _, _, _, _, _, _, _, _, _, _, _, _, _, _, _, _, _, _, _, _, _, _, _, _, _, _, _, _, _, _, _, _, _, _, _, _, _, _, _, _, _, _, _, _, _, _, _, _, _, _, _, _, _, _, _, _, _, _, _, _, _, _] : Array Value).getD i undef), rfl, rfl, by omega, hF⟩
      case roundy =>
          clear hF
          intro γ a w hI
          obtain ⟨k, SA, sn, sc, Fy, rfl, rfl, hk, hF⟩ := hI
          refine wpM_seq KK ?_
          refine wpM_seq KK ?_
          refine wpM_region KK ?_
          simp only [List.size_toArray, List.length_cons, List.length_nil, Nat.reduceAdd, Nat.zero_add, List.range, List.range.loop]
          by_cases hlt : k < l.length
          · have e1 : decide ((k : Int) < (l.length : Int)) = true := decide_eq_true (by omega)
            have wk : IntKind.i64.wrap ((k : Int) + 1) = (k : Int) + 1 := by rw [IntKind.wrap_i64]; omega
            have hcut : ∀ W : World, (Instr.slice 30 (.slice VA l.length vc) (some (.int .i64 (k : Int))) (some (.int .i64 ((k : Int) + 1))) none).run Try.prog W = .ok (.slice (cutA VA vc k) 1 (vc - k)) W := by
                have h := run_cut_lh (P := Try.prog) 30 5 Try.underlying30 (by kernel_rfl) VA l.length vc k (k + 1) (by omega) (by omega)
                rw [show k + 1 - k = 1 by omega, show ((k + 1 : Nat) : Int) = (k : Int) + 1 by omega] at h
                exact h
            refine opsN_k KK rfl (by rfl) (by rfl) ?_
            intro _ hR C hC
            replace hF := FS.rely hF hR
            clear hR
            go_simp
            refine hC _ _ ?_
            clear hC C
            try walk_nrm
            refine opsN_k KK rfl (by rfl) (by rfl) ?_
            intro _ hR C hC
            replace hF := FS.rely hF hR
            clear hR
            go_simp
            refine hC _ _ ?_
            clear hC C
            try walk_nrm
            refine opsN_k KK rfl (by rfl) (by rfl) ?_
            intro _ hR C hC
            replace hF := FS.rely hF hR
            clear hR
            go_simp
            refine hC _ _ ?_
            clear hC C
            try walk_nrm
            refine opsN_k KK rfl (by rfl) (by rfl) ?_
            intro _ hR C hC
            replace hF := FS.rely hF hR
            clear hR
            go_simp
            refine hC _ _ ?_
            clear hC C
            try walk_nrm
            refine opsM_nil KK ?_
            try simp only [thenM, Exit.inBlock, if_true, if_false, reduceIte, Nat.reduceEqDiff]
            refine wpM_cond KK rfl ?_
            first | simp only [if_true, if_false, reduceIte, Bool.false_eq_true] | fail "COND"
            refine wpM_skip KK ?_
            try simp only [thenM, Exit.inBlock, if_true, if_false, reduceIte, Nat.reduceEqDiff]
            refine wpM_seq KK ?_
            refine wpM_block KK ?_
            refine wpM_region KK ?_
            simp only [List.size_toArray, List.length_cons, List.length_nil, Nat.reduceAdd, Nat.zero_add, List.range, List.range.loop]
            refine opsN_k KK rfl (by rfl) (by rfl) ?_
            intro _ hR C hC
            replace hF := FS.rely hF hR
            clear hR
            go_simp
            refine hC _ _ ?_
            clear hC C
            try walk_nrm
            refine opsN_k KK rfl (by rfl) (by rfl) ?_
            intro _ hR C hC
            replace hF := FS.rely hF hR
            clear hR
            go_simp
            refine hC _ _ ?_
            clear hC C
            try walk_nrm
            refine opsN_k KK rfl (by rfl) (by rfl) ?_
            intro _ hR C hC
            replace hF := FS.rely hF hR
            clear hR
            go_simp
            refine hC _ _ ?_
            clear hC C
            try walk_nrm
            refine opsN_k KK rfl (by rfl) (by rfl) ?_
            intro _ hR C hC
            replace hF := FS.rely hF hR
            clear hR
            go_simp
            refine hC _ _ ?_
            clear hC C
            try walk_nrm
            refine opsN_k KK rfl (by rfl) (by rfl) ?_
            intro _ hR C hC
            replace hF := FS.rely hF hR
            clear hR
            go_simp
            refine hC _ _ ?_
            clear hC C
            try walk_nrm
            refine opsN_k KK rfl (by rfl) (by rfl) ?_
            intro _ hR C hC
            replace hF := FS.rely hF hR
            clear hR
            go_simp
            refine hC _ _ ?_
            clear hC C
            try walk_nrm
            refine opsN_k KK rfl (by rfl) (by rfl) ?_
            intro _ hR C hC
            replace hF := FS.rely hF hR
            clear hR
            go_simp
            refine hC _ _ ?_
            clear hC C
            try walk_nrm
            rename_i V1
            have hnb := cells_new V1 [.slice (cutA VA vc k) 1 (vc - k)] 30 (0, 0)
            replace hF := hF.next ((Below.refl V1.heap.size V1).alloc (Nat.le_refl _) (Obj.cells #[.slice (cutA VA vc k) 1 (vc - k)] 30))
            replace hnb : Cells (V1.alloc (Obj.cells #[.slice (cutA VA vc k) 1 (vc - k)] 30)) (some ⟨V1.heap.size, 0, none⟩) [.slice (cutA VA vc k) 1 (vc - k)] := hnb
            generalize V1.alloc (Obj.cells #[.slice (cutA VA vc k) 1 (vc - k)] 30) = W1 at *
            generalize V1.heap.size = g1 at *
            have HNB := Go.Lib.hid hnb
            clear hnb
            refine opsN_k KK rfl (by rfl) (by rfl) ?_
            intro w1 hR C hC
            replace hF := FS.rely hF hR
            have hnb : Cells w1 (some ⟨g1, 0, none⟩) [.slice (cutA VA vc k) 1 (vc - k)] := by
                  obtain ⟨d, rfl⟩ := hR
                  exact HNB.out
            clear hR
            obtain ⟨v', w', hr, ho, hg⟩ := run_append_rows' (P := Try.prog) w1 w0.heap.size 34 34 30 (by kernel_rfl) (by kernel_rfl) (.slice SA sn sc) ⟨g1, 0, none⟩ 1 (ones VA vc k) [.slice (cutA VA vc k) 1 (vc - k)] hF.out hnb (by simp) (by intro u hu; obtain rfl := List.mem_singleton.1 hu; rfl) (by rw [ones_length]; simp; omega) hF.below.size
            replace hF := hF.grown ho hg
            obtain ⟨nA, nn, nc, rfl⟩ : ∃ A n c, v' = .slice A n c := by
                  obtain ⟨A, c, e, _⟩ := own_slice hF.out
                  exact ⟨_, _, _, e⟩
            refine uponK_append _ _ _ rfl rfl rfl hr (hC _ _ ?_)
            clear hC C hr ho hg hnb HNB
            try walk_nrm
            refine opsN_k KK rfl (by rfl) (by rfl) ?_
            intro _ hR C hC
            replace hF := FS.rely hF hR
            clear hR
            go_simp
            refine hC _ _ ?_
            clear hC C
            try walk_nrm
            refine opsM_nil KK ?_
            try simp only [thenM, Exit.inBlock, if_true, if_false, reduceIte, Nat.reduceEqDiff]
            refine wpM_region KK ?_
            simp only [List.size_toArray, List.length_cons, List.length_nil, Nat.reduceAdd, Nat.zero_add, List.range, List.range.loop]
            refine opsN_k KK rfl (by rfl) (by rfl) ?_
            intro _ hR C hC
            replace hF := FS.rely hF hR
            clear hR
            go_simp
            refine hC _ _ ?_
            clear hC C
            try walk_nrm
            refine opsN_k KK rfl (by rfl) (by rfl) ?_
            intro _ hR C hC
            replace hF := FS.rely hF hR
            clear hR
            go_simp
            refine hC _ _ ?_
            clear hC C
            try walk_nrm
            refine opsN_k KK rfl (by rfl) (by rfl) ?_
            intro _ hR C hC
            replace hF := FS.rely hF hR
            clear hR
            go_simp
            refine hC _ _ ?_
            clear hC C
            try walk_nrm
            refine opsM_nil KK ?_
            try simp only [thenM, Exit.inBlock, if_true, if_false, reduceIte, Nat.reduceEqDiff]
            refine ⟨⟨k + 1, nA, nn, nc, (fun i => (#[undef, _, _, undef, _, undef, undef, _, _, _, _, _, _, _, _, _, _, _, _, _, _, _, _, _, _, _, _, _, _, _, _, _, _, _, _, _, _, _, _, _, _, _, _, _, _, _, _, _, _, _, _, _, _, _, _, _, _, _, _, _, _, _, _, _, _, _, _, _, _, _, _, _, _, _, _, _, _, _, _, _, _, _, _, _, _, _, _, _, _, _, _, _, _, _, _, _, _, _, _, _, _, _, _] : Array Value).getD i undef), (by first | rfl | trivial), rfl, by omega, hF⟩, ?_⟩
            show l.length - ((k : Int) + 1).toNat < l.length - (k : Int).toNat
            omega
          obtain rfl : k = l.length := by omega
          have e1 : decide ((l.length : Int) < (l.length : Int)) = false := decide_eq_false (by omega)
          refine opsN_k KK rfl (by rfl) (by rfl) ?_
          intro _ hR C hC
          replace hF := FS.rely hF hR
          clear hR
          go_simp
          refine hC _ _ ?_
          clear hC C
          try walk_nrm
          refine opsN_k KK rfl (by rfl) (by rfl) ?_
          intro _ hR C hC
          replace hF := FS.rely hF hR
          clear hR
          go_simp
          refine hC _ _ ?_
          clear hC C
          try walk_nrm
          refine opsN_k KK rfl (by rfl) (by rfl) ?_
          intro _ hR C hC
          replace hF := FS.rely hF hR
          clear hR
          go_simp
          refine hC _ _ ?_
          clear hC C
          try walk_nrm
          refine opsN_k KK rfl (by rfl) (by rfl) ?_
          intro _ hR C hC
          replace hF := FS.rely hF hR
          clear hR
          go_simp
          refine hC _ _ ?_
          clear hC C
          try walk_nrm
          refine opsM_nil KK ?_
          try simp only [thenM, Exit.inBlock, if_true, if_false, reduceIte, Nat.reduceEqDiff]
          refine wpM_cond KK rfl ?_
          first | simp only [if_true, if_false, reduceIte, Bool.false_eq_true] | fail "COND"
          refine wpM_exit KK ?_
          try simp only [thenM, Exit.inBlock, if_true, if_false, reduceIte, Nat.reduceEqDiff]
          obtain ⟨_, SB, sd, he, _⟩ := hF.rows
          obtain ⟨rfl, rfl, rfl⟩ : SA = SB ∧ sn = l.length ∧ sc = sd := by simpa using he
          clear he
          have hF : HG w0 (fun w => Cells w VA (Bs l) ∧ RowsB w SA (l.map fun x => [x])) _ := ⟨hF.below, ⟨hF.cells.1, by
            obtain ⟨_, SB, sd, he, h⟩ := hF.rows
            obtain ⟨rfl, _⟩ : SA = SB ∧ sc = sd := by simpa using he
            exact h⟩, (stB_cells _ _).and (stB_rows _ _)⟩
          refine wpM_seq KK ?_
          refine wpM_region KK ?_
          simp only [List.size_toArray, List.length_cons, List.length_nil, Nat.reduceAdd, Nat.zero_add, List.range, List.range.loop]
          refine opsN_k KK rfl (by rfl) (by rfl) ?_
          intro _ hR C hC
          replace hF := HG.rely hF hR
          clear hR
          go_simp
          refine hC _ _ ?_
          clear hC C
          try walk_nrm
          refine opsM_fcall KK (vals := #[.slice A ls.length cc]) rfl (by rfl) rfl Try.func20 (by rfl) rfl (by simp [Act.eval]) ?_
          refine callM_mono (all_calls A cc ls hL hT _ (rowsB_below hF.below HA.out)) ?_
          rintro γ v w ⟨rfl, PA, pc, ps2, hv2, bad2, rfl, hq, hq1, hq2, hq3, hB⟩
          rw [runS_cut] at hq
          rw [HFL.out] at hq
          have HQ := Go.Lib.hid hq
          obtain ⟨ps, hps⟩ : ∃ ps, ps = ps2 := ⟨_, rfl⟩
          obtain ⟨hv, hhv⟩ : ∃ hv, hv = hv2 := ⟨_, rfl⟩
          obtain ⟨bad, hbad⟩ : ∃ bad, bad = bad2 := ⟨_, rfl⟩
          subst hps hhv hbad
          replace hF := hF.call hB (stB_rows _ _) hq3
          clear hB hq3 hq1 hq2 hq
          try walk_nrm
          refine opsN_k KK rfl (by rfl) (by rfl) ?_
          intro _ hR C hC
          replace hF := HG.rely hF hR
          clear hR
          go_simp
          refine hC _ _ ?_
          clear hC C
          try walk_nrm
          refine opsN_k KK rfl (by rfl) (by rfl) ?_
          intro _ hR C hC
          replace hF := HG.rely hF hR
          clear hR
          go_simp
          refine hC _ _ ?_
          clear hC C
          try walk_nrm
          refine opsN_k KK rfl (by rfl) (by rfl) ?_
          intro _ hR C hC
          replace hF := HG.rely hF hR
          clear hR
          go_simp
          refine hC _ _ ?_
          clear hC C
          try walk_nrm
          refine opsN_k KK rfl (by rfl) (by rfl) ?_
          intro _ hR C hC
          replace hF := HG.rely hF hR
          clear hR
          go_simp
          refine hC _ _ ?_
          clear hC C
          try walk_nrm
          refine opsN_k KK rfl (by rfl) (by rfl) ?_
          intro _ hR C hC
          replace hF := HG.rely hF hR
          clear hR
          go_simp
          refine hC _ _ ?_
          clear hC C
          try walk_nrm
          refine opsN_k KK rfl (by rfl) (by rfl) ?_
          intro _ hR C hC
          replace hF := HG.rely hF hR
          clear hR
          go_simp
          refine hC _ _ ?_
          clear hC C
          try walk_nrm
          refine opsN_k KK rfl (by rfl) (by rfl) ?_
          intro _ hR C hC
          replace hF := HG.rely hF hR
          clear hR
          go_simp
          refine hC _ _ ?_
          clear hC C
          try walk_nrm
          refine opsM_nil KK ?_
          try simp only [thenM, Exit.inBlock, if_true, if_false, reduceIte, Nat.reduceEqDiff]
          refine wpM_seq KK ?_
          refine wpM_region KK ?_
          simp only [List.size_toArray, List.length_cons, List.length_nil, Nat.reduceAdd, Nat.zero_add, List.range, List.range.loop]
          refine opsN_k KK rfl (by rfl) (by rfl) ?_
          intro _ hR C hC
          replace hF := HG.rely hF hR
          clear hR
          go_simp
          refine hC _ _ ?_
          clear hC C
          try walk_nrm
          refine opsN_k KK rfl (by rfl) (by rfl) ?_
          intro _ hR C hC
          replace hF := HG.rely hF hR
          clear hR
          go_simp
          refine hC _ _ ?_
          clear hC C
          try walk_nrm
          rename_i V2
          have hnb := rows_one (w := V2.alloc (Obj.cells #[.slice VA l.length vc] 30)) (heap_alloc_new V2 _) q1 q2 (cells_below ((Below.refl V2.heap.size V2).alloc (Nat.le_refl _) (Obj.cells #[.slice VA l.length vc] 30)) hF.at_.1.1)
          replace hF := hF.alloc (Obj.cells #[.slice VA l.length vc] 30)
          generalize V2.alloc (Obj.cells #[.slice VA l.length vc] 30) = W2 at *
          generalize V2.heap.size = g2 at *
          refine opsM_fcall KK (vals := #[.slice (some ⟨g2, 0, none⟩) 1 1]) rfl (by rfl) rfl Try.func20 (by rfl) rfl (by simp [Act.eval]) ?_
          refine callM_mono (all_calls (some ⟨g2, 0, none⟩) 1 [l] (by simp) (by simp [totL]; omega) _ hnb) ?_
          rintro γ v w ⟨rfl, PB, pd, ps2, hv2, bad2, rfl, hq, hq1, hq2, hq3, hB⟩
          rw [runS_cut] at hq
          rw [show [l].flatten = l by simp] at hq
          obtain ⟨rfl, rfl, rfl⟩ : ps = ps2 ∧ hv = hv2 ∧ bad = bad2 := by
              have h := HQ.out.trans hq.symm
              simpa using h
          clear hnb
          replace hF := hF.call hB (stB_rows _ _) hq3
          clear hB hq3 hq1 hq2 hq
          try walk_nrm
          refine opsN_k KK rfl (by rfl) (by rfl) ?_
          intro _ hR C hC
          replace hF := HG.rely hF hR
          clear hR
          go_simp
          refine hC _ _ ?_
          clear hC C
          try walk_nrm
          refine opsN_k KK rfl (by rfl) (by rfl) ?_
          intro _ hR C hC
          replace hF := HG.rely hF hR
          clear hR
          go_simp
          refine hC _ _ ?_
          clear hC C
          try walk_nrm
          refine opsN_k KK rfl (by rfl) (by rfl) ?_
          intro _ hR C hC
          replace hF := HG.rely hF hR
          clear hR
          go_simp
          refine hC _ _ ?_
          clear hC C
          try walk_nrm
          refine opsN_k KK rfl (by rfl) (by rfl) ?_
          intro _ hR C hC
          replace hF := HG.rely hF hR
          clear hR
          go_simp
          refine hC _ _ ?_
          clear hC C
          try walk_nrm
          refine opsN_k KK rfl (by rfl) (by rfl) ?_
          intro _ hR C hC
          replace hF := HG.rely hF hR
          clear hR
          go_simp
          refine hC _ _ ?_
          clear hC C
          try walk_nrm
          refine opsN_k KK rfl (by rfl) (by rfl) ?_
          intro _ hR C hC
          replace hF := HG.rely hF hR
          clear hR
          go_simp
          refine hC _ _ ?_
          clear hC C
          try walk_nrm
          refine opsN_k KK rfl (by rfl) (by rfl) ?_
          intro _ hR C hC
          replace hF := HG.rely hF hR
          clear hR
          go_simp
          refine hC _ _ ?_
          clear hC C
          try walk_nrm
          refine opsM_nil KK ?_
          try simp only [thenM, Exit.inBlock, if_true, if_false, reduceIte, Nat.reduceEqDiff]
          refine wpM_seq KK ?_
          refine wpM_region KK ?_
          simp only [List.size_toArray, List.length_cons, List.length_nil, Nat.reduceAdd, Nat.zero_add, List.range, List.range.loop]
          refine opsN_k KK rfl (by rfl) (by rfl) ?_
          intro _ hR C hC
          replace hF := HG.rely hF hR
          clear hR
          go_simp
          refine hC _ _ ?_
          clear hC C
          try walk_nrm
          have hsl : (l.map fun x => [x]).length = l.length := by simp
          have h3 := all_calls (Post := Post) SA sc (l.map fun x => [x]) (by rw [hsl]; omega) (by rw [← flatten_totL, singles_flatten]; omega) _ hF.at_.1.1.2
          rw [hsl] at h3
          clear hsl
          refine opsM_fcall KK (vals := #[.slice SA l.length sc]) rfl (by rfl) rfl Try.func20 (by rfl) rfl (by simp [Act.eval]) ?_
          refine callM_mono (h3) ?_
          rintro γ v w ⟨rfl, PC, pe, ps2, hv2, bad2, rfl, hq, hq1, hq2, hq3, hB⟩
          rw [runS_cut] at hq
          rw [singles_flatten] at hq
          obtain ⟨rfl, rfl, rfl⟩ : ps = ps2 ∧ hv = hv2 ∧ bad = bad2 := by
              have h := HQ.out.trans hq.symm
              simpa using h
          replace hF := hF.call hB (stB_rows _ _) hq3
          clear hB hq3 hq1 hq2 hq
          try walk_nrm
          refine opsN_k KK rfl (by rfl) (by rfl) ?_
          intro _ hR C hC
          replace hF := HG.rely hF hR
          clear hR
          go_simp
          refine hC _ _ ?_
          clear hC C
          try walk_nrm
          refine opsN_k KK rfl (by rfl) (by rfl) ?_
          intro _ hR C hC
          replace hF := HG.rely hF hR
          clear hR
          go_simp
          refine hC _ _ ?_
          clear hC C
          try walk_nrm
          refine opsN_k KK rfl (by rfl) (by rfl) ?_
          intro _ hR C hC
          replace hF := HG.rely hF hR
          clear hR
          go_simp
          refine hC _ _ ?_
          clear hC C
          try walk_nrm
          refine opsN_k KK rfl (by rfl) (by rfl) ?_
          intro _ hR C hC
          replace hF := HG.rely hF hR
          clear hR
          go_simp
          refine hC _ _ ?_
          clear hC C
          try walk_nrm
          refine opsN_k KK rfl (by rfl) (by rfl) ?_
          intro _ hR C hC
          replace hF := HG.rely hF hR
          clear hR
          go_simp
          refine hC _ _ ?_
          clear hC C
          try walk_nrm
          refine opsN_k KK rfl (by rfl) (by rfl) ?_
          intro _ hR C hC
          replace hF := HG.rely hF hR
          clear hR
          go_simp
          refine hC _ _ ?_
          clear hC C
          try walk_nrm
          refine opsN_k KK rfl (by rfl) (by rfl) ?_
          intro _ hR C hC
          replace hF := HG.rely hF hR
          clear hR
          go_simp
          refine hC _ _ ?_
          clear hC C
          try walk_nrm
          refine opsM_nil KK ?_
          try simp only [thenM, Exit.inBlock, if_true, if_false, reduceIte, Nat.reduceEqDiff]
          have hpl : ps.length ≤ 9223372036854775807 := by
            have h := runS_size [l]
            rw [runS_cut, show [l].flatten = l by simp, ← HQ.out] at h
            have := h.1
            simp only at this
            omega
          refine wpM_seq KK ?_
          refine wpM_region KK ?_
          simp only [List.size_toArray, List.length_cons, List.length_nil, Nat.reduceAdd, Nat.zero_add, List.range, List.range.loop]
          refine opsN_k KK rfl (by rfl) (by rfl) ?_
          intro _ hR C hC
          replace hF := HG.rely hF hR
          clear hR
          go_simp
          refine hC _ _ ?_
          clear hC C
          try walk_nrm
          refine opsN_k KK rfl (by rfl) (by rfl) ?_
          intro _ hR C hC
          replace hF := HG.rely hF hR
          clear hR
          go_simp
          refine hC _ _ ?_
          clear hC C
          try walk_nrm
          refine opsM_fcall KK (vals := #[.slice PA ps.length pc, .slice PB ps.length pd]) rfl (by rfl) rfl Try.func13 (by rfl) rfl (by simp [Act.eval]) ?_
          refine callM_mono (same_m PA PB pc pd ps ps _ hpl hF.at_.1.1.2 hF.at_.1.2) ?_
          rintro γ v w ⟨rfl, hv1, hd⟩
          rw [beq_self_eq_true] at hv1
          subst hv1
          replace hF := hF.rely hd
          clear hd
          try walk_nrm
          refine opsN_k KK rfl (by rfl) (by rfl) ?_
          intro _ hR C hC
          replace hF := HG.rely hF hR
          clear hR
          go_simp
          refine hC _ _ ?_
          clear hC C
          try walk_nrm
          refine opsN_k KK rfl (by rfl) (by rfl) ?_
          intro _ hR C hC
          replace hF := HG.rely hF hR
          clear hR
          go_simp
          refine hC _ _ ?_
          clear hC C
          try walk_nrm
          refine opsN_k KK rfl (by rfl) (by rfl) ?_
          intro _ hR C hC
          replace hF := HG.rely hF hR
          clear hR
          go_simp
          refine hC _ _ ?_
          clear hC C
          try walk_nrm
          refine opsM_fcall KK (vals := #[.slice PB ps.length pd, .slice PC ps.length pe]) rfl (by rfl) rfl Try.func13 (by rfl) rfl (by simp [Act.eval]) ?_
          refine callM_mono (same_m PB PC pd pe ps ps _ hpl hF.at_.1.2 hF.at_.2) ?_
          rintro γ v w ⟨rfl, hv1, hd⟩
          rw [beq_self_eq_true] at hv1
          subst hv1
          replace hF := hF.rely hd
          clear hd
          try walk_nrm
          by_cases z1 : ls.length = 0
          · have z2 : ((ls.length : Int) == 0) = true := by first | exact beq_iff_eq.2 (by omega) | exact beq_eq_false_iff_ne.2 (by omega)
            by_cases z3 : l.length = 0
            · have z4 : ((l.length : Int) == 0) = true := by first | exact beq_iff_eq.2 (by omega) | exact beq_eq_false_iff_ne.2 (by omega)
              refine opsN_k KK rfl (by rfl) (by rfl) ?_
              intro _ hR C hC
              replace hF := HG.rely hF hR
              clear hR
              go_simp
              refine hC _ _ ?_
              clear hC C
              try walk_nrm
              refine opsN_k KK rfl (by rfl) (by rfl) ?_
              intro _ hR C hC
              replace hF := HG.rely hF hR
              clear hR
              go_simp
              refine hC _ _ ?_
              clear hC C
              try walk_nrm
              refine opsN_k KK rfl (by rfl) (by rfl) ?_
              intro _ hR C hC
              replace hF := HG.rely hF hR
              clear hR
              go_simp
              refine hC _ _ ?_
              clear hC C
              try walk_nrm
              refine opsN_k KK rfl (by rfl) (by rfl) ?_
              intro _ hR C hC
              replace hF := HG.rely hF hR
              clear hR
              go_simp
              refine hC _ _ ?_
              clear hC C
              try walk_nrm
              refine opsN_k KK rfl (by rfl) (by rfl) ?_
              intro _ hR C hC
              replace hF := HG.rely hF hR
              clear hR
              go_simp
              refine hC _ _ ?_
              clear hC C
              try walk_nrm
              refine opsN_k KK rfl (by rfl) (by rfl) ?_
              intro _ hR C hC
              replace hF := HG.rely hF hR
              clear hR
              go_simp
              refine hC _ _ ?_
              clear hC C
              try walk_nrm
              refine opsM_pass KK rfl (by rfl) ?_
              try walk_nrm
              refine opsM_pass KK rfl (by rfl) ?_
              try walk_nrm
              refine opsM_pass KK rfl (by rfl) ?_
              try walk_nrm
              refine opsN_k KK rfl (by rfl) (by rfl) ?_
              intro _ hR C hC
              replace hF := HG.rely hF hR
              clear hR
              go_simp
              refine hC _ _ ?_
              clear hC C
              try walk_nrm
              refine opsN_k KK rfl (by rfl) (by rfl) ?_
              intro _ hR C hC
              replace hF := HG.rely hF hR
              clear hR
              go_simp
              refine hC _ _ ?_
              clear hC C
              try walk_nrm
              refine opsN_k KK rfl (by rfl) (by rfl) ?_
              intro _ hR C hC
              replace hF := HG.rely hF hR
              clear hR
              go_simp
              refine hC _ _ ?_
              clear hC C
              try walk_nrm
              refine opsN_k KK rfl (by rfl) (by rfl) ?_
              intro _ hR C hC
              replace hF := HG.rely hF hR
              clear hR
              go_simp
              refine hC _ _ ?_
              clear hC C
              try walk_nrm
              refine opsN_k KK rfl (by rfl) (by rfl) ?_
              intro _ hR C hC
              replace hF := HG.rely hF hR
              clear hR
              go_simp
              refine hC _ _ ?_
              clear hC C
              try walk_nrm
              refine opsN_k KK rfl (by rfl) (by rfl) ?_
              intro _ hR C hC
              replace hF := HG.rely hF hR
              clear hR
              go_simp
              refine hC _ _ ?_
              clear hC C
              try walk_nrm
              refine opsN_k KK rfl (by rfl) (by rfl) ?_
              intro _ hR C hC
              replace hF := HG.rely hF hR
              clear hR
              go_simp
              refine hC _ _ ?_
              clear hC C
              try walk_nrm
              refine opsM_pass KK rfl (by rfl) ?_
              try walk_nrm
              refine opsM_pass KK rfl (by rfl) ?_
              try walk_nrm
              refine opsM_pass KK rfl (by rfl) ?_
              try walk_nrm
              refine opsN_k KK rfl (by rfl) (by rfl) ?_
              intro _ hR C hC
              replace hF := HG.rely hF hR
              clear hR
              go_simp
              refine hC _ _ ?_
              clear hC C
              try walk_nrm
              refine opsN_k KK rfl (by rfl) (by rfl) ?_
              intro _ hR C hC
              replace hF := HG.rely hF hR
              clear hR
              go_simp
              refine hC _ _ ?_
              clear hC C
              try walk_nrm
              refine opsN_k KK rfl (by rfl) (by rfl) ?_
              intro _ hR C hC
              replace hF := HG.rely hF hR
              clear hR
              go_simp
              refine hC _ _ ?_
              clear hC C
              try walk_nrm
              refine opsN_k KK rfl (by rfl) (by rfl) ?_
              intro _ hR C hC
              replace hF := HG.rely hF hR
              clear hR
              go_simp
              refine hC _ _ ?_
              clear hC C
              try walk_nrm
              refine opsN_k KK rfl (by rfl) (by rfl) ?_
              intro _ hR C hC
              replace hF := HG.rely hF hR
              clear hR
              go_simp
              refine hC _ _ ?_
              clear hC C
              try walk_nrm
              refine opsN_k KK rfl (by rfl) (by rfl) ?_
              intro _ hR C hC
              replace hF := HG.rely hF hR
              clear hR
              go_simp
              refine hC _ _ ?_
              clear hC C
              try walk_nrm
              refine opsN_k KK rfl (by rfl) (by rfl) ?_
              intro _ hR C hC
              replace hF := HG.rely hF hR
              clear hR
              go_simp
              refine hC _ _ ?_
              clear hC C
              try walk_nrm
              refine opsN_k KK rfl (by rfl) (by rfl) ?_
              intro _ hR C hC
              replace hF := HG.rely hF hR
              clear hR
              go_simp
              refine hC _ _ ?_
              clear hC C
              try walk_nrm
              refine opsN_k KK rfl (by rfl) (by rfl) ?_
              intro _ hR C hC
              replace hF := HG.rely hF hR
              clear hR
              go_simp
              refine hC _ _ ?_
              clear hC C
              try walk_nrm
              refine opsN_k KK rfl (by rfl) (by rfl) ?_
              intro _ hR C hC
              replace hF := HG.rely hF hR
              clear hR
              go_simp
              refine hC _ _ ?_
              clear hC C
              try walk_nrm
              refine opsN_k KK rfl (by rfl) (by rfl) ?_
              intro _ hR C hC
              replace hF := HG.rely hF hR
              clear hR
              go_simp
              refine hC _ _ ?_
              clear hC C
              try walk_nrm
              refine opsN_k KK rfl (by rfl) (by rfl) ?_
              intro _ hR C hC
              replace hF := HG.rely hF hR
              clear hR
              go_simp
              refine hC _ _ ?_
              clear hC C
              try walk_nrm
              refine opsN_k KK rfl (by rfl) (by rfl) ?_
              intro _ hR C hC
              replace hF := HG.rely hF hR
              clear hR
              go_simp
              refine hC _ _ ?_
              clear hC C
              try walk_nrm
              refine opsM_nil KK ?_
              try simp only [thenM, Exit.inBlock, if_true, if_false, reduceIte, Nat.reduceEqDiff]
              refine wpM_ret KK ?_
              try simp only [thenM, Exit.inBlock, if_true, if_false, reduceIte, Nat.reduceEqDiff]
              exact ⟨rfl, .bool true, resultsC_tmp (t := 2) (by rfl) _, rfl, fun d => hpost _ (HG.rely hF ⟨d, rfl⟩).below⟩
            · have z4 : ((l.length : Int) == 0) = false := by first | exact beq_iff_eq.2 (by omega) | exact beq_eq_false_iff_ne.2 (by omega)
              refine opsN_k KK rfl (by rfl) (by rfl) ?_
              intro _ hR C hC
              replace hF := HG.rely hF hR
              clear hR
              go_simp
              refine hC _ _ ?_
              clear hC C
              try walk_nrm
              refine opsN_k KK rfl (by rfl) (by rfl) ?_
              intro _ hR C hC
              replace hF := HG.rely hF hR
              clear hR
              go_simp
              refine hC _ _ ?_
              clear hC C
              try walk_nrm
              refine opsN_k KK rfl (by rfl) (by rfl) ?_
              intro _ hR C hC
              replace hF := HG.rely hF hR
              clear hR
              go_simp
              refine hC _ _ ?_
              clear hC C
              try walk_nrm
              refine opsN_k KK rfl (by rfl) (by rfl) ?_
              intro _ hR C hC
              replace hF := HG.rely hF hR
              clear hR
              go_simp
              refine hC _ _ ?_
              clear hC C
              try walk_nrm
              refine opsN_k KK rfl (by rfl) (by rfl) ?_
              intro _ hR C hC
              replace hF := HG.rely hF hR
              clear hR
              go_simp
              refine hC _ _ ?_
              clear hC C
              try walk_nrm
              refine opsN_k KK rfl (by rfl) (by rfl) ?_
              intro _ hR C hC
              replace hF := HG.rely hF hR
              clear hR
              go_simp
              refine hC _ _ ?_
              clear hC C
              try walk_nrm
              refine opsM_pass KK rfl (by rfl) ?_
              try walk_nrm
              refine opsM_pass KK rfl (by rfl) ?_
              try walk_nrm
              refine opsM_pass KK rfl (by rfl) ?_
              try walk_nrm
              refine opsN_k KK rfl (by rfl) (by rfl) ?_
              intro _ hR C hC
              replace hF := HG.rely hF hR
              clear hR
              go_simp
              refine hC _ _ ?_
              clear hC C
              try walk_nrm
              refine opsN_k KK rfl (by rfl) (by rfl) ?_
              intro _ hR C hC
              replace hF := HG.rely hF hR
              clear hR
              go_simp
              refine hC _ _ ?_
              clear hC C
              try walk_nrm
              refine opsN_k KK rfl (by rfl) (by rfl) ?_
              intro _ hR C hC
              replace hF := HG.rely hF hR
              clear hR
              go_simp
              refine hC _ _ ?_
              clear hC C
              try walk_nrm
              refine opsN_k KK rfl (by rfl) (by rfl) ?_
              intro _ hR C hC
              replace hF := HG.rely hF hR
              clear hR
              go_simp
              refine hC _ _ ?_
              clear hC C
              try walk_nrm
              refine opsN_k KK rfl (by rfl) (by rfl) ?_
              intro _ hR C hC
              replace hF := HG.rely hF hR
              clear hR
              go_simp
              refine hC _ _ ?_
              clear hC C
              try walk_nrm
              refine opsN_k KK rfl (by rfl) (by rfl) ?_
              intro _ hR C hC
              replace hF := HG.rely hF hR
              clear hR
              go_simp
              refine hC _ _ ?_
              clear hC C
              try walk_nrm
              refine opsN_k KK rfl (by rfl) (by rfl) ?_
              intro _ hR C hC
              replace hF := HG.rely hF hR
              clear hR
              go_simp
              refine hC _ _ ?_
              clear hC C
              try walk_nrm
              refine opsN_k KK rfl (by rfl) (by rfl) ?_
              intro _ hR C hC
              replace hF := HG.rely hF hR
              clear hR
              go_simp
              refine hC _ _ ?_
              clear hC C
              try walk_nrm
              refine opsN_k KK rfl (by rfl) (by rfl) ?_
              intro _ hR C hC
              replace hF := HG.rely hF hR
              clear hR
              go_simp
              refine hC _ _ ?_
              clear hC C
              try walk_nrm
              refine opsN_k KK rfl (by rfl) (by rfl) ?_
              intro _ hR C hC
              replace hF := HG.rely hF hR
              clear hR
              go_simp
              refine hC _ _ ?_
              clear hC C
              try walk_nrm
              refine opsN_k KK rfl (by rfl) (by rfl) ?_
              intro _ hR C hC
              replace hF := HG.rely hF hR
              clear hR
              go_simp
              refine hC _ _ ?_
              clear hC C
              try walk_nrm
              refine opsN_k KK rfl (by rfl) (by rfl) ?_
              intro _ hR C hC
              replace hF := HG.rely hF hR
              clear hR
              go_simp
              refine hC _ _ ?_
              clear hC C
              try walk_nrm
              refine opsN_k KK rfl (by rfl) (by rfl) ?_
              intro _ hR C hC
              replace hF := HG.rely hF hR
              clear hR
              go_simp
              refine hC _ _ ?_
              clear hC C
              try walk_nrm
              refine opsN_k KK rfl (by rfl) (by rfl) ?_
              intro _ hR C hC
              replace hF := HG.rely hF hR
              clear hR
              go_simp
              refine hC _ _ ?_
              clear hC C
              try walk_nrm
              refine opsN_k KK rfl (by rfl) (by rfl) ?_
              intro _ hR C hC
              replace hF := HG.rely hF hR
              clear hR
              go_simp
              refine hC _ _ ?_
              clear hC C
              try walk_nrm
              refine opsN_k KK rfl (by rfl) (by rfl) ?_
              intro _ hR C hC
              replace hF := HG.rely hF hR
              clear hR
              go_simp
              refine hC _ _ ?_
              clear hC C
              try walk_nrm
              refine opsN_k KK rfl (by rfl) (by rfl) ?_
              intro _ hR C hC
              replace hF := HG.rely hF hR
              clear hR
              go_simp
              refine hC _ _ ?_
              clear hC C
              try walk_nrm
              refine opsN_k KK rfl (by rfl) (by rfl) ?_
              intro _ hR C hC
              replace hF := HG.rely hF hR
              clear hR
              go_simp
              refine hC _ _ ?_
              clear hC C
              try walk_nrm
              refine opsN_k KK rfl (by rfl) (by rfl) ?_
              intro _ hR C hC
              replace hF := HG.rely hF hR
              clear hR
              go_simp
              refine hC _ _ ?_
              clear hC C
              try walk_nrm
              refine opsN_k KK rfl (by rfl) (by rfl) ?_
              intro _ hR C hC
              replace hF := HG.rely hF hR
              clear hR
              go_simp
              refine hC _ _ ?_
              clear hC C
              try walk_nrm
              refine opsN_k KK rfl (by rfl) (by rfl) ?_
              intro _ hR C hC
              replace hF := HG.rely hF hR
              clear hR
              go_simp
              refine hC _ _ ?_
              clear hC C
              try walk_nrm
              refine opsN_k KK rfl (by rfl) (by rfl) ?_
              intro _ hR C hC
              replace hF := HG.rely hF hR
              clear hR
              go_simp
              refine hC _ _ ?_
              clear hC C
              try walk_nrm
              refine opsN_k KK rfl (by rfl) (by rfl) ?_
              intro _ hR C hC
              replace hF := HG.rely hF hR
              clear hR
              go_simp
              refine hC _ _ ?_
              clear hC C
              try walk_nrm
              refine opsM_nil KK ?_
              try simp only [thenM, Exit.inBlock, if_true, if_false, reduceIte, Nat.reduceEqDiff]
              refine wpM_ret KK ?_
              try simp only [thenM, Exit.inBlock, if_true, if_false, reduceIte, Nat.reduceEqDiff]
              exact ⟨rfl, .bool true, resultsC_tmp (t := 2) (by rfl) _, rfl, fun d => hpost _ (HG.rely hF ⟨d, rfl⟩).below⟩
          · have z2 : ((ls.length : Int) == 0) = false := by first | exact beq_iff_eq.2 (by omega) | exact beq_eq_false_iff_ne.2 (by omega)
            by_cases z3 : l.length = 0
            · have z4 : ((l.length : Int) == 0) = true := by first | exact beq_iff_eq.2 (by omega) | exact beq_eq_false_iff_ne.2 (by omega)
              refine opsN_k KK rfl (by rfl) (by rfl) ?_
              intro _ hR C hC
              replace hF := HG.rely hF hR
              clear hR
              go_simp
              refine hC _ _ ?_
              clear hC C
              try walk_nrm
              refine opsN_k KK rfl (by rfl) (by rfl) ?_
              intro _ hR C hC
              replace hF := HG.rely hF hR
              clear hR
              go_simp
              refine hC _ _ ?_
              clear hC C
              try walk_nrm
              refine opsN_k KK rfl (by rfl) (by rfl) ?_
              intro _ hR C hC
              replace hF := HG.rely hF hR
              clear hR
              go_simp
              refine hC _ _ ?_
              clear hC C
              try walk_nrm
              refine opsN_k KK rfl (by rfl) (by rfl) ?_
              intro _ hR C hC
              replace hF := HG.rely hF hR
              clear hR
              go_simp
              refine hC _ _ ?_
              clear hC C
              try walk_nrm
              refine opsN_k KK rfl (by rfl) (by rfl) ?_
              intro _ hR C hC
              replace hF := HG.rely hF hR
              clear hR
              go_simp
              refine hC _ _ ?_
              clear hC C
              try walk_nrm
              refine opsN_k KK rfl (by rfl) (by rfl) ?_
              intro _ hR C hC
              replace hF := HG.rely hF hR
              clear hR
              go_simp
              refine hC _ _ ?_
              clear hC C
              try walk_nrm
              refine opsN_k KK rfl (by rfl) (by rfl) ?_
              intro _ hR C hC
              replace hF := HG.rely hF hR
              clear hR
              go_simp
              refine hC _ _ ?_
              clear hC C
              try walk_nrm
              refine opsN_k KK rfl (by rfl) (by rfl) ?_
              intro _ hR C hC
              replace hF := HG.rely hF hR
              clear hR
              go_simp
              refine hC _ _ ?_
              clear hC C
              try walk_nrm
              refine opsN_k KK rfl (by rfl) (by rfl) ?_
              intro _ hR C hC
              replace hF := HG.rely hF hR
              clear hR
              go_simp
              refine hC _ _ ?_
              clear hC C
              try walk_nrm
              refine opsN_k KK rfl (by rfl) (by rfl) ?_
              intro _ hR C hC
              replace hF := HG.rely hF hR
              clear hR
              go_simp
              refine hC _ _ ?_
              clear hC C
              try walk_nrm
              refine opsN_k KK rfl (by rfl) (by rfl) ?_
              intro _ hR C hC
              replace hF := HG.rely hF hR
              clear hR
              go_simp
              refine hC _ _ ?_
              clear hC C
              try walk_nrm
              refine opsN_k KK rfl (by rfl) (by rfl) ?_
              intro _ hR C hC
              replace hF := HG.rely hF hR
              clear hR
              go_simp
              refine hC _ _ ?_
              clear hC C
              try walk_nrm
              refine opsN_k KK rfl (by rfl) (by rfl) ?_
              intro _ hR C hC
              replace hF := HG.rely hF hR
              clear hR
              go_simp
              refine hC _ _ ?_
              clear hC C
              try walk_nrm
              refine opsN_k KK rfl (by rfl) (by rfl) ?_
              intro _ hR C hC
              replace hF := HG.rely hF hR
              clear hR
              go_simp
              refine hC _ _ ?_
              clear hC C
              try walk_nrm
              refine opsN_k KK rfl (by rfl) (by rfl) ?_
              intro _ hR C hC
              replace hF := HG.rely hF hR
              clear hR
              go_simp
              refine hC _ _ ?_
              clear hC C
              try walk_nrm
              refine opsN_k KK rfl (by rfl) (by rfl) ?_
              intro _ hR C hC
              replace hF := HG.rely hF hR
              clear hR
              go_simp
              refine hC _ _ ?_
              clear hC C
              try walk_nrm
              refine opsM_pass KK rfl (by rfl) ?_
              try walk_nrm
              refine opsM_pass KK rfl (by rfl) ?_
              try walk_nrm
              refine opsM_pass KK rfl (by rfl) ?_
              try walk_nrm
              refine opsN_k KK rfl (by rfl) (by rfl) ?_
              intro _ hR C hC
              replace hF := HG.rely hF hR
              clear hR
              go_simp
              refine hC _ _ ?_
              clear hC C
              try walk_nrm
              refine opsN_k KK rfl (by rfl) (by rfl) ?_
              intro _ hR C hC
              replace hF := HG.rely hF hR
              clear hR
              go_simp
              refine hC _ _ ?_
              clear hC C
              try walk_nrm
              refine opsN_k KK rfl (by rfl) (by rfl) ?_
              intro _ hR C hC
              replace hF := HG.rely hF hR
              clear hR
              go_simp
              refine hC _ _ ?_
              clear hC C
              try walk_nrm
              refine opsN_k KK rfl (by rfl) (by rfl) ?_
              intro _ hR C hC
              replace hF := HG.rely hF hR
              clear hR
              go_simp
              refine hC _ _ ?_
              clear hC C
              try walk_nrm
              refine opsN_k KK rfl (by rfl) (by rfl) ?_
              intro _ hR C hC
              replace hF := HG.rely hF hR
              clear hR
              go_simp
              refine hC _ _ ?_
              clear hC C
              try walk_nrm
              refine opsN_k KK rfl (by rfl) (by rfl) ?_
              intro _ hR C hC
              replace hF := HG.rely hF hR
              clear hR
              go_simp
              refine hC _ _ ?_
              clear hC C
              try walk_nrm
              refine opsN_k KK rfl (by rfl) (by rfl) ?_
              intro _ hR C hC
              replace hF := HG.rely hF hR
              clear hR
              go_simp
              refine hC _ _ ?_
              clear hC C
              try walk_nrm
              refine opsN_k KK rfl (by rfl) (by rfl) ?_
              intro _ hR C hC
              replace hF := HG.rely hF hR
              clear hR
              go_simp
              refine hC _ _ ?_
              clear hC C
              try walk_nrm
              refine opsN_k KK rfl (by rfl) (by rfl) ?_
              intro _ hR C hC
              replace hF := HG.rely hF hR
              clear hR
              go_simp
              refine hC _ _ ?_
              clear hC C
              try walk_nrm
              refine opsN_k KK rfl (by rfl) (by rfl) ?_
              intro _ hR C hC
              replace hF := HG.rely hF hR
              clear hR
              go_simp
              refine hC _ _ ?_
              clear hC C
              try walk_nrm
              refine opsN_k KK rfl (by rfl) (by rfl) ?_
              intro _ hR C hC
              replace hF := HG.rely hF hR
              clear hR
              go_simp
              refine hC _ _ ?_
              clear hC C
              try walk_nrm
              refine opsN_k KK rfl (by rfl) (by rfl) ?_
              intro _ hR C hC
              replace hF := HG.rely hF hR
              clear hR
              go_simp
              refine hC _ _ ?_
              clear hC C
              try walk_nrm
              refine opsN_k KK rfl (by rfl) (by rfl) ?_
              intro _ hR C hC
              replace hF := HG.rely hF hR
              clear hR
              go_simp
              refine hC _ _ ?_
              clear hC C
              try walk_nrm
              refine opsM_nil KK ?_
              try simp only [thenM, Exit.inBlock, if_true, if_false, reduceIte, Nat.reduceEqDiff]
              refine wpM_ret KK ?_
              try simp only [thenM, Exit.inBlock, if_true, if_false, reduceIte, Nat.reduceEqDiff]
              exact ⟨rfl, .bool true, resultsC_tmp (t := 2) (by rfl) _, rfl, fun d => hpost _ (HG.rely hF ⟨d, rfl⟩).below⟩
            · have z4 : ((l.length : Int) == 0) = false := by first | exact beq_iff_eq.2 (by omega) | exact beq_eq_false_iff_ne.2 (by omega)
              refine opsN_k KK rfl (by rfl) (by rfl) ?_
              intro _ hR C hC
              replace hF := HG.rely hF hR
              clear hR
              go_simp
              refine hC _ _ ?_
              clear hC C
              try walk_nrm
              refine opsN_k KK rfl (by rfl) (by rfl) ?_
              intro _ hR C hC
              replace hF := HG.rely hF hR
              clear hR
              go_simp
              refine hC _ _ ?_
              clear hC C
              try walk_nrm
              refine opsN_k KK rfl (by rfl) (by rfl) ?_
              intro _ hR C hC
              replace hF := HG.rely hF hR
              clear hR
              go_simp
              refine hC _ _ ?_
              clear hC C
              try walk_nrm
              refine opsN_k KK rfl (by rfl) (by rfl) ?_
              intro _ hR C hC
              replace hF := HG.rely hF hR
              clear hR
              go_simp
              refine hC _ _ ?_
              clear hC C
              try walk_nrm
              refine opsN_k KK rfl (by rfl) (by rfl) ?_
              intro _ hR C hC
              replace hF := HG.rely hF hR
              clear hR
              go_simp
              refine hC _ _ ?_
              clear hC C
              try walk_nrm
              refine opsN_k KK rfl (by rfl) (by rfl) ?_
              intro _ hR C hC
              replace hF := HG.rely hF hR
              clear hR
              go_simp
              refine hC _ _ ?_
              clear hC C
              try walk_nrm
              refine opsN_k KK rfl (by rfl) (by rfl) ?_
              intro _ hR C hC
              replace hF := HG.rely hF hR
              clear hR
              go_simp
              refine hC _ _ ?_
              clear hC C
              try walk_nrm
              refine opsN_k KK rfl (by rfl) (by rfl) ?_
              intro _ hR C hC
              replace hF := HG.rely hF hR
              clear hR
              go_simp
              refine hC _ _ ?_
              clear hC C
              try walk_nrm
              refine opsN_k KK rfl (by rfl) (by rfl) ?_
              intro _ hR C hC
              replace hF := HG.rely hF hR
              clear hR
              go_simp
              refine hC _ _ ?_
              clear hC C
              try walk_nrm
              refine opsN_k KK rfl (by rfl) (by rfl) ?_
              intro _ hR C hC
              replace hF := HG.rely hF hR
              clear hR
              go_simp
              refine hC _ _ ?_
              clear hC C
              try walk_nrm
              refine opsN_k KK rfl (by rfl) (by rfl) ?_
              intro _ hR C hC
              replace hF := HG.rely hF hR
              clear hR
              go_simp
              refine hC _ _ ?_
              clear hC C
              try walk_nrm
              refine opsN_k KK rfl (by rfl) (by rfl) ?_
              intro _ hR C hC
              replace hF := HG.rely hF hR
              clear hR
              go_simp
              refine hC _ _ ?_
              clear hC C
              try walk_nrm
              refine opsN_k KK rfl (by rfl) (by rfl) ?_
              intro _ hR C hC
              replace hF := HG.rely hF hR
              clear hR
              go_simp
              refine hC _ _ ?_
              clear hC C
              try walk_nrm
              refine opsN_k KK rfl (by rfl) (by rfl) ?_
              intro _ hR C hC
              replace hF := HG.rely hF hR
              clear hR
              go_simp
              refine hC _ _ ?_
              clear hC C
              try walk_nrm
              refine opsN_k KK rfl (by rfl) (by rfl) ?_
              intro _ hR C hC
              replace hF := HG.rely hF hR
              clear hR
              go_simp
              refine hC _ _ ?_
              clear hC C
              try walk_nrm
              refine opsN_k KK rfl (by rfl) (by rfl) ?_
              intro _ hR C hC
              replace hF := HG.rely hF hR
              clear hR
              go_simp
              refine hC _ _ ?_
              clear hC C
              try walk_nrm
              refine opsN_k KK rfl (by rfl) (by rfl) ?_
              intro _ hR C hC
              replace hF := HG.rely hF hR
              clear hR
              go_simp
              refine hC _ _ ?_
              clear hC C
              try walk_nrm
              refine opsN_k KK rfl (by rfl) (by rfl) ?_
              intro _ hR C hC
              replace hF := HG.rely hF hR
              clear hR
              go_simp
              refine hC _ _ ?_
              clear hC C
              try walk_nrm
              refine opsN_k KK rfl (by rfl) (by rfl) ?_
              intro _ hR C hC
              replace hF := HG.rely hF hR
              clear hR
              go_simp
              refine hC _ _ ?_
              clear hC C
              try walk_nrm
              refine opsN_k KK rfl (by rfl) (by rfl) ?_
              intro _ hR C hC
              replace hF := HG.rely hF hR
              clear hR
              go_simp
              refine hC _ _ ?_
              clear hC C
              try walk_nrm
              refine opsN_k KK rfl (by rfl) (by rfl) ?_
              intro _ hR C hC
              replace hF := HG.rely hF hR
              clear hR
              go_simp
              refine hC _ _ ?_
              clear hC C
              try walk_nrm
              refine opsN_k KK rfl (by rfl) (by rfl) ?_
              intro _ hR C hC
              replace hF := HG.rely hF hR
              clear hR
              go_simp
              refine hC _ _ ?_
              clear hC C
              try walk_nrm
              refine opsN_k KK rfl (by rfl) (by rfl) ?_
              intro _ hR C hC
              replace hF := HG.rely hF hR
              clear hR
              go_simp
              refine hC _ _ ?_
              clear hC C
              try walk_nrm
              refine opsN_k KK rfl (by rfl) (by rfl) ?_
              intro _ hR C hC
              replace hF := HG.rely hF hR
              clear hR
              go_simp
              refine hC _ _ ?_
              clear hC C
              try walk_nrm
              refine opsN_k KK rfl (by rfl) (by rfl) ?_
              intro _ hR C hC
              replace hF := HG.rely hF hR
              clear hR
              go_simp
              refine hC _ _ ?_
              clear hC C
              try walk_nrm
              refine opsN_k KK rfl (by rfl) (by rfl) ?_
              intro _ hR C hC
              replace hF := HG.rely hF hR
              clear hR
              go_simp
              refine hC _ _ ?_
              clear hC C
              try walk_nrm
              refine opsN_k KK rfl (by rfl) (by rfl) ?_
              intro _ hR C hC
              replace hF := HG.rely hF hR
              clear hR
              go_simp
              refine hC _ _ ?_
              clear hC C
              try walk_nrm
              refine opsN_k KK rfl (by rfl) (by rfl) ?_
              intro _ hR C hC
              replace hF := HG.rely hF hR
              clear hR
              go_simp
              refine hC _ _ ?_
              clear hC C
              try walk_nrm
              refine opsN_k KK rfl (by rfl) (by rfl) ?_
              intro _ hR C hC
              replace hF := HG.rely hF hR
              clear hR
              go_simp
              refine hC _ _ ?_
              clear hC C
              try walk_nrm
              refine opsN_k KK rfl (by rfl) (by rfl) ?_
              intro _ hR C hC
              replace hF := HG.rely hF hR
              clear hR
              go_simp
              refine hC _ _ ?_
              clear hC C
              try walk_nrm
              refine opsN_k KK rfl (by rfl) (by rfl) ?_
              intro _ hR C hC
              replace hF := HG.rely hF hR
              clear hR
              go_simp
              refine hC _ _ ?_
              clear hC C
              try walk_nrm
              refine opsN_k KK rfl (by rfl) (by rfl) ?_
              intro _ hR C hC
              replace hF := HG.rely hF hR
              clear hR
              go_simp
              refine hC _ _ ?_
              clear hC C
              try walk_nrm
              refine opsM_nil KK ?_
              try simp only [thenM, Exit.inBlock, if_true, if_false, reduceIte, Nat.reduceEqDiff]
              refine wpM_ret KK ?_
              try simp only [thenM, Exit.inBlock, if_true, if_false, reduceIte, Nat.reduceEqDiff]
              exact ⟨rfl, .bool true, resultsC_tmp (t := 2) (by rfl) _, rfl, fun d => hpost _ (HG.rely hF ⟨d, rfl⟩).below⟩
end Go.Proofs.Ytngmhkhncimknaa
