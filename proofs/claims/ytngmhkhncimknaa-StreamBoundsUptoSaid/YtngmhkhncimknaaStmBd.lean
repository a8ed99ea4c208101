/- StreamBounds: the walk of the law. -/
import Derived.Test.YtngmhkhncimknaaStmRun
namespace Go.Proofs.Ytngmhkhncimknaa
open Go Go.Conc Go.RowKit
set_option linter.unusedVariables false
set_option linter.unusedSimpArgs false

/-- what waits, what came out -/
def InvB (hv : List UInt8) (bad : Bool) (m u : Nat) : Prop := (bad = false → m = u + hv.length) ∧ (bad = true → hv = []) ∧ u ≤ m ∧ hv.length ≤ 258
theorem InvB.fed {hv : List UInt8} {bad : Bool} {m u : Nat} {lb : List UInt8} {ps : List (List UInt8)} {hv' : List UInt8} {bad' : Bool} (h : InvB hv bad m u) (hf : Fed hv bad lb ps hv' bad') : InvB hv' bad' (m + lb.length) (u + tot3 ps) ∧ ∀ p ∈ ps, 1 ≤ p.length ∧ p.length ≤ 256 := by
  obtain ⟨h1, h2, h3, h4⟩ := h
  rcases hf with ⟨rfl, hc⟩ | ⟨rfl, rfl, rfl, rfl⟩
  · have hs := cutS_sum _ (hv ++ lb) rfl
    rw [hc] at hs
    simp only [List.length_append] at hs
    have h5 := h1 rfl
    exact ⟨⟨fun hb => by have := hs.2.1 hb; omega, hs.2.2.1, by omega, hs.2.2.2.1⟩, hs.2.2.2.2⟩
  · exact ⟨⟨fun hb => (by cases hb), fun _ => h2 rfl, by simp [tot3]; omega, h4⟩, by simp⟩

set_option maxRecDepth 100000 in
set_option maxHeartbeats 6400000 in
theorem bounds_run {Post : Value → World → Prop} (A : Option Addr) (cc : Nat) (ls : List (List UInt8)) (hL : ls.length ≤ 9223372036854775807) (hP : ∀ l ∈ ls, l.length ≤ 140737488351232) (w0 : World) (hA : RowsB w0 A ls) (hpost : ∀ w', Below w0.heap.size w0 w' → Post (.bool true) w') :
    EndsRun Try.prog Post (solo (G (Frame.enter Try.prog 6 #[.slice A ls.length cc] .normal) []) w0) #[] := by
  have KK := kitF (P := Try.prog) (X := XEnds Try.prog Post) XEnds.back XEnds.at_
  have hF : FA w0 [] w0 := ⟨Below.refl _ _, fun p hp => by cases hp⟩
  have HA := Go.Lib.hid hA
  have HP := Go.Lib.hid hP
  clear hA hP
  refine runs_of_wpM Try.func6 rfl (by kernel_rfl) (by kernel_rfl) ?_
  simp only [Try.ntmps6, List.size_toArray, List.length_cons, List.length_nil, Nat.reduceAdd, Nat.reduceSub, Array.replicate_succ, Array.replicate_zero, List.push_toArray, List.append_toArray, List.nil_append, List.cons_append]
  refine wpM_seq KK ?_
  refine wpM_region KK ?_
  simp only [List.size_toArray, List.length_cons, List.length_nil, Nat.reduceAdd, Nat.zero_add, List.range, List.range.loop]
  refine opsN_k KK rfl (by rfl) (by rfl) ?_
  intro _ hR C hC
  replace hF := FA.rely hF hR
  clear hR
  go_simp
  refine hC _ _ ?_
  clear hC C
  try walk_nrm
  refine opsM_nil KK ?_
  try simp only [thenM, Exit.inBlock, if_true, if_false, reduceIte, Nat.reduceEqDiff]
  refine wpM_seq KK ?_
  refine wpM_seq KK ?_
  refine wpM_region KK ?_
  simp only [List.size_toArray, List.length_cons, List.length_nil, Nat.reduceAdd, Nat.zero_add, List.range, List.range.loop]
  refine opsM_fcall KK (vals := #[]) rfl (by rfl) rfl Try.func7 (by rfl) rfl (by first | rfl | simp) ?_
  refine callM_mono (awake_calls _) ?_
  rintro γ v w ⟨rfl, rfl, hB⟩
  replace hF := hF.next hB
  clear hB
  try walk_nrm
  refine opsN_k KK rfl (by rfl) (by rfl) ?_
  intro _ hR C hC
  replace hF := FA.rely hF hR
  clear hR
  go_simp
  refine hC _ _ ?_
  clear hC C
  try walk_nrm
  refine opsM_nil KK ?_
  try simp only [thenM, Exit.inBlock, if_true, if_false, reduceIte, Nat.reduceEqDiff]
  refine wpM_cond KK rfl ?_
  first | simp only [if_true, if_false, reduceIte, Bool.false_eq_true] | fail "COND"
  refine wpM_skip KK ?_
  try simp only [thenM, Exit.inBlock, if_true, if_false, reduceIte, Nat.reduceEqDiff]
  refine wpM_seq KK ?_
  refine wpM_seq KK ?_
  refine wpM_region KK ?_
  simp only [List.size_toArray, List.length_cons, List.length_nil, Nat.reduceAdd, Nat.zero_add, List.range, List.range.loop]
  refine opsN_k KK rfl (by rfl) (by rfl) ?_
  intro _ hR C hC
  replace hF := FA.rely hF hR
  clear hR
  go_simp
  refine hC _ _ ?_
  clear hC C
  try walk_nrm
  refine opsM_fcall KK (vals := #[.slice A ls.length cc]) rfl (by rfl) rfl Try.func18 (by rfl) rfl (by simp [Act.eval]) ?_
  refine callM_mono (many_calls A cc ls hL HP.out _ (rowsB_below hF.below HA.out)) ?_
  rintro γ v w ⟨rfl, ⟨b, rfl, hb⟩, hB⟩
  replace hF := hF.next hB
  have HM := Go.Lib.hid hb
  clear hB hb
  try walk_nrm
  refine opsM_nil KK ?_
  try simp only [thenM, Exit.inBlock, if_true, if_false, reduceIte, Nat.reduceEqDiff]
  cases b with
  | true =>
    refine wpM_cond KK rfl ?_
    first | simp only [if_true, if_false, reduceIte, Bool.false_eq_true] | fail "COND"
    refine wpM_seq KK ?_
    refine wpM_region KK ?_
    simp only [List.size_toArray, List.length_cons, List.length_nil, Nat.reduceAdd, Nat.zero_add, List.range, List.range.loop]
    refine opsN_k KK rfl (by rfl) (by rfl) ?_
    intro _ hR C hC
    replace hF := FA.rely hF hR
    clear hR
    go_simp
    refine hC _ _ ?_
    clear hC C
    try walk_nrm
    refine opsM_nil KK ?_
    try simp only [thenM, Exit.inBlock, if_true, if_false, reduceIte, Nat.reduceEqDiff]
    refine wpM_ret KK ?_
    try simp only [thenM, Exit.inBlock, if_true, if_false, reduceIte, Nat.reduceEqDiff]
    exact ⟨rfl, .bool true, resultsC_tmp (t := 2) (by rfl) _, rfl, fun d => hpost _ (FA.rely hF ⟨d, rfl⟩).below⟩
  | false =>
  have hM := HM.out rfl
  clear HM
  refine wpM_cond KK rfl ?_
  first | simp only [if_true, if_false, reduceIte, Bool.false_eq_true] | fail "COND"
  refine wpM_skip KK ?_
  try simp only [thenM, Exit.inBlock, if_true, if_false, reduceIte, Nat.reduceEqDiff]
  refine wpM_seq KK ?_
  refine wpM_region KK ?_
  simp only [List.size_toArray, List.length_cons, List.length_nil, Nat.reduceAdd, Nat.zero_add, List.range, List.range.loop]
  refine opsM_fcall KK (vals := #[]) rfl (by rfl) rfl Try.func8 (by rfl) rfl (by first | rfl | simp) ?_
  refine callM_mono (new_calls _) ?_
  rintro γ v w ⟨rfl, ⟨sp, rfl, hS⟩, hB⟩
  replace hF : LP w0 sp [] false (.slice none 0 0) none [] w := ⟨⟨hF.below.trans (hB.mono hF.below.size), ⟨hS.blk, own_low hS.own hF.below.size, Nat.le_trans hF.below.size hS.ge⟩⟩, ⟨[], rfl, fun h => absurd h (by simp), fun i h => absurd h (by simp)⟩⟩
  clear hS hB
  try walk_nrm
  refine opsN_k KK rfl (by rfl) (by rfl) ?_
  intro _ hR C hC
  replace hF := LP.rely hF hR
  clear hR
  go_simp
  refine hC _ _ ?_
  clear hC C
  try walk_nrm
  refine opsM_nil KK ?_
  try simp only [thenM, Exit.inBlock, if_true, if_false, reduceIte, Nat.reduceEqDiff]
  refine wpM_seq KK ?_
  refine wpM_region KK ?_
  simp only [List.size_toArray, List.length_cons, List.length_nil, Nat.reduceAdd, Nat.zero_add, List.range, List.range.loop]
  refine opsN_k KK rfl (by rfl) (by rfl) ?_
  intro _ hR C hC
  replace hF := LP.rely hF hR
  clear hR
  go_simp
  refine hC _ _ ?_
  clear hC C
  try walk_nrm
  refine opsM_nil KK ?_
  try simp only [thenM, Exit.inBlock, if_true, if_false, reduceIte, Nat.reduceEqDiff]
  refine wpM_seq KK ?_
  refine wpM_region KK ?_
  simp only [List.size_toArray, List.length_cons, List.length_nil, Nat.reduceAdd, Nat.zero_add, List.range, List.range.loop]
  refine opsN_k KK rfl (by rfl) (by rfl) ?_
  intro _ hR C hC
  replace hF := LP.rely hF hR
  clear hR
  go_simp
  refine hC _ _ ?_
  clear hC C
  try walk_nrm
  refine opsM_nil KK ?_
  try simp only [thenM, Exit.inBlock, if_true, if_false, reduceIte, Nat.reduceEqDiff]
  refine wpM_seq KK ?_
  refine wpM_seq KK ?_
  refine wpM_region KK ?_
  simp only [List.size_toArray, List.length_cons, List.length_nil, Nat.reduceAdd, Nat.zero_add, List.range, List.range.loop]
  refine opsN_k KK rfl (by rfl) (by rfl) ?_
  intro _ hR C hC
  replace hF := LP.rely hF hR
  clear hR
  go_simp
  refine hC _ _ ?_
  clear hC C
  try walk_nrm
  refine opsM_nil KK ?_
  try simp only [thenM, Exit.inBlock, if_true, if_false, reduceIte, Nat.reduceEqDiff]
  refine wpM_block KK ?_
  refine wpM_loop KK (fun (γ : Option (Duet × Proto)) (a : Act) (w : World) => ∃ (k : Nat) (m : Nat) (u : Nat) (hv : List UInt8) (bad : Bool) (rv : Value) (Fx : Nat → Value), γ = none ∧ a = { tmps := #[.slice A ls.length cc, Fx 1, Fx 2, .pointer (some ⟨sp, 0, none⟩), .int .i64 (m : Int), .int .i64 (u : Int), .int .i64 (k : Int), Fx 7, Fx 8, Fx 9, Fx 10, Fx 11, Fx 12, Fx 13, Fx 14, Fx 15, Fx 16, Fx 17, Fx 18, Fx 19, Fx 20, Fx 21, Fx 22, Fx 23, Fx 24, Fx 25, Fx 26, Fx 27, Fx 28, Fx 29, Fx 30, Fx 31, Fx 32, Fx 33, Fx 34, Fx 35, Fx 36, Fx 37, Fx 38, Fx 39, Fx 40, Fx 41, Fx 42, Fx 43, Fx 44, Fx 45, Fx 46, Fx 47, Fx 48, Fx 49, Fx 50, Fx 51, Fx 52, Fx 53, Fx 54, Fx 55, Fx 56, Fx 57, Fx 58, Fx 59, Fx 60, Fx 61, Fx 62, Fx 63, Fx 64, Fx 65, Fx 66, Fx 67, Fx 68, Fx 69, Fx 70, Fx 71, Fx 72, Fx 73, Fx 74, Fx 75, Fx 76, Fx 77, Fx 78, Fx 79, Fx 80, Fx 81, Fx 82, Fx 83, Fx 84, Fx 85, Fx 86, Fx 87, Fx 88, Fx 89, Fx 90, Fx 91, Fx 92, Fx 93, Fx 94, Fx 95, Fx 96, Fx 97, Fx 98, Fx 99, Fx 100, Fx 101], defers := [] } ∧ k ≤ ls.length ∧ Hid (m = totL (ls.take k)) ∧ Hid (InvB hv bad m u) ∧ LP w0 sp hv bad rv none [] w) (fun _ a _ => ls.length - slotN a 6) ?startx ?roundx
  case startx => exact ⟨0, 0, 0, [], false, .slice none 0 0, (fun i => (#[undef, _, _, undef, undef, undef, undef, _, _, _, _, _, _, _, _, _, _, _, _, _, _, _, _, _, _, _, _, _, _, _, _, _, _, _, _, _, _, _, _, _, _, _, _, _, _, _, _, _, _, _, _, _, _, _, _, _, _, _, _, _, _, _, _, _, _, _, _, _, _, _, _, _, _, _, _, _, _, _, _, _, _, _, _, _, _, _, _, _, _, _, _, _, _, _, _, _, _, _, _, _, _, _] : Array Value).getD i undef), rfl, rfl, by omega, by simp [RowKit.Hid, totL], ⟨fun _ => rfl, fun h => (by cases h), Nat.le_refl _, by decide⟩, hF⟩
  case roundx =>
      clear hF
      intro γ a w hI
      obtain ⟨k, m, u, hv, bad, rv, Fx, rfl, rfl, hk, HM, HI, hF⟩ := hI
      have hm : m ≤ 16777216 := by have h1 := HM.out; have h2 := totL_mono ls k; have h3 := totL_le ls; omega
      have hu : u ≤ m := HI.out.2.2.1
      have hhv : hv.length ≤ 258 := HI.out.2.2.2
      refine wpM_seq KK ?_
      refine wpM_seq KK ?_
      refine wpM_region KK ?_
      simp only [List.size_toArray, List.length_cons, List.length_nil, Nat.reduceAdd, Nat.zero_add, List.range, List.range.loop]
      by_cases hlt : k < ls.length
      · have e1 : decide ((k : Int) < (ls.length : Int)) = true := decide_eq_true (by omega)
        have i1 : (k : Int) < (ls.length : Int) := by omega
        have HT2 := Go.Lib.hid (totL_take ls k hlt)
        have HT3 := Go.Lib.hid (totL_mono ls (k + 1))
        obtain ⟨b, o, hAe, A1, c1, hcc, hc1, hr1⟩ := HA.out.row2 k hlt
        have HC := Go.Lib.hid hc1
        have HR := Go.Lib.hid hr1
        have HCC := Go.Lib.hid hcc
        clear hc1 hr1 hcc
        have HZ : Hid (m + ls[k].length = totL (ls.take (k + 1))) := by rw [RowKit.Hid, HT2.out, ← HM.out]
        have hz : m + ls[k].length ≤ 16777216 := by have h1 := HZ.out; have h2 := HT3.out; have h3 := totL_le ls; omega
        clear HT2 HT3
        generalize ls[k] = lb at *
        subst hAe
        refine opsN_k KK rfl (by rfl) (by rfl) ?_
        intro _ hR C hC
        replace hF := LP.rely hF hR
        clear hR
        go_simp
        refine hC _ _ ?_
        clear hC C
        try walk_nrm
        refine opsN_k KK rfl (by rfl) (by rfl) ?_
        intro _ hR C hC
        replace hF := LP.rely hF hR
        clear hR
        go_simp
        refine hC _ _ ?_
        clear hC C
        try walk_nrm
        refine opsN_k KK rfl (by rfl) (by rfl) ?_
        intro _ hR C hC
        replace hF := LP.rely hF hR
        clear hR
        go_simp
        refine hC _ _ ?_
        clear hC C
        try walk_nrm
        refine opsN_k KK rfl (by rfl) (by rfl) ?_
        intro _ hR C hC
        replace hF := LP.rely hF hR
        clear hR
        go_simp
        refine hC _ _ ?_
        clear hC C
        try walk_nrm
        refine opsM_nil KK ?_
        try simp only [thenM, Exit.inBlock, if_true, if_false, reduceIte, Nat.reduceEqDiff]
        refine wpM_cond KK rfl ?_
        first | simp only [if_true, if_false, reduceIte, Bool.false_eq_true] | fail "COND"
        refine wpM_skip KK ?_
        try simp only [thenM, Exit.inBlock, if_true, if_false, reduceIte, Nat.reduceEqDiff]
        refine wpM_seq KK ?_
        refine wpM_block KK ?_
        refine wpM_seq KK ?_
        refine wpM_region KK ?_
        simp only [List.size_toArray, List.length_cons, List.length_nil, Nat.reduceAdd, Nat.zero_add, List.range, List.range.loop]
        refine opsN_k KK rfl (by rfl) (by rfl) ?_
        intro _ hR C hC
        replace hF := LP.rely hF hR
        clear hR
        go_simp
        refine hC _ _ ?_
        clear hC C
        try walk_nrm
        refine opsN_k KK rfl (by rfl) (by rfl) ?_
        intro _ hR C hC
        replace hF := LP.rely hF hR
        clear hR
        go_simp
        refine hC _ _ ?_
        clear hC C
        try walk_nrm
        refine opsN_k KK rfl (by rfl) (by rfl) ?_
        intro _ hR C hC
        replace hF := LP.rely hF hR
        clear hR
        go_simp
        refine hC _ _ ?_
        clear hC C
        try walk_nrm
        refine opsN_k KK rfl (by rfl) (by rfl) ?_
        intro _ hR C hC
        replace hF := LP.rely hF hR
        clear hR
        go_simp
        refine hC _ _ ?_
        clear hC C
        try walk_nrm
        refine opsN_k KK rfl (by rfl) (by rfl) ?_
        intro _ hR C hC
        replace hF := LP.rely hF hR
        clear hR
        have hc := below_cell hF.law.below HC.out
        go_simp
        refine hC _ _ ?_
        clear hC C
        try walk_nrm
        clear hc
        refine opsM_fcall KK (vals := #[.pointer (some ⟨sp, 0, none⟩), .slice A1 lb.length c1]) rfl (by rfl) rfl Try.func11 (by rfl) rfl (by simp [Act.eval]) ?_
        refine callM_mono (feed_any hF A1 c1 lb (cells_below hF.law.below HR.out) HCC.out (by omega)) ?_
        rintro γ r w ⟨rfl, PA, pc, ps, hv', bad', rA, rc, rfl, hfed, hpl, hpc, hF⟩
        have HI2 := Go.Lib.hid (HI.out.fed hfed)
        clear hfed
        try walk_nrm
        refine opsN_k KK rfl (by rfl) (by rfl) ?_
        intro _ hR C hC
        replace hF := LP.rely hF hR
        clear hR
        go_simp
        refine hC _ _ ?_
        clear hC C
        try walk_nrm
        refine opsN_k KK rfl (by rfl) (by rfl) ?_
        intro _ hR C hC
        replace hF := LP.rely hF hR
        clear hR
        go_simp
        refine hC _ _ ?_
        clear hC C
        try walk_nrm
        refine opsN_k KK rfl (by rfl) (by rfl) ?_
        intro _ hR C hC
        replace hF := LP.rely hF hR
        clear hR
        go_simp
        refine hC _ _ ?_
        clear hC C
        try walk_nrm
        refine opsN_k KK rfl (by rfl) (by rfl) ?_
        intro _ hR C hC
        replace hF := LP.rely hF hR
        clear hR
        go_simp
        refine hC _ _ ?_
        clear hC C
        try walk_nrm
        refine opsN_k KK rfl (by rfl) (by rfl) ?_
        intro _ hR C hC
        replace hF := LP.rely hF hR
        clear hR
        go_simp
        refine hC _ _ ?_
        clear hC C
        try walk_nrm
        refine opsM_nil KK ?_
        try simp only [thenM, Exit.inBlock, if_true, if_false, reduceIte, Nat.reduceEqDiff]
        have wz : IntKind.i64.wrap ((m : Int) + (lb.length : Int)) = ((m + lb.length : Nat) : Int) := by rw [IntKind.wrap_i64]; omega
        refine wpM_seq KK ?_
        refine wpM_region KK ?_
        simp only [List.size_toArray, List.length_cons, List.length_nil, Nat.reduceAdd, Nat.zero_add, List.range, List.range.loop]
        refine opsN_k KK rfl (by rfl) (by rfl) ?_
        intro _ hR C hC
        replace hF := LP.rely hF hR
        clear hR
        go_simp
        refine hC _ _ ?_
        clear hC C
        try walk_nrm
        refine opsN_k KK rfl (by rfl) (by rfl) ?_
        intro _ hR C hC
        replace hF := LP.rely hF hR
        clear hR
        go_simp
        refine hC _ _ ?_
        clear hC C
        try walk_nrm
        refine opsN_k KK rfl (by rfl) (by rfl) ?_
        intro _ hR C hC
        replace hF := LP.rely hF hR
        clear hR
        go_simp
        refine hC _ _ ?_
        clear hC C
        try walk_nrm
        refine opsN_k KK rfl (by rfl) (by rfl) ?_
        intro _ hR C hC
        replace hF := LP.rely hF hR
        clear hR
        go_simp
        refine hC _ _ ?_
        clear hC C
        try walk_nrm
        refine opsN_k KK rfl (by rfl) (by rfl) ?_
        intro _ hR C hC
        replace hF := LP.rely hF hR
        clear hR
        have hc := below_cell hF.law.below HC.out
        go_simp
        refine hC _ _ ?_
        clear hC C
        try walk_nrm
        clear hc
        refine opsN_k KK rfl (by rfl) (by rfl) ?_
        intro _ hR C hC
        replace hF := LP.rely hF hR
        clear hR
        go_simp
        refine hC _ _ ?_
        clear hC C
        try walk_nrm
        refine opsN_k KK rfl (by rfl) (by rfl) ?_
        intro _ hR C hC
        replace hF := LP.rely hF hR
        clear hR
        go_simp
        refine hC _ _ ?_
        clear hC C
        try walk_nrm
        refine opsN_k KK rfl (by rfl) (by rfl) ?_
        intro _ hR C hC
        replace hF := LP.rely hF hR
        clear hR
        go_simp
        refine hC _ _ ?_
        clear hC C
        try walk_nrm
        refine opsM_nil KK ?_
        try simp only [thenM, Exit.inBlock, if_true, if_false, reduceIte, Nat.reduceEqDiff]
        refine wpM_seq KK ?_
        refine wpM_seq KK ?_
        refine wpM_region KK ?_
        simp only [List.size_toArray, List.length_cons, List.length_nil, Nat.reduceAdd, Nat.zero_add, List.range, List.range.loop]
        refine opsN_k KK rfl (by rfl) (by rfl) ?_
        intro _ hR C hC
        replace hF := LP.rely hF hR
        clear hR
        go_simp
        refine hC _ _ ?_
        clear hC C
        try walk_nrm
        refine opsM_nil KK ?_
        try simp only [thenM, Exit.inBlock, if_true, if_false, reduceIte, Nat.reduceEqDiff]
        refine wpM_block KK ?_
        refine wpM_loop KK (fun (γ : Option (Duet × Proto)) (a : Act) (w : World) => ∃ (j : Nat) (u2 : Nat) (Fy : Nat → Value), γ = none ∧ a = { tmps := #[.slice (some ⟨b, o, none⟩) ls.length cc, Fy 1, Fy 2, .pointer (some ⟨sp, 0, none⟩), .int .i64 ((m : Int) + (lb.length : Int)), .int .i64 (u2 : Int), .int .i64 (k : Int), .slice PA ps.length pc, .bool bad', .int .i64 (j : Int), Fy 10, Fy 11, Fy 12, Fy 13, Fy 14, Fy 15, Fy 16, Fy 17, Fy 18, Fy 19, Fy 20, Fy 21, Fy 22, Fy 23, Fy 24, Fy 25, Fy 26, Fy 27, Fy 28, Fy 29, Fy 30, Fy 31, Fy 32, Fy 33, Fy 34, Fy 35, Fy 36, Fy 37, Fy 38, Fy 39, Fy 40, Fy 41, Fy 42, Fy 43, Fy 44, Fy 45, Fy 46, Fy 47, Fy 48, Fy 49, Fy 50, Fy 51, Fy 52, Fy 53, Fy 54, Fy 55, Fy 56, Fy 57, Fy 58, Fy 59, Fy 60, Fy 61, Fy 62, Fy 63, Fy 64, Fy 65, Fy 66, Fy 67, Fy 68, Fy 69, Fy 70, Fy 71, Fy 72, Fy 73, Fy 74, Fy 75, Fy 76, Fy 77, Fy 78, Fy 79, Fy 80, Fy 81, Fy 82, Fy 83, Fy 84, Fy 85, Fy 86, Fy 87, Fy 88, Fy 89, Fy 90, Fy 91, Fy 92, Fy 93, Fy 94, Fy 95, Fy 96, Fy 97, Fy 98, Fy 99, Fy 100, Fy 101], defers := [] } ∧ j ≤ ps.length ∧ Hid (u2 = u + tot3 (ps.take j)) ∧ LP w0 sp hv' bad' (.slice rA hv'.length rc) PA ps w) (fun _ a _ => ps.length - slotN a 9) ?starty ?roundy
        case starty => exact ⟨0, u, (fun i => (#[undef, _, _, undef, undef, undef, undef, undef, undef, undef, _, _, _, _, _, _, _, _, _, _, _, _, _, _, _, _, _, _, _, _, _, _, _, _, _, _, _, _, _, _, _, _, _, _, _, _, _, _, _, _, _, _, _, _, _, _, _, _, _, _, _, _, _, _, _, _, _, _, _, _, _, _, _, _, _, _, _, _, _, _, _, _, _, _, _, _, _, _, _, _, _, _, _, _, _, _, _, _, _, _, _, _] : Array Value).getD i undef), rfl, rfl, by omega, by simp [RowKit.Hid, tot3], hF⟩
        case roundy =>
            clear hF
            intro γ a w hI
            obtain ⟨j, u2, Fy, rfl, rfl, hj, HU, hF⟩ := hI
            have hI3 := HI2.out.1.2.2.1
            have hu2 : u2 ≤ 16777216 := by have h1 := HU.out; have h2 := tot3_mono ps j; omega
            refine wpM_seq KK ?_
            refine wpM_seq KK ?_
            refine wpM_region KK ?_
            simp only [List.size_toArray, List.length_cons, List.length_nil, Nat.reduceAdd, Nat.zero_add, List.range, List.range.loop]
            by_cases hlt2 : j < ps.length
            · have f1 : decide ((j : Int) < (ps.length : Int)) = true := decide_eq_true (by omega)
              have f2 : (j : Int) < (ps.length : Int) := by omega
              have HT4 := Go.Lib.hid (tot3_take ps j hlt2)
              have HT5 := Go.Lib.hid (tot3_mono ps (j + 1))
              have hzb := HI2.out.2 _ (List.getElem_mem hlt2)
              obtain ⟨pb, po, rfl, _, _, _, _, _⟩ := hF.rows.row j hlt2
              have HU2 : Hid (u2 + (ps[j].length + 3) = u + tot3 (ps.take (j + 1))) := by rw [RowKit.Hid, HT4.out]; have := HU.out; omega
              have hsz : u2 + (ps[j].length + 3) ≤ 16777216 := by have h1 := HU2.out; have h2 := HT5.out; omega
              obtain ⟨z2, hz2⟩ : ∃ z2, ps[j].length = z2 := ⟨_, rfl⟩
              rw [hz2] at hzb HU2 hsz
              have HZ2 := Go.Lib.hid hz2
              clear hz2
              have d1 : decide ((z2 : Int) < 1) = false := decide_eq_false (by omega)
              have d2 : decide ((256 : Int) < (z2 : Int)) = false := decide_eq_false (by omega)
              have w3 : IntKind.i64.wrap ((z2 : Int) + 3) = ((z2 + 3 : Nat) : Int) := by rw [IntKind.wrap_i64]; omega
              have w4 : IntKind.i64.wrap ((u2 : Int) + ((z2 : Int) + 3)) = ((u2 + (z2 + 3) : Nat) : Int) := by rw [IntKind.wrap_i64]; omega
              have wj : IntKind.i64.wrap ((j : Int) + 1) = ((j + 1 : Nat) : Int) := by rw [IntKind.wrap_i64]; omega
              clear HT4
              refine opsN_k KK rfl (by rfl) (by rfl) ?_
              intro _ hR C hC
              replace hF := LP.rely hF hR
              clear hR
              go_simp
              refine hC _ _ ?_
              clear hC C
              try walk_nrm
              refine opsN_k KK rfl (by rfl) (by rfl) ?_
              intro _ hR C hC
              replace hF := LP.rely hF hR
              clear hR
              go_simp
              refine hC _ _ ?_
              clear hC C
              try walk_nrm
              refine opsN_k KK rfl (by rfl) (by rfl) ?_
              intro _ hR C hC
              replace hF := LP.rely hF hR
              clear hR
              go_simp
              refine hC _ _ ?_
              clear hC C
              try walk_nrm
              refine opsN_k KK rfl (by rfl) (by rfl) ?_
              intro _ hR C hC
              replace hF := LP.rely hF hR
              clear hR
              go_simp
              refine hC _ _ ?_
              clear hC C
              try walk_nrm
              refine opsM_nil KK ?_
              try simp only [thenM, Exit.inBlock, if_true, if_false, reduceIte, Nat.reduceEqDiff]
              refine wpM_cond KK rfl ?_
              first | simp only [if_true, if_false, reduceIte, Bool.false_eq_true] | fail "COND"
              refine wpM_skip KK ?_
              try simp only [thenM, Exit.inBlock, if_true, if_false, reduceIte, Nat.reduceEqDiff]
              refine wpM_seq KK ?_
              refine wpM_block KK ?_
              refine wpM_seq KK ?_
              refine wpM_seq KK ?_
              refine wpM_region KK ?_
              simp only [List.size_toArray, List.length_cons, List.length_nil, Nat.reduceAdd, Nat.zero_add, List.range, List.range.loop]
              refine opsN_k KK rfl (by rfl) (by rfl) ?_
              intro _ hR C hC
              replace hF := LP.rely hF hR
              clear hR
              go_simp
              refine hC _ _ ?_
              clear hC C
              try walk_nrm
              refine opsN_k KK rfl (by rfl) (by rfl) ?_
              intro _ hR C hC
              replace hF := LP.rely hF hR
              clear hR
              go_simp
              refine hC _ _ ?_
              clear hC C
              try walk_nrm
              refine opsN_k KK rfl (by rfl) (by rfl) ?_
              intro _ hR C hC
              replace hF := LP.rely hF hR
              clear hR
              go_simp
              refine hC _ _ ?_
              clear hC C
              try walk_nrm
              refine opsN_k KK rfl (by rfl) (by rfl) ?_
              intro _ hR C hC
              replace hF := LP.rely hF hR
              clear hR
              obtain ⟨b2, o2, hPA, A2, c2, _, hcl, _⟩ := hF.rows.row j hlt2
              rw [HZ2.out] at hcl
              simp only [Option.some.injEq, Addr.mk.injEq, and_true] at hPA
              obtain ⟨rfl, rfl⟩ := hPA
              go_simp
              refine hC _ _ ?_
              clear hC C
              try walk_nrm
              clear hcl
              refine opsN_k KK rfl (by rfl) (by rfl) ?_
              intro _ hR C hC
              replace hF := LP.rely hF hR
              clear hR
              go_simp
              refine hC _ _ ?_
              clear hC C
              try walk_nrm
              refine opsN_k KK rfl (by rfl) (by rfl) ?_
              intro _ hR C hC
              replace hF := LP.rely hF hR
              clear hR
              go_simp
              refine hC _ _ ?_
              clear hC C
              try walk_nrm
              refine opsN_k KK rfl (by rfl) (by rfl) ?_
              intro _ hR C hC
              replace hF := LP.rely hF hR
              clear hR
              go_simp
              refine hC _ _ ?_
              clear hC C
              try walk_nrm
              refine opsN_k KK rfl (by rfl) (by rfl) ?_
              intro _ hR C hC
              replace hF := LP.rely hF hR
              clear hR
              go_simp
              refine hC _ _ ?_
              clear hC C
              try walk_nrm
              refine opsN_k KK rfl (by rfl) (by rfl) ?_
              intro _ hR C hC
              replace hF := LP.rely hF hR
              clear hR
              go_simp
              refine hC _ _ ?_
              clear hC C
              try walk_nrm
              refine opsN_k KK rfl (by rfl) (by rfl) ?_
              intro _ hR C hC
              replace hF := LP.rely hF hR
              clear hR
              go_simp
              refine hC _ _ ?_
              clear hC C
              try walk_nrm
              refine opsN_k KK rfl (by rfl) (by rfl) ?_
              intro _ hR C hC
              replace hF := LP.rely hF hR
              clear hR
              obtain ⟨b2, o2, hPA, A2, c2, _, hcl, _⟩ := hF.rows.row j hlt2
              rw [HZ2.out] at hcl
              simp only [Option.some.injEq, Addr.mk.injEq, and_true] at hPA
              obtain ⟨rfl, rfl⟩ := hPA
              go_simp
              refine hC _ _ ?_
              clear hC C
              try walk_nrm
              clear hcl
              refine opsN_k KK rfl (by rfl) (by rfl) ?_
              intro _ hR C hC
              replace hF := LP.rely hF hR
              clear hR
              go_simp
              refine hC _ _ ?_
              clear hC C
              try walk_nrm
              refine opsN_k KK rfl (by rfl) (by rfl) ?_
              intro _ hR C hC
              replace hF := LP.rely hF hR
              clear hR
              go_simp
              refine hC _ _ ?_
              clear hC C
              try walk_nrm
              refine opsN_k KK rfl (by rfl) (by rfl) ?_
              intro _ hR C hC
              replace hF := LP.rely hF hR
              clear hR
              go_simp
              refine hC _ _ ?_
              clear hC C
              try walk_nrm
              refine opsM_nil KK ?_
              try simp only [thenM, Exit.inBlock, if_true, if_false, reduceIte, Nat.reduceEqDiff]
              refine wpM_cond KK rfl ?_
              first | simp only [if_true, if_false, reduceIte, Bool.false_eq_true] | fail "COND"
              refine wpM_skip KK ?_
              try simp only [thenM, Exit.inBlock, if_true, if_false, reduceIte, Nat.reduceEqDiff]
              refine wpM_region KK ?_
              simp only [List.size_toArray, List.length_cons, List.length_nil, Nat.reduceAdd, Nat.zero_add, List.range, List.range.loop]
              refine opsN_k KK rfl (by rfl) (by rfl) ?_
              intro _ hR C hC
              replace hF := LP.rely hF hR
              clear hR
              go_simp
              refine hC _ _ ?_
              clear hC C
              try walk_nrm
              refine opsN_k KK rfl (by rfl) (by rfl) ?_
              intro _ hR C hC
              replace hF := LP.rely hF hR
              clear hR
              go_simp
              refine hC _ _ ?_
              clear hC C
              try walk_nrm
              refine opsN_k KK rfl (by rfl) (by rfl) ?_
              intro _ hR C hC
              replace hF := LP.rely hF hR
              clear hR
              go_simp
              refine hC _ _ ?_
              clear hC C
              try walk_nrm
              refine opsN_k KK rfl (by rfl) (by rfl) ?_
              intro _ hR C hC
              replace hF := LP.rely hF hR
              clear hR
              go_simp
              refine hC _ _ ?_
              clear hC C
              try walk_nrm
              refine opsN_k KK rfl (by rfl) (by rfl) ?_
              intro _ hR C hC
              replace hF := LP.rely hF hR
              clear hR
              obtain ⟨b2, o2, hPA, A2, c2, _, hcl, _⟩ := hF.rows.row j hlt2
              rw [HZ2.out] at hcl
              simp only [Option.some.injEq, Addr.mk.injEq, and_true] at hPA
              obtain ⟨rfl, rfl⟩ := hPA
              go_simp
              refine hC _ _ ?_
              clear hC C
              try walk_nrm
              clear hcl
              refine opsN_k KK rfl (by rfl) (by rfl) ?_
              intro _ hR C hC
              replace hF := LP.rely hF hR
              clear hR
              go_simp
              refine hC _ _ ?_
              clear hC C
              try walk_nrm
              refine opsN_k KK rfl (by rfl) (by rfl) ?_
              intro _ hR C hC
              replace hF := LP.rely hF hR
              clear hR
              go_simp
              refine hC _ _ ?_
              clear hC C
              try walk_nrm
              refine opsN_k KK rfl (by rfl) (by rfl) ?_
              intro _ hR C hC
              replace hF := LP.rely hF hR
              clear hR
              go_simp
              refine hC _ _ ?_
              clear hC C
              try walk_nrm
              refine opsN_k KK rfl (by rfl) (by rfl) ?_
              intro _ hR C hC
              replace hF := LP.rely hF hR
              clear hR
              go_simp
              refine hC _ _ ?_
              clear hC C
              try walk_nrm
              refine opsM_nil KK ?_
              try simp only [thenM, Exit.inBlock, if_true, if_false, reduceIte, Nat.reduceEqDiff]
              refine wpM_region KK ?_
              simp only [List.size_toArray, List.length_cons, List.length_nil, Nat.reduceAdd, Nat.zero_add, List.range, List.range.loop]
              refine opsN_k KK rfl (by rfl) (by rfl) ?_
              intro _ hR C hC
              replace hF := LP.rely hF hR
              clear hR
              go_simp
              refine hC _ _ ?_
              clear hC C
              try walk_nrm
              refine opsN_k KK rfl (by rfl) (by rfl) ?_
              intro _ hR C hC
              replace hF := LP.rely hF hR
              clear hR
              go_simp
              refine hC _ _ ?_
              clear hC C
              try walk_nrm
              refine opsN_k KK rfl (by rfl) (by rfl) ?_
              intro _ hR C hC
              replace hF := LP.rely hF hR
              clear hR
              go_simp
              refine hC _ _ ?_
              clear hC C
              try walk_nrm
              refine opsM_nil KK ?_
              try simp only [thenM, Exit.inBlock, if_true, if_false, reduceIte, Nat.reduceEqDiff]
              refine ⟨⟨j + 1, u2 + (z2 + 3), (fun i => (#[undef, _, _, undef, undef, undef, undef, undef, undef, undef, _, _, _, _, _, _, _, _, _, _, _, _, _, _, _, _, _, _, _, _, _, _, _, _, _, _, _, _, _, _, _, _, _, _, _, _, _, _, _, _, _, _, _, _, _, _, _, _, _, _, _, _, _, _, _, _, _, _, _, _, _, _, _, _, _, _, _, _, _, _, _, _, _, _, _, _, _, _, _, _, _, _, _, _, _, _, _, _, _, _, _, _] : Array Value).getD i undef), (by first | rfl | trivial), rfl, by omega, HU2.out, hF⟩, ?_⟩
              show ps.length - ((j : Int) + 1).toNat < ps.length - (j : Int).toNat
              omega
            obtain rfl : j = ps.length := by omega
            have f1 : decide ((ps.length : Int) < (ps.length : Int)) = false := decide_eq_false (by omega)
            have HU3 : Hid (u2 = u + tot3 ps) := by rw [RowKit.Hid, HU.out, List.take_length]
            clear HU
            refine opsN_k KK rfl (by rfl) (by rfl) ?_
            intro _ hR C hC
            replace hF := LP.rely hF hR
            clear hR
            go_simp
            refine hC _ _ ?_
            clear hC C
            try walk_nrm
            refine opsN_k KK rfl (by rfl) (by rfl) ?_
            intro _ hR C hC
            replace hF := LP.rely hF hR
            clear hR
            go_simp
            refine hC _ _ ?_
            clear hC C
            try walk_nrm
            refine opsN_k KK rfl (by rfl) (by rfl) ?_
            intro _ hR C hC
            replace hF := LP.rely hF hR
            clear hR
            go_simp
            refine hC _ _ ?_
            clear hC C
            try walk_nrm
            refine opsN_k KK rfl (by rfl) (by rfl) ?_
            intro _ hR C hC
            replace hF := LP.rely hF hR
            clear hR
            go_simp
            refine hC _ _ ?_
            clear hC C
            try walk_nrm
            refine opsM_nil KK ?_
            try simp only [thenM, Exit.inBlock, if_true, if_false, reduceIte, Nat.reduceEqDiff]
            refine wpM_cond KK rfl ?_
            first | simp only [if_true, if_false, reduceIte, Bool.false_eq_true] | fail "COND"
            refine wpM_exit KK ?_
            try simp only [thenM, Exit.inBlock, if_true, if_false, reduceIte, Nat.reduceEqDiff]
            have hI4 := HI2.out.1.2.2.2
            have g1 : decide ((hv'.length : Int) < 0) = false := decide_eq_false (by omega)
            have g2 : decide ((258 : Int) < (hv'.length : Int)) = false := decide_eq_false (by omega)
            have wk : IntKind.i64.wrap ((k : Int) + 1) = ((k + 1 : Nat) : Int) := by rw [IntKind.wrap_i64]; omega
            have g3 : decide ((m : Int) + (lb.length : Int) < (u2 : Int)) = false := decide_eq_false (by have := HU3.out; omega)
            have HI5 : Hid (InvB hv' bad' (m + lb.length) u2) := by rw [RowKit.Hid, HU3.out]; exact HI2.out.1
            clear HI2
            cases bad' with
            | false =>
              have hsub : IntKind.i64.wrap ((m : Int) + (lb.length : Int) - (u2 : Int)) = (hv'.length : Int) := by have h1 := HI5.out.1 rfl; rw [IntKind.wrap_i64]; omega
              refine wpM_seq KK ?_
              refine wpM_seq KK ?_
              refine wpM_region KK ?_
              simp only [List.size_toArray, List.length_cons, List.length_nil, Nat.reduceAdd, Nat.zero_add, List.range, List.range.loop]
              refine opsN_k KK rfl (by rfl) (by rfl) ?_
              intro _ hR C hC
              replace hF := LP.rely hF hR
              clear hR
              go_simp
              refine hC _ _ ?_
              clear hC C
              try walk_nrm
              refine opsN_k KK rfl (by rfl) (by rfl) ?_
              intro _ hR C hC
              replace hF := LP.rely hF hR
              clear hR
              go_simp
              refine hC _ _ ?_
              clear hC C
              try walk_nrm
              refine opsM_fcall KK (vals := #[.pointer (some ⟨sp, 0, none⟩)]) rfl (by rfl) rfl Try.func16 (by rfl) rfl (by simp [Act.eval]) ?_
              refine callM_mono (bad_calls _ hF.law.spl.blk) ?_
              rintro γ v w ⟨rfl, rfl, hB⟩
              replace hF := hF.next hB
              clear hB
              try walk_nrm
              refine opsN_k KK rfl (by rfl) (by rfl) ?_
              intro _ hR C hC
              replace hF := LP.rely hF hR
              clear hR
              go_simp
              refine hC _ _ ?_
              clear hC C
              try walk_nrm
              refine opsN_k KK rfl (by rfl) (by rfl) ?_
              intro _ hR C hC
              replace hF := LP.rely hF hR
              clear hR
              go_simp
              refine hC _ _ ?_
              clear hC C
              try walk_nrm
              refine opsN_k KK rfl (by rfl) (by rfl) ?_
              intro _ hR C hC
              replace hF := LP.rely hF hR
              clear hR
              go_simp
              refine hC _ _ ?_
              clear hC C
              try walk_nrm
              refine opsM_fcall KK (vals := #[.pointer (some ⟨sp, 0, none⟩)]) rfl (by rfl) rfl Try.func14 (by rfl) rfl (by simp [Act.eval]) ?_
              refine callM_mono (waiting_calls _ hF.law.spl.blk) ?_
              rintro γ v w ⟨rfl, rfl, hB⟩
              replace hF := hF.next hB
              clear hB
              try walk_nrm
              refine opsN_k KK rfl (by rfl) (by rfl) ?_
              intro _ hR C hC
              replace hF := LP.rely hF hR
              clear hR
              go_simp
              refine hC _ _ ?_
              clear hC C
              try walk_nrm
              refine opsN_k KK rfl (by rfl) (by rfl) ?_
              intro _ hR C hC
              replace hF := LP.rely hF hR
              clear hR
              go_simp
              refine hC _ _ ?_
              clear hC C
              try walk_nrm
              refine opsN_k KK rfl (by rfl) (by rfl) ?_
              intro _ hR C hC
              replace hF := LP.rely hF hR
              clear hR
              go_simp
              refine hC _ _ ?_
              clear hC C
              try walk_nrm
              refine opsN_k KK rfl (by rfl) (by rfl) ?_
              intro _ hR C hC
              replace hF := LP.rely hF hR
              clear hR
              go_simp
              refine hC _ _ ?_
              clear hC C
              try walk_nrm
              refine opsM_fcall KK (vals := #[.pointer (some ⟨sp, 0, none⟩)]) rfl (by rfl) rfl Try.func14 (by rfl) rfl (by simp [Act.eval]) ?_
              refine callM_mono (waiting_calls _ hF.law.spl.blk) ?_
              rintro γ v w ⟨rfl, rfl, hB⟩
              replace hF := hF.next hB
              clear hB
              try walk_nrm
              refine opsN_k KK rfl (by rfl) (by rfl) ?_
              intro _ hR C hC
              replace hF := LP.rely hF hR
              clear hR
              go_simp
              refine hC _ _ ?_
              clear hC C
              try walk_nrm
              refine opsN_k KK rfl (by rfl) (by rfl) ?_
              intro _ hR C hC
              replace hF := LP.rely hF hR
              clear hR
              go_simp
              refine hC _ _ ?_
              clear hC C
              try walk_nrm
              refine opsM_nil KK ?_
              try simp only [thenM, Exit.inBlock, if_true, if_false, reduceIte, Nat.reduceEqDiff]
              refine wpM_cond KK rfl ?_
              first | simp only [if_true, if_false, reduceIte, Bool.false_eq_true] | fail "COND"
              refine wpM_skip KK ?_
              try simp only [thenM, Exit.inBlock, if_true, if_false, reduceIte, Nat.reduceEqDiff]
              refine wpM_seq KK ?_
              refine wpM_region KK ?_
              simp only [List.size_toArray, List.length_cons, List.length_nil, Nat.reduceAdd, Nat.zero_add, List.range, List.range.loop]
              refine opsN_k KK rfl (by rfl) (by rfl) ?_
              intro _ hR C hC
              replace hF := LP.rely hF hR
              clear hR
              go_simp
              refine hC _ _ ?_
              clear hC C
              try walk_nrm
              refine opsN_k KK rfl (by rfl) (by rfl) ?_
              intro _ hR C hC
              replace hF := LP.rely hF hR
              clear hR
              go_simp
              refine hC _ _ ?_
              clear hC C
              try walk_nrm
              refine opsM_pass KK rfl (by rfl) ?_
              try walk_nrm
              refine opsM_pass KK rfl (by rfl) ?_
              try walk_nrm
              refine opsM_pass KK rfl (by rfl) ?_
              try walk_nrm
              refine opsN_k KK rfl (by rfl) (by rfl) ?_
              intro _ hR C hC
              replace hF := LP.rely hF hR
              clear hR
              go_simp
              refine hC _ _ ?_
              clear hC C
              try walk_nrm
              refine opsN_k KK rfl (by rfl) (by rfl) ?_
              intro _ hR C hC
              replace hF := LP.rely hF hR
              clear hR
              go_simp
              refine hC _ _ ?_
              clear hC C
              try walk_nrm
              refine opsN_k KK rfl (by rfl) (by rfl) ?_
              intro _ hR C hC
              replace hF := LP.rely hF hR
              clear hR
              go_simp
              refine hC _ _ ?_
              clear hC C
              try walk_nrm
              refine opsN_k KK rfl (by rfl) (by rfl) ?_
              intro _ hR C hC
              replace hF := LP.rely hF hR
              clear hR
              go_simp
              refine hC _ _ ?_
              clear hC C
              try walk_nrm
              refine opsN_k KK rfl (by rfl) (by rfl) ?_
              intro _ hR C hC
              replace hF := LP.rely hF hR
              clear hR
              go_simp
              refine hC _ _ ?_
              clear hC C
              try walk_nrm
              refine opsN_k KK rfl (by rfl) (by rfl) ?_
              intro _ hR C hC
              replace hF := LP.rely hF hR
              clear hR
              go_simp
              refine hC _ _ ?_
              clear hC C
              try walk_nrm
              refine opsM_fcall KK (vals := #[.pointer (some ⟨sp, 0, none⟩)]) rfl (by rfl) rfl Try.func14 (by rfl) rfl (by simp [Act.eval]) ?_
              refine callM_mono (waiting_calls _ hF.law.spl.blk) ?_
              rintro γ v w ⟨rfl, rfl, hB⟩
              replace hF := hF.next hB
              clear hB
              try walk_nrm
              refine opsN_k KK rfl (by rfl) (by rfl) ?_
              intro _ hR C hC
              replace hF := LP.rely hF hR
              clear hR
              go_simp
              refine hC _ _ ?_
              clear hC C
              try walk_nrm
              refine opsN_k KK rfl (by rfl) (by rfl) ?_
              intro _ hR C hC
              replace hF := LP.rely hF hR
              clear hR
              go_simp
              refine hC _ _ ?_
              clear hC C
              try walk_nrm
              refine opsN_k KK rfl (by rfl) (by rfl) ?_
              intro _ hR C hC
              replace hF := LP.rely hF hR
              clear hR
              go_simp
              refine hC _ _ ?_
              clear hC C
              try walk_nrm
              refine opsN_k KK rfl (by rfl) (by rfl) ?_
              intro _ hR C hC
              replace hF := LP.rely hF hR
              clear hR
              go_simp
              refine hC _ _ ?_
              clear hC C
              try walk_nrm
              refine opsN_k KK rfl (by rfl) (by rfl) ?_
              intro _ hR C hC
              replace hF := LP.rely hF hR
              clear hR
              go_simp
              refine hC _ _ ?_
              clear hC C
              try walk_nrm
              refine opsN_k KK rfl (by rfl) (by rfl) ?_
              intro _ hR C hC
              replace hF := LP.rely hF hR
              clear hR
              go_simp
              refine hC _ _ ?_
              clear hC C
              try walk_nrm
              refine opsN_k KK rfl (by rfl) (by rfl) ?_
              intro _ hR C hC
              replace hF := LP.rely hF hR
              clear hR
              go_simp
              refine hC _ _ ?_
              clear hC C
              try walk_nrm
              refine opsN_k KK rfl (by rfl) (by rfl) ?_
              intro _ hR C hC
              replace hF := LP.rely hF hR
              clear hR
              go_simp
              refine hC _ _ ?_
              clear hC C
              try walk_nrm
              refine opsN_k KK rfl (by rfl) (by rfl) ?_
              intro _ hR C hC
              replace hF := LP.rely hF hR
              clear hR
              go_simp
              refine hC _ _ ?_
              clear hC C
              try walk_nrm
              refine opsN_k KK rfl (by rfl) (by rfl) ?_
              intro _ hR C hC
              replace hF := LP.rely hF hR
              clear hR
              go_simp
              refine hC _ _ ?_
              clear hC C
              try walk_nrm
              refine opsN_k KK rfl (by rfl) (by rfl) ?_
              intro _ hR C hC
              replace hF := LP.rely hF hR
              clear hR
              go_simp
              refine hC _ _ ?_
              clear hC C
              try walk_nrm
              refine opsM_nil KK ?_
              try simp only [thenM, Exit.inBlock, if_true, if_false, reduceIte, Nat.reduceEqDiff]
              refine wpM_cond KK rfl ?_
              first | simp only [if_true, if_false, reduceIte, Bool.false_eq_true] | fail "COND"
              refine wpM_skip KK ?_
              try simp only [thenM, Exit.inBlock, if_true, if_false, reduceIte, Nat.reduceEqDiff]
              refine wpM_region KK ?_
              simp only [List.size_toArray, List.length_cons, List.length_nil, Nat.reduceAdd, Nat.zero_add, List.range, List.range.loop]
              refine opsN_k KK rfl (by rfl) (by rfl) ?_
              intro _ hR C hC
              replace hF := LP.rely hF hR
              clear hR
              go_simp
              refine hC _ _ ?_
              clear hC C
              try walk_nrm
              refine opsN_k KK rfl (by rfl) (by rfl) ?_
              intro _ hR C hC
              replace hF := LP.rely hF hR
              clear hR
              go_simp
              refine hC _ _ ?_
              clear hC C
              try walk_nrm
              refine opsN_k KK rfl (by rfl) (by rfl) ?_
              intro _ hR C hC
              replace hF := LP.rely hF hR
              clear hR
              go_simp
              refine hC _ _ ?_
              clear hC C
              try walk_nrm
              refine opsM_nil KK ?_
              try simp only [thenM, Exit.inBlock, if_true, if_false, reduceIte, Nat.reduceEqDiff]
              refine ⟨⟨k + 1, m + lb.length, u2, _, _, _, (fun i => (#[undef, _, _, undef, undef, undef, undef, _, _, _, _, _, _, _, _, _, _, _, _, _, _, _, _, _, _, _, _, _, _, _, _, _, _, _, _, _, _, _, _, _, _, _, _, _, _, _, _, _, _, _, _, _, _, _, _, _, _, _, _, _, _, _, _, _, _, _, _, _, _, _, _, _, _, _, _, _, _, _, _, _, _, _, _, _, _, _, _, _, _, _, _, _, _, _, _, _, _, _, _, _, _, _] : Array Value).getD i undef), (by first | rfl | trivial), rfl, by omega, HZ.out, HI5.out, ⟨hF.law, ⟨[], rfl, fun h => absurd h (by simp), fun i h => absurd h (by simp)⟩⟩⟩, ?_⟩
              show ls.length - ((k : Int) + 1).toNat < ls.length - (k : Int).toNat
              omega
            | true =>
              obtain rfl : hv' = [] := HI5.out.2.1 rfl
              refine wpM_seq KK ?_
              refine wpM_seq KK ?_
              refine wpM_region KK ?_
              simp only [List.size_toArray, List.length_cons, List.length_nil, Nat.reduceAdd, Nat.zero_add, List.range, List.range.loop]
              refine opsN_k KK rfl (by rfl) (by rfl) ?_
              intro _ hR C hC
              replace hF := LP.rely hF hR
              clear hR
              go_simp
              refine hC _ _ ?_
              clear hC C
              try walk_nrm
              refine opsN_k KK rfl (by rfl) (by rfl) ?_
              intro _ hR C hC
              replace hF := LP.rely hF hR
              clear hR
              go_simp
              refine hC _ _ ?_
              clear hC C
              try walk_nrm
              refine opsM_fcall KK (vals := #[.pointer (some ⟨sp, 0, none⟩)]) rfl (by rfl) rfl Try.func16 (by rfl) rfl (by simp [Act.eval]) ?_
              refine callM_mono (bad_calls _ hF.law.spl.blk) ?_
              rintro γ v w ⟨rfl, rfl, hB⟩
              replace hF := hF.next hB
              clear hB
              try walk_nrm
              refine opsN_k KK rfl (by rfl) (by rfl) ?_
              intro _ hR C hC
              replace hF := LP.rely hF hR
              clear hR
              go_simp
              refine hC _ _ ?_
              clear hC C
              try walk_nrm
              refine opsN_k KK rfl (by rfl) (by rfl) ?_
              intro _ hR C hC
              replace hF := LP.rely hF hR
              clear hR
              go_simp
              refine hC _ _ ?_
              clear hC C
              try walk_nrm
              refine opsN_k KK rfl (by rfl) (by rfl) ?_
              intro _ hR C hC
              replace hF := LP.rely hF hR
              clear hR
              go_simp
              refine hC _ _ ?_
              clear hC C
              try walk_nrm
              refine opsM_fcall KK (vals := #[.pointer (some ⟨sp, 0, none⟩)]) rfl (by rfl) rfl Try.func14 (by rfl) rfl (by simp [Act.eval]) ?_
              refine callM_mono (waiting_calls _ hF.law.spl.blk) ?_
              rintro γ v w ⟨rfl, rfl, hB⟩
              replace hF := hF.next hB
              clear hB
              try walk_nrm
              refine opsN_k KK rfl (by rfl) (by rfl) ?_
              intro _ hR C hC
              replace hF := LP.rely hF hR
              clear hR
              go_simp
              refine hC _ _ ?_
              clear hC C
              try walk_nrm
              refine opsN_k KK rfl (by rfl) (by rfl) ?_
              intro _ hR C hC
              replace hF := LP.rely hF hR
              clear hR
              go_simp
              refine hC _ _ ?_
              clear hC C
              try walk_nrm
              refine opsN_k KK rfl (by rfl) (by rfl) ?_
              intro _ hR C hC
              replace hF := LP.rely hF hR
              clear hR
              go_simp
              refine hC _ _ ?_
              clear hC C
              try walk_nrm
              refine opsN_k KK rfl (by rfl) (by rfl) ?_
              intro _ hR C hC
              replace hF := LP.rely hF hR
              clear hR
              go_simp
              refine hC _ _ ?_
              clear hC C
              try walk_nrm
              refine opsM_fcall KK (vals := #[.pointer (some ⟨sp, 0, none⟩)]) rfl (by rfl) rfl Try.func14 (by rfl) rfl (by simp [Act.eval]) ?_
              refine callM_mono (waiting_calls _ hF.law.spl.blk) ?_
              rintro γ v w ⟨rfl, rfl, hB⟩
              replace hF := hF.next hB
              clear hB
              try walk_nrm
              refine opsN_k KK rfl (by rfl) (by rfl) ?_
              intro _ hR C hC
              replace hF := LP.rely hF hR
              clear hR
              go_simp
              refine hC _ _ ?_
              clear hC C
              try walk_nrm
              refine opsN_k KK rfl (by rfl) (by rfl) ?_
              intro _ hR C hC
              replace hF := LP.rely hF hR
              clear hR
              go_simp
              refine hC _ _ ?_
              clear hC C
              try walk_nrm
              refine opsM_nil KK ?_
              try simp only [thenM, Exit.inBlock, if_true, if_false, reduceIte, Nat.reduceEqDiff]
              refine wpM_cond KK rfl ?_
              first | simp only [if_true, if_false, reduceIte, Bool.false_eq_true] | fail "COND"
              refine wpM_skip KK ?_
              try simp only [thenM, Exit.inBlock, if_true, if_false, reduceIte, Nat.reduceEqDiff]
              refine wpM_seq KK ?_
              refine wpM_region KK ?_
              simp only [List.size_toArray, List.length_cons, List.length_nil, Nat.reduceAdd, Nat.zero_add, List.range, List.range.loop]
              refine opsN_k KK rfl (by rfl) (by rfl) ?_
              intro _ hR C hC
              replace hF := LP.rely hF hR
              clear hR
              go_simp
              refine hC _ _ ?_
              clear hC C
              try walk_nrm
              refine opsN_k KK rfl (by rfl) (by rfl) ?_
              intro _ hR C hC
              replace hF := LP.rely hF hR
              clear hR
              go_simp
              refine hC _ _ ?_
              clear hC C
              try walk_nrm
              refine opsN_k KK rfl (by rfl) (by rfl) ?_
              intro _ hR C hC
              replace hF := LP.rely hF hR
              clear hR
              go_simp
              refine hC _ _ ?_
              clear hC C
              try walk_nrm
              refine opsM_fcall KK (vals := #[.pointer (some ⟨sp, 0, none⟩)]) rfl (by rfl) rfl Try.func14 (by rfl) rfl (by simp [Act.eval]) ?_
              refine callM_mono (waiting_calls _ hF.law.spl.blk) ?_
              rintro γ v w ⟨rfl, rfl, hB⟩
              replace hF := hF.next hB
              clear hB
              try walk_nrm
              refine opsN_k KK rfl (by rfl) (by rfl) ?_
              intro _ hR C hC
              replace hF := LP.rely hF hR
              clear hR
              go_simp
              refine hC _ _ ?_
              clear hC C
              try walk_nrm
              refine opsN_k KK rfl (by rfl) (by rfl) ?_
              intro _ hR C hC
              replace hF := LP.rely hF hR
              clear hR
              go_simp
              refine hC _ _ ?_
              clear hC C
              try walk_nrm
              refine opsN_k KK rfl (by rfl) (by rfl) ?_
              intro _ hR C hC
              replace hF := LP.rely hF hR
              clear hR
              go_simp
              refine hC _ _ ?_
              clear hC C
              try walk_nrm
              refine opsN_k KK rfl (by rfl) (by rfl) ?_
              intro _ hR C hC
              replace hF := LP.rely hF hR
              clear hR
              go_simp
              refine hC _ _ ?_
              clear hC C
              try walk_nrm
              refine opsN_k KK rfl (by rfl) (by rfl) ?_
              intro _ hR C hC
              replace hF := LP.rely hF hR
              clear hR
              go_simp
              refine hC _ _ ?_
              clear hC C
              try walk_nrm
              refine opsN_k KK rfl (by rfl) (by rfl) ?_
              intro _ hR C hC
              replace hF := LP.rely hF hR
              clear hR
              go_simp
              refine hC _ _ ?_
              clear hC C
              try walk_nrm
              refine opsM_pass KK rfl (by rfl) ?_
              try walk_nrm
              refine opsM_pass KK rfl (by rfl) ?_
              try walk_nrm
              refine opsM_pass KK rfl (by rfl) ?_
              try walk_nrm
              refine opsM_pass KK rfl (by rfl) ?_
              try walk_nrm
              refine opsM_pass KK rfl (by rfl) ?_
              try walk_nrm
              refine opsM_pass KK rfl (by rfl) ?_
              try walk_nrm
              refine opsN_k KK rfl (by rfl) (by rfl) ?_
              intro _ hR C hC
              replace hF := LP.rely hF hR
              clear hR
              go_simp
              refine hC _ _ ?_
              clear hC C
              try walk_nrm
              refine opsN_k KK rfl (by rfl) (by rfl) ?_
              intro _ hR C hC
              replace hF := LP.rely hF hR
              clear hR
              go_simp
              refine hC _ _ ?_
              clear hC C
              try walk_nrm
              refine opsN_k KK rfl (by rfl) (by rfl) ?_
              intro _ hR C hC
              replace hF := LP.rely hF hR
              clear hR
              go_simp
              refine hC _ _ ?_
              clear hC C
              try walk_nrm
              refine opsN_k KK rfl (by rfl) (by rfl) ?_
              intro _ hR C hC
              replace hF := LP.rely hF hR
              clear hR
              go_simp
              refine hC _ _ ?_
              clear hC C
              try walk_nrm
              refine opsN_k KK rfl (by rfl) (by rfl) ?_
              intro _ hR C hC
              replace hF := LP.rely hF hR
              clear hR
              go_simp
              refine hC _ _ ?_
              clear hC C
              try walk_nrm
              refine opsN_k KK rfl (by rfl) (by rfl) ?_
              intro _ hR C hC
              replace hF := LP.rely hF hR
              clear hR
              go_simp
              refine hC _ _ ?_
              clear hC C
              try walk_nrm
              refine opsN_k KK rfl (by rfl) (by rfl) ?_
              intro _ hR C hC
              replace hF := LP.rely hF hR
              clear hR
              go_simp
              refine hC _ _ ?_
              clear hC C
              try walk_nrm
              refine opsM_nil KK ?_
              try simp only [thenM, Exit.inBlock, if_true, if_false, reduceIte, Nat.reduceEqDiff]
              refine wpM_cond KK rfl ?_
              first | simp only [if_true, if_false, reduceIte, Bool.false_eq_true] | fail "COND"
              refine wpM_skip KK ?_
              try simp only [thenM, Exit.inBlock, if_true, if_false, reduceIte, Nat.reduceEqDiff]
              refine wpM_region KK ?_
              simp only [List.size_toArray, List.length_cons, List.length_nil, Nat.reduceAdd, Nat.zero_add, List.range, List.range.loop]
              refine opsN_k KK rfl (by rfl) (by rfl) ?_
              intro _ hR C hC
              replace hF := LP.rely hF hR
              clear hR
              go_simp
              refine hC _ _ ?_
              clear hC C
              try walk_nrm
              refine opsN_k KK rfl (by rfl) (by rfl) ?_
              intro _ hR C hC
              replace hF := LP.rely hF hR
              clear hR
              go_simp
              refine hC _ _ ?_
              clear hC C
              try walk_nrm
              refine opsN_k KK rfl (by rfl) (by rfl) ?_
              intro _ hR C hC
              replace hF := LP.rely hF hR
              clear hR
              go_simp
              refine hC _ _ ?_
              clear hC C
              try walk_nrm
              refine opsM_nil KK ?_
              try simp only [thenM, Exit.inBlock, if_true, if_false, reduceIte, Nat.reduceEqDiff]
              refine ⟨⟨k + 1, m + lb.length, u2, _, _, _, (fun i => (#[undef, _, _, undef, undef, undef, undef, _, _, _, _, _, _, _, _, _, _, _, _, _, _, _, _, _, _, _, _, _, _, _, _, _, _, _, _, _, _, _, _, _, _, _, _, _, _, _, _, _, _, _, _, _, _, _, _, _, _, _, _, _, _, _, _, _, _, _, _, _, _, _, _, _, _, _, _, _, _, _, _, _, _, _, _, _, _, _, _, _, _, _, _, _, _, _, _, _, _, _, _, _, _, _] : Array Value).getD i undef), (by first | rfl | trivial), rfl, by omega, HZ.out, HI5.out, ⟨hF.law, ⟨[], rfl, fun h => absurd h (by simp), fun i h => absurd h (by simp)⟩⟩⟩, ?_⟩
              show ls.length - ((k : Int) + 1).toNat < ls.length - (k : Int).toNat
              omega
      obtain rfl : k = ls.length := by omega
      have e1 : decide ((ls.length : Int) < (ls.length : Int)) = false := decide_eq_false (by omega)
      refine opsN_k KK rfl (by rfl) (by rfl) ?_
      intro _ hR C hC
      replace hF := LP.rely hF hR
      clear hR
      go_simp
      refine hC _ _ ?_
      clear hC C
      try walk_nrm
      refine opsN_k KK rfl (by rfl) (by rfl) ?_
      intro _ hR C hC
      replace hF := LP.rely hF hR
      clear hR
      go_simp
      refine hC _ _ ?_
      clear hC C
      try walk_nrm
      refine opsN_k KK rfl (by rfl) (by rfl) ?_
      intro _ hR C hC
      replace hF := LP.rely hF hR
      clear hR
      go_simp
      refine hC _ _ ?_
      clear hC C
      try walk_nrm
      refine opsN_k KK rfl (by rfl) (by rfl) ?_
      intro _ hR C hC
      replace hF := LP.rely hF hR
      clear hR
      go_simp
      refine hC _ _ ?_
      clear hC C
      try walk_nrm
      refine opsM_nil KK ?_
      try simp only [thenM, Exit.inBlock, if_true, if_false, reduceIte, Nat.reduceEqDiff]
      refine wpM_cond KK rfl ?_
      first | simp only [if_true, if_false, reduceIte, Bool.false_eq_true] | fail "COND"
      refine wpM_exit KK ?_
      try simp only [thenM, Exit.inBlock, if_true, if_false, reduceIte, Nat.reduceEqDiff]
      refine wpM_seq KK ?_
      refine wpM_region KK ?_
      simp only [List.size_toArray, List.length_cons, List.length_nil, Nat.reduceAdd, Nat.zero_add, List.range, List.range.loop]
      refine opsN_k KK rfl (by rfl) (by rfl) ?_
      intro _ hR C hC
      replace hF := LP.rely hF hR
      clear hR
      go_simp
      refine hC _ _ ?_
      clear hC C
      try walk_nrm
      refine opsM_nil KK ?_
      try simp only [thenM, Exit.inBlock, if_true, if_false, reduceIte, Nat.reduceEqDiff]
      refine wpM_ret KK ?_
      try simp only [thenM, Exit.inBlock, if_true, if_false, reduceIte, Nat.reduceEqDiff]
      exact ⟨rfl, .bool true, resultsC_tmp (t := 2) (by rfl) _, rfl, fun d => hpost _ (hF.law.at_ d).below⟩
end Go.Proofs.Ytngmhkhncimknaa
