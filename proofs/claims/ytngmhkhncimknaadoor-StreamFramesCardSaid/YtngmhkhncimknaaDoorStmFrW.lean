/- StreamFrames: the walk of the law. -/
import Derived.Test.YtngmhkhncimknaaDoorStmFrP
import Derived.Test.YtngmhkhncimknaaDoorStmHold
namespace Go.Proofs.YtngmhkhncimknaaDoor
open Go Go.Conc Go.RowKit
set_option linter.unusedVariables false
set_option linter.unusedSimpArgs false

theorem errF_below {w w' : World} {a1 a2 : Addr} (h : ErrF w a1 a2) (hb : Below w.heap.size w w') : ErrF w' a1 a2 := ⟨below_cell hb h.1, below_cell hb h.2⟩
theorem own_some {w : World} {B e : Nat} {v : Value} {vs : List Value} (h : Own w B e v vs) (h0 : 0 < vs.length) : ∃ g c, v = .slice (some ⟨g, 0, none⟩) vs.length c ∧ vs.length ≤ c ∧ c ≤ 9223372036854775807 ∧ Cells w (some ⟨g, 0, none⟩) vs := by
  rcases h.2 with ⟨_, h1⟩ | ⟨g, cap, cur, rfl, _, _, h3, h4, _⟩
  · omega
  · obtain ⟨A, c, e, _, _, hc⟩ := own_slice h
    obtain ⟨rfl, _⟩ : some (⟨g, 0, none⟩ : Addr) = A ∧ cap = c := by simpa using e
    exact ⟨g, cap, rfl, h3, h4, hc⟩
/-- a row of bytes of the law's own, and a frame beside it -/
structure FOF (w0 : World) (v : Value) (l : List UInt8) (A : Option Addr) (m : List UInt8) (w : World) : Prop where
  below : Below w0.heap.size w0 w
  own : Own w w0.heap.size 5 v (Bs l)
  fr : Cells w A (Bs m)
theorem FO.next {w0 w w' : World} {B : Nat} {v : Value} {l : List UInt8} (h : FO w0 B v l w) (hb : Below w.heap.size w w') : FO w0 B v l w' :=
  ⟨h.below.trans (hb.mono h.below.size), own_drewless h.own hb⟩
theorem FOF.rely {w0 w w' : World} {v : Value} {l m : List UInt8} {A : Option Addr} (h : FOF w0 v l A m w) (r : ∃ d, w' = w.at d) : FOF w0 v l A m w' := by
  obtain ⟨d, rfl⟩ := r
  exact ⟨at_below h.below d, h.own, h.fr⟩
theorem stB_spl {n0 sp : Nat} {hv : List UInt8} {bad : Bool} {v : Value} : StB (Spl n0 sp hv bad v) := fun _ _ hb h => h.below hb
/-- what a number's rest by another is, both without a sign -/
def restN (cut : Int) (n : Nat) : Nat := ((cut % 18446744073709551616) % (n : Int)).toNat
theorem restN_lt (cut : Int) (n : Nat) (h : 0 < n) : restN cut n < n := by
  unfold restN
  have h1 : (0 : Int) < (n : Int) := by omega
  have := Int.emod_lt_of_pos (cut % 18446744073709551616) h1
  have := Int.emod_nonneg (cut % 18446744073709551616) (show (n : Int) ≠ 0 by omega)
  omega
theorem waiting_spl {Post : Value → World → Prop} {n0 sp : Nat} {hv : List UInt8} {bad : Bool} {v : Value} (w : World) (hs : Spl n0 sp hv bad v w) :
    callM Tryd.prog (XF Tryd.prog (XEnds Tryd.prog Post)) 11 #[.pointer (some ⟨sp, 0, none⟩)] (fun γ v w' => γ = none ∧ v = .int .i64 (hv.length : Int) ∧ Below w.heap.size w w') none w := by
  obtain ⟨A, c, rfl, _⟩ := own_slice hs.own
  have := hs.blk
  rw [Bs_length] at this
  exact waiting_calls w this

set_option maxRecDepth 100000 in
set_option maxHeartbeats 6400000 in
theorem frames_run {Post : Value → World → Prop} (A : Option Addr) (cc : Nat) (ls : List (List UInt8)) (AL : Option Addr) (cl : Nat) (la : List UInt8) (ct : Int) (a1 a2 : Addr) (hL : ls.length ≤ 9223372036854775807) (hP : ∀ l ∈ ls, l.length ≤ 140737488351232) (w0 : World) (hA : RowsB w0 A ls) (hLA : Cells w0 AL (Bs la)) (hE : ErrF w0 a1 a2) (hpost : ∀ w', Below w0.heap.size w0 w' → Post (.bool true) w') :
    EndsRun Tryd.prog Post (solo (G (Frame.enter Tryd.prog 3 #[.slice A ls.length cc, .slice AL la.length cl, .int .i64 ct] .normal) []) w0) #[] := by
  have HA := Go.Lib.hid hA
  have HP := Go.Lib.hid hP
  have HLA := Go.Lib.hid hLA
  have HE := Go.Lib.hid hE
  clear hA hP hLA hE
  have KK := kitF (P := Tryd.prog) (X := XEnds Tryd.prog Post) XEnds.back XEnds.at_
  have hF : FA w0 [] w0 := ⟨Below.refl _ _, fun p hp => by cases hp⟩
  refine runs_of_wpM Tryd.func3 rfl (by kernel_rfl) (by kernel_rfl) ?_
  simp only [Tryd.ntmps3, List.size_toArray, List.length_cons, List.length_nil, Nat.reduceAdd, Nat.reduceSub, Array.replicate_succ, Array.replicate_zero, List.push_toArray, List.append_toArray, List.nil_append, List.cons_append]
  refine wpM_seq KK ?_
  refine wpM_region KK ?_
  simp only [List.size_toArray, List.length_cons, List.length_nil, Nat.reduceAdd, Nat.zero_add, List.range, List.range.loop]
  refine opsN_k KK rfl (by rfl) (by rfl) ?_
  intro _ hR C hC
  replace hF := FA.rely hF hR
  clear hR
  go_simp
  refine hC _ _ ?_
  clear hC C
  try walk_nrm
  refine opsM_nil KK ?_
  try simp only [thenM, Exit.inBlock, if_true, if_false, reduceIte, Nat.reduceEqDiff]
  refine wpM_seq KK ?_
  refine wpM_seq KK ?_
  refine wpM_region KK ?_
  simp only [List.size_toArray, List.length_cons, List.length_nil, Nat.reduceAdd, Nat.zero_add, List.range, List.range.loop]
  refine opsM_fcall KK (vals := #[]) rfl (by rfl) rfl Tryd.func5 (by rfl) rfl (by first | rfl | simp) ?_
  refine callM_mono (awake_calls _) ?_
  rintro γ v w ⟨rfl, rfl, hB⟩
  replace hF := hF.next hB
  clear hB
  try walk_nrm
  refine opsN_k KK rfl (by rfl) (by rfl) ?_
  intro _ hR C hC
  replace hF := FA.rely hF hR
  clear hR
  go_simp
  refine hC _ _ ?_
  clear hC C
  try walk_nrm
  refine opsM_nil KK ?_
  try simp only [thenM, Exit.inBlock, if_true, if_false, reduceIte, Nat.reduceEqDiff]
  refine wpM_cond KK rfl ?_
  first | simp only [if_true, if_false, reduceIte, Bool.false_eq_true] | fail "COND"
  refine wpM_skip KK ?_
  try simp only [thenM, Exit.inBlock, if_true, if_false, reduceIte, Nat.reduceEqDiff]
  refine wpM_seq KK ?_
  refine wpM_seq KK ?_
  refine wpM_region KK ?_
  simp only [List.size_toArray, List.length_cons, List.length_nil, Nat.reduceAdd, Nat.zero_add, List.range, List.range.loop]
  refine opsN_k KK rfl (by rfl) (by rfl) ?_
  intro _ hR C hC
  replace hF := FA.rely hF hR
  clear hR
  go_simp
  refine hC _ _ ?_
  clear hC C
  try walk_nrm
  refine opsM_fcall KK (vals := #[.slice A ls.length cc]) rfl (by rfl) rfl Tryd.func6 (by rfl) rfl (by simp [Act.eval]) ?_
  refine callM_mono (many_calls A cc ls hL HP.out _ (rowsB_below hF.below HA.out)) ?_
  rintro γ v w ⟨rfl, ⟨b, rfl, hb⟩, hB⟩
  replace hF := hF.next hB
  have HM := Go.Lib.hid hb
  clear hB hb
  try walk_nrm
  cases b with
  | true =>
    refine opsN_k KK rfl (by rfl) (by rfl) ?_
    intro _ hR C hC
    replace hF := FA.rely hF hR
    clear hR
    go_simp
    refine hC _ _ ?_
    clear hC C
    try walk_nrm
    refine opsM_pass KK rfl (by rfl) ?_
    try walk_nrm
    refine opsM_pass KK rfl (by rfl) ?_
    try walk_nrm
    refine opsM_pass KK rfl (by rfl) ?_
    try walk_nrm
    refine opsN_k KK rfl (by rfl) (by rfl) ?_
    intro _ hR C hC
    replace hF := FA.rely hF hR
    clear hR
    go_simp
    refine hC _ _ ?_
    clear hC C
    try walk_nrm
    refine opsM_nil KK ?_
    try simp only [thenM, Exit.inBlock, if_true, if_false, reduceIte, Nat.reduceEqDiff]
    refine wpM_cond KK rfl ?_
    first | simp only [if_true, if_false, reduceIte, Bool.false_eq_true] | fail "COND"
    refine wpM_seq KK ?_
    refine wpM_region KK ?_
    simp only [List.size_toArray, List.length_cons, List.length_nil, Nat.reduceAdd, Nat.zero_add, List.range, List.range.loop]
    refine opsN_k KK rfl (by rfl) (by rfl) ?_
    intro _ hR C hC
    replace hF := FA.rely hF hR
    clear hR
    go_simp
    refine hC _ _ ?_
    clear hC C
    try walk_nrm
    refine opsM_nil KK ?_
    try simp only [thenM, Exit.inBlock, if_true, if_false, reduceIte, Nat.reduceEqDiff]
    refine wpM_ret KK ?_
    try simp only [thenM, Exit.inBlock, if_true, if_false, reduceIte, Nat.reduceEqDiff]
    exact ⟨rfl, .bool true, resultsC_tmp (t := 6) (by rfl) _, rfl, fun d => hpost _ (FA.rely hF ⟨d, rfl⟩).below⟩
  | false =>
  have hM := HM.out rfl
  clear HM
  by_cases hla : 256 < la.length
  · have e0 : decide ((256 : Int) < (la.length : Int)) = true := decide_eq_true (by omega)
    refine opsN_k KK rfl (by rfl) (by rfl) ?_
    intro _ hR C hC
    replace hF := FA.rely hF hR
    clear hR
    go_simp
    refine hC _ _ ?_
    clear hC C
    try walk_nrm
    refine opsN_k KK rfl (by rfl) (by rfl) ?_
    intro _ hR C hC
    replace hF := FA.rely hF hR
    clear hR
    go_simp
    refine hC _ _ ?_
    clear hC C
    try walk_nrm
    refine opsN_k KK rfl (by rfl) (by rfl) ?_
    intro _ hR C hC
    replace hF := FA.rely hF hR
    clear hR
    go_simp
    refine hC _ _ ?_
    clear hC C
    try walk_nrm
    refine opsN_k KK rfl (by rfl) (by rfl) ?_
    intro _ hR C hC
    replace hF := FA.rely hF hR
    clear hR
    go_simp
    refine hC _ _ ?_
    clear hC C
    try walk_nrm
    refine opsN_k KK rfl (by rfl) (by rfl) ?_
    intro _ hR C hC
    replace hF := FA.rely hF hR
    clear hR
    go_simp
    refine hC _ _ ?_
    clear hC C
    try walk_nrm
    refine opsM_nil KK ?_
    try simp only [thenM, Exit.inBlock, if_true, if_false, reduceIte, Nat.reduceEqDiff]
    refine wpM_cond KK rfl ?_
    first | simp only [if_true, if_false, reduceIte, Bool.false_eq_true] | fail "COND"
    refine wpM_seq KK ?_
    refine wpM_region KK ?_
    simp only [List.size_toArray, List.length_cons, List.length_nil, Nat.reduceAdd, Nat.zero_add, List.range, List.range.loop]
    refine opsN_k KK rfl (by rfl) (by rfl) ?_
    intro _ hR C hC
    replace hF := FA.rely hF hR
    clear hR
    go_simp
    refine hC _ _ ?_
    clear hC C
    try walk_nrm
    refine opsM_nil KK ?_
    try simp only [thenM, Exit.inBlock, if_true, if_false, reduceIte, Nat.reduceEqDiff]
    refine wpM_ret KK ?_
    try simp only [thenM, Exit.inBlock, if_true, if_false, reduceIte, Nat.reduceEqDiff]
    exact ⟨rfl, .bool true, resultsC_tmp (t := 6) (by rfl) _, rfl, fun d => hpost _ (FA.rely hF ⟨d, rfl⟩).below⟩
  have e0 : decide ((256 : Int) < (la.length : Int)) = false := decide_eq_false (by omega)
  refine opsN_k KK rfl (by rfl) (by rfl) ?_
  intro _ hR C hC
  replace hF := FA.rely hF hR
  clear hR
  go_simp
  refine hC _ _ ?_
  clear hC C
  try walk_nrm
  refine opsN_k KK rfl (by rfl) (by rfl) ?_
  intro _ hR C hC
  replace hF := FA.rely hF hR
  clear hR
  go_simp
  refine hC _ _ ?_
  clear hC C
  try walk_nrm
  refine opsN_k KK rfl (by rfl) (by rfl) ?_
  intro _ hR C hC
  replace hF := FA.rely hF hR
  clear hR
  go_simp
  refine hC _ _ ?_
  clear hC C
  try walk_nrm
  refine opsN_k KK rfl (by rfl) (by rfl) ?_
  intro _ hR C hC
  replace hF := FA.rely hF hR
  clear hR
  go_simp
  refine hC _ _ ?_
  clear hC C
  try walk_nrm
  refine opsN_k KK rfl (by rfl) (by rfl) ?_
  intro _ hR C hC
  replace hF := FA.rely hF hR
  clear hR
  go_simp
  refine hC _ _ ?_
  clear hC C
  try walk_nrm
  refine opsM_nil KK ?_
  try simp only [thenM, Exit.inBlock, if_true, if_false, reduceIte, Nat.reduceEqDiff]
  refine wpM_cond KK rfl ?_
  first | simp only [if_true, if_false, reduceIte, Bool.false_eq_true] | fail "COND"
  refine wpM_skip KK ?_
  try simp only [thenM, Exit.inBlock, if_true, if_false, reduceIte, Nat.reduceEqDiff]
  refine wpM_seq KK ?_
  refine wpM_region KK ?_
  simp only [List.size_toArray, List.length_cons, List.length_nil, Nat.reduceAdd, Nat.zero_add, List.range, List.range.loop]
  refine opsN_k KK rfl (by rfl) (by rfl) ?_
  intro _ hR C hC
  replace hF := FA.rely hF hR
  clear hR
  go_simp
  refine hC _ _ ?_
  clear hC C
  try walk_nrm
  refine opsM_nil KK ?_
  try simp only [thenM, Exit.inBlock, if_true, if_false, reduceIte, Nat.reduceEqDiff]
  replace hF : FO w0 w0.heap.size (.slice none 0 0) (frames []) _ := ⟨hF.below, World.ownsRow_nil _ _ _ 1⟩
  have HTT := Go.Lib.hid (len_le_tot1 ls)
  have HT3 := Go.Lib.hid (tot3_le ls)
  refine wpM_seq KK ?_
  refine wpM_seq KK ?_
  refine wpM_region KK ?_
  simp only [List.size_toArray, List.length_cons, List.length_nil, Nat.reduceAdd, Nat.zero_add, List.range, List.range.loop]
  refine opsN_k KK rfl (by rfl) (by rfl) ?_
  intro _ hR C hC
  replace hF := FO.rely hF hR
  clear hR
  go_simp
  refine hC _ _ ?_
  clear hC C
  try walk_nrm
  refine opsM_nil KK ?_
  try simp only [thenM, Exit.inBlock, if_true, if_false, reduceIte, Nat.reduceEqDiff]
  refine wpM_block KK ?_
  refine wpM_loop KK (fun (γ : Option (Duet × Proto)) (a : Act) (w : World) => ∃ (k : Nat) (VA : Option Addr) (vn : Nat) (vc : Nat) (Fx : Nat → Value), γ = none ∧ a = { tmps := #[.slice A ls.length cc, .slice AL la.length cl, .int .i64 ct, Fx 3, Fx 4, Fx 5, Fx 6, .slice VA vn vc, .int .i64 (k : Int), Fx 9, Fx 10, Fx 11, Fx 12, Fx 13, Fx 14, Fx 15, Fx 16, Fx 17, Fx 18, Fx 19, Fx 20, Fx 21, Fx 22, Fx 23, Fx 24, Fx 25, Fx 26, Fx 27, Fx 28, Fx 29, Fx 30, Fx 31, Fx 32, Fx 33, Fx 34, Fx 35, Fx 36, Fx 37, Fx 38, Fx 39, Fx 40, Fx 41, Fx 42, Fx 43, Fx 44, Fx 45, Fx 46, Fx 47, Fx 48, Fx 49, Fx 50, Fx 51, Fx 52, Fx 53, Fx 54, Fx 55, Fx 56, Fx 57, Fx 58, Fx 59, Fx 60, Fx 61, Fx 62, Fx 63, Fx 64, Fx 65, Fx 66, Fx 67, Fx 68, Fx 69, Fx 70, Fx 71, Fx 72, Fx 73, Fx 74, Fx 75, Fx 76, Fx 77, Fx 78, Fx 79, Fx 80, Fx 81, Fx 82, Fx 83, Fx 84, Fx 85, Fx 86, Fx 87, Fx 88, Fx 89, Fx 90, Fx 91, Fx 92, Fx 93, Fx 94, Fx 95, Fx 96, Fx 97, Fx 98, Fx 99, Fx 100, Fx 101, Fx 102, Fx 103, Fx 104, Fx 105, Fx 106, Fx 107, Fx 108, Fx 109, Fx 110, Fx 111, Fx 112, Fx 113, Fx 114, Fx 115, Fx 116, Fx 117, Fx 118], defers := [] } ∧ k ≤ ls.length ∧ Hid (∀ p ∈ ls.take k, 1 ≤ p.length ∧ p.length ≤ 256) ∧ FO w0 w0.heap.size (.slice VA vn vc) (frames (ls.take k)) w) (fun _ a _ => ls.length - slotN a 8) ?startx ?roundx
  case startx => exact ⟨0, none, 0, 0, (fun i => (#[undef, undef, undef, _, _, _, _, undef, undef, _, _, _, _, _, _, _, _, _, _, _, _, _, _, _, _, _, _, _, _, _, _, _, _, _, _, _, _, _, _, _, _, _, _, _, _, _, _, _, _, _, _, _, _, _, _, _, _, _, _, _, _, _, _, _, _, _, _, _, _, _, _, _, _, _, _, _, _, _, _, _, _, _, _, _, _, _, _, _, _, _, _, _, _, _, _, _, _, _, _, _, _, _, _, _, _, _, _, _, _, _, _, _, _, _, _, _, _, _, _] : Array Value).getD i undef), rfl, rfl, by omega, (fun p hp => absurd hp (by simp)), hF⟩
  case roundx =>
      clear hF
      intro γ a w hI
      obtain ⟨k, VA, vn, vc, Fx, rfl, rfl, hk, HK, hF⟩ := hI
      refine wpM_seq KK ?_
      refine wpM_seq KK ?_
      refine wpM_region KK ?_
      simp only [List.size_toArray, List.length_cons, List.length_nil, Nat.reduceAdd, Nat.zero_add, List.range, List.range.loop]
      by_cases hlt : k < ls.length
      · have e1 : decide ((k : Int) < (ls.length : Int)) = true := decide_eq_true (by omega)
        have i1 : (k : Int) < (ls.length : Int) := by omega
        have HT := Go.Lib.hid (List.take_append_getElem hlt).symm
        have HS2 := Go.Lib.hid (show tot3 (ls.take k) ≤ tot3 ls from tot3_mono ls k)
        obtain ⟨b, o, hAe, A1, c1, hcc, hc1, hr1⟩ := HA.out.row2 k hlt
        have HC := Go.Lib.hid hc1
        have HR := Go.Lib.hid hr1
        clear hc1 hr1 hcc
        generalize ls[k] = lb at *
        subst hAe
        refine opsN_k KK rfl (by rfl) (by rfl) ?_
        intro _ hR C hC
        replace hF := FO.rely hF hR
        clear hR
        go_simp
        refine hC _ _ ?_
        clear hC C
        try walk_nrm
        refine opsN_k KK rfl (by rfl) (by rfl) ?_
        intro _ hR C hC
        replace hF := FO.rely hF hR
        clear hR
        go_simp
        refine hC _ _ ?_
        clear hC C
        try walk_nrm
        refine opsN_k KK rfl (by rfl) (by rfl) ?_
        intro _ hR C hC
        replace hF := FO.rely hF hR
        clear hR
        go_simp
        refine hC _ _ ?_
        clear hC C
        try walk_nrm
        refine opsN_k KK rfl (by rfl) (by rfl) ?_
        intro _ hR C hC
        replace hF := FO.rely hF hR
        clear hR
        go_simp
        refine hC _ _ ?_
        clear hC C
        try walk_nrm
        refine opsM_nil KK ?_
        try simp only [thenM, Exit.inBlock, if_true, if_false, reduceIte, Nat.reduceEqDiff]
        refine wpM_cond KK rfl ?_
        first | simp only [if_true, if_false, reduceIte, Bool.false_eq_true] | fail "COND"
        refine wpM_skip KK ?_
        try simp only [thenM, Exit.inBlock, if_true, if_false, reduceIte, Nat.reduceEqDiff]
        refine wpM_seq KK ?_
        refine wpM_block KK ?_
        refine wpM_seq KK ?_
        refine wpM_region KK ?_
        simp only [List.size_toArray, List.length_cons, List.length_nil, Nat.reduceAdd, Nat.zero_add, List.range, List.range.loop]
        refine opsN_k KK rfl (by rfl) (by rfl) ?_
        intro _ hR C hC
        replace hF := FO.rely hF hR
        clear hR
        go_simp
        refine hC _ _ ?_
        clear hC C
        try walk_nrm
        refine opsN_k KK rfl (by rfl) (by rfl) ?_
        intro _ hR C hC
        replace hF := FO.rely hF hR
        clear hR
        go_simp
        refine hC _ _ ?_
        clear hC C
        try walk_nrm
        refine opsN_k KK rfl (by rfl) (by rfl) ?_
        intro _ hR C hC
        replace hF := FO.rely hF hR
        clear hR
        go_simp
        refine hC _ _ ?_
        clear hC C
        try walk_nrm
        refine opsN_k KK rfl (by rfl) (by rfl) ?_
        intro _ hR C hC
        replace hF := FO.rely hF hR
        clear hR
        have hc := below_cell hF.below HC.out
        go_simp
        refine hC _ _ ?_
        clear hC C
        try walk_nrm
        clear hc
        by_cases hbad : lb.length = 0 ∨ 256 < lb.length
        · refine opsM_fcall KK (vals := #[.slice A1 lb.length c1]) rfl (by rfl) rfl Tryd.func7 (by rfl) rfl (by simp [Act.eval]) ?_
          refine callM_mono (frame_bad_m A1 c1 lb a1 a2 _ (errF_below HE.out hF.below) hbad) ?_
          rintro γ v w ⟨rfl, ⟨ea, rfl⟩, hB⟩
          replace hF := hF.next hB
          clear hB
          try walk_nrm
          refine opsN_k KK rfl (by rfl) (by rfl) ?_
          intro _ hR C hC
          replace hF := FO.rely hF hR
          clear hR
          go_simp
          refine hC _ _ ?_
          clear hC C
          try walk_nrm
          refine opsN_k KK rfl (by rfl) (by rfl) ?_
          intro _ hR C hC
          replace hF := FO.rely hF hR
          clear hR
          go_simp
          refine hC _ _ ?_
          clear hC C
          try walk_nrm
          refine opsN_k KK rfl (by rfl) (by rfl) ?_
          intro _ hR C hC
          replace hF := FO.rely hF hR
          clear hR
          go_simp
          refine hC _ _ ?_
          clear hC C
          try walk_nrm
          refine opsN_k KK rfl (by rfl) (by rfl) ?_
          intro _ hR C hC
          replace hF := FO.rely hF hR
          clear hR
          go_simp
          refine hC _ _ ?_
          clear hC C
          try walk_nrm
          refine opsN_k KK rfl (by rfl) (by rfl) ?_
          intro _ hR C hC
          replace hF := FO.rely hF hR
          clear hR
          go_simp
          refine hC _ _ ?_
          clear hC C
          try walk_nrm
          refine opsM_nil KK ?_
          try simp only [thenM, Exit.inBlock, if_true, if_false, reduceIte, Nat.reduceEqDiff]
          by_cases hz : lb.length = 0
          · have z0 : ((lb.length : Int) == 0) = true := beq_iff_eq.2 (by omega)
            refine wpM_seq KK ?_
            refine wpM_seq KK ?_
            refine wpM_region KK ?_
            simp only [List.size_toArray, List.length_cons, List.length_nil, Nat.reduceAdd, Nat.zero_add, List.range, List.range.loop]
            refine opsN_k KK rfl (by rfl) (by rfl) ?_
            intro _ hR C hC
            replace hF := FO.rely hF hR
            clear hR
            go_simp
            refine hC _ _ ?_
            clear hC C
            try walk_nrm
            refine opsN_k KK rfl (by rfl) (by rfl) ?_
            intro _ hR C hC
            replace hF := FO.rely hF hR
            clear hR
            go_simp
            refine hC _ _ ?_
            clear hC C
            try walk_nrm
            refine opsN_k KK rfl (by rfl) (by rfl) ?_
            intro _ hR C hC
            replace hF := FO.rely hF hR
            clear hR
            go_simp
            refine hC _ _ ?_
            clear hC C
            try walk_nrm
            refine opsN_k KK rfl (by rfl) (by rfl) ?_
            intro _ hR C hC
            replace hF := FO.rely hF hR
            clear hR
            have hc := below_cell hF.below HC.out
            go_simp
            refine hC _ _ ?_
            clear hC C
            try walk_nrm
            clear hc
            refine opsN_k KK rfl (by rfl) (by rfl) ?_
            intro _ hR C hC
            replace hF := FO.rely hF hR
            clear hR
            go_simp
            refine hC _ _ ?_
            clear hC C
            try walk_nrm
            refine opsN_k KK rfl (by rfl) (by rfl) ?_
            intro _ hR C hC
            replace hF := FO.rely hF hR
            clear hR
            go_simp
            refine hC _ _ ?_
            clear hC C
            try walk_nrm
            refine opsN_k KK rfl (by rfl) (by rfl) ?_
            intro _ hR C hC
            replace hF := FO.rely hF hR
            clear hR
            go_simp
            refine hC _ _ ?_
            clear hC C
            try walk_nrm
            refine opsM_pass KK rfl (by rfl) ?_
            try walk_nrm
            refine opsM_pass KK rfl (by rfl) ?_
            try walk_nrm
            refine opsM_pass KK rfl (by rfl) ?_
            try walk_nrm
            refine opsM_pass KK rfl (by rfl) ?_
            try walk_nrm
            refine opsM_pass KK rfl (by rfl) ?_
            try walk_nrm
            refine opsM_pass KK rfl (by rfl) ?_
            try walk_nrm
            refine opsN_k KK rfl (by rfl) (by rfl) ?_
            intro _ hR C hC
            replace hF := FO.rely hF hR
            clear hR
            go_simp
            refine hC _ _ ?_
            clear hC C
            try walk_nrm
            refine opsM_nil KK ?_
            try simp only [thenM, Exit.inBlock, if_true, if_false, reduceIte, Nat.reduceEqDiff]
            refine wpM_cond KK rfl ?_
            first | simp only [if_true, if_false, reduceIte, Bool.false_eq_true] | fail "COND"
            refine wpM_seq KK ?_
            refine wpM_region KK ?_
            simp only [List.size_toArray, List.length_cons, List.length_nil, Nat.reduceAdd, Nat.zero_add, List.range, List.range.loop]
            refine opsN_k KK rfl (by rfl) (by rfl) ?_
            intro _ hR C hC
            replace hF := FO.rely hF hR
            clear hR
            go_simp
            refine hC _ _ ?_
            clear hC C
            try walk_nrm
            refine opsN_k KK rfl (by rfl) (by rfl) ?_
            intro _ hR C hC
            replace hF := FO.rely hF hR
            clear hR
            go_simp
            refine hC _ _ ?_
            clear hC C
            try walk_nrm
            refine opsN_k KK rfl (by rfl) (by rfl) ?_
            intro _ hR C hC
            replace hF := FO.rely hF hR
            clear hR
            go_simp
            refine hC _ _ ?_
            clear hC C
            try walk_nrm
            refine opsM_nil KK ?_
            try simp only [thenM, Exit.inBlock, if_true, if_false, reduceIte, Nat.reduceEqDiff]
            refine wpM_ret KK ?_
            try simp only [thenM, Exit.inBlock, if_true, if_false, reduceIte, Nat.reduceEqDiff]
            exact ⟨rfl, .bool true, resultsC_tmp (t := 6) (by rfl) _, rfl, fun d => hpost _ (FO.rely hF ⟨d, rfl⟩).below⟩
          · have z0 : ((lb.length : Int) == 0) = false := beq_eq_false_iff_ne.2 (by omega)
            have z1 : decide ((256 : Int) < (lb.length : Int)) = true := decide_eq_true (by omega)
            refine wpM_seq KK ?_
            refine wpM_seq KK ?_
            refine wpM_region KK ?_
            simp only [List.size_toArray, List.length_cons, List.length_nil, Nat.reduceAdd, Nat.zero_add, List.range, List.range.loop]
            refine opsN_k KK rfl (by rfl) (by rfl) ?_
            intro _ hR C hC
            replace hF := FO.rely hF hR
            clear hR
            go_simp
            refine hC _ _ ?_
            clear hC C
            try walk_nrm
            refine opsN_k KK rfl (by rfl) (by rfl) ?_
            intro _ hR C hC
            replace hF := FO.rely hF hR
            clear hR
            go_simp
            refine hC _ _ ?_
            clear hC C
            try walk_nrm
            refine opsN_k KK rfl (by rfl) (by rfl) ?_
            intro _ hR C hC
            replace hF := FO.rely hF hR
            clear hR
            go_simp
            refine hC _ _ ?_
            clear hC C
            try walk_nrm
            refine opsN_k KK rfl (by rfl) (by rfl) ?_
            intro _ hR C hC
            replace hF := FO.rely hF hR
            clear hR
            have hc := below_cell hF.below HC.out
            go_simp
            refine hC _ _ ?_
            clear hC C
            try walk_nrm
            clear hc
            refine opsN_k KK rfl (by rfl) (by rfl) ?_
            intro _ hR C hC
            replace hF := FO.rely hF hR
            clear hR
            go_simp
            refine hC _ _ ?_
            clear hC C
            try walk_nrm
            refine opsN_k KK rfl (by rfl) (by rfl) ?_
            intro _ hR C hC
            replace hF := FO.rely hF hR
            clear hR
            go_simp
            refine hC _ _ ?_
            clear hC C
            try walk_nrm
            refine opsN_k KK rfl (by rfl) (by rfl) ?_
            intro _ hR C hC
            replace hF := FO.rely hF hR
            clear hR
            go_simp
            refine hC _ _ ?_
            clear hC C
            try walk_nrm
            refine opsN_k KK rfl (by rfl) (by rfl) ?_
            intro _ hR C hC
            replace hF := FO.rely hF hR
            clear hR
            go_simp
            refine hC _ _ ?_
            clear hC C
            try walk_nrm
            refine opsN_k KK rfl (by rfl) (by rfl) ?_
            intro _ hR C hC
            replace hF := FO.rely hF hR
            clear hR
            go_simp
            refine hC _ _ ?_
            clear hC C
            try walk_nrm
            refine opsN_k KK rfl (by rfl) (by rfl) ?_
            intro _ hR C hC
            replace hF := FO.rely hF hR
            clear hR
            go_simp
            refine hC _ _ ?_
            clear hC C
            try walk_nrm
            refine opsN_k KK rfl (by rfl) (by rfl) ?_
            intro _ hR C hC
            replace hF := FO.rely hF hR
            clear hR
            have hc := below_cell hF.below HC.out
            go_simp
            refine hC _ _ ?_
            clear hC C
            try walk_nrm
            clear hc
            refine opsN_k KK rfl (by rfl) (by rfl) ?_
            intro _ hR C hC
            replace hF := FO.rely hF hR
            clear hR
            go_simp
            refine hC _ _ ?_
            clear hC C
            try walk_nrm
            refine opsN_k KK rfl (by rfl) (by rfl) ?_
            intro _ hR C hC
            replace hF := FO.rely hF hR
            clear hR
            go_simp
            refine hC _ _ ?_
            clear hC C
            try walk_nrm
            refine opsN_k KK rfl (by rfl) (by rfl) ?_
            intro _ hR C hC
            replace hF := FO.rely hF hR
            clear hR
            go_simp
            refine hC _ _ ?_
            clear hC C
            try walk_nrm
            refine opsM_nil KK ?_
            try simp only [thenM, Exit.inBlock, if_true, if_false, reduceIte, Nat.reduceEqDiff]
            refine wpM_cond KK rfl ?_
            first | simp only [if_true, if_false, reduceIte, Bool.false_eq_true] | fail "COND"
            refine wpM_seq KK ?_
            refine wpM_region KK ?_
            simp only [List.size_toArray, List.length_cons, List.length_nil, Nat.reduceAdd, Nat.zero_add, List.range, List.range.loop]
            refine opsN_k KK rfl (by rfl) (by rfl) ?_
            intro _ hR C hC
            replace hF := FO.rely hF hR
            clear hR
            go_simp
            refine hC _ _ ?_
            clear hC C
            try walk_nrm
            refine opsN_k KK rfl (by rfl) (by rfl) ?_
            intro _ hR C hC
            replace hF := FO.rely hF hR
            clear hR
            go_simp
            refine hC _ _ ?_
            clear hC C
            try walk_nrm
            refine opsN_k KK rfl (by rfl) (by rfl) ?_
            intro _ hR C hC
            replace hF := FO.rely hF hR
            clear hR
            go_simp
            refine hC _ _ ?_
            clear hC C
            try walk_nrm
            refine opsM_nil KK ?_
            try simp only [thenM, Exit.inBlock, if_true, if_false, reduceIte, Nat.reduceEqDiff]
            refine wpM_ret KK ?_
            try simp only [thenM, Exit.inBlock, if_true, if_false, reduceIte, Nat.reduceEqDiff]
            exact ⟨rfl, .bool true, resultsC_tmp (t := 6) (by rfl) _, rfl, fun d => hpost _ (FO.rely hF ⟨d, rfl⟩).below⟩
        have hz0 : ¬ lb.length = 0 := by omega
        have hz1 : ¬ 256 < lb.length := by omega
        refine opsM_fcall KK (vals := #[.slice A1 lb.length c1]) rfl (by rfl) rfl Tryd.func7 (by rfl) rfl (by simp [Act.eval]) ?_
        refine callM_mono (frame_good_m A1 c1 lb _ hz0 hz1 (cells_below hF.below HR.out)) ?_
        rintro γ v w ⟨rfl, ⟨x, rfl, hx⟩, hB⟩
        obtain ⟨N, hN⟩ : ∃ N, N = lb.length + 3 := ⟨_, rfl⟩
        have hFL : (frameB lb).length = N := by rw [frameB_length, hN]
        obtain ⟨fg, fc, he, hfc1, hfc2, hfr⟩ := own_some hx (by rw [Bs_length, hFL]; omega)
        rw [Bs_length, hFL] at he hfc1
        subst he
        have HN := Go.Lib.hid hN
        replace hF : FOF w0 (.slice VA vn vc) (frames (ls.take k)) (some ⟨fg, 0, none⟩) (frameB lb) _ := ⟨(hF.next hB).below, (hF.next hB).own, hfr⟩
        have HFL := Go.Lib.hid hFL
        have wN : IntKind.i64.wrap ((lb.length : Int) + 3) = (N : Int) := by rw [IntKind.wrap_i64]; omega
        have nN : ((N : Int) != (N : Int)) = false := by simp
        clear hB hx hfr hFL hN
        try walk_nrm
        refine opsN_k KK rfl (by rfl) (by rfl) ?_
        intro _ hR C hC
        replace hF := FOF.rely hF hR
        clear hR
        go_simp
        refine hC _ _ ?_
        clear hC C
        try walk_nrm
        refine opsN_k KK rfl (by rfl) (by rfl) ?_
        intro _ hR C hC
        replace hF := FOF.rely hF hR
        clear hR
        go_simp
        refine hC _ _ ?_
        clear hC C
        try walk_nrm
        refine opsN_k KK rfl (by rfl) (by rfl) ?_
        intro _ hR C hC
        replace hF := FOF.rely hF hR
        clear hR
        go_simp
        refine hC _ _ ?_
        clear hC C
        try walk_nrm
        refine opsN_k KK rfl (by rfl) (by rfl) ?_
        intro _ hR C hC
        replace hF := FOF.rely hF hR
        clear hR
        go_simp
        refine hC _ _ ?_
        clear hC C
        try walk_nrm
        refine opsN_k KK rfl (by rfl) (by rfl) ?_
        intro _ hR C hC
        replace hF := FOF.rely hF hR
        clear hR
        go_simp
        refine hC _ _ ?_
        clear hC C
        try walk_nrm
        refine opsM_nil KK ?_
        try simp only [thenM, Exit.inBlock, if_true, if_false, reduceIte, Nat.reduceEqDiff]
        have z0 : ((lb.length : Int) == 0) = false := beq_eq_false_iff_ne.2 (by omega)
        have z1 : decide ((256 : Int) < (lb.length : Int)) = false := decide_eq_false (by omega)
        refine wpM_seq KK ?_
        refine wpM_seq KK ?_
        refine wpM_region KK ?_
        simp only [List.size_toArray, List.length_cons, List.length_nil, Nat.reduceAdd, Nat.zero_add, List.range, List.range.loop]
        refine opsN_k KK rfl (by rfl) (by rfl) ?_
        intro _ hR C hC
        replace hF := FOF.rely hF hR
        clear hR
        go_simp
        refine hC _ _ ?_
        clear hC C
        try walk_nrm
        refine opsN_k KK rfl (by rfl) (by rfl) ?_
        intro _ hR C hC
        replace hF := FOF.rely hF hR
        clear hR
        go_simp
        refine hC _ _ ?_
        clear hC C
        try walk_nrm
        refine opsN_k KK rfl (by rfl) (by rfl) ?_
        intro _ hR C hC
        replace hF := FOF.rely hF hR
        clear hR
        go_simp
        refine hC _ _ ?_
        clear hC C
        try walk_nrm
        refine opsN_k KK rfl (by rfl) (by rfl) ?_
        intro _ hR C hC
        replace hF := FOF.rely hF hR
        clear hR
        have hc := below_cell hF.below HC.out
        go_simp
        refine hC _ _ ?_
        clear hC C
        try walk_nrm
        clear hc
        refine opsN_k KK rfl (by rfl) (by rfl) ?_
        intro _ hR C hC
        replace hF := FOF.rely hF hR
        clear hR
        go_simp
        refine hC _ _ ?_
        clear hC C
        try walk_nrm
        refine opsN_k KK rfl (by rfl) (by rfl) ?_
        intro _ hR C hC
        replace hF := FOF.rely hF hR
        clear hR
        go_simp
        refine hC _ _ ?_
        clear hC C
        try walk_nrm
        refine opsN_k KK rfl (by rfl) (by rfl) ?_
        intro _ hR C hC
        replace hF := FOF.rely hF hR
        clear hR
        go_simp
        refine hC _ _ ?_
        clear hC C
        try walk_nrm
        refine opsN_k KK rfl (by rfl) (by rfl) ?_
        intro _ hR C hC
        replace hF := FOF.rely hF hR
        clear hR
        go_simp
        refine hC _ _ ?_
        clear hC C
        try walk_nrm
        refine opsN_k KK rfl (by rfl) (by rfl) ?_
        intro _ hR C hC
        replace hF := FOF.rely hF hR
        clear hR
        go_simp
        refine hC _ _ ?_
        clear hC C
        try walk_nrm
        refine opsN_k KK rfl (by rfl) (by rfl) ?_
        intro _ hR C hC
        replace hF := FOF.rely hF hR
        clear hR
        go_simp
        refine hC _ _ ?_
        clear hC C
        try walk_nrm
        refine opsN_k KK rfl (by rfl) (by rfl) ?_
        intro _ hR C hC
        replace hF := FOF.rely hF hR
        clear hR
        have hc := below_cell hF.below HC.out
        go_simp
        refine hC _ _ ?_
        clear hC C
        try walk_nrm
        clear hc
        refine opsN_k KK rfl (by rfl) (by rfl) ?_
        intro _ hR C hC
        replace hF := FOF.rely hF hR
        clear hR
        go_simp
        refine hC _ _ ?_
        clear hC C
        try walk_nrm
        refine opsN_k KK rfl (by rfl) (by rfl) ?_
        intro _ hR C hC
        replace hF := FOF.rely hF hR
        clear hR
        go_simp
        refine hC _ _ ?_
        clear hC C
        try walk_nrm
        refine opsN_k KK rfl (by rfl) (by rfl) ?_
        intro _ hR C hC
        replace hF := FOF.rely hF hR
        clear hR
        go_simp
        refine hC _ _ ?_
        clear hC C
        try walk_nrm
        refine opsM_nil KK ?_
        try simp only [thenM, Exit.inBlock, if_true, if_false, reduceIte, Nat.reduceEqDiff]
        refine wpM_cond KK rfl ?_
        first | simp only [if_true, if_false, reduceIte, Bool.false_eq_true] | fail "COND"
        refine wpM_skip KK ?_
        try simp only [thenM, Exit.inBlock, if_true, if_false, reduceIte, Nat.reduceEqDiff]
        refine wpM_seq KK ?_
        refine wpM_seq KK ?_
        refine wpM_region KK ?_
        simp only [List.size_toArray, List.length_cons, List.length_nil, Nat.reduceAdd, Nat.zero_add, List.range, List.range.loop]
        refine opsN_k KK rfl (by rfl) (by rfl) ?_
        intro _ hR C hC
        replace hF := FOF.rely hF hR
        clear hR
        go_simp
        refine hC _ _ ?_
        clear hC C
        try walk_nrm
        refine opsN_k KK rfl (by rfl) (by rfl) ?_
        intro _ hR C hC
        replace hF := FOF.rely hF hR
        clear hR
        go_simp
        refine hC _ _ ?_
        clear hC C
        try walk_nrm
        refine opsN_k KK rfl (by rfl) (by rfl) ?_
        intro _ hR C hC
        replace hF := FOF.rely hF hR
        clear hR
        go_simp
        refine hC _ _ ?_
        clear hC C
        try walk_nrm
        refine opsN_k KK rfl (by rfl) (by rfl) ?_
        intro _ hR C hC
        replace hF := FOF.rely hF hR
        clear hR
        go_simp
        refine hC _ _ ?_
        clear hC C
        try walk_nrm
        refine opsN_k KK rfl (by rfl) (by rfl) ?_
        intro _ hR C hC
        replace hF := FOF.rely hF hR
        clear hR
        go_simp
        refine hC _ _ ?_
        clear hC C
        try walk_nrm
        refine opsN_k KK rfl (by rfl) (by rfl) ?_
        intro _ hR C hC
        replace hF := FOF.rely hF hR
        clear hR
        go_simp
        refine hC _ _ ?_
        clear hC C
        try walk_nrm
        refine opsN_k KK rfl (by rfl) (by rfl) ?_
        intro _ hR C hC
        replace hF := FOF.rely hF hR
        clear hR
        go_simp
        refine hC _ _ ?_
        clear hC C
        try walk_nrm
        refine opsN_k KK rfl (by rfl) (by rfl) ?_
        intro _ hR C hC
        replace hF := FOF.rely hF hR
        clear hR
        go_simp
        refine hC _ _ ?_
        clear hC C
        try walk_nrm
        refine opsN_k KK rfl (by rfl) (by rfl) ?_
        intro _ hR C hC
        replace hF := FOF.rely hF hR
        clear hR
        have hc := below_cell hF.below HC.out
        go_simp
        refine hC _ _ ?_
        clear hC C
        try walk_nrm
        clear hc
        refine opsN_k KK rfl (by rfl) (by rfl) ?_
        intro _ hR C hC
        replace hF := FOF.rely hF hR
        clear hR
        go_simp
        refine hC _ _ ?_
        clear hC C
        try walk_nrm
        refine opsN_k KK rfl (by rfl) (by rfl) ?_
        intro _ hR C hC
        replace hF := FOF.rely hF hR
        clear hR
        go_simp
        refine hC _ _ ?_
        clear hC C
        try walk_nrm
        refine opsN_k KK rfl (by rfl) (by rfl) ?_
        intro _ hR C hC
        replace hF := FOF.rely hF hR
        clear hR
        go_simp
        refine hC _ _ ?_
        clear hC C
        try walk_nrm
        refine opsN_k KK rfl (by rfl) (by rfl) ?_
        intro _ hR C hC
        replace hF := FOF.rely hF hR
        clear hR
        go_simp
        refine hC _ _ ?_
        clear hC C
        try walk_nrm
        refine opsM_nil KK ?_
        try simp only [thenM, Exit.inBlock, if_true, if_false, reduceIte, Nat.reduceEqDiff]
        refine wpM_cond KK rfl ?_
        first | simp only [if_true, if_false, reduceIte, Bool.false_eq_true] | fail "COND"
        refine wpM_skip KK ?_
        try simp only [thenM, Exit.inBlock, if_true, if_false, reduceIte, Nat.reduceEqDiff]
        refine wpM_region KK ?_
        simp only [List.size_toArray, List.length_cons, List.length_nil, Nat.reduceAdd, Nat.zero_add, List.range, List.range.loop]
        refine opsN_k KK rfl (by rfl) (by rfl) ?_
        intro _ hR C hC
        replace hF := FOF.rely hF hR
        clear hR
        go_simp
        refine hC _ _ ?_
        clear hC C
        try walk_nrm
        refine opsN_k KK rfl (by rfl) (by rfl) ?_
        intro _ hR C hC
        replace hF := FOF.rely hF hR
        clear hR
        go_simp
        refine hC _ _ ?_
        clear hC C
        try walk_nrm
        have HS3 : Hid ((frames (ls.take k)).length ≤ 50331648) := by rw [RowKit.Hid, frames_length]; have := HS2.out; have := HT3.out; omega
        refine opsN_k KK rfl (by rfl) (by rfl) ?_
        intro w1 hR C hC
        replace hF := FOF.rely hF hR
        clear hR
        have hfl : (frameB lb).length = N := HFL.out
        obtain ⟨v', w', hr, ho, hg⟩ := run_append_bytes (P := Tryd.prog) w1 w0.heap.size 23 23 5 (by kernel_rfl) (by kernel_rfl) (.slice VA vn vc) (frames (ls.take k)) (frameB lb) (some ⟨fg, 0, none⟩) fc hF.own hF.fr (by have := HS3.out; have := HN.out; omega) hF.below.size
        rw [hfl] at hr
        rw [← frames_snoc, ← HT.out] at ho
        replace hF : FO w0 w0.heap.size v' (frames (ls.take (k + 1))) w' := ⟨below_grown hF.below hF.own hg (Nat.le_refl _) hF.below.size, ho⟩
        obtain ⟨nA, nn, nc, rfl⟩ := hF.slice
        refine uponK_append _ _ _ rfl rfl rfl hr (hC _ _ ?_)
        clear hC C
        clear hr ho hg hfl
        try walk_nrm
        refine opsN_k KK rfl (by rfl) (by rfl) ?_
        intro _ hR C hC
        replace hF := FO.rely hF hR
        clear hR
        go_simp
        refine hC _ _ ?_
        clear hC C
        try walk_nrm
        refine opsM_nil KK ?_
        try simp only [thenM, Exit.inBlock, if_true, if_false, reduceIte, Nat.reduceEqDiff]
        have wk : IntKind.i64.wrap ((k : Int) + 1) = ((k + 1 : Nat) : Int) := by rw [IntKind.wrap_i64]; omega
        refine wpM_region KK ?_
        simp only [List.size_toArray, List.length_cons, List.length_nil, Nat.reduceAdd, Nat.zero_add, List.range, List.range.loop]
        refine opsN_k KK rfl (by rfl) (by rfl) ?_
        intro _ hR C hC
        replace hF := FO.rely hF hR
        clear hR
        go_simp
        refine hC _ _ ?_
        clear hC C
        try walk_nrm
        refine opsN_k KK rfl (by rfl) (by rfl) ?_
        intro _ hR C hC
        replace hF := FO.rely hF hR
        clear hR
        go_simp
        refine hC _ _ ?_
        clear hC C
        try walk_nrm
        refine opsN_k KK rfl (by rfl) (by rfl) ?_
        intro _ hR C hC
        replace hF := FO.rely hF hR
        clear hR
        go_simp
        refine hC _ _ ?_
        clear hC C
        try walk_nrm
        refine opsM_nil KK ?_
        try simp only [thenM, Exit.inBlock, if_true, if_false, reduceIte, Nat.reduceEqDiff]
        refine ⟨⟨k + 1, nA, nn, nc, (fun i => (#[undef, undef, undef, _, _, _, _, undef, undef, _, _, _, _, _, _, _, _, _, _, _, _, _, _, _, _, _, _, _, _, _, _, _, _, _, _, _, _, _, _, _, _, _, _, _, _, _, _, _, _, _, _, _, _, _, _, _, _, _, _, _, _, _, _, _, _, _, _, _, _, _, _, _, _, _, _, _, _, _, _, _, _, _, _, _, _, _, _, _, _, _, _, _, _, _, _, _, _, _, _, _, _, _, _, _, _, _, _, _, _, _, _, _, _, _, _, _, _, _, _] : Array Value).getD i undef), (by first | rfl | trivial), rfl, by omega, (by rw [RowKit.Hid, HT.out]; intro p hp; rcases List.mem_append.1 hp with hp | hp; exact HK.out p hp; obtain rfl := List.mem_singleton.1 hp; omega), hF⟩, ?_⟩
        show ls.length - ((k : Int) + 1).toNat < ls.length - (k : Int).toNat
        omega
      obtain rfl : k = ls.length := by omega
      have e1 : decide ((ls.length : Int) < (ls.length : Int)) = false := decide_eq_false (by omega)
      refine opsN_k KK rfl (by rfl) (by rfl) ?_
      intro _ hR C hC
      replace hF := FO.rely hF hR
      clear hR
      go_simp
      refine hC _ _ ?_
      clear hC C
      try walk_nrm
      refine opsN_k KK rfl (by rfl) (by rfl) ?_
      intro _ hR C hC
      replace hF := FO.rely hF hR
      clear hR
      go_simp
      refine hC _ _ ?_
      clear hC C
      try walk_nrm
      refine opsN_k KK rfl (by rfl) (by rfl) ?_
      intro _ hR C hC
      replace hF := FO.rely hF hR
      clear hR
      go_simp
      refine hC _ _ ?_
      clear hC C
      try walk_nrm
      refine opsN_k KK rfl (by rfl) (by rfl) ?_
      intro _ hR C hC
      replace hF := FO.rely hF hR
      clear hR
      go_simp
      refine hC _ _ ?_
      clear hC C
      try walk_nrm
      refine opsM_nil KK ?_
      try simp only [thenM, Exit.inBlock, if_true, if_false, reduceIte, Nat.reduceEqDiff]
      refine wpM_cond KK rfl ?_
      first | simp only [if_true, if_false, reduceIte, Bool.false_eq_true] | fail "COND"
      refine wpM_exit KK ?_
      try simp only [thenM, Exit.inBlock, if_true, if_false, reduceIte, Nat.reduceEqDiff]
      rw [List.take_length] at hF HK
      refine wpM_seq KK ?_
      refine wpM_region KK ?_
      simp only [List.size_toArray, List.length_cons, List.length_nil, Nat.reduceAdd, Nat.zero_add, List.range, List.range.loop]
      refine opsN_k KK rfl (by rfl) (by rfl) ?_
      intro _ hR C hC
      replace hF := FO.rely hF hR
      clear hR
      go_simp
      refine hC _ _ ?_
      clear hC C
      try walk_nrm
      refine opsM_nil KK ?_
      try simp only [thenM, Exit.inBlock, if_true, if_false, reduceIte, Nat.reduceEqDiff]
      refine wpM_seq KK ?_
      refine wpM_seq KK ?_
      refine wpM_region KK ?_
      simp only [List.size_toArray, List.length_cons, List.length_nil, Nat.reduceAdd, Nat.zero_add, List.range, List.range.loop]
      refine opsN_k KK rfl (by rfl) (by rfl) ?_
      intro _ hR C hC
      replace hF := FO.rely hF hR
      clear hR
      go_simp
      refine hC _ _ ?_
      clear hC C
      try walk_nrm
      refine opsN_k KK rfl (by rfl) (by rfl) ?_
      intro _ hR C hC
      replace hF := FO.rely hF hR
      clear hR
      go_simp
      refine hC _ _ ?_
      clear hC C
      try walk_nrm
      by_cases hl0 : 0 < la.length
      · have e2 : decide ((0 : Int) < (la.length : Int)) = true := decide_eq_true (by omega)
        refine opsN_k KK rfl (by rfl) (by rfl) ?_
        intro _ hR C hC
        replace hF := FO.rely hF hR
        clear hR
        go_simp
        refine hC _ _ ?_
        clear hC C
        try walk_nrm
        refine opsM_nil KK ?_
        try simp only [thenM, Exit.inBlock, if_true, if_false, reduceIte, Nat.reduceEqDiff]
        refine wpM_cond KK rfl ?_
        first | simp only [if_true, if_false, reduceIte, Bool.false_eq_true] | fail "COND"
        refine wpM_seq KK ?_
        refine wpM_region KK ?_
        simp only [List.size_toArray, List.length_cons, List.length_nil, Nat.reduceAdd, Nat.zero_add, List.range, List.range.loop]
        refine opsN_k KK rfl (by rfl) (by rfl) ?_
        intro _ hR C hC
        replace hF := FO.rely hF hR
        clear hR
        go_simp
        refine hC _ _ ?_
        clear hC C
        try walk_nrm
        have hz0 : ¬ la.length = 0 := by omega
        refine opsM_fcall KK (vals := #[.slice AL la.length cl]) rfl (by rfl) rfl Tryd.func7 (by rfl) rfl (by simp [Act.eval]) ?_
        refine callM_mono (frame_good_m AL cl la _ hz0 hla (cells_below hF.below HLA.out)) ?_
        rintro γ v w ⟨rfl, ⟨x, rfl, hx⟩, hB⟩
        obtain ⟨N, hN⟩ : ∃ N, N = la.length + 3 := ⟨_, rfl⟩
        have hFL : (frameB la).length = N := by rw [frameB_length, hN]
        obtain ⟨fg, fc, he, hfc1, hfc2, hfr⟩ := own_some hx (by rw [Bs_length, hFL]; omega)
        rw [Bs_length, hFL] at he hfc1
        subst he
        have HN := Go.Lib.hid hN
        replace hF : FOF w0 (.slice VA vn vc) (frames ls) (some ⟨fg, 0, none⟩) (frameB la) _ := ⟨(hF.next hB).below, (hF.next hB).own, hfr⟩
        have HFL := Go.Lib.hid hFL
        clear hB hx hfr hFL hN
        try walk_nrm
        refine opsN_k KK rfl (by rfl) (by rfl) ?_
        intro _ hR C hC
        replace hF := FOF.rely hF hR
        clear hR
        go_simp
        refine hC _ _ ?_
        clear hC C
        try walk_nrm
        refine opsN_k KK rfl (by rfl) (by rfl) ?_
        intro _ hR C hC
        replace hF := FOF.rely hF hR
        clear hR
        go_simp
        refine hC _ _ ?_
        clear hC C
        try walk_nrm
        refine opsN_k KK rfl (by rfl) (by rfl) ?_
        intro _ hR C hC
        replace hF := FOF.rely hF hR
        clear hR
        go_simp
        refine hC _ _ ?_
        clear hC C
        try walk_nrm
        refine opsN_k KK rfl (by rfl) (by rfl) ?_
        intro _ hR C hC
        replace hF := FOF.rely hF hR
        clear hR
        go_simp
        refine hC _ _ ?_
        clear hC C
        try walk_nrm
        refine opsN_k KK rfl (by rfl) (by rfl) ?_
        intro _ hR C hC
        replace hF := FOF.rely hF hR
        clear hR
        go_simp
        refine hC _ _ ?_
        clear hC C
        try walk_nrm
        refine opsM_nil KK ?_
        try simp only [thenM, Exit.inBlock, if_true, if_false, reduceIte, Nat.reduceEqDiff]
        refine wpM_seq KK ?_
        refine wpM_seq KK ?_
        refine wpM_region KK ?_
        simp only [List.size_toArray, List.length_cons, List.length_nil, Nat.reduceAdd, Nat.zero_add, List.range, List.range.loop]
        refine opsN_k KK rfl (by rfl) (by rfl) ?_
        intro _ hR C hC
        replace hF := FOF.rely hF hR
        clear hR
        go_simp
        refine hC _ _ ?_
        clear hC C
        try walk_nrm
        refine opsN_k KK rfl (by rfl) (by rfl) ?_
        intro _ hR C hC
        replace hF := FOF.rely hF hR
        clear hR
        go_simp
        refine hC _ _ ?_
        clear hC C
        try walk_nrm
        refine opsM_nil KK ?_
        try simp only [thenM, Exit.inBlock, if_true, if_false, reduceIte, Nat.reduceEqDiff]
        refine wpM_cond KK rfl ?_
        first | simp only [if_true, if_false, reduceIte, Bool.false_eq_true] | fail "COND"
        refine wpM_skip KK ?_
        try simp only [thenM, Exit.inBlock, if_true, if_false, reduceIte, Nat.reduceEqDiff]
        have hN0 : 0 < N := by have := HN.out; omega
        have hNlt : N ≤ 259 := by have := HN.out; omega
        have hrl := restN_lt ct N hN0
        have u1 : IntKind.u64.wrap ct = ct % 18446744073709551616 := IntKind.wrap_u64 ct
        have u2 : IntKind.u64.wrap (N : Int) = (N : Int) := by rw [IntKind.wrap_u64]; omega
        have u3 : (ct % 18446744073709551616).tmod (N : Int) = (restN ct N : Int) := by rw [Int.tmod_eq_emod_of_nonneg (by omega)]; have := Int.emod_nonneg (ct % 18446744073709551616) (show (N : Int) ≠ 0 by omega); unfold restN; omega
        have u4 : IntKind.u64.wrap (restN ct N : Int) = (restN ct N : Int) := by rw [IntKind.wrap_u64]; omega
        have u5 : IntKind.i64.wrap (restN ct N : Int) = (restN ct N : Int) := by rw [IntKind.wrap_i64]; omega
        have u6 : ((N : Int) == 0) = false := beq_eq_false_iff_ne.2 (by omega)
        have u7 : ¬ ((N : Int) = 0) := by omega
        have u8 : ¬ (N = 0) := by omega
        refine wpM_seq KK ?_
        refine wpM_region KK ?_
        simp only [List.size_toArray, List.length_cons, List.length_nil, Nat.reduceAdd, Nat.zero_add, List.range, List.range.loop]
        refine opsN_k KK rfl (by rfl) (by rfl) ?_
        intro _ hR C hC
        replace hF := FOF.rely hF hR
        clear hR
        go_simp
        refine hC _ _ ?_
        clear hC C
        try walk_nrm
        refine opsN_k KK rfl (by rfl) (by rfl) ?_
        intro _ hR C hC
        replace hF := FOF.rely hF hR
        clear hR
        go_simp
        refine hC _ _ ?_
        clear hC C
        try walk_nrm
        refine opsN_k KK rfl (by rfl) (by rfl) ?_
        intro _ hR C hC
        replace hF := FOF.rely hF hR
        clear hR
        go_simp
        refine hC _ _ ?_
        clear hC C
        try walk_nrm
        refine opsN_k KK rfl (by rfl) (by rfl) ?_
        intro _ hR C hC
        replace hF := FOF.rely hF hR
        clear hR
        go_simp
        refine hC _ _ ?_
        clear hC C
        try walk_nrm
        refine opsN_k KK rfl (by rfl) (by rfl) ?_
        intro _ hR C hC
        replace hF := FOF.rely hF hR
        clear hR
        go_simp
        refine hC _ _ ?_
        clear hC C
        try walk_nrm
        refine opsN_k KK rfl (by rfl) (by rfl) ?_
        intro _ hR C hC
        replace hF := FOF.rely hF hR
        clear hR
        go_simp
        refine hC _ _ ?_
        clear hC C
        try walk_nrm
        refine opsN_k KK rfl (by rfl) (by rfl) ?_
        intro _ hR C hC
        replace hF := FOF.rely hF hR
        clear hR
        go_simp
        refine hC _ _ ?_
        clear hC C
        try walk_nrm
        refine opsN_k KK rfl (by rfl) (by rfl) ?_
        intro _ hR C hC
        replace hF := FOF.rely hF hR
        clear hR
        go_simp
        refine hC _ _ ?_
        clear hC C
        try walk_nrm
        refine opsM_nil KK ?_
        try simp only [thenM, Exit.inBlock, if_true, if_false, reduceIte, Nat.reduceEqDiff]
        generalize hrr : restN ct N = rr at *
        clear u1 u3 hrr
        have r0 : (0 : Int) ≤ (rr : Int) := Int.natCast_nonneg _
        have r1 : (rr : Int) ≤ (N : Int) := by omega
        have r2 : (rr : Int) ≤ (fc : Int) := by omega
        refine wpM_region KK ?_
        simp only [List.size_toArray, List.length_cons, List.length_nil, Nat.reduceAdd, Nat.zero_add, List.range, List.range.loop]
        refine opsN_k KK rfl (by rfl) (by rfl) ?_
        intro _ hR C hC
        replace hF := FOF.rely hF hR
        clear hR
        go_simp
        refine hC _ _ ?_
        clear hC C
        try walk_nrm
        refine opsN_k KK rfl (by rfl) (by rfl) ?_
        intro _ hR C hC
        replace hF := FOF.rely hF hR
        clear hR
        go_simp
        refine hC _ _ ?_
        clear hC C
        try walk_nrm
        refine opsN_k KK rfl (by rfl) (by rfl) ?_
        intro _ hR C hC
        replace hF := FOF.rely hF hR
        clear hR
        go_simp
        refine hC _ _ ?_
        clear hC C
        try walk_nrm
        refine opsN_k KK rfl (by rfl) (by rfl) ?_
        intro _ hR C hC
        replace hF := FOF.rely hF hR
        clear hR
        go_simp
        refine hC _ _ ?_
        clear hC C
        try walk_nrm
        have HS3 : Hid ((frames ls).length ≤ 50331648) := by rw [RowKit.Hid, frames_length]; have := HT3.out; omega
        have HPRE : Hid (((frameB la).take rr).length = rr) := by rw [RowKit.Hid, List.length_take, HFL.out]; omega
        refine opsN_k KK rfl (by rfl) (by rfl) ?_
        intro w1 hR C hC
        replace hF := FOF.rely hF hR
        clear hR
        obtain ⟨v', w', hr, ho, hg⟩ := run_append_bytes (P := Tryd.prog) w1 w0.heap.size 23 23 5 (by kernel_rfl) (by kernel_rfl) (.slice VA vn vc) (frames ls) ((frameB la).take rr) (some ⟨fg, 0, none⟩) fc hF.own (by rw [Bs_take]; exact cells_take hF.fr rr) (by have := HS3.out; have := HPRE.out; omega) hF.below.size
        rw [HPRE.out] at hr
        replace hF : FO w0 w0.heap.size v' (frames ls ++ (frameB la).take rr) w' := ⟨below_grown hF.below hF.own hg (Nat.le_refl _) hF.below.size, ho⟩
        skip
        obtain ⟨VA, vn, vc, rfl⟩ := hF.slice
        refine uponK_append _ _ _ rfl rfl rfl hr (hC _ _ ?_)
        clear hC C
        clear hr ho hg
        try walk_nrm
        refine opsN_k KK rfl (by rfl) (by rfl) ?_
        intro _ hR C hC
        replace hF := FO.rely hF hR
        clear hR
        go_simp
        refine hC _ _ ?_
        clear hC C
        try walk_nrm
        refine opsM_nil KK ?_
        try simp only [thenM, Exit.inBlock, if_true, if_false, reduceIte, Nat.reduceEqDiff]
        have HPL : Hid (((frameB la).take rr).length ≤ 259) := by rw [RowKit.Hid, HPRE.out]; omega
        have HPLE : Hid ((((frameB la).take rr).length : Int) = (rr : Int)) := by rw [RowKit.Hid, HPRE.out]
        have HCUT := Go.Lib.hid (show cutS (frames ls ++ (frameB la).take rr) = (ls, (frameB la).take rr, false) from by
            rw [cut_frames _ ls HK.out, cut_front la rr (by omega) (by omega) (by have := HN.out; omega), List.append_nil])
        obtain ⟨l, hl⟩ : ∃ l, frames ls ++ (frameB la).take rr = l := ⟨_, rfl⟩
        rw [hl] at hF
        have HL := Go.Lib.hid hl
        have hln : l.length ≤ 50331907 := by rw [← hl, List.length_append, frames_length]; have := HT3.out; have := HPL.out; omega
        obtain ⟨rfl, q1, q2⟩ : vn = l.length ∧ l.length ≤ vc ∧ vc ≤ 9223372036854775807 := by
            obtain ⟨A', c', e, p1, p2, _⟩ := own_slice hF.own
            rw [Bs_length] at e p1
            simp only [Value.slice.injEq] at e
            obtain ⟨_, rfl, rfl⟩ := e
            exact ⟨rfl, p1, p2⟩
        clear hl
        refine wpM_seq KK ?_
        refine wpM_region KK ?_
        simp only [List.size_toArray, List.length_cons, List.length_nil, Nat.reduceAdd, Nat.zero_add, List.range, List.range.loop]
        refine opsM_fcall KK (vals := #[]) rfl (by rfl) rfl Tryd.func8 (by rfl) rfl (by simp [Act.eval]) ?_
        refine callM_mono (new_calls _) ?_
        rintro γ v w ⟨rfl, ⟨sp, rfl, hS⟩, hB⟩
        have hFn := hF.next hB
        have hcl : Cells w VA (Bs l) := by
            obtain ⟨A', c', e, p1, p2, h⟩ := own_slice hFn.own
            obtain ⟨rfl, _, _⟩ : VA = A' ∧ _ ∧ _ := by simpa using e
            exact h
        replace hF : HG w0 (fun w => Cells w VA (Bs l) ∧ Spl w0.heap.size sp [] false (.slice none 0 0) w) w := ⟨hFn.below, ⟨hcl, ⟨hS.blk, own_low hS.own hF.below.size, Nat.le_trans hF.below.size hS.ge⟩⟩, (stB_cells _ _).and stB_spl⟩
        clear hFn hcl hS hB
        try walk_nrm
        refine opsN_k KK rfl (by rfl) (by rfl) ?_
        intro _ hR C hC
        replace hF := HG.rely hF hR
        clear hR
        go_simp
        refine hC _ _ ?_
        clear hC C
        try walk_nrm
        refine opsM_nil KK ?_
        try simp only [thenM, Exit.inBlock, if_true, if_false, reduceIte, Nat.reduceEqDiff]
        refine wpM_seq KK ?_
        refine wpM_region KK ?_
        simp only [List.size_toArray, List.length_cons, List.length_nil, Nat.reduceAdd, Nat.zero_add, List.range, List.range.loop]
        refine opsN_k KK rfl (by rfl) (by rfl) ?_
        intro _ hR C hC
        replace hF := HG.rely hF hR
        clear hR
        go_simp
        refine hC _ _ ?_
        clear hC C
        try walk_nrm
        refine opsN_k KK rfl (by rfl) (by rfl) ?_
        intro _ hR C hC
        replace hF := HG.rely hF hR
        clear hR
        go_simp
        refine hC _ _ ?_
        clear hC C
        try walk_nrm
        refine opsM_fcall KK (vals := #[.pointer (some ⟨sp, 0, none⟩), .slice VA l.length vc]) rfl (by rfl) rfl Tryd.func9 (by rfl) rfl (by simp [Act.eval]) ?_
        refine callM_mono (feed_w VA vc l _ hF.at_.2 hF.below.size hF.at_.1 ⟨q1, q2⟩ (by simp only [List.length_nil]; omega)) ?_
        rintro γ r w ⟨rfl, hfed⟩
        obtain ⟨B0, pv, vs, ps, hv', bad', rv, hB0, rfl, hfd, hown, hpays, hspl, hsave⟩ := hfed
        have hfe := fed_eq hfd
        rw [show fed1 ([], false) l = cutS l by simp [fed1], ← HL.out, HCUT.out] at hfe
        obtain ⟨rfl, rfl, rfl⟩ : ps = ls ∧ hv' = (frameB la).take rr ∧ bad' = false := by simpa using hfe
        obtain ⟨PA, pc, rfl, hp1, hp2, hrows⟩ := rows_of hown hpays
        replace hF : HG w0 (fun w => RowsB w PA ps ∧ Spl w0.heap.size sp ((frameB la).take rr) false rv w) w := ⟨hF.below.trans (hsave.below hF.at_.2.ge hF.below.size), ⟨hrows, hspl⟩, (stB_rows _ _).and stB_spl⟩
        clear hfd hfe hown hpays hspl hsave hrows
        try walk_nrm
        refine opsN_k KK rfl (by rfl) (by rfl) ?_
        intro _ hR C hC
        replace hF := HG.rely hF hR
        clear hR
        go_simp
        refine hC _ _ ?_
        clear hC C
        try walk_nrm
        refine opsN_k KK rfl (by rfl) (by rfl) ?_
        intro _ hR C hC
        replace hF := HG.rely hF hR
        clear hR
        go_simp
        refine hC _ _ ?_
        clear hC C
        try walk_nrm
        refine opsN_k KK rfl (by rfl) (by rfl) ?_
        intro _ hR C hC
        replace hF := HG.rely hF hR
        clear hR
        go_simp
        refine hC _ _ ?_
        clear hC C
        try walk_nrm
        refine opsN_k KK rfl (by rfl) (by rfl) ?_
        intro _ hR C hC
        replace hF := HG.rely hF hR
        clear hR
        go_simp
        refine hC _ _ ?_
        clear hC C
        try walk_nrm
        refine opsN_k KK rfl (by rfl) (by rfl) ?_
        intro _ hR C hC
        replace hF := HG.rely hF hR
        clear hR
        go_simp
        refine hC _ _ ?_
        clear hC C
        try walk_nrm
        refine opsM_nil KK ?_
        try simp only [thenM, Exit.inBlock, if_true, if_false, reduceIte, Nat.reduceEqDiff]
        refine wpM_seq KK ?_
        refine wpM_region KK ?_
        simp only [List.size_toArray, List.length_cons, List.length_nil, Nat.reduceAdd, Nat.zero_add, List.range, List.range.loop]
        refine opsN_k KK rfl (by rfl) (by rfl) ?_
        intro _ hR C hC
        replace hF := HG.rely hF hR
        clear hR
        go_simp
        refine hC _ _ ?_
        clear hC C
        try walk_nrm
        refine opsN_k KK rfl (by rfl) (by rfl) ?_
        intro _ hR C hC
        replace hF := HG.rely hF hR
        clear hR
        go_simp
        refine hC _ _ ?_
        clear hC C
        try walk_nrm
        refine opsN_k KK rfl (by rfl) (by rfl) ?_
        intro _ hR C hC
        replace hF := HG.rely hF hR
        clear hR
        go_simp
        refine hC _ _ ?_
        clear hC C
        try walk_nrm
        refine opsN_k KK rfl (by rfl) (by rfl) ?_
        intro _ hR C hC
        replace hF := HG.rely hF hR
        clear hR
        go_simp
        refine hC _ _ ?_
        clear hC C
        try walk_nrm
        refine opsN_k KK rfl (by rfl) (by rfl) ?_
        intro _ hR C hC
        replace hF := HG.rely hF hR
        clear hR
        go_simp
        refine hC _ _ ?_
        clear hC C
        try walk_nrm
        refine opsM_fcall KK (vals := #[.slice PA ps.length pc, .slice A ps.length cc]) rfl (by rfl) rfl Tryd.func10 (by rfl) rfl (by simp [Act.eval]) ?_
        refine callM_mono (same_m PA A pc cc ps ps _ (by omega) hF.at_.1 (rowsB_below hF.below HA.out)) ?_
        rintro γ x w ⟨rfl, hv1, hd⟩
        rw [beq_self_eq_true] at hv1
        subst hv1
        replace hF := hF.rely hd
        clear hd
        try walk_nrm
        refine opsN_k KK rfl (by rfl) (by rfl) ?_
        intro _ hR C hC
        replace hF := HG.rely hF hR
        clear hR
        go_simp
        refine hC _ _ ?_
        clear hC C
        try walk_nrm
        refine opsN_k KK rfl (by rfl) (by rfl) ?_
        intro _ hR C hC
        replace hF := HG.rely hF hR
        clear hR
        go_simp
        refine hC _ _ ?_
        clear hC C
        try walk_nrm
        refine opsN_k KK rfl (by rfl) (by rfl) ?_
        intro _ hR C hC
        replace hF := HG.rely hF hR
        clear hR
        go_simp
        refine hC _ _ ?_
        clear hC C
        try walk_nrm
        refine opsM_fcall KK (vals := #[.pointer (some ⟨sp, 0, none⟩)]) rfl (by rfl) rfl Tryd.func11 (by rfl) rfl (by simp [Act.eval]) ?_
        refine callM_mono (waiting_spl _ hF.at_.2) ?_
        rintro γ x w ⟨rfl, rfl, hB⟩
        rw [HPLE.out]
        replace hF := hF.next hB
        clear hB
        have nn : (((rr : Nat) : Int) == ((rr : Nat) : Int)) = true := by simp
        try walk_nrm
        refine opsN_k KK rfl (by rfl) (by rfl) ?_
        intro _ hR C hC
        replace hF := HG.rely hF hR
        clear hR
        go_simp
        refine hC _ _ ?_
        clear hC C
        try walk_nrm
        refine opsN_k KK rfl (by rfl) (by rfl) ?_
        intro _ hR C hC
        replace hF := HG.rely hF hR
        clear hR
        go_simp
        refine hC _ _ ?_
        clear hC C
        try walk_nrm
        refine opsN_k KK rfl (by rfl) (by rfl) ?_
        intro _ hR C hC
        replace hF := HG.rely hF hR
        clear hR
        go_simp
        refine hC _ _ ?_
        clear hC C
        try walk_nrm
        refine opsN_k KK rfl (by rfl) (by rfl) ?_
        intro _ hR C hC
        replace hF := HG.rely hF hR
        clear hR
        go_simp
        refine hC _ _ ?_
        clear hC C
        try walk_nrm
        refine opsN_k KK rfl (by rfl) (by rfl) ?_
        intro _ hR C hC
        replace hF := HG.rely hF hR
        clear hR
        go_simp
        refine hC _ _ ?_
        clear hC C
        try walk_nrm
        refine opsM_fcall KK (vals := #[.pointer (some ⟨sp, 0, none⟩)]) rfl (by rfl) rfl Tryd.func12 (by rfl) rfl (by simp [Act.eval]) ?_
        refine callM_mono (bad_calls _ hF.at_.2.blk) ?_
        rintro γ x w ⟨rfl, rfl, hB⟩
        replace hF := hF.next hB
        clear hB
        try walk_nrm
        refine opsN_k KK rfl (by rfl) (by rfl) ?_
        intro _ hR C hC
        replace hF := HG.rely hF hR
        clear hR
        go_simp
        refine hC _ _ ?_
        clear hC C
        try walk_nrm
        refine opsN_k KK rfl (by rfl) (by rfl) ?_
        intro _ hR C hC
        replace hF := HG.rely hF hR
        clear hR
        go_simp
        refine hC _ _ ?_
        clear hC C
        try walk_nrm
        refine opsN_k KK rfl (by rfl) (by rfl) ?_
        intro _ hR C hC
        replace hF := HG.rely hF hR
        clear hR
        go_simp
        refine hC _ _ ?_
        clear hC C
        try walk_nrm
        refine opsM_nil KK ?_
        try simp only [thenM, Exit.inBlock, if_true, if_false, reduceIte, Nat.reduceEqDiff]
        refine wpM_ret KK ?_
        try simp only [thenM, Exit.inBlock, if_true, if_false, reduceIte, Nat.reduceEqDiff]
        exact ⟨rfl, .bool true, resultsC_tmp (t := 6) (by rfl) _, rfl, fun d => hpost _ (HG.rely hF ⟨d, rfl⟩).below⟩
      have e2 : decide ((0 : Int) < (la.length : Int)) = false := decide_eq_false (by omega)
      refine opsN_k KK rfl (by rfl) (by rfl) ?_
      intro _ hR C hC
      replace hF := FO.rely hF hR
      clear hR
      go_simp
      refine hC _ _ ?_
      clear hC C
      try walk_nrm
      refine opsM_nil KK ?_
      try simp only [thenM, Exit.inBlock, if_true, if_false, reduceIte, Nat.reduceEqDiff]
      refine wpM_cond KK rfl ?_
      first | simp only [if_true, if_false, reduceIte, Bool.false_eq_true] | fail "COND"
      refine wpM_skip KK ?_
      try simp only [thenM, Exit.inBlock, if_true, if_false, reduceIte, Nat.reduceEqDiff]
      rw [show frames ls = frames ls ++ [] by simp] at hF
      have HPL : Hid (([] : List UInt8).length ≤ 259) := by rw [RowKit.Hid]; decide
      have HPLE : Hid (((([] : List UInt8).length : Nat) : Int) = 0) := by rw [RowKit.Hid]; rfl
      have HCUT := Go.Lib.hid (show cutS (frames ls ++ []) = (ls, [], false) from by
        rw [cut_frames _ ls HK.out, cutS_nil, List.append_nil])
      obtain ⟨l, hl⟩ : ∃ l, frames ls ++ ([] : List UInt8) = l := ⟨_, rfl⟩
      rw [hl] at hF
      have HL := Go.Lib.hid hl
      have hln : l.length ≤ 50331907 := by rw [← hl, List.length_append, frames_length]; have := HT3.out; have := HPL.out; omega
      obtain ⟨rfl, q1, q2⟩ : vn = l.length ∧ l.length ≤ vc ∧ vc ≤ 9223372036854775807 := by
        obtain ⟨A', c', e, p1, p2, _⟩ := own_slice hF.own
        rw [Bs_length] at e p1
        simp only [Value.slice.injEq] at e
        obtain ⟨_, rfl, rfl⟩ := e
        exact ⟨rfl, p1, p2⟩
      clear hl
      refine wpM_seq KK ?_
      refine wpM_region KK ?_
      simp only [List.size_toArray, List.length_cons, List.length_nil, Nat.reduceAdd, Nat.zero_add, List.range, List.range.loop]
      refine opsM_fcall KK (vals := #[]) rfl (by rfl) rfl Tryd.func8 (by rfl) rfl (by simp [Act.eval]) ?_
      refine callM_mono (new_calls _) ?_
      rintro γ v w ⟨rfl, ⟨sp, rfl, hS⟩, hB⟩
      have hFn := hF.next hB
      have hcl : Cells w VA (Bs l) := by
        obtain ⟨A', c', e, p1, p2, h⟩ := own_slice hFn.own
        obtain ⟨rfl, _, _⟩ : VA = A' ∧ _ ∧ _ := by simpa using e
        exact h
      replace hF : HG w0 (fun w => Cells w VA (Bs l) ∧ Spl w0.heap.size sp [] false (.slice none 0 0) w) w := ⟨hFn.below, ⟨hcl, ⟨hS.blk, own_low hS.own hF.below.size, Nat.le_trans hF.below.size hS.ge⟩⟩, (stB_cells _ _).and stB_spl⟩
      clear hFn hcl hS hB
      try walk_nrm
      refine opsN_k KK rfl (by rfl) (by rfl) ?_
      intro _ hR C hC
      replace hF := HG.rely hF hR
      clear hR
      go_simp
      refine hC _ _ ?_
      clear hC C
      try walk_nrm
      refine opsM_nil KK ?_
      try simp only [thenM, Exit.inBlock, if_true, if_false, reduceIte, Nat.reduceEqDiff]
      refine wpM_seq KK ?_
      refine wpM_region KK ?_
      simp only [List.size_toArray, List.length_cons, List.length_nil, Nat.reduceAdd, Nat.zero_add, List.range, List.range.loop]
      refine opsN_k KK rfl (by rfl) (by rfl) ?_
      intro _ hR C hC
      replace hF := HG.rely hF hR
      clear hR
      go_simp
      refine hC _ _ ?_
      clear hC C
      try walk_nrm
      refine opsN_k KK rfl (by rfl) (by rfl) ?_
      intro _ hR C hC
      replace hF := HG.rely hF hR
      clear hR
      go_simp
      refine hC _ _ ?_
      clear hC C
      try walk_nrm
      refine opsM_fcall KK (vals := #[.pointer (some ⟨sp, 0, none⟩), .slice VA l.length vc]) rfl (by rfl) rfl Tryd.func9 (by rfl) rfl (by simp [Act.eval]) ?_
      refine callM_mono (feed_w VA vc l _ hF.at_.2 hF.below.size hF.at_.1 ⟨q1, q2⟩ (by simp only [List.length_nil]; omega)) ?_
      rintro γ r w ⟨rfl, hfed⟩
      obtain ⟨B0, pv, vs, ps, hv', bad', rv, hB0, rfl, hfd, hown, hpays, hspl, hsave⟩ := hfed
      have hfe := fed_eq hfd
      rw [show fed1 ([], false) l = cutS l by simp [fed1], ← HL.out, HCUT.out] at hfe
      obtain ⟨rfl, rfl, rfl⟩ : ps = ls ∧ hv' = ([] : List UInt8) ∧ bad' = false := by simpa using hfe
      obtain ⟨PA, pc, rfl, hp1, hp2, hrows⟩ := rows_of hown hpays
      replace hF : HG w0 (fun w => RowsB w PA ps ∧ Spl w0.heap.size sp (([] : List UInt8)) false rv w) w := ⟨hF.below.trans (hsave.below hF.at_.2.ge hF.below.size), ⟨hrows, hspl⟩, (stB_rows _ _).and stB_spl⟩
      clear hfd hfe hown hpays hspl hsave hrows
      try walk_nrm
      refine opsN_k KK rfl (by rfl) (by rfl) ?_
      intro _ hR C hC
      replace hF := HG.rely hF hR
      clear hR
      go_simp
      refine hC _ _ ?_
      clear hC C
      try walk_nrm
      refine opsN_k KK rfl (by rfl) (by rfl) ?_
      intro _ hR C hC
      replace hF := HG.rely hF hR
      clear hR
      go_simp
      refine hC _ _ ?_
      clear hC C
      try walk_nrm
      refine opsN_k KK rfl (by rfl) (by rfl) ?_
      intro _ hR C hC
      replace hF := HG.rely hF hR
      clear hR
      go_simp
      refine hC _ _ ?_
      clear hC C
      try walk_nrm
      refine opsN_k KK rfl (by rfl) (by rfl) ?_
      intro _ hR C hC
      replace hF := HG.rely hF hR
      clear hR
      go_simp
      refine hC _ _ ?_
      clear hC C
      try walk_nrm
      refine opsN_k KK rfl (by rfl) (by rfl) ?_
      intro _ hR C hC
      replace hF := HG.rely hF hR
      clear hR
      go_simp
      refine hC _ _ ?_
      clear hC C
      try walk_nrm
      refine opsM_nil KK ?_
      try simp only [thenM, Exit.inBlock, if_true, if_false, reduceIte, Nat.reduceEqDiff]
      refine wpM_seq KK ?_
      refine wpM_region KK ?_
      simp only [List.size_toArray, List.length_cons, List.length_nil, Nat.reduceAdd, Nat.zero_add, List.range, List.range.loop]
      refine opsN_k KK rfl (by rfl) (by rfl) ?_
      intro _ hR C hC
      replace hF := HG.rely hF hR
      clear hR
      go_simp
      refine hC _ _ ?_
      clear hC C
      try walk_nrm
      refine opsN_k KK rfl (by rfl) (by rfl) ?_
      intro _ hR C hC
      replace hF := HG.rely hF hR
      clear hR
      go_simp
      refine hC _ _ ?_
      clear hC C
      try walk_nrm
      refine opsN_k KK rfl (by rfl) (by rfl) ?_
      intro _ hR C hC
      replace hF := HG.rely hF hR
      clear hR
      go_simp
      refine hC _ _ ?_
      clear hC C
      try walk_nrm
      refine opsN_k KK rfl (by rfl) (by rfl) ?_
      intro _ hR C hC
      replace hF := HG.rely hF hR
      clear hR
      go_simp
      refine hC _ _ ?_
      clear hC C
      try walk_nrm
      refine opsN_k KK rfl (by rfl) (by rfl) ?_
      intro _ hR C hC
      replace hF := HG.rely hF hR
      clear hR
      go_simp
      refine hC _ _ ?_
      clear hC C
      try walk_nrm
      refine opsM_fcall KK (vals := #[.slice PA ps.length pc, .slice A ps.length cc]) rfl (by rfl) rfl Tryd.func10 (by rfl) rfl (by simp [Act.eval]) ?_
      refine callM_mono (same_m PA A pc cc ps ps _ (by omega) hF.at_.1 (rowsB_below hF.below HA.out)) ?_
      rintro γ x w ⟨rfl, hv1, hd⟩
      rw [beq_self_eq_true] at hv1
      subst hv1
      replace hF := hF.rely hd
      clear hd
      try walk_nrm
      refine opsN_k KK rfl (by rfl) (by rfl) ?_
      intro _ hR C hC
      replace hF := HG.rely hF hR
      clear hR
      go_simp
      refine hC _ _ ?_
      clear hC C
      try walk_nrm
      refine opsN_k KK rfl (by rfl) (by rfl) ?_
      intro _ hR C hC
      replace hF := HG.rely hF hR
      clear hR
      go_simp
      refine hC _ _ ?_
      clear hC C
      try walk_nrm
      refine opsN_k KK rfl (by rfl) (by rfl) ?_
      intro _ hR C hC
      replace hF := HG.rely hF hR
      clear hR
      go_simp
      refine hC _ _ ?_
      clear hC C
      try walk_nrm
      refine opsM_fcall KK (vals := #[.pointer (some ⟨sp, 0, none⟩)]) rfl (by rfl) rfl Tryd.func11 (by rfl) rfl (by simp [Act.eval]) ?_
      refine callM_mono (waiting_spl _ hF.at_.2) ?_
      rintro γ x w ⟨rfl, rfl, hB⟩
      rw [HPLE.out]
      replace hF := hF.next hB
      clear hB
      have nn : (((0 : Nat) : Int) == ((0 : Nat) : Int)) = true := by simp
      try walk_nrm
      refine opsN_k KK rfl (by rfl) (by rfl) ?_
      intro _ hR C hC
      replace hF := HG.rely hF hR
      clear hR
      go_simp
      refine hC _ _ ?_
      clear hC C
      try walk_nrm
      refine opsN_k KK rfl (by rfl) (by rfl) ?_
      intro _ hR C hC
      replace hF := HG.rely hF hR
      clear hR
      go_simp
      refine hC _ _ ?_
      clear hC C
      try walk_nrm
      refine opsN_k KK rfl (by rfl) (by rfl) ?_
      intro _ hR C hC
      replace hF := HG.rely hF hR
      clear hR
      go_simp
      refine hC _ _ ?_
      clear hC C
      try walk_nrm
      refine opsN_k KK rfl (by rfl) (by rfl) ?_
      intro _ hR C hC
      replace hF := HG.rely hF hR
      clear hR
      go_simp
      refine hC _ _ ?_
      clear hC C
      try walk_nrm
      refine opsN_k KK rfl (by rfl) (by rfl) ?_
      intro _ hR C hC
      replace hF := HG.rely hF hR
      clear hR
      go_simp
      refine hC _ _ ?_
      clear hC C
      try walk_nrm
      refine opsM_fcall KK (vals := #[.pointer (some ⟨sp, 0, none⟩)]) rfl (by rfl) rfl Tryd.func12 (by rfl) rfl (by simp [Act.eval]) ?_
      refine callM_mono (bad_calls _ hF.at_.2.blk) ?_
      rintro γ x w ⟨rfl, rfl, hB⟩
      replace hF := hF.next hB
      clear hB
      try walk_nrm
      refine opsN_k KK rfl (by rfl) (by rfl) ?_
      intro _ hR C hC
      replace hF := HG.rely hF hR
      clear hR
      go_simp
      refine hC _ _ ?_
      clear hC C
      try walk_nrm
      refine opsN_k KK rfl (by rfl) (by rfl) ?_
      intro _ hR C hC
      replace hF := HG.rely hF hR
      clear hR
      go_simp
      refine hC _ _ ?_
      clear hC C
      try walk_nrm
      refine opsN_k KK rfl (by rfl) (by rfl) ?_
      intro _ hR C hC
      replace hF := HG.rely hF hR
      clear hR
      go_simp
      refine hC _ _ ?_
      clear hC C
      try walk_nrm
      refine opsM_nil KK ?_
      try simp only [thenM, Exit.inBlock, if_true, if_false, reduceIte, Nat.reduceEqDiff]
      refine wpM_ret KK ?_
      try simp only [thenM, Exit.inBlock, if_true, if_false, reduceIte, Nat.reduceEqDiff]
      exact ⟨rfl, .bool true, resultsC_tmp (t := 6) (by rfl) _, rfl, fun d => hpost _ (HG.rely hF ⟨d, rfl⟩).below⟩
end Go.Proofs.YtngmhkhncimknaaDoor
