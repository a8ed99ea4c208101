/- slices.Concat of rows of bytes. -/
import Derived.Test.YtngmhkhncimknaaStmCat
namespace Go.Proofs.Ytngmhkhncimknaa
open Go Go.Conc Go.RowKit
set_option linter.unusedVariables false
set_option linter.unusedSimpArgs false

/-- a row of bytes of the call's own -/
structure FO (w0 : World) (B : Nat) (v : Value) (l : List UInt8) (w : World) : Prop where
  below : Below w0.heap.size w0 w
  own : Own w B 5 v (Bs l)
theorem FO.rely {w0 w w₁ : World} {B : Nat} {v : Value} {l : List UInt8} (h : FO w0 B v l w) (r : ∃ d, w₁ = w.at d) : FO w0 B v l w₁ := by
  obtain ⟨d, rfl⟩ := r
  exact ⟨⟨h.below.os, h.below.tape, h.below.output, h.below.size, h.below.block⟩, h.own⟩
theorem FO.slice {w0 w : World} {B : Nat} {v : Value} {l : List UInt8} (h : FO w0 B v l w) : ∃ A n c, v = .slice A n c := by
  rcases h.own.2 with ⟨h, _⟩ | ⟨_, _, _, h, _⟩ <;> exact ⟨_, _, _, h⟩

/-- the number in a slot -/
def slotN (a : Act) (i : Nat) : Nat := match (a.tmps[i]? : Option Value) with | some (.int _ n) => n.toNat | _ => 0
theorem flat_take (ls : List (List UInt8)) (k : Nat) (hk : k < ls.length) : (ls.take (k + 1)).flatten = (ls.take k).flatten ++ ls[k] := by
  rw [← List.take_append_getElem hk, List.flatten_append]
  simp
theorem flat_le (ls : List (List UInt8)) (k : Nat) : ((ls.take k).flatten).length ≤ ls.flatten.length := by
  have h : ls.flatten = (ls.take k).flatten ++ (ls.drop k).flatten := by rw [← List.flatten_append, List.take_append_drop]
  rw [h]
  simp only [List.length_append]
  omega

set_option maxRecDepth 100000 in
set_option maxHeartbeats 1600000 in
theorem concat_calls {Post : Value → World → Prop} (A : Option Addr) (cc : Nat) (ls : List (List UInt8)) (hL : ls.length ≤ 1000000000) (hT : ls.flatten.length ≤ 1000000000) (w0 : World) (hA : RowsB w0 A ls) :
    callM Try.prog (XF Try.prog (XEnds Try.prog Post)) 21 #[.slice A ls.length cc] (fun γ v w' => γ = none ∧ Own w' w0.heap.size 5 v (Bs ls.flatten) ∧ Below w0.heap.size w0 w') none w0 := by
  have KK := kitF (P := Try.prog) (X := XEnds Try.prog Post) XEnds.back XEnds.at_
  have hF : FA w0 [] w0 := ⟨Below.refl _ _, fun p hp => by cases hp⟩
  have HA := Go.Lib.hid hA
  have HT := Go.Lib.hid hT
  clear hA hT
  refine callM_of_wpM KK Try.func21 rfl ?_
  simp only [Try.ntmps21, List.size_toArray, List.length_cons, List.length_nil, Nat.reduceAdd, Nat.reduceSub, Array.replicate_succ, Array.replicate_zero, List.push_toArray, List.append_toArray, List.nil_append, List.cons_append]
  refine wpM_seq KK ?_
  refine wpM_region KK ?_
  simp only [List.size_toArray, List.length_cons, List.length_nil, Nat.reduceAdd, Nat.zero_add, List.range, List.range.loop]
  refine opsN_k KK rfl (by rfl) (by rfl) ?_
  intro _ hR C hC
  replace hF := FA.rely hF hR
  clear hR
  go_simp
  refine hC _ _ ?_
  clear hC C
  try walk_nrm
  refine opsM_nil KK ?_
  try simp only [thenM, Exit.inBlock, if_true, if_false, reduceIte, Nat.reduceEqDiff]
  refine wpM_seq KK ?_
  refine wpM_region KK ?_
  simp only [List.size_toArray, List.length_cons, List.length_nil, Nat.reduceAdd, Nat.zero_add, List.range, List.range.loop]
  refine opsN_k KK rfl (by rfl) (by rfl) ?_
  intro _ hR C hC
  replace hF := FA.rely hF hR
  clear hR
  go_simp
  refine hC _ _ ?_
  clear hC C
  try walk_nrm
  refine opsM_nil KK ?_
  try simp only [thenM, Exit.inBlock, if_true, if_false, reduceIte, Nat.reduceEqDiff]
  refine wpM_seq KK ?_
  refine wpM_seq KK ?_
  refine wpM_region KK ?_
  simp only [List.size_toArray, List.length_cons, List.length_nil, Nat.reduceAdd, Nat.zero_add, List.range, List.range.loop]
  refine opsN_k KK rfl (by rfl) (by rfl) ?_
  intro _ hR C hC
  replace hF := FA.rely hF hR
  clear hR
  go_simp
  refine hC _ _ ?_
  clear hC C
  try walk_nrm
  refine opsN_k KK rfl (by rfl) (by rfl) ?_
  intro _ hR C hC
  replace hF := FA.rely hF hR
  clear hR
  go_simp
  refine hC _ _ ?_
  clear hC C
  try walk_nrm
  refine opsN_k KK rfl (by rfl) (by rfl) ?_
  intro _ hR C hC
  replace hF := FA.rely hF hR
  clear hR
  go_simp
  refine hC _ _ ?_
  clear hC C
  try walk_nrm
  refine opsM_nil KK ?_
  try simp only [thenM, Exit.inBlock, if_true, if_false, reduceIte, Nat.reduceEqDiff]
  refine wpM_block KK ?_
  refine wpM_loop KK (fun (γ : Option (Duet × Proto)) (a : Act) (w : World) => ∃ (k : Nat) (m : Nat) (x1 x4 x5 x6 x7 x8 x12 x13 x14 x15 x16 x17 x18 x19 x20 x21 x22 x23 x24 x25 x26 x27 x28 x29 x30 x31 x32 x33 x34 x35 : Value), γ = none ∧ a = { tmps := #[.slice A ls.length cc, x1, .slice none 0 0, .int .i64 (m : Int), x4, x5, x6, x7, x8, .slice A ls.length cc, .int .i64 (ls.length : Int), .int .i64 (k : Int), x12, x13, x14, x15, x16, x17, x18, x19, x20, x21, x22, x23, x24, x25, x26, x27, x28, x29, x30, x31, x32, x33, x34, x35], defers := [] } ∧ k ≤ ls.length ∧ Hid (m = ((ls.take k).flatten).length) ∧ FA w0 [] w) (fun _ a _ => ls.length - slotN a 11) ?startx ?roundx
  case startx => exact ⟨0, 0, _, _, _, _, _, _, _, _, _, _, _, _, _, _, _, _, _, _, _, _, _, _, _, _, _, _, _, _, _, _, rfl, rfl, by omega, by simp [RowKit.Hid], hF⟩
  case roundx =>
      clear hF
      intro γ a w hI
      obtain ⟨k, m, x1, x4, x5, x6, x7, x8, x12, x13, x14, x15, x16, x17, x18, x19, x20, x21, x22, x23, x24, x25, x26, x27, x28, x29, x30, x31, x32, x33, x34, x35, rfl, rfl, hk, HM, hF⟩ := hI
      refine wpM_seq KK ?_
      refine wpM_region KK ?_
      simp only [List.size_toArray, List.length_cons, List.length_nil, Nat.reduceAdd, Nat.zero_add, List.range, List.range.loop]
      have hm : m ≤ 1000000000 := by have h1 := flat_le ls k; have h2 := HM.out; have h3 := HT.out; omega
      by_cases hlt : k < ls.length
      · have e1 : decide ((k : Int) < (ls.length : Int)) = true := decide_eq_true (by omega)
        have HT2 := Go.Lib.hid (flat_take ls k hlt)
        have HT3 := Go.Lib.hid (flat_le ls (k + 1))
        obtain ⟨b, o, hAe, A1, c1, hl1, hc1, hr1⟩ := HA.out.row k hlt
        have HC := Go.Lib.hid hc1
        have i1 : (k : Int) < (ls.length : Int) := by omega
        clear hc1 hr1
        have hz : ls[k].length ≤ 1000000000 := by have h2 := congrArg List.length HT2.out; have h3 := HT3.out; have h4 := HT.out; rw [List.length_append] at h2; omega
        have HZ : Hid (m + ls[k].length = ((ls.take (k + 1)).flatten).length) := by have h2 := congrArg List.length HT2.out; rw [List.length_append] at h2; rw [RowKit.Hid, h2, ← HM.out]
        generalize ls[k].length = z at *
        subst hAe
        refine opsN_k KK rfl (by rfl) (by rfl) ?_
        intro _ hR C hC
        replace hF := FA.rely hF hR
        clear hR
        go_simp
        refine hC _ _ ?_
        clear hC C
        try walk_nrm
        refine opsM_nil KK ?_
        try simp only [thenM, Exit.inBlock, if_true, if_false, reduceIte, Nat.reduceEqDiff]
        refine wpM_seq KK ?_
        refine wpM_cond KK rfl ?_
        first | simp only [if_true, if_false, reduceIte, Bool.false_eq_true] | fail "COND"
        refine wpM_skip KK ?_
        try simp only [thenM, Exit.inBlock, if_true, if_false, reduceIte, Nat.reduceEqDiff]
        refine wpM_seq KK ?_
        refine wpM_block KK ?_
        refine wpM_seq KK ?_
        refine wpM_region KK ?_
        simp only [List.size_toArray, List.length_cons, List.length_nil, Nat.reduceAdd, Nat.zero_add, List.range, List.range.loop]
        refine opsN_k KK rfl (by rfl) (by rfl) ?_
        intro _ hR C hC
        replace hF := FA.rely hF hR
        clear hR
        go_simp
        refine hC _ _ ?_
        clear hC C
        try walk_nrm
        refine opsN_k KK rfl (by rfl) (by rfl) ?_
        intro _ hR C hC
        replace hF := FA.rely hF hR
        clear hR
        have hc := below_cell hF.below HC.out
        go_simp
        refine hC _ _ ?_
        clear hC C
        try walk_nrm
        clear hc
        refine opsN_k KK rfl (by rfl) (by rfl) ?_
        intro _ hR C hC
        replace hF := FA.rely hF hR
        clear hR
        go_simp
        refine hC _ _ ?_
        clear hC C
        try walk_nrm
        refine opsM_nil KK ?_
        try simp only [thenM, Exit.inBlock, if_true, if_false, reduceIte, Nat.reduceEqDiff]
        have hz2 : m + z ≤ 1000000000 := by have h1 := HZ.out; have h2 := HT3.out; have h3 := HT.out; omega
        have wz : IntKind.i64.wrap ((m : Int) + (z : Int)) = ((m + z : Nat) : Int) := by rw [IntKind.wrap_i64]; omega
        have dz : decide (((m + z : Nat) : Int) < 0) = false := decide_eq_false (by omega)
        have dz2 : decide ((m : Int) + (z : Int) < 0) = false := decide_eq_false (by omega)
        have wk : IntKind.i64.wrap ((k : Int) + 1) = ((k + 1 : Nat) : Int) := by rw [IntKind.wrap_i64]; omega
        refine wpM_seq KK ?_
        refine wpM_region KK ?_
        simp only [List.size_toArray, List.length_cons, List.length_nil, Nat.reduceAdd, Nat.zero_add, List.range, List.range.loop]
        refine opsN_k KK rfl (by rfl) (by rfl) ?_
        intro _ hR C hC
        replace hF := FA.rely hF hR
        clear hR
        go_simp
        refine hC _ _ ?_
        clear hC C
        try walk_nrm
        refine opsN_k KK rfl (by rfl) (by rfl) ?_
        intro _ hR C hC
        replace hF := FA.rely hF hR
        clear hR
        go_simp
        refine hC _ _ ?_
        clear hC C
        try walk_nrm
        refine opsN_k KK rfl (by rfl) (by rfl) ?_
        intro _ hR C hC
        replace hF := FA.rely hF hR
        clear hR
        go_simp
        refine hC _ _ ?_
        clear hC C
        try walk_nrm
        refine opsN_k KK rfl (by rfl) (by rfl) ?_
        intro _ hR C hC
        replace hF := FA.rely hF hR
        clear hR
        go_simp
        refine hC _ _ ?_
        clear hC C
        try walk_nrm
        refine opsN_k KK rfl (by rfl) (by rfl) ?_
        intro _ hR C hC
        replace hF := FA.rely hF hR
        clear hR
        go_simp
        refine hC _ _ ?_
        clear hC C
        try walk_nrm
        refine opsM_nil KK ?_
        try simp only [thenM, Exit.inBlock, if_true, if_false, reduceIte, Nat.reduceEqDiff]
        refine wpM_seq KK ?_
        refine wpM_region KK ?_
        simp only [List.size_toArray, List.length_cons, List.length_nil, Nat.reduceAdd, Nat.zero_add, List.range, List.range.loop]
        refine opsN_k KK rfl (by rfl) (by rfl) ?_
        intro _ hR C hC
        replace hF := FA.rely hF hR
        clear hR
        go_simp
        refine hC _ _ ?_
        clear hC C
        try walk_nrm
        refine opsN_k KK rfl (by rfl) (by rfl) ?_
        intro _ hR C hC
        replace hF := FA.rely hF hR
        clear hR
        go_simp
        refine hC _ _ ?_
        clear hC C
        try walk_nrm
        refine opsM_nil KK ?_
        try simp only [thenM, Exit.inBlock, if_true, if_false, reduceIte, Nat.reduceEqDiff]
        refine wpM_cond KK rfl ?_
        first | simp only [if_true, if_false, reduceIte, Bool.false_eq_true] | fail "COND"
        refine wpM_skip KK ?_
        try simp only [thenM, Exit.inBlock, if_true, if_false, reduceIte, Nat.reduceEqDiff]
        refine wpM_region KK ?_
        simp only [List.size_toArray, List.length_cons, List.length_nil, Nat.reduceAdd, Nat.zero_add, List.range, List.range.loop]
        refine opsN_k KK rfl (by rfl) (by rfl) ?_
        intro _ hR C hC
        replace hF := FA.rely hF hR
        clear hR
        go_simp
        refine hC _ _ ?_
        clear hC C
        try walk_nrm
        refine opsN_k KK rfl (by rfl) (by rfl) ?_
        intro _ hR C hC
        replace hF := FA.rely hF hR
        clear hR
        go_simp
        refine hC _ _ ?_
        clear hC C
        try walk_nrm
        refine opsM_nil KK ?_
        try simp only [thenM, Exit.inBlock, if_true, if_false, reduceIte, Nat.reduceEqDiff]
        refine ⟨⟨k + 1, m + z, _, _, _, _, _, _, _, _, _, _, _, _, _, _, _, _, _, _, _, _, _, _, _, _, _, _, _, _, _, _, (by first | rfl | trivial), rfl, by omega, HZ.out, hF⟩, ?_⟩
        show ls.length - ((k : Int) + 1).toNat < ls.length - (k : Int).toNat
        omega
      obtain rfl : k = ls.length := by omega
      have e1 : decide ((ls.length : Int) < (ls.length : Int)) = false := decide_eq_false (by omega)
      have HM2 : Hid (m = ls.flatten.length) := by rw [RowKit.Hid, HM.out, List.take_length]
      clear HM hlt
      refine opsN_k KK rfl (by rfl) (by rfl) ?_
      intro _ hR C hC
      replace hF := FA.rely hF hR
      clear hR
      go_simp
      refine hC _ _ ?_
      clear hC C
      try walk_nrm
      refine opsM_nil KK ?_
      try simp only [thenM, Exit.inBlock, if_true, if_false, reduceIte, Nat.reduceEqDiff]
      refine wpM_seq KK ?_
      refine wpM_cond KK rfl ?_
      first | simp only [if_true, if_false, reduceIte, Bool.false_eq_true] | fail "COND"
      refine wpM_exit KK ?_
      try simp only [thenM, Exit.inBlock, if_true, if_false, reduceIte, Nat.reduceEqDiff]
      refine wpM_seq KK ?_
      refine wpM_region KK ?_
      simp only [List.size_toArray, List.length_cons, List.length_nil, Nat.reduceAdd, Nat.zero_add, List.range, List.range.loop]
      refine opsN_k KK rfl (by rfl) (by rfl) ?_
      intro _ hR C hC
      replace hF := FA.rely hF hR
      clear hR
      go_simp
      refine hC _ _ ?_
      clear hC C
      try walk_nrm
      refine opsM_fcall KK (vals := #[.slice none 0 0, .int .i64 (m : Int)]) rfl (by rfl) rfl Try.func25 (by rfl) rfl (by simp [Act.eval]) ?_
      rename_i V1
      have hn0 := Go.Lib.hid hF.below
      refine callM_mono (grow_calls m hm V1) ?_
      rintro γ v w ⟨rfl, hO, hB⟩
      have hF : FO w0 w0.heap.size v [] w := ⟨hn0.out.trans (hB.mono hn0.out.size), own_low hO hn0.out.size⟩
      obtain ⟨VA, vn, vc, rfl⟩ := hF.slice
      clear hO hB hn0
      try walk_nrm
      refine opsN_k KK rfl (by rfl) (by rfl) ?_
      intro _ hR C hC
      replace hF := FO.rely hF hR
      clear hR
      go_simp
      refine hC _ _ ?_
      clear hC C
      try walk_nrm
      refine opsM_nil KK ?_
      try simp only [thenM, Exit.inBlock, if_true, if_false, reduceIte, Nat.reduceEqDiff]
      refine wpM_seq KK ?_
      refine wpM_seq KK ?_
      refine wpM_region KK ?_
      simp only [List.size_toArray, List.length_cons, List.length_nil, Nat.reduceAdd, Nat.zero_add, List.range, List.range.loop]
      refine opsN_k KK rfl (by rfl) (by rfl) ?_
      intro _ hR C hC
      replace hF := FO.rely hF hR
      clear hR
      go_simp
      refine hC _ _ ?_
      clear hC C
      try walk_nrm
      refine opsN_k KK rfl (by rfl) (by rfl) ?_
      intro _ hR C hC
      replace hF := FO.rely hF hR
      clear hR
      go_simp
      refine hC _ _ ?_
      clear hC C
      try walk_nrm
      refine opsN_k KK rfl (by rfl) (by rfl) ?_
      intro _ hR C hC
      replace hF := FO.rely hF hR
      clear hR
      go_simp
      refine hC _ _ ?_
      clear hC C
      try walk_nrm
      refine opsM_nil KK ?_
      try simp only [thenM, Exit.inBlock, if_true, if_false, reduceIte, Nat.reduceEqDiff]
      refine wpM_block KK ?_
      refine wpM_loop KK (fun (γ : Option (Duet × Proto)) (a : Act) (w : World) => ∃ (k : Nat) (VA : Option Addr) (vn : Nat) (vc : Nat) (y1 y2 y3 y4 y5 y7 y8 y9 y10 y11 y12 y13 y14 y15 y16 y17 y18 y19 y20 y21 y22 y23 y24 y28 y29 y30 y31 y32 y33 y34 y35 : Value), γ = none ∧ a = { tmps := #[.slice A ls.length cc, y1, y2, y3, y4, y5, .slice VA vn vc, y7, y8, y9, y10, y11, y12, y13, y14, y15, y16, y17, y18, y19, y20, y21, y22, y23, y24, .slice A ls.length cc, .int .i64 (ls.length : Int), .int .i64 (k : Int), y28, y29, y30, y31, y32, y33, y34, y35], defers := [] } ∧ k ≤ ls.length ∧ FO w0 w0.heap.size (.slice VA vn vc) ((ls.take k).flatten) w) (fun _ a _ => ls.length - slotN a 27) ?starty ?roundy
      case starty => exact ⟨0, VA, vn, vc, _, _, _, _, _, _, _, _, _, _, _, _, _, _, _, _, _, _, _, _, _, _, _, _, _, _, _, _, _, _, _, rfl, rfl, by omega, by simpa using hF⟩
      case roundy =>
          clear hF hm HM2
          intro γ a w hI
          obtain ⟨k, VA, vn, vc, y1, y2, y3, y4, y5, y7, y8, y9, y10, y11, y12, y13, y14, y15, y16, y17, y18, y19, y20, y21, y22, y23, y24, y28, y29, y30, y31, y32, y33, y34, y35, rfl, rfl, hk, hF⟩ := hI
          refine wpM_seq KK ?_
          refine wpM_region KK ?_
          simp only [List.size_toArray, List.length_cons, List.length_nil, Nat.reduceAdd, Nat.zero_add, List.range, List.range.loop]
          by_cases hlt : k < ls.length
          · have e1 : decide ((k : Int) < (ls.length : Int)) = true := decide_eq_true (by omega)
            have HT2 := Go.Lib.hid (flat_take ls k hlt)
            have HT3 := Go.Lib.hid (flat_le ls (k + 1))
            obtain ⟨b, o, hAe, A1, c1, hl1, hc1, hr1⟩ := HA.out.row k hlt
            have HC := Go.Lib.hid hc1
            have HR := Go.Lib.hid hr1
            have i1 : (k : Int) < (ls.length : Int) := by omega
            clear hc1 hr1
            have wk : IntKind.i64.wrap ((k : Int) + 1) = ((k + 1 : Nat) : Int) := by rw [IntKind.wrap_i64]; omega
            have HS : Hid (((ls.take k).flatten).length + ls[k].length ≤ 1000000000) := by have h2 := congrArg List.length HT2.out; have h3 := HT3.out; have h4 := HT.out; rw [List.length_append] at h2; rw [RowKit.Hid]; omega
            generalize ls[k] = z at *
            subst hAe
            refine opsN_k KK rfl (by rfl) (by rfl) ?_
            intro _ hR C hC
            replace hF := FO.rely hF hR
            clear hR
            go_simp
            refine hC _ _ ?_
            clear hC C
            try walk_nrm
            refine opsM_nil KK ?_
            try simp only [thenM, Exit.inBlock, if_true, if_false, reduceIte, Nat.reduceEqDiff]
            refine wpM_seq KK ?_
            refine wpM_cond KK rfl ?_
            first | simp only [if_true, if_false, reduceIte, Bool.false_eq_true] | fail "COND"
            refine wpM_skip KK ?_
            try simp only [thenM, Exit.inBlock, if_true, if_false, reduceIte, Nat.reduceEqDiff]
            refine wpM_seq KK ?_
            refine wpM_block KK ?_
            refine wpM_seq KK ?_
            refine wpM_region KK ?_
            simp only [List.size_toArray, List.length_cons, List.length_nil, Nat.reduceAdd, Nat.zero_add, List.range, List.range.loop]
            refine opsN_k KK rfl (by rfl) (by rfl) ?_
            intro _ hR C hC
            replace hF := FO.rely hF hR
            clear hR
            go_simp
            refine hC _ _ ?_
            clear hC C
            try walk_nrm
            refine opsN_k KK rfl (by rfl) (by rfl) ?_
            intro _ hR C hC
            replace hF := FO.rely hF hR
            clear hR
            have hc := below_cell hF.below HC.out
            go_simp
            refine hC _ _ ?_
            clear hC C
            try walk_nrm
            clear hc
            refine opsN_k KK rfl (by rfl) (by rfl) ?_
            intro _ hR C hC
            replace hF := FO.rely hF hR
            clear hR
            go_simp
            refine hC _ _ ?_
            clear hC C
            try walk_nrm
            refine opsM_nil KK ?_
            try simp only [thenM, Exit.inBlock, if_true, if_false, reduceIte, Nat.reduceEqDiff]
            refine wpM_region KK ?_
            simp only [List.size_toArray, List.length_cons, List.length_nil, Nat.reduceAdd, Nat.zero_add, List.range, List.range.loop]
            refine opsN_k KK rfl (by rfl) (by rfl) ?_
            intro _ hR C hC
            replace hF := FO.rely hF hR
            clear hR
            go_simp
            refine hC _ _ ?_
            clear hC C
            try walk_nrm
            refine opsN_k KK rfl (by rfl) (by rfl) ?_
            intro _ hR C hC
            replace hF := FO.rely hF hR
            clear hR
            go_simp
            refine hC _ _ ?_
            clear hC C
            try walk_nrm
            refine opsN_k KK rfl (by rfl) (by rfl) ?_
            intro w1 hR C hC
            replace hF := FO.rely hF hR
            clear hR
            obtain ⟨v', w', hr, ho, hg⟩ := run_append_bytes (P := Try.prog) w1 w0.heap.size 30 30 5 (by kernel_rfl) (by kernel_rfl) (.slice VA vn vc) ((ls.take k).flatten) z A1 c1 hF.own (cells_below hF.below HR.out) (by have := HS.out; omega) hF.below.size
            rw [← HT2.out] at ho
            replace hF : FO w0 w0.heap.size v' ((ls.take (k + 1)).flatten) w' := ⟨below_grown hF.below hF.own hg (Nat.le_refl _) hF.below.size, ho⟩
            obtain ⟨nA, nn, nc, rfl⟩ := hF.slice
            refine uponK_append _ _ _ rfl rfl rfl hr (hC _ _ ?_)
            clear hC C
            clear hr ho hg
            try walk_nrm
            refine opsN_k KK rfl (by rfl) (by rfl) ?_
            intro _ hR C hC
            replace hF := FO.rely hF hR
            clear hR
            go_simp
            refine hC _ _ ?_
            clear hC C
            try walk_nrm
            refine opsM_nil KK ?_
            try simp only [thenM, Exit.inBlock, if_true, if_false, reduceIte, Nat.reduceEqDiff]
            refine wpM_region KK ?_
            simp only [List.size_toArray, List.length_cons, List.length_nil, Nat.reduceAdd, Nat.zero_add, List.range, List.range.loop]
            refine opsN_k KK rfl (by rfl) (by rfl) ?_
            intro _ hR C hC
            replace hF := FO.rely hF hR
            clear hR
            go_simp
            refine hC _ _ ?_
            clear hC C
            try walk_nrm
            refine opsN_k KK rfl (by rfl) (by rfl) ?_
            intro _ hR C hC
            replace hF := FO.rely hF hR
            clear hR
            go_simp
            refine hC _ _ ?_
            clear hC C
            try walk_nrm
            refine opsM_nil KK ?_
            try simp only [thenM, Exit.inBlock, if_true, if_false, reduceIte, Nat.reduceEqDiff]
            refine ⟨⟨k + 1, nA, nn, nc, _, _, _, _, _, _, _, _, _, _, _, _, _, _, _, _, _, _, _, _, _, _, _, _, _, _, _, _, _, _, _, (by first | rfl | trivial), rfl, by omega, hF⟩, ?_⟩
            show ls.length - ((k : Int) + 1).toNat < ls.length - (k : Int).toNat
            omega
          obtain rfl : k = ls.length := by omega
          have e1 : decide ((ls.length : Int) < (ls.length : Int)) = false := decide_eq_false (by omega)
          rw [List.take_length] at hF
          clear hlt
          refine opsN_k KK rfl (by rfl) (by rfl) ?_
          intro _ hR C hC
          replace hF := FO.rely hF hR
          clear hR
          go_simp
          refine hC _ _ ?_
          clear hC C
          try walk_nrm
          refine opsM_nil KK ?_
          try simp only [thenM, Exit.inBlock, if_true, if_false, reduceIte, Nat.reduceEqDiff]
          refine wpM_seq KK ?_
          refine wpM_cond KK rfl ?_
          first | simp only [if_true, if_false, reduceIte, Bool.false_eq_true] | fail "COND"
          refine wpM_exit KK ?_
          try simp only [thenM, Exit.inBlock, if_true, if_false, reduceIte, Nat.reduceEqDiff]
          refine wpM_seq KK ?_
          refine wpM_region KK ?_
          simp only [List.size_toArray, List.length_cons, List.length_nil, Nat.reduceAdd, Nat.zero_add, List.range, List.range.loop]
          refine opsN_k KK rfl (by rfl) (by rfl) ?_
          intro _ hR C hC
          replace hF := FO.rely hF hR
          clear hR
          go_simp
          refine hC _ _ ?_
          clear hC C
          try walk_nrm
          refine opsN_k KK rfl (by rfl) (by rfl) ?_
          intro _ hR C hC
          replace hF := FO.rely hF hR
          clear hR
          go_simp
          refine hC _ _ ?_
          clear hC C
          try walk_nrm
          refine opsM_nil KK ?_
          try simp only [thenM, Exit.inBlock, if_true, if_false, reduceIte, Nat.reduceEqDiff]
          refine wpM_ret KK ?_
          try simp only [thenM, Exit.inBlock, if_true, if_false, reduceIte, Nat.reduceEqDiff]
          exact ⟨rfl, _, resultsC_tmp (by rfl) _, rfl, by simpa using hF.own, hF.below⟩
end Go.Proofs.Ytngmhkhncimknaa
