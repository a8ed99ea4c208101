/- StreamMemory: the walk of the law. -/
import Derived.Test.YtngmhkhncimknaaStmM4
import Derived.Test.YtngmhkhncimknaaOpen
namespace Go.Proofs.Ytngmhkhncimknaa
open Go Go.Conc Go.RowKit
set_option linter.unusedVariables false
set_option linter.unusedSimpArgs false

theorem fedW2_r {w w' : World} {n0 sp : Nat} {hv : List UInt8} {bad : Bool} {v : Value} {lb : List UInt8} {r : Value} (hf : FedW2 w n0 sp hv bad v lb r w') : ∃ pv b1, r = .tuple #[pv, .bool b1] := by
  obtain ⟨B0, pv, vs, ps, hv', bad', rv, hB, rfl, _⟩ := hf
  exact ⟨_, _, rfl⟩
theorem cells_low {w : World} {A : Option Addr} {l : List UInt8} (h : Cells w A (Bs l)) : 0 < l.length → ∀ a, A = some a → a.block < w.heap.size := fun h0 a ha => by
  obtain ⟨b, o, e, hc⟩ := h (by rw [Bs_length]; exact h0)
  rw [ha] at e
  cases e
  exact World.block_lt_of_cell? w _ (hc 0 (by rw [Bs_length]; exact h0))
/-- .. and the bytes that are handed in -/
structure MG (w0 : World) (sp tp : Nat) (h : List UInt8) (b : Bool) (v u kv wv : Value) (ks us : List Value) (ps : List (List UInt8)) (g : Nat) (given : Value) (gl : List UInt8) (w : World) : Prop where
  m : MS w0 sp tp h b v u kv wv ks us ps w
  giv : Own w w0.heap.size 5 given (Bs gl)
  ne : GNe g v u ks us
structure MX (w0 : World) (sp tp : Nat) (h : List UInt8) (b : Bool) (v u kv wv : Value) (ks us : List Value) (ps : List (List UInt8)) (pv qv : Value) (vs xs : List Value) (qs : List (List UInt8)) (g : Nat) (given : Value) (gl : List UInt8) (w : World) : Prop where
  m : MSR w0 sp tp h b v u kv wv ks us ps pv qv vs xs qs w
  giv : Own w w0.heap.size 5 given (Bs gl)
  ne : GNe g v u (ks ++ vs) (us ++ xs)
section
variable {w0 w w' : World} {sp tp : Nat} {h : List UInt8} {b : Bool} {v u kv wv pv qv given : Value} {ks us vs xs : List Value} {ps qs : List (List UInt8)} {g : Nat} {gl : List UInt8}
theorem MG.rely (H : MG w0 sp tp h b v u kv wv ks us ps g given gl w) (r : ∃ d, w' = w.at d) : MG w0 sp tp h b v u kv wv ks us ps g given gl w' := by
  have h1 := H.m.rely r
  obtain ⟨d, rfl⟩ := r
  exact ⟨h1, H.giv, H.ne⟩
theorem MX.rely (H : MX w0 sp tp h b v u kv wv ks us ps pv qv vs xs qs g given gl w) (r : ∃ d, w' = w.at d) : MX w0 sp tp h b v u kv wv ks us ps pv qv vs xs qs g given gl w' := by
  have h1 := H.m.rely r
  obtain ⟨d, rfl⟩ := r
  exact ⟨h1, H.giv, H.ne⟩
/-- nothing is fed yet -/
theorem MS.start (hb : Below w0.heap.size w0 w) (hs : w.heap[sp]? = some (.cells #[.slice none 0 0, .bool false] 45 (0, 0))) (ht : w.heap[tp]? = some (.cells #[.slice none 0 0, .bool false] 47 (0, 0))) (h1 : w0.heap.size ≤ sp) (h2 : w0.heap.size ≤ tp) :
    MS w0 sp tp [] false (.slice none 0 0) (.slice none 0 0) (.slice none 0 0) (.slice none 0 0) [] [] [] w :=
  ⟨hb, ⟨hs, World.ownsRow_nil _ _ _ 1, h1⟩, ⟨ht, World.ownsRow_nil _ _ _ 1, h2⟩, fun _ => ⟨by decide, .inl (by decide)⟩, World.ownsRow_nil _ _ _ 1, Pays.nil _ _ _, World.ownsRow_nil _ _ _ 1, payR_nil _ _, fun g e => (by cases e), fun x hx => absurd hx (by simp), fun g e => (by cases e)⟩
theorem given_front {gv c : Nat} {lb mk : List UInt8} {n : Nat} (h : Own w w0.heap.size 5 (.slice (some ⟨gv, 0, none⟩) n c) (Bs (lb ++ mk))) : Cells w (some ⟨gv, 0, none⟩) (Bs lb) := by
  obtain ⟨A', c', e1, _, _, hr⟩ := own_slice h
  obtain ⟨rfl, _⟩ : some (⟨gv, 0, none⟩ : Addr) = A' ∧ _ := by simpa using e1
  have := cells_take hr lb.length
  rwa [← Bs_take, List.take_left' rfl] at this
end

theorem fed1_small2 {st : List UInt8 × Bool} {l : List UInt8} {ps : List (List UInt8)} {h : List UInt8} {b : Bool} (hs : st.1.length ≤ 258) (hf : (ps, h, b) = fed1 st l) : ps.length ≤ 258 + l.length := by
  unfold fed1 at hf
  cases hb : st.2 with
  | true =>
    simp only [hb, if_true, Prod.mk.injEq] at hf
    rw [hf.1]; simp
  | false =>
    simp only [hb, Bool.false_eq_true, if_false] at hf
    have h1 := cutS_len _ (st.1 ++ l) rfl
    rw [← hf, List.length_append] at h1
    simp only at h1
    omega
set_option maxRecDepth 100000 in
set_option maxHeartbeats 6400000 in
theorem memory_run {Post : Value → World → Prop} (A : Option Addr) (cc : Nat) (ls : List (List UInt8)) (hL : ls.length ≤ 9223372036854775807) (hP : ∀ l ∈ ls, l.length ≤ 140737488351232) (w0 : World) (hA : RowsB w0 A ls) (hpost : ∀ w', Below w0.heap.size w0 w' → Post (.bool true) w') :
    EndsRun Try.prog Post (solo (G (Frame.enter Try.prog 4 #[.slice A ls.length cc] .normal) []) w0) #[] := by
  have HA := Go.Lib.hid hA
  have HP := Go.Lib.hid hP
  clear hA hP
  have KK := kitF (P := Try.prog) (X := XEnds Try.prog Post) XEnds.back XEnds.at_
  have hF : FA w0 [] w0 := ⟨Below.refl _ _, fun p hp => by cases hp⟩
  refine runs_of_wpM Try.func4 rfl (by kernel_rfl) (by kernel_rfl) ?_
  simp only [Try.ntmps4, List.size_toArray, List.length_cons, List.length_nil, Nat.reduceAdd, Nat.reduceSub, Array.replicate_succ, Array.replicate_zero, List.push_toArray, List.append_toArray, List.nil_append, List.cons_append]
  refine wpM_seq KK ?_
  refine wpM_region KK ?_
  simp only [List.size_toArray, List.length_cons, List.length_nil, Nat.reduceAdd, Nat.zero_add, List.range, List.range.loop]
  refine opsN_k KK rfl (by rfl) (by rfl) ?_
  intro _ hR C hC
  replace hF := FA.rely hF hR
  clear hR
  go_simp
  refine hC _ _ ?_
  clear hC C
  try walk_nrm
  refine opsM_nil KK ?_
  try simp only [thenM, Exit.inBlock, if_true, if_false, reduceIte, Nat.reduceEqDiff]
  refine wpM_seq KK ?_
  refine wpM_seq KK ?_
  refine wpM_region KK ?_
  simp only [List.size_toArray, List.length_cons, List.length_nil, Nat.reduceAdd, Nat.zero_add, List.range, List.range.loop]
  refine opsM_fcall KK (vals := #[]) rfl (by rfl) rfl Try.func7 (by rfl) rfl (by first | rfl | simp) ?_
  refine callM_mono (awake_calls _) ?_
  rintro γ v w ⟨rfl, rfl, hB⟩
  replace hF := hF.next hB
  clear hB
  try walk_nrm
  refine opsN_k KK rfl (by rfl) (by rfl) ?_
  intro _ hR C hC
  replace hF := FA.rely hF hR
  clear hR
  go_simp
  refine hC _ _ ?_
  clear hC C
  try walk_nrm
  refine opsM_nil KK ?_
  try simp only [thenM, Exit.inBlock, if_true, if_false, reduceIte, Nat.reduceEqDiff]
  refine wpM_cond KK rfl ?_
  first | simp only [if_true, if_false, reduceIte, Bool.false_eq_true] | fail "COND"
  refine wpM_skip KK ?_
  try simp only [thenM, Exit.inBlock, if_true, if_false, reduceIte, Nat.reduceEqDiff]
  refine wpM_seq KK ?_
  refine wpM_seq KK ?_
  refine wpM_region KK ?_
  simp only [List.size_toArray, List.length_cons, List.length_nil, Nat.reduceAdd, Nat.zero_add, List.range, List.range.loop]
  refine opsN_k KK rfl (by rfl) (by rfl) ?_
  intro _ hR C hC
  replace hF := FA.rely hF hR
  clear hR
  go_simp
  refine hC _ _ ?_
  clear hC C
  try walk_nrm
  refine opsM_fcall KK (vals := #[.slice A ls.length cc]) rfl (by rfl) rfl Try.func18 (by rfl) rfl (by simp [Act.eval]) ?_
  refine callM_mono (many_calls A cc ls hL HP.out _ (rowsB_below hF.below HA.out)) ?_
  rintro γ v w ⟨rfl, ⟨b, rfl, hb⟩, hB⟩
  replace hF := hF.next hB
  have HM := Go.Lib.hid hb
  clear hB hb
  try walk_nrm
  refine opsM_nil KK ?_
  try simp only [thenM, Exit.inBlock, if_true, if_false, reduceIte, Nat.reduceEqDiff]
  cases b with
  | true =>
    refine wpM_cond KK rfl ?_
    first | simp only [if_true, if_false, reduceIte, Bool.false_eq_true] | fail "COND"
    refine wpM_seq KK ?_
    refine wpM_region KK ?_
    simp only [List.size_toArray, List.length_cons, List.length_nil, Nat.reduceAdd, Nat.zero_add, List.range, List.range.loop]
    refine opsN_k KK rfl (by rfl) (by rfl) ?_
    intro _ hR C hC
    replace hF := FA.rely hF hR
    clear hR
    go_simp
    refine hC _ _ ?_
    clear hC C
    try walk_nrm
    refine opsM_nil KK ?_
    try simp only [thenM, Exit.inBlock, if_true, if_false, reduceIte, Nat.reduceEqDiff]
    refine wpM_ret KK ?_
    try simp only [thenM, Exit.inBlock, if_true, if_false, reduceIte, Nat.reduceEqDiff]
    exact ⟨rfl, .bool true, resultsC_tmp (t := 2) (by rfl) _, rfl, fun d => hpost _ (FA.rely hF ⟨d, rfl⟩).below⟩
  | false =>
  have hM := HM.out rfl
  clear HM
  have hT : totL ls ≤ 16777216 := Nat.le_trans (totL_le ls) hM
  refine wpM_cond KK rfl ?_
  first | simp only [if_true, if_false, reduceIte, Bool.false_eq_true] | fail "COND"
  refine wpM_skip KK ?_
  try simp only [thenM, Exit.inBlock, if_true, if_false, reduceIte, Nat.reduceEqDiff]
  refine wpM_seq KK ?_
  refine wpM_region KK ?_
  simp only [List.size_toArray, List.length_cons, List.length_nil, Nat.reduceAdd, Nat.zero_add, List.range, List.range.loop]
  refine opsM_fcall KK (vals := #[]) rfl (by rfl) rfl Try.func8 (by rfl) rfl (by simp [Act.eval]) ?_
  refine callM_mono (new_calls _) ?_
  rintro γ v w ⟨rfl, ⟨sp, rfl, hS⟩, hB⟩
  have l_sp := Go.Lib.hid (Nat.le_trans hF.below.size hS.ge)
  replace hF := (hF.next hB).add hS.blk
  clear hS hB
  try walk_nrm
  refine opsN_k KK rfl (by rfl) (by rfl) ?_
  intro _ hR C hC
  replace hF := FA.rely hF hR
  clear hR
  go_simp
  refine hC _ _ ?_
  clear hC C
  try walk_nrm
  refine opsM_nil KK ?_
  try simp only [thenM, Exit.inBlock, if_true, if_false, reduceIte, Nat.reduceEqDiff]
  refine wpM_seq KK ?_
  refine wpM_region KK ?_
  simp only [List.size_toArray, List.length_cons, List.length_nil, Nat.reduceAdd, Nat.zero_add, List.range, List.range.loop]
  refine opsM_fcall KK (vals := #[]) rfl (by rfl) rfl Try.func9 (by rfl) rfl (by simp [Act.eval]) ?_
  refine callM_mono (rnew_calls _) ?_
  rintro γ v w ⟨rfl, ⟨tp, rfl, hS⟩, hB⟩
  have hs2 := (hF.next hB).at_ (sp, _) (List.Mem.head _)
  replace hF := MS.start (hF.next hB).below hs2 hS.blk l_sp.out (Nat.le_trans hF.below.size hS.ge)
  clear hs2 hS hB
  try walk_nrm
  refine opsN_k KK rfl (by rfl) (by rfl) ?_
  intro _ hR C hC
  replace hF := MS.rely hF hR
  clear hR
  go_simp
  refine hC _ _ ?_
  clear hC C
  try walk_nrm
  refine opsM_nil KK ?_
  try simp only [thenM, Exit.inBlock, if_true, if_false, reduceIte, Nat.reduceEqDiff]
  refine wpM_seq KK ?_
  refine wpM_seq KK ?_
  refine wpM_region KK ?_
  simp only [List.size_toArray, List.length_cons, List.length_nil, Nat.reduceAdd, Nat.zero_add, List.range, List.range.loop]
  refine opsN_k KK rfl (by rfl) (by rfl) ?_
  intro _ hR C hC
  replace hF := MS.rely hF hR
  clear hR
  go_simp
  refine hC _ _ ?_
  clear hC C
  try walk_nrm
  refine opsN_k KK rfl (by rfl) (by rfl) ?_
  intro _ hR C hC
  replace hF := MS.rely hF hR
  clear hR
  go_simp
  refine hC _ _ ?_
  clear hC C
  try walk_nrm
  refine opsM_nil KK ?_
  try simp only [thenM, Exit.inBlock, if_true, if_false, reduceIte, Nat.reduceEqDiff]
  refine wpM_cond KK rfl ?_
  first | simp only [Option.isNone_some, if_true, if_false, reduceIte, Bool.false_eq_true] | fail "COND"
  refine wpM_skip KK ?_
  try simp only [thenM, Exit.inBlock, if_true, if_false, reduceIte, Nat.reduceEqDiff]
  refine wpM_seq KK ?_
  refine wpM_region KK ?_
  simp only [List.size_toArray, List.length_cons, List.length_nil, Nat.reduceAdd, Nat.zero_add, List.range, List.range.loop]
  refine opsN_k KK rfl (by rfl) (by rfl) ?_
  intro _ hR C hC
  replace hF := MS.rely hF hR
  clear hR
  go_simp
  refine hC _ _ ?_
  clear hC C
  try walk_nrm
  refine opsM_nil KK ?_
  try simp only [thenM, Exit.inBlock, if_true, if_false, reduceIte, Nat.reduceEqDiff]
  refine wpM_seq KK ?_
  refine wpM_region KK ?_
  simp only [List.size_toArray, List.length_cons, List.length_nil, Nat.reduceAdd, Nat.zero_add, List.range, List.range.loop]
  refine opsN_k KK rfl (by rfl) (by rfl) ?_
  intro _ hR C hC
  replace hF := MS.rely hF hR
  clear hR
  go_simp
  refine hC _ _ ?_
  clear hC C
  try walk_nrm
  refine opsM_nil KK ?_
  try simp only [thenM, Exit.inBlock, if_true, if_false, reduceIte, Nat.reduceEqDiff]
  refine wpM_seq KK ?_
  refine wpM_seq KK ?_
  refine wpM_region KK ?_
  simp only [List.size_toArray, List.length_cons, List.length_nil, Nat.reduceAdd, Nat.zero_add, List.range, List.range.loop]
  refine opsN_k KK rfl (by rfl) (by rfl) ?_
  intro _ hR C hC
  replace hF := MS.rely hF hR
  clear hR
  go_simp
  refine hC _ _ ?_
  clear hC C
  try walk_nrm
  refine opsM_nil KK ?_
  try simp only [thenM, Exit.inBlock, if_true, if_false, reduceIte, Nat.reduceEqDiff]
  refine wpM_block KK ?_
  refine wpM_loop KK (fun (γ : Option (Duet × Proto)) (a : Act) (w : World) => ∃ (k : Nat) (h : List UInt8) (bd : Bool) (v : Value) (u : Value) (kv : Value) (wv : Value) (ks : List Value) (us : List Value) (ps : List (List UInt8)) (Fx : Nat → Value), γ = none ∧ a = { tmps := #[.slice A ls.length cc, Fx 1, Fx 2, .pointer (some ⟨sp, 0, none⟩), .pointer (some ⟨tp, 0, none⟩), kv, wv, .int .i64 (k : Int), Fx 8, Fx 9, Fx 10, Fx 11, Fx 12, Fx 13, Fx 14, Fx 15, Fx 16, Fx 17, Fx 18, Fx 19, Fx 20, Fx 21, Fx 22, Fx 23, Fx 24, Fx 25, Fx 26, Fx 27, Fx 28, Fx 29, Fx 30, Fx 31, Fx 32, Fx 33, Fx 34, Fx 35, Fx 36, Fx 37, Fx 38, Fx 39, Fx 40, Fx 41, Fx 42, Fx 43, Fx 44, Fx 45, Fx 46, Fx 47, Fx 48, Fx 49, Fx 50, Fx 51, Fx 52, Fx 53, Fx 54, Fx 55, Fx 56, Fx 57, Fx 58, Fx 59, Fx 60, Fx 61, Fx 62, Fx 63, Fx 64, Fx 65, Fx 66, Fx 67, Fx 68, Fx 69, Fx 70, Fx 71, Fx 72, Fx 73, Fx 74, Fx 75, Fx 76, Fx 77, Fx 78, Fx 79, Fx 80, Fx 81, Fx 82, Fx 83, Fx 84, Fx 85, Fx 86, Fx 87, Fx 88, Fx 89, Fx 90, Fx 91, Fx 92, Fx 93, Fx 94, Fx 95, Fx 96, Fx 97, Fx 98, Fx 99, Fx 100, Fx 101, Fx 102, Fx 103, Fx 104, Fx 105, Fx 106, Fx 107, Fx 108, Fx 109, Fx 110, Fx 111, Fx 112, Fx 113, Fx 114, Fx 115, Fx 116, Fx 117, Fx 118, Fx 119, Fx 120, Fx 121, Fx 122, Fx 123, Fx 124, Fx 125, Fx 126, Fx 127, Fx 128, Fx 129, Fx 130, Fx 131, Fx 132, Fx 133, Fx 134, Fx 135, Fx 136, Fx 137, Fx 138, Fx 139, Fx 140, Fx 141, Fx 142, Fx 143, Fx 144, Fx 145, Fx 146, Fx 147, Fx 148, Fx 149, Fx 150, Fx 151, Fx 152, Fx 153, Fx 154, Fx 155, Fx 156, Fx 157, Fx 158, Fx 159, Fx 160, Fx 161, Fx 162, Fx 163, Fx 164, Fx 165, Fx 166, Fx 167, Fx 168, Fx 169, Fx 170, Fx 171, Fx 172, Fx 173, Fx 174, Fx 175, Fx 176, Fx 177, Fx 178, Fx 179, Fx 180, Fx 181, Fx 182, Fx 183, Fx 184, Fx 185, Fx 186, Fx 187, Fx 188, Fx 189, Fx 190, Fx 191, Fx 192, Fx 193, Fx 194, Fx 195, Fx 196, Fx 197, Fx 198, Fx 199, Fx 200, Fx 201, Fx 202, Fx 203, Fx 204, Fx 205, Fx 206, Fx 207, Fx 208, Fx 209, Fx 210, Fx 211, Fx 212, Fx 213, Fx 214, Fx 215, Fx 216, Fx 217, Fx 218, Fx 219], defers := [] } ∧ k ≤ ls.length ∧ Hid ((ps, h, bd) = runS ([], false) (ls.take k)) ∧ MS w0 sp tp h bd v u kv wv ks us ps w) (fun _ a _ => ls.length - slotN a 7) ?startx ?roundx
  case startx => exact ⟨0, [], false, .slice none 0 0, .slice none 0 0, .slice none 0 0, .slice none 0 0, [], [], [], (fun i => (#[undef, _, _, undef, undef, undef, undef, undef, _, _, _, _, _, _, _, _, _, _, _, _, _, _, _, _, _, _, _, _, _, _, _, _, _, _, _, _, _, _, _, _, _, _, _, _, _, _, _, _, _, _, _, _, _, _, _, _, _, _, _, _, _, _, _, _, _, _, _, _, _, _, _, _, _, _, _, _, _, _, _, _, _, _, _, _, _, _, _, _, _, _, _, _, _, _, _, _, _, _, _, _, _, _, _, _, _, _, _, _, _, _, _, _, _, _, _, _, _, _, _, _, _, _, _, _, _, _, _, _, _, _, _, _, _, _, _, _, _, _, _, _, _, _, _, _, _, _, _, _, _, _, _, _, _, _, _, _, _, _, _, _, _, _, _, _, _, _, _, _, _, _, _, _, _, _, _, _, _, _, _, _, _, _, _, _, _, _, _, _, _, _, _, _, _, _, _, _, _, _, _, _, _, _, _, _, _, _, _, _, _, _, _, _, _, _, _, _, _, _, _, _] : Array Value).getD i undef), rfl, rfl, by omega, rfl, hF⟩
  case roundx =>
      clear hF
      intro γ a w hI
      obtain ⟨k, h, bd, v, u, kv, wv, ks, us, ps, Fx, rfl, rfl, hk, HS, hF⟩ := hI
      have HB0 : Hid (ps.length ≤ 16777216 ∧ h.length ≤ 258) := by
        have h := runS_size (ls.take k)
        rw [← HS.out, flatten_totL] at h
        have h2 := totL_mono ls k
        exact ⟨by have := h.1; simp only at this; omega, h.2⟩
      refine wpM_seq KK ?_
      refine wpM_seq KK ?_
      refine wpM_region KK ?_
      simp only [List.size_toArray, List.length_cons, List.length_nil, Nat.reduceAdd, Nat.zero_add, List.range, List.range.loop]
      by_cases hlt : k < ls.length
      · have e1 : decide ((k : Int) < (ls.length : Int)) = true := decide_eq_true (by omega)
        have i1 : (k : Int) < (ls.length : Int) := by omega
        have HT := Go.Lib.hid (List.take_append_getElem hlt).symm
        have hz : ls[k].length ≤ 16777216 := by have h1 := totL_take ls k hlt; have h3 := totL_mono ls (k + 1); omega
        obtain ⟨b, o, hAe, A1, c1, hcc, hc1, hr1⟩ := HA.out.row2 k hlt
        have HC := Go.Lib.hid hc1
        have HR := Go.Lib.hid hr1
        clear hc1 hr1 hcc
        generalize ls[k] = lb at *
        subst hAe
        refine opsN_k KK rfl (by rfl) (by rfl) ?_
        intro _ hR C hC
        replace hF := MS.rely hF hR
        clear hR
        go_simp
        refine hC _ _ ?_
        clear hC C
        try walk_nrm
        refine opsN_k KK rfl (by rfl) (by rfl) ?_
        intro _ hR C hC
        replace hF := MS.rely hF hR
        clear hR
        go_simp
        refine hC _ _ ?_
        clear hC C
        try walk_nrm
        refine opsN_k KK rfl (by rfl) (by rfl) ?_
        intro _ hR C hC
        replace hF := MS.rely hF hR
        clear hR
        go_simp
        refine hC _ _ ?_
        clear hC C
        try walk_nrm
        refine opsN_k KK rfl (by rfl) (by rfl) ?_
        intro _ hR C hC
        replace hF := MS.rely hF hR
        clear hR
        go_simp
        refine hC _ _ ?_
        clear hC C
        try walk_nrm
        refine opsM_nil KK ?_
        try simp only [thenM, Exit.inBlock, if_true, if_false, reduceIte, Nat.reduceEqDiff]
        refine wpM_cond KK rfl ?_
        first | simp only [if_true, if_false, reduceIte, Bool.false_eq_true] | fail "COND"
        refine wpM_skip KK ?_
        try simp only [thenM, Exit.inBlock, if_true, if_false, reduceIte, Nat.reduceEqDiff]
        refine wpM_seq KK ?_
        refine wpM_block KK ?_
        refine wpM_seq KK ?_
        refine wpM_region KK ?_
        simp only [List.size_toArray, List.length_cons, List.length_nil, Nat.reduceAdd, Nat.zero_add, List.range, List.range.loop]
        refine opsN_k KK rfl (by rfl) (by rfl) ?_
        intro _ hR C hC
        replace hF := MS.rely hF hR
        clear hR
        go_simp
        refine hC _ _ ?_
        clear hC C
        try walk_nrm
        refine opsN_k KK rfl (by rfl) (by rfl) ?_
        intro _ hR C hC
        replace hF := MS.rely hF hR
        clear hR
        go_simp
        refine hC _ _ ?_
        clear hC C
        try walk_nrm
        refine opsN_k KK rfl (by rfl) (by rfl) ?_
        intro _ hR C hC
        replace hF := MS.rely hF hR
        clear hR
        go_simp
        refine hC _ _ ?_
        clear hC C
        try walk_nrm
        refine opsN_k KK rfl (by rfl) (by rfl) ?_
        intro _ hR C hC
        replace hF := MS.rely hF hR
        clear hR
        have hc := below_cell hF.below HC.out
        go_simp
        refine hC _ _ ?_
        clear hC C
        try walk_nrm
        clear hc
        refine opsM_fcall KK (vals := #[.slice A1 lb.length c1]) rfl (by rfl) rfl Try.func19 (by rfl) rfl (by simp [Act.eval]) ?_
        refine callM_mono (copied_m A1 c1 lb _ hz (cells_below hF.below HR.out)) ?_
        rintro γ x w ⟨rfl, ⟨g, d, rfl, hd1, hd2, ho⟩, hB⟩
        have hne := hF.fresh (own_block ho rfl).1
        replace hF : MG w0 sp tp h bd v u kv wv ks us ps g (.slice (some ⟨g, 0, none⟩) (lb.length + 20) d) (lb ++ marks 20) w := ⟨hF.next hB, own_low ho hF.below.size, hne⟩
        clear hne ho hB
        try walk_nrm
        refine opsN_k KK rfl (by rfl) (by rfl) ?_
        intro _ hR C hC
        replace hF := MG.rely hF hR
        clear hR
        go_simp
        refine hC _ _ ?_
        clear hC C
        try walk_nrm
        refine opsM_nil KK ?_
        try simp only [thenM, Exit.inBlock, if_true, if_false, reduceIte, Nat.reduceEqDiff]
        refine wpM_seq KK ?_
        refine wpM_region KK ?_
        simp only [List.size_toArray, List.length_cons, List.length_nil, Nat.reduceAdd, Nat.zero_add, List.range, List.range.loop]
        refine opsN_k KK rfl (by rfl) (by rfl) ?_
        intro _ hR C hC
        replace hF := MG.rely hF hR
        clear hR
        go_simp
        refine hC _ _ ?_
        clear hC C
        try walk_nrm
        refine opsN_k KK rfl (by rfl) (by rfl) ?_
        intro _ hR C hC
        replace hF := MG.rely hF hR
        clear hR
        go_simp
        refine hC _ _ ?_
        clear hC C
        try walk_nrm
        refine opsM_fcall KK (vals := #[.pointer (some ⟨sp, 0, none⟩), .slice (some ⟨g, 0, none⟩) lb.length d]) rfl (by rfl) rfl Try.func11 (by rfl) rfl (by simp [Act.eval]) ?_
        refine callM_mono (feed_w2 (some ⟨g, 0, none⟩) d lb _ hF.m.spl hF.m.below.size (given_front hF.giv) ⟨by omega, hd2⟩ (by have := HB0.out.2; omega)) ?_
        rintro γ r w ⟨rfl, hfed⟩
        obtain ⟨pv, b1, rfl⟩ := fedW2_r hfed
        replace hF : MSF w0 sp tp h bd v u kv wv ks us ps g (.slice (some ⟨g, 0, none⟩) (lb.length + 20) d) (lb ++ marks 20) lb (.tuple #[pv, .bool b1]) w := ⟨⟨_, hF.m, hfed, (own_block hF.giv rfl).2.1, hF.giv, rfl⟩, hF.ne⟩
        clear hfed
        try walk_nrm
        refine opsN_k KK rfl (by rfl) (by rfl) ?_
        intro _ hR C hC
        replace hF := MSF.rely hF hR
        clear hR
        go_simp
        refine hC _ _ ?_
        clear hC C
        try walk_nrm
        refine opsN_k KK rfl (by rfl) (by rfl) ?_
        intro _ hR C hC
        replace hF := MSF.rely hF hR
        clear hR
        go_simp
        refine hC _ _ ?_
        clear hC C
        try walk_nrm
        refine opsN_k KK rfl (by rfl) (by rfl) ?_
        intro _ hR C hC
        replace hF := MSF.rely hF hR
        clear hR
        go_simp
        refine hC _ _ ?_
        clear hC C
        try walk_nrm
        refine opsN_k KK rfl (by rfl) (by rfl) ?_
        intro _ hR C hC
        replace hF := MSF.rely hF hR
        clear hR
        go_simp
        refine hC _ _ ?_
        clear hC C
        try walk_nrm
        refine opsN_k KK rfl (by rfl) (by rfl) ?_
        intro _ hR C hC
        replace hF := MSF.rely hF hR
        clear hR
        go_simp
        refine hC _ _ ?_
        clear hC C
        try walk_nrm
        refine opsM_nil KK ?_
        try simp only [thenM, Exit.inBlock, if_true, if_false, reduceIte, Nat.reduceEqDiff]
        refine wpM_seq KK ?_
        refine wpM_region KK ?_
        simp only [List.size_toArray, List.length_cons, List.length_nil, Nat.reduceAdd, Nat.zero_add, List.range, List.range.loop]
        refine opsN_k KK rfl (by rfl) (by rfl) ?_
        intro _ hR C hC
        replace hF := MSF.rely hF hR
        clear hR
        go_simp
        refine hC _ _ ?_
        clear hC C
        try walk_nrm
        refine opsN_k KK rfl (by rfl) (by rfl) ?_
        intro _ hR C hC
        replace hF := MSF.rely hF hR
        clear hR
        go_simp
        refine hC _ _ ?_
        clear hC C
        try walk_nrm
        refine opsN_k KK rfl (by rfl) (by rfl) ?_
        intro _ hR C hC
        replace hF := MSF.rely hF hR
        clear hR
        go_simp
        refine hC _ _ ?_
        clear hC C
        try walk_nrm
        refine opsN_k KK rfl (by rfl) (by rfl) ?_
        intro _ hR C hC
        replace hF := MSF.rely hF hR
        clear hR
        go_simp
        refine hC _ _ ?_
        clear hC C
        try walk_nrm
        refine opsN_k KK rfl (by rfl) (by rfl) ?_
        intro _ hR C hC
        replace hF := MSF.rely hF hR
        clear hR
        have hc := below_cell hF.below HC.out
        go_simp
        refine hC _ _ ?_
        clear hC C
        try walk_nrm
        clear hc
        refine opsM_fcall KK (vals := #[.pointer (some ⟨tp, 0, none⟩), .slice A1 lb.length c1]) rfl (by rfl) rfl Try.func12 (by rfl) rfl (by simp [Act.eval]) ?_
        refine callM_mono (refFeed_m w0.heap.size tp _ u h bd A1 lb c1 hF.ref hF.whole (cells_below hF.below HR.out) (cells_low HR.out) hz) ?_
        rintro γ r2 w ⟨rfl, hfed⟩
        obtain ⟨pv2, qv, vs, xs, qs, h', b', v', u', he, rfl, heq, hM2, hG, hN⟩ := hF.rfed hfed
        obtain ⟨rfl, rfl⟩ : pv = pv2 ∧ b1 = b' := by simpa using he
        obtain ⟨PA, pc, rfl⟩ : ∃ A c, pv = .slice A qs.length c := by
              obtain ⟨A, c, e, _⟩ := own_slice hM2.pown
              rw [hM2.len.2.2.1] at e
              exact ⟨A, c, e⟩
        obtain ⟨QA, qc, rfl⟩ : ∃ A c, qv = .slice A qs.length c := by
              obtain ⟨A, c, e, _⟩ := own_slice hM2.qown
              rw [hM2.len.2.2.2] at e
              exact ⟨A, c, e⟩
        replace hF : MX w0 sp tp h' b1 v' u' kv wv ks us ps (.slice PA qs.length pc) (.slice QA qs.length qc) vs xs qs g (.slice (some ⟨g, 0, none⟩) (lb.length + 20) d) (lb ++ marks 20) _ := ⟨hM2, hG, hN⟩
        have HS2 : Hid ((ps ++ qs, h', b1) = runS ([], false) (ls.take (k + 1))) := by
              rw [RowKit.Hid, HT.out, runS_snoc, ← HS.out]
              simp only
              rw [← heq]
        have HSZ : Hid (qs.length ≤ 258 + lb.length) := by
              have := HB0.out.2
              rw [RowKit.Hid]
              exact fed1_small2 this heq
        clear hfed he heq hM2 hG hN
        try walk_nrm
        refine opsN_k KK rfl (by rfl) (by rfl) ?_
        intro _ hR C hC
        replace hF := MX.rely hF hR
        clear hR
        go_simp
        refine hC _ _ ?_
        clear hC C
        try walk_nrm
        refine opsN_k KK rfl (by rfl) (by rfl) ?_
        intro _ hR C hC
        replace hF := MX.rely hF hR
        clear hR
        go_simp
        refine hC _ _ ?_
        clear hC C
        try walk_nrm
        refine opsN_k KK rfl (by rfl) (by rfl) ?_
        intro _ hR C hC
        replace hF := MX.rely hF hR
        clear hR
        go_simp
        refine hC _ _ ?_
        clear hC C
        try walk_nrm
        refine opsN_k KK rfl (by rfl) (by rfl) ?_
        intro _ hR C hC
        replace hF := MX.rely hF hR
        clear hR
        go_simp
        refine hC _ _ ?_
        clear hC C
        try walk_nrm
        refine opsN_k KK rfl (by rfl) (by rfl) ?_
        intro _ hR C hC
        replace hF := MX.rely hF hR
        clear hR
        go_simp
        refine hC _ _ ?_
        clear hC C
        try walk_nrm
        refine opsM_nil KK ?_
        try simp only [thenM, Exit.inBlock, if_true, if_false, reduceIte, Nat.reduceEqDiff]
        refine round_m (F := (fun i => (#[undef, _, _, undef, undef, undef, undef, undef, undef, undef, undef, undef, undef, _, _, _, _, _, _, _, _, _, _, _, _, _, _, _, _, _, _, _, _, _, _, _, _, _, _, _, _, _, _, _, _, _, _, _, _, _, _, _, _, _, _, _, _, _, _, _, _, _, _, _, _, _, _, _, _, _, _, _, _, _, _, _, _, _, _, _, _, _, _, _, _, _, _, _, _, _, _, _, _, _, _, _, _, _, _, _, _, _, _, _, _, _, _, _, _, _, _, _, _, _, _, _, _, _, _, _, _, _, _, _, _, _, _, _, _, _, _, _, _, _, _, _, _, _, _, _, _, _, _, _, _, _, _, _, _, _, _, _, _, _, _, _, _, _, _, _, _, _, _, _, _, _, _, _, _, _, _, _, _, _, _, _, _, _, _, _, _, _, _, _, _, _, _, _, _, _, _, _, _, _, _, _, _, _, _, _, _, _, _, _, _, _, _, _, _, _, _, _, _, _, _, _, _, _, _, _] : Array Value).getD i undef)) (some ⟨b, o, none⟩) ls.length cc k (.pointer (some ⟨sp, 0, none⟩)) (.pointer (some ⟨tp, 0, none⟩)) w0 sp tp h' b1 v' u' kv wv ks us ps PA QA pc qc vs xs qs g d lb A1 c1 b o _ rfl hlt (below_cell hF.m.below HC.out) (cells_below hF.m.below HR.out) (cells_low HR.out) hz ⟨hd1, hd2⟩ hF.m hF.giv hF.ne (by have h1 := hF.m.len; have h2 := HB0.out.1; have h3 := HSZ.out; omega) fun F2 kv2 wv2 w2 hF3 => ?_
        clear hF
        have hF := hF3
        clear hF3
        try simp only [thenM, Exit.inBlock, if_true, if_false, reduceIte, Nat.reduceEqDiff]
        have wk : IntKind.i64.wrap ((k : Int) + 1) = ((k + 1 : Nat) : Int) := by rw [IntKind.wrap_i64]; omega
        refine wpM_region KK ?_
        simp only [List.size_toArray, List.length_cons, List.length_nil, Nat.reduceAdd, Nat.zero_add, List.range, List.range.loop]
        refine opsN_k KK rfl (by rfl) (by rfl) ?_
        intro _ hR C hC
        replace hF := MS.rely hF hR
        clear hR
        go_simp
        refine hC _ _ ?_
        clear hC C
        try walk_nrm
        refine opsN_k KK rfl (by rfl) (by rfl) ?_
        intro _ hR C hC
        replace hF := MS.rely hF hR
        clear hR
        go_simp
        refine hC _ _ ?_
        clear hC C
        try walk_nrm
        refine opsN_k KK rfl (by rfl) (by rfl) ?_
        intro _ hR C hC
        replace hF := MS.rely hF hR
        clear hR
        go_simp
        refine hC _ _ ?_
        clear hC C
        try walk_nrm
        refine opsM_nil KK ?_
        try simp only [thenM, Exit.inBlock, if_true, if_false, reduceIte, Nat.reduceEqDiff]
        refine ⟨⟨k + 1, h', b1, v', u', kv2, wv2, _, _, _, (fun i => (#[undef, _, _, undef, undef, undef, undef, undef, _, _, _, _, _, _, _, _, _, _, _, _, _, _, _, _, _, _, _, _, _, _, _, _, _, _, _, _, _, _, _, _, _, _, _, _, _, _, _, _, _, _, _, _, _, _, _, _, _, _, _, _, _, _, _, _, _, _, _, _, _, _, _, _, _, _, _, _, _, _, _, _, _, _, _, _, _, _, _, _, _, _, _, _, _, _, _, _, _, _, _, _, _, _, _, _, _, _, _, _, _, _, _, _, _, _, _, _, _, _, _, _, _, _, _, _, _, _, _, _, _, _, _, _, _, _, _, _, _, _, _, _, _, _, _, _, _, _, _, _, _, _, _, _, _, _, _, _, _, _, _, _, _, _, _, _, _, _, _, _, _, _, _, _, _, _, _, _, _, _, _, _, _, _, _, _, _, _, _, _, _, _, _, _, _, _, _, _, _, _, _, _, _, _, _, _, _, _, _, _, _, _, _, _, _, _, _, _, _, _, _, _] : Array Value).getD i undef), (by first | rfl | trivial), rfl, by omega, HS2.out, hF⟩, ?_⟩
        show ls.length - ((k : Int) + 1).toNat < ls.length - (k : Int).toNat
        omega
      obtain rfl : k = ls.length := by omega
      have e1 : decide ((ls.length : Int) < (ls.length : Int)) = false := decide_eq_false (by omega)
      refine opsN_k KK rfl (by rfl) (by rfl) ?_
      intro _ hR C hC
      replace hF := MS.rely hF hR
      clear hR
      go_simp
      refine hC _ _ ?_
      clear hC C
      try walk_nrm
      refine opsN_k KK rfl (by rfl) (by rfl) ?_
      intro _ hR C hC
      replace hF := MS.rely hF hR
      clear hR
      go_simp
      refine hC _ _ ?_
      clear hC C
      try walk_nrm
      refine opsN_k KK rfl (by rfl) (by rfl) ?_
      intro _ hR C hC
      replace hF := MS.rely hF hR
      clear hR
      go_simp
      refine hC _ _ ?_
      clear hC C
      try walk_nrm
      refine opsN_k KK rfl (by rfl) (by rfl) ?_
      intro _ hR C hC
      replace hF := MS.rely hF hR
      clear hR
      go_simp
      refine hC _ _ ?_
      clear hC C
      try walk_nrm
      refine opsM_nil KK ?_
      try simp only [thenM, Exit.inBlock, if_true, if_false, reduceIte, Nat.reduceEqDiff]
      refine wpM_cond KK rfl ?_
      first | simp only [if_true, if_false, reduceIte, Bool.false_eq_true] | fail "COND"
      refine wpM_exit KK ?_
      try simp only [thenM, Exit.inBlock, if_true, if_false, reduceIte, Nat.reduceEqDiff]
      obtain ⟨KA, kc, rfl⟩ : ∃ A c, kv = .slice A ps.length c := by
        obtain ⟨A, c, e, _⟩ := own_slice hF.kown
        rw [hF.kpay.len] at e
        exact ⟨A, c, e⟩
      obtain ⟨WA, wc, rfl⟩ : ∃ A c, wv = .slice A ps.length c := by
        obtain ⟨A, c, e, _⟩ := own_slice hF.wown
        rw [hF.wpay.1] at e
        exact ⟨A, c, e⟩
      exact rest_m (F := (fun i => (#[_, _, _, _, _, undef, undef, _, _, _, _, _, _, _, _, _, _, _, _, _, _, _, _, _, _, _, _, _, _, _, _, _, _, _, _, _, _, _, _, _, _, _, _, _, _, _, _, _, _, _, _, _, _, _, _, _, _, _, _, _, _, _, _, _, _, _, _, _, _, _, _, _, _, _, _, _, _, _, _, _, _, _, _, _, _, _, _, _, _, _, _, _, _, _, _, _, _, _, _, _, _, _, _, _, _, _, _, _, _, _, _, _, _, _, _, _, _, _, _, _, _, _, _, _, _, _, _, _, _, _, _, _, _, _, _, _, _, _, _, _, _, _, _, _, _, _, _, _, _, _, _, _, _, _, _, _, _, _, _, _, _, _, _, _, _, _, _, _, _, _, _, _, _, _, _, _, _, _, _, _, _, _, _, _, _, _, _, _, _, _, _, _, _, _, _, _, _, _, _, _, _, _, _, _, _, _, _, _, _, _, _, _, _, _, _, _, _, _, _, _] : Array Value).getD i undef)) w0 sp tp h bd v u KA WA kc wc ks us ps _ hF (by have := HB0.out.1; omega) (fun p hp => by have h2 := HS.out; rw [runS_cut] at h2; have h3 := (cutS_sum _ (ls.take ls.length).flatten rfl).2.2.2.2 p (by rw [← h2]; exact hp); omega) hpost
end Go.Proofs.Ytngmhkhncimknaa
