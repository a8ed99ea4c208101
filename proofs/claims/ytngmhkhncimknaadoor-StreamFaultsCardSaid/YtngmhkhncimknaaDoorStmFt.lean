/- StreamFaults: the walk of the law. -/
import Derived.Test.YtngmhkhncimknaaDoorStmFrP
import Derived.Test.YtngmhkhncimknaaDoorStmHold
import Derived.Test.YtngmhkhncimknaaDoorStmAny
namespace Go.Proofs.YtngmhkhncimknaaDoor
open Go Go.Conc Go.RowKit
set_option linter.unusedVariables false
set_option linter.unusedSimpArgs false

theorem errF_below {w w' : World} {a1 a2 : Addr} (h : ErrF w a1 a2) (hb : Below w.heap.size w w') : ErrF w' a1 a2 := ⟨below_cell hb h.1, below_cell hb h.2⟩
theorem own_some {w : World} {B e : Nat} {v : Value} {vs : List Value} (h : Own w B e v vs) (h0 : 0 < vs.length) : ∃ g c, v = .slice (some ⟨g, 0, none⟩) vs.length c ∧ vs.length ≤ c ∧ c ≤ 9223372036854775807 ∧ Cells w (some ⟨g, 0, none⟩) vs := by
  rcases h.2 with ⟨_, h1⟩ | ⟨g, cap, cur, rfl, _, _, h3, h4, _⟩
  · omega
  · obtain ⟨A, c, e, _, _, hc⟩ := own_slice h
    obtain ⟨rfl, _⟩ : some (⟨g, 0, none⟩ : Addr) = A ∧ cap = c := by simpa using e
    exact ⟨g, cap, rfl, h3, h4, hc⟩
theorem waiting_spl {Post : Value → World → Prop} {n0 sp : Nat} {hv : List UInt8} {bad : Bool} {v : Value} (w : World) (hs : Spl n0 sp hv bad v w) :
    callM Tryd.prog (XF Tryd.prog (XEnds Tryd.prog Post)) 11 #[.pointer (some ⟨sp, 0, none⟩)] (fun γ v w' => γ = none ∧ v = .int .i64 (hv.length : Int) ∧ Below w.heap.size w w') none w := by
  obtain ⟨A, c, rfl, _⟩ := own_slice hs.own
  have := hs.blk
  rw [Bs_length] at this
  exact waiting_calls w this

/-- code behind a piece of code, with what holds between them -/
theorem wpM_seq_cut {P : Program} {main : Bool} {Γ : Type} {R : Γ → World → World → Prop} {D : Γ → World → World → Array Event → Prop} {X : Γ → Goroutine → World → Prop} (K : KitM P main R D X) {Q : Γ → Exit → Act → World → Prop} {γ : Γ} {a : Act} {w : World} {fn : FuncId} {x y : Code}
    (J : Γ → Act → World → Prop) (hx : wpM P X fn x (thenM J Q) γ a w) (hy : ∀ γ a w, J γ a w → wpM P X fn y Q γ a w) : wpM P X fn (.seq x y) Q γ a w := by
  refine wpM_seq K (wpM_mono hx fun γ' e a' w' q => ?_)
  cases e <;> first | exact hy _ _ _ q | exact q

theorem len_one {fa : List UInt8} (h : fa.length = 1) : ∃ x, fa = [x] := by
  match fa, h with
  | [x], _ => exact ⟨x, rfl⟩
theorem len_two {fa : List UInt8} (h : fa.length = 2) : ∃ x y, fa = [x, y] := by
  match fa, h with
  | [x, y], _ => exact ⟨x, y, rfl⟩
theorem len_three {fa : List UInt8} (h : fa.length = 3) : ∃ x y z, fa = [x, y, z] := by
  match fa, h with
  | [x, y, z], _ => exact ⟨x, y, z, rfl⟩
theorem byte_at {w w' : World} {b o : Nat} {fa : List UInt8} (hb : Below w.heap.size w w') (hc : ∀ i (h : i < (Bs fa).length), w.cell? ⟨b, o + i, none⟩ = some (Bs fa)[i]) (i : Nat) (hi : i < fa.length) : w'.cell? ⟨b, o + i, none⟩ = some (.int .u8 (n8 fa[i])) := by
  have := below_cell hb (hc i (by rw [Bs_length]; exact hi))
  rw [this]
  simp [Bs]

/-- which faults the law speaks of -/
def fOne : List UInt8 → Bool
  | [x] => x != 165
  | _ => false
def fThree : List UInt8 → Bool
  | [x, _, _] => x == 165
  | _ => false
def fBad : List UInt8 → Bool
  | [x, a, b] => x == 165 && (lenN a b == 0 || decide (256 < lenN a b))
  | _ => false
theorem cut_fault {fa : List UInt8} (h : fOne fa = true ∨ fBad fa = true) : (∀ k, k + 1 < fa.length → cutS (fa.take (k + 1)) = ([], fa.take (k + 1), false)) ∧ cutS fa = ([], [], true) := by
  rcases h with h | h
  · match fa, h with
    | [x], h =>
      have hx : x ≠ 165 := by simpa [fOne] using h
      have := cutS_bad (l := [x]) (by simp [frOK, hx])
      exact ⟨fun k hk => by simp at hk, Prod.ext this.1 this.2⟩
  · match fa, h with
    | [x, a, b], h =>
      simp only [fBad, Bool.and_eq_true, beq_iff_eq, Bool.or_eq_true, decide_eq_true_eq] at h
      obtain ⟨rfl, h⟩ := h
      have h3 := cutS_bad (l := [165, a, b]) (by simp [frOK]; omega)
      refine ⟨fun k hk => ?_, Prod.ext h3.1 h3.2⟩
      match k, hk with
      | 0, _ =>
        have := cutS_rest (l := [165]) (by decide) (.inl (by decide))
        exact Prod.ext this.1 this.2
      | 1, _ =>
        have := cutS_rest (l := [165, a]) (by simp [frOK]) (.inl (by simp [frN]))
        exact Prod.ext this.1 this.2
theorem fault_len {fa : List UInt8} (h : fOne fa = true ∨ fBad fa = true) : 1 ≤ fa.length := by
  rcases h with h | h
  · match fa, h with
    | [x], h => simp
  · match fa, h with
    | [x, a, b], h => simp

theorem fBad_of {fa : List UInt8} (h3 : fThree fa = false) : fBad fa = false := by
  match fa, h3 with
  | [], _ => rfl
  | [_], _ => rfl
  | [_, _], _ => rfl
  | [x, _, _], h3 => simp only [fThree] at h3; simp [fBad, h3]
  | _ :: _ :: _ :: _ :: _, _ => rfl
theorem fThree_of {fa : List UInt8} (h3 : fThree fa = true) : ∃ x y z, fa = [x, y, z] := by
  match fa, h3 with
  | [x, y, z], _ => exact ⟨x, y, z, rfl⟩

/-- a feeding that gives nothing -/
theorem AllH.fed0 {w0 w w' : World} {sp : Nat} {hv : List UInt8} {bad : Bool} {v vout : Value} {vs : List Value} {ps : List (List UInt8)} {lb : List UInt8} {r : Value} {hv' : List UInt8} {bad' : Bool} (h : AllH w0 sp hv bad v vout vs ps w) (hf : FedW w w0.heap.size sp hv bad lb r w') (hc : fed1 (hv, bad) lb = ([], hv', bad')) :
    ∃ PA pc rv, r = .tuple #[.slice PA 0 pc, .bool bad'] ∧ AllH w0 sp hv' bad' rv vout vs ps w' := by
  obtain ⟨pv, us, qs, h2, b2, rv, rfl, heq, hP⟩ := h.fed hf
  rw [hc] at heq
  obtain ⟨rfl, rfl, rfl⟩ : qs = [] ∧ h2 = hv' ∧ b2 = bad' := by simpa using heq
  have hu : us = [] := List.eq_nil_of_length_eq_zero (by rw [hP.len.2]; rfl)
  subst hu
  obtain ⟨PA, pc, rfl, _⟩ := own_slice hP.more
  have := hP.pays
  rw [List.append_nil, List.append_nil] at this
  exact ⟨PA, pc, rv, rfl, hP.below, hP.spl, hP.out, this⟩
/-- .. and a frame beside it -/
structure AllC (w0 : World) (sp : Nat) (hv : List UInt8) (bad : Bool) (v vout : Value) (vs : List Value) (ps : List (List UInt8)) (A : Option Addr) (m : List UInt8) (w : World) : Prop where
  h : AllH w0 sp hv bad v vout vs ps w
  c : Cells w A (Bs m)
theorem AllC.rely {w0 w w' : World} {sp : Nat} {hv : List UInt8} {bad : Bool} {v vout : Value} {vs : List Value} {ps : List (List UInt8)} {A : Option Addr} {m : List UInt8} (h : AllC w0 sp hv bad v vout vs ps A m w) (r : ∃ d, w' = w.at d) : AllC w0 sp hv bad v vout vs ps A m w' := by
  have h1 := h.h.rely r
  obtain ⟨d, rfl⟩ := r
  exact ⟨h1, h.c⟩
theorem fed1_frame (p : List UInt8) (h1 : 1 ≤ p.length) (h2 : p.length ≤ 256) : fed1 ([], false) (frameB p) = ([p], [], false) := by
  have := cut_frame p [] h1 h2
  rw [List.append_nil, cutS_nil] at this
  simp only [fed1, Bool.false_eq_true, if_false, List.nil_append]
  exact this
theorem fed1_step {fa : List UInt8} (hc : ∀ k, k + 1 < fa.length → cutS (fa.take (k + 1)) = ([], fa.take (k + 1), false)) (k : Nat) (hk : k + 1 < fa.length) : fed1 (fa.take k, false) [fa[k]] = ([], fa.take (k + 1), false) := by
  simp only [fed1, Bool.false_eq_true, if_false]
  rw [List.take_append_getElem (by omega)]
  exact hc k hk
theorem fed1_last {fa : List UInt8} (hc : cutS fa = ([], [], true)) (h1 : 1 ≤ fa.length) : fed1 (fa.take (fa.length - 1), false) [fa[fa.length - 1]] = ([], [], true) := by
  simp only [fed1, Bool.false_eq_true, if_false]
  rw [List.take_append_getElem (by omega), show fa.length - 1 + 1 = fa.length by omega, List.take_length]
  exact hc
theorem fed1_last2 {fa : List UInt8} (hc : cutS fa = ([], [], true)) (j : Nat) (hj : j + 1 = fa.length) (hlt : j < fa.length) : fed1 (fa.take j, false) [fa[j]] = ([], [], true) := by
  simp only [fed1, Bool.false_eq_true, if_false]
  rw [List.take_append_getElem hlt, hj, List.take_length]
  exact hc
/-- one byte of a row -/
theorem cells_one {w : World} {A : Option Addr} {fa : List UInt8} {c : Nat} (h : Cells w A (Bs fa)) (hc : fa.length ≤ c) (hc2 : c ≤ 9223372036854775807) (k : Nat) (hk : k < fa.length) : Cells w (cutA A c k) (Bs [fa[k]]) := by
  obtain ⟨A', c', e, _, _, h2⟩ := slb_cut h hc hc2 (lo := k) (hi := k + 1) (by omega) (by omega)
  have e2 : (fa.take (k + 1)).drop k = [fa[k]] := by
    rw [List.drop_take, show k + 1 - k = 1 by omega, List.drop_eq_getElem_cons hk]
    rfl
  rw [e2] at h2 e
  obtain ⟨rfl, _⟩ : cutA A c k = A' ∧ _ := by simpa using e
  exact h2

set_option maxRecDepth 100000 in
set_option maxHeartbeats 6400000 in
theorem faults_run {Post : Value → World → Prop} (A : Option Addr) (cc : Nat) (ls : List (List UInt8)) (AF : Option Addr) (cf : Nat) (fa : List UInt8) (AM : Option Addr) (cm : Nat) (mo : List (List UInt8)) (a1 a2 : Addr) (hL : ls.length ≤ 9223372036854775807) (hP : ∀ l ∈ ls, l.length ≤ 140737488351232) (hLM : mo.length ≤ 9223372036854775807) (hMP : ∀ l ∈ mo, l.length ≤ 140737488351232) (hcf : fa.length ≤ cf ∧ cf ≤ 9223372036854775807) (w0 : World) (hA : RowsB w0 A ls) (hFA : Cells w0 AF (Bs fa)) (hM : RowsB w0 AM mo) (hE : ErrF w0 a1 a2) (hpost : ∀ w', Below w0.heap.size w0 w' → Post (.bool true) w') :
    EndsRun Tryd.prog Post (solo (G (Frame.enter Tryd.prog 4 #[.slice A ls.length cc, .slice AF fa.length cf, .slice AM mo.length cm] .normal) []) w0) #[] := by
  have HA := Go.Lib.hid hA
  have HP := Go.Lib.hid hP
  have HFA := Go.Lib.hid hFA
  have HM := Go.Lib.hid hM
  have HMP := Go.Lib.hid hMP
  have HE := Go.Lib.hid hE
  have HCF := Go.Lib.hid hcf
  clear hA hP hFA hM hMP hE hcf
  have KK := kitF (P := Tryd.prog) (X := XEnds Tryd.prog Post) XEnds.back XEnds.at_
  have hF : FA w0 [] w0 := ⟨Below.refl _ _, fun p hp => by cases hp⟩
  refine runs_of_wpM Tryd.func4 rfl (by kernel_rfl) (by kernel_rfl) ?_
  simp only [Tryd.ntmps4, List.size_toArray, List.length_cons, List.length_nil, Nat.reduceAdd, Nat.reduceSub, Array.replicate_succ, Array.replicate_zero, List.push_toArray, List.append_toArray, List.nil_append, List.cons_append]
  refine wpM_seq KK ?_
  refine wpM_region KK ?_
  simp only [List.size_toArray, List.length_cons, List.length_nil, Nat.reduceAdd, Nat.zero_add, List.range, List.range.loop]
  refine opsN_k KK rfl (by rfl) (by rfl) ?_
  intro _ hR C hC
  replace hF := FA.rely hF hR
  clear hR
  go_simp
  refine hC _ _ ?_
  clear hC C
  try walk_nrm
  refine opsM_nil KK ?_
  try simp only [thenM, Exit.inBlock, if_true, if_false, reduceIte, Nat.reduceEqDiff]
  refine wpM_seq KK ?_
  refine wpM_seq KK ?_
  refine wpM_region KK ?_
  simp only [List.size_toArray, List.length_cons, List.length_nil, Nat.reduceAdd, Nat.zero_add, List.range, List.range.loop]
  refine opsM_fcall KK (vals := #[]) rfl (by rfl) rfl Tryd.func5 (by rfl) rfl (by first | rfl | simp) ?_
  refine callM_mono (awake_calls _) ?_
  rintro γ v w ⟨rfl, rfl, hB⟩
  replace hF := hF.next hB
  clear hB
  try walk_nrm
  refine opsN_k KK rfl (by rfl) (by rfl) ?_
  intro _ hR C hC
  replace hF := FA.rely hF hR
  clear hR
  go_simp
  refine hC _ _ ?_
  clear hC C
  try walk_nrm
  refine opsM_nil KK ?_
  try simp only [thenM, Exit.inBlock, if_true, if_false, reduceIte, Nat.reduceEqDiff]
  refine wpM_cond KK rfl ?_
  first | simp only [if_true, if_false, reduceIte, Bool.false_eq_true] | fail "COND"
  refine wpM_skip KK ?_
  try simp only [thenM, Exit.inBlock, if_true, if_false, reduceIte, Nat.reduceEqDiff]
  refine wpM_seq KK ?_
  refine wpM_seq KK ?_
  refine wpM_region KK ?_
  simp only [List.size_toArray, List.length_cons, List.length_nil, Nat.reduceAdd, Nat.zero_add, List.range, List.range.loop]
  refine opsN_k KK rfl (by rfl) (by rfl) ?_
  intro _ hR C hC
  replace hF := FA.rely hF hR
  clear hR
  go_simp
  refine hC _ _ ?_
  clear hC C
  try walk_nrm
  refine opsM_fcall KK (vals := #[.slice A ls.length cc]) rfl (by rfl) rfl Tryd.func6 (by rfl) rfl (by simp [Act.eval]) ?_
  refine callM_mono (many_calls A cc ls hL HP.out _ (rowsB_below hF.below HA.out)) ?_
  rintro γ v w ⟨rfl, ⟨b1, rfl, hb⟩, hB⟩
  replace hF := hF.next hB
  have Hb1 := Go.Lib.hid hb
  clear hB hb
  try walk_nrm
  cases b1 with
  | true =>
    refine opsN_k KK rfl (by rfl) (by rfl) ?_
    intro _ hR C hC
    replace hF := FA.rely hF hR
    clear hR
    go_simp
    refine hC _ _ ?_
    clear hC C
    try walk_nrm
    refine opsM_pass KK rfl (by rfl) ?_
    try walk_nrm
    refine opsM_pass KK rfl (by rfl) ?_
    try walk_nrm
    refine opsN_k KK rfl (by rfl) (by rfl) ?_
    intro _ hR C hC
    replace hF := FA.rely hF hR
    clear hR
    go_simp
    refine hC _ _ ?_
    clear hC C
    try walk_nrm
    refine opsN_k KK rfl (by rfl) (by rfl) ?_
    intro _ hR C hC
    replace hF := FA.rely hF hR
    clear hR
    go_simp
    refine hC _ _ ?_
    clear hC C
    try walk_nrm
    refine opsM_pass KK rfl (by rfl) ?_
    try walk_nrm
    refine opsM_pass KK rfl (by rfl) ?_
    try walk_nrm
    refine opsM_pass KK rfl (by rfl) ?_
    try walk_nrm
    refine opsN_k KK rfl (by rfl) (by rfl) ?_
    intro _ hR C hC
    replace hF := FA.rely hF hR
    clear hR
    go_simp
    refine hC _ _ ?_
    clear hC C
    try walk_nrm
    refine opsN_k KK rfl (by rfl) (by rfl) ?_
    intro _ hR C hC
    replace hF := FA.rely hF hR
    clear hR
    go_simp
    refine hC _ _ ?_
    clear hC C
    try walk_nrm
    refine opsM_pass KK rfl (by rfl) ?_
    try walk_nrm
    refine opsM_pass KK rfl (by rfl) ?_
    try walk_nrm
    refine opsM_pass KK rfl (by rfl) ?_
    try walk_nrm
    refine opsN_k KK rfl (by rfl) (by rfl) ?_
    intro _ hR C hC
    replace hF := FA.rely hF hR
    clear hR
    go_simp
    refine hC _ _ ?_
    clear hC C
    try walk_nrm
    refine opsM_nil KK ?_
    try simp only [thenM, Exit.inBlock, if_true, if_false, reduceIte, Nat.reduceEqDiff]
    refine wpM_cond KK rfl ?_
    first | simp only [if_true, if_false, reduceIte, Bool.false_eq_true] | fail "COND"
    refine wpM_seq KK ?_
    refine wpM_region KK ?_
    simp only [List.size_toArray, List.length_cons, List.length_nil, Nat.reduceAdd, Nat.zero_add, List.range, List.range.loop]
    refine opsN_k KK rfl (by rfl) (by rfl) ?_
    intro _ hR C hC
    replace hF := FA.rely hF hR
    clear hR
    go_simp
    refine hC _ _ ?_
    clear hC C
    try walk_nrm
    refine opsM_nil KK ?_
    try simp only [thenM, Exit.inBlock, if_true, if_false, reduceIte, Nat.reduceEqDiff]
    refine wpM_ret KK ?_
    try simp only [thenM, Exit.inBlock, if_true, if_false, reduceIte, Nat.reduceEqDiff]
    exact ⟨rfl, .bool true, resultsC_tmp (t := 6) (by rfl) _, rfl, fun d => hpost _ (FA.rely hF ⟨d, rfl⟩).below⟩
  | false =>
  have hT1 := Hb1.out rfl
  clear Hb1
  refine opsN_k KK rfl (by rfl) (by rfl) ?_
  intro _ hR C hC
  replace hF := FA.rely hF hR
  clear hR
  go_simp
  refine hC _ _ ?_
  clear hC C
  try walk_nrm
  refine opsN_k KK rfl (by rfl) (by rfl) ?_
  intro _ hR C hC
  replace hF := FA.rely hF hR
  clear hR
  go_simp
  refine hC _ _ ?_
  clear hC C
  try walk_nrm
  refine opsM_fcall KK (vals := #[.slice AM mo.length cm]) rfl (by rfl) rfl Tryd.func6 (by rfl) rfl (by simp [Act.eval]) ?_
  refine callM_mono (many_calls AM cm mo hLM HMP.out _ (rowsB_below hF.below HM.out)) ?_
  rintro γ v w ⟨rfl, ⟨b2, rfl, hb⟩, hB⟩
  replace hF := hF.next hB
  have Hb2 := Go.Lib.hid hb
  clear hB hb
  try walk_nrm
  cases b2 with
  | true =>
    refine opsN_k KK rfl (by rfl) (by rfl) ?_
    intro _ hR C hC
    replace hF := FA.rely hF hR
    clear hR
    go_simp
    refine hC _ _ ?_
    clear hC C
    try walk_nrm
    refine opsN_k KK rfl (by rfl) (by rfl) ?_
    intro _ hR C hC
    replace hF := FA.rely hF hR
    clear hR
    go_simp
    refine hC _ _ ?_
    clear hC C
    try walk_nrm
    refine opsM_pass KK rfl (by rfl) ?_
    try walk_nrm
    refine opsM_pass KK rfl (by rfl) ?_
    try walk_nrm
    refine opsM_pass KK rfl (by rfl) ?_
    try walk_nrm
    refine opsN_k KK rfl (by rfl) (by rfl) ?_
    intro _ hR C hC
    replace hF := FA.rely hF hR
    clear hR
    go_simp
    refine hC _ _ ?_
    clear hC C
    try walk_nrm
    refine opsN_k KK rfl (by rfl) (by rfl) ?_
    intro _ hR C hC
    replace hF := FA.rely hF hR
    clear hR
    go_simp
    refine hC _ _ ?_
    clear hC C
    try walk_nrm
    refine opsM_pass KK rfl (by rfl) ?_
    try walk_nrm
    refine opsM_pass KK rfl (by rfl) ?_
    try walk_nrm
    refine opsM_pass KK rfl (by rfl) ?_
    try walk_nrm
    refine opsN_k KK rfl (by rfl) (by rfl) ?_
    intro _ hR C hC
    replace hF := FA.rely hF hR
    clear hR
    go_simp
    refine hC _ _ ?_
    clear hC C
    try walk_nrm
    refine opsM_nil KK ?_
    try simp only [thenM, Exit.inBlock, if_true, if_false, reduceIte, Nat.reduceEqDiff]
    refine wpM_cond KK rfl ?_
    first | simp only [if_true, if_false, reduceIte, Bool.false_eq_true] | fail "COND"
    refine wpM_seq KK ?_
    refine wpM_region KK ?_
    simp only [List.size_toArray, List.length_cons, List.length_nil, Nat.reduceAdd, Nat.zero_add, List.range, List.range.loop]
    refine opsN_k KK rfl (by rfl) (by rfl) ?_
    intro _ hR C hC
    replace hF := FA.rely hF hR
    clear hR
    go_simp
    refine hC _ _ ?_
    clear hC C
    try walk_nrm
    refine opsM_nil KK ?_
    try simp only [thenM, Exit.inBlock, if_true, if_false, reduceIte, Nat.reduceEqDiff]
    refine wpM_ret KK ?_
    try simp only [thenM, Exit.inBlock, if_true, if_false, reduceIte, Nat.reduceEqDiff]
    exact ⟨rfl, .bool true, resultsC_tmp (t := 6) (by rfl) _, rfl, fun d => hpost _ (FA.rely hF ⟨d, rfl⟩).below⟩
  | false =>
  have hT2 := Hb2.out rfl
  clear Hb2
  by_cases hz : fa.length = 0
  · have z0 : ((fa.length : Int) == 0) = true := beq_iff_eq.2 (by omega)
    refine opsN_k KK rfl (by rfl) (by rfl) ?_
    intro _ hR C hC
    replace hF := FA.rely hF hR
    clear hR
    go_simp
    refine hC _ _ ?_
    clear hC C
    try walk_nrm
    refine opsN_k KK rfl (by rfl) (by rfl) ?_
    intro _ hR C hC
    replace hF := FA.rely hF hR
    clear hR
    go_simp
    refine hC _ _ ?_
    clear hC C
    try walk_nrm
    refine opsN_k KK rfl (by rfl) (by rfl) ?_
    intro _ hR C hC
    replace hF := FA.rely hF hR
    clear hR
    go_simp
    refine hC _ _ ?_
    clear hC C
    try walk_nrm
    refine opsN_k KK rfl (by rfl) (by rfl) ?_
    intro _ hR C hC
    replace hF := FA.rely hF hR
    clear hR
    go_simp
    refine hC _ _ ?_
    clear hC C
    try walk_nrm
    refine opsN_k KK rfl (by rfl) (by rfl) ?_
    intro _ hR C hC
    replace hF := FA.rely hF hR
    clear hR
    go_simp
    refine hC _ _ ?_
    clear hC C
    try walk_nrm
    refine opsN_k KK rfl (by rfl) (by rfl) ?_
    intro _ hR C hC
    replace hF := FA.rely hF hR
    clear hR
    go_simp
    refine hC _ _ ?_
    clear hC C
    try walk_nrm
    refine opsN_k KK rfl (by rfl) (by rfl) ?_
    intro _ hR C hC
    replace hF := FA.rely hF hR
    clear hR
    go_simp
    refine hC _ _ ?_
    clear hC C
    try walk_nrm
    refine opsM_pass KK rfl (by rfl) ?_
    try walk_nrm
    refine opsM_pass KK rfl (by rfl) ?_
    try walk_nrm
    refine opsM_pass KK rfl (by rfl) ?_
    try walk_nrm
    refine opsN_k KK rfl (by rfl) (by rfl) ?_
    intro _ hR C hC
    replace hF := FA.rely hF hR
    clear hR
    go_simp
    refine hC _ _ ?_
    clear hC C
    try walk_nrm
    refine opsM_nil KK ?_
    try simp only [thenM, Exit.inBlock, if_true, if_false, reduceIte, Nat.reduceEqDiff]
    refine wpM_cond KK rfl ?_
    first | simp only [if_true, if_false, reduceIte, Bool.false_eq_true] | fail "COND"
    refine wpM_seq KK ?_
    refine wpM_region KK ?_
    simp only [List.size_toArray, List.length_cons, List.length_nil, Nat.reduceAdd, Nat.zero_add, List.range, List.range.loop]
    refine opsN_k KK rfl (by rfl) (by rfl) ?_
    intro _ hR C hC
    replace hF := FA.rely hF hR
    clear hR
    go_simp
    refine hC _ _ ?_
    clear hC C
    try walk_nrm
    refine opsM_nil KK ?_
    try simp only [thenM, Exit.inBlock, if_true, if_false, reduceIte, Nat.reduceEqDiff]
    refine wpM_ret KK ?_
    try simp only [thenM, Exit.inBlock, if_true, if_false, reduceIte, Nat.reduceEqDiff]
    exact ⟨rfl, .bool true, resultsC_tmp (t := 6) (by rfl) _, rfl, fun d => hpost _ (FA.rely hF ⟨d, rfl⟩).below⟩
  have z0 : ((fa.length : Int) == 0) = false := beq_eq_false_iff_ne.2 (by omega)
  by_cases hg : 3 < fa.length
  · have z1 : decide ((3 : Int) < (fa.length : Int)) = true := decide_eq_true (by omega)
    refine opsN_k KK rfl (by rfl) (by rfl) ?_
    intro _ hR C hC
    replace hF := FA.rely hF hR
    clear hR
    go_simp
    refine hC _ _ ?_
    clear hC C
    try walk_nrm
    refine opsN_k KK rfl (by rfl) (by rfl) ?_
    intro _ hR C hC
    replace hF := FA.rely hF hR
    clear hR
    go_simp
    refine hC _ _ ?_
    clear hC C
    try walk_nrm
    refine opsN_k KK rfl (by rfl) (by rfl) ?_
    intro _ hR C hC
    replace hF := FA.rely hF hR
    clear hR
    go_simp
    refine hC _ _ ?_
    clear hC C
    try walk_nrm
    refine opsN_k KK rfl (by rfl) (by rfl) ?_
    intro _ hR C hC
    replace hF := FA.rely hF hR
    clear hR
    go_simp
    refine hC _ _ ?_
    clear hC C
    try walk_nrm
    refine opsN_k KK rfl (by rfl) (by rfl) ?_
    intro _ hR C hC
    replace hF := FA.rely hF hR
    clear hR
    go_simp
    refine hC _ _ ?_
    clear hC C
    try walk_nrm
    refine opsN_k KK rfl (by rfl) (by rfl) ?_
    intro _ hR C hC
    replace hF := FA.rely hF hR
    clear hR
    go_simp
    refine hC _ _ ?_
    clear hC C
    try walk_nrm
    refine opsN_k KK rfl (by rfl) (by rfl) ?_
    intro _ hR C hC
    replace hF := FA.rely hF hR
    clear hR
    go_simp
    refine hC _ _ ?_
    clear hC C
    try walk_nrm
    refine opsN_k KK rfl (by rfl) (by rfl) ?_
    intro _ hR C hC
    replace hF := FA.rely hF hR
    clear hR
    go_simp
    refine hC _ _ ?_
    clear hC C
    try walk_nrm
    refine opsN_k KK rfl (by rfl) (by rfl) ?_
    intro _ hR C hC
    replace hF := FA.rely hF hR
    clear hR
    go_simp
    refine hC _ _ ?_
    clear hC C
    try walk_nrm
    refine opsN_k KK rfl (by rfl) (by rfl) ?_
    intro _ hR C hC
    replace hF := FA.rely hF hR
    clear hR
    go_simp
    refine hC _ _ ?_
    clear hC C
    try walk_nrm
    refine opsN_k KK rfl (by rfl) (by rfl) ?_
    intro _ hR C hC
    replace hF := FA.rely hF hR
    clear hR
    go_simp
    refine hC _ _ ?_
    clear hC C
    try walk_nrm
    refine opsM_nil KK ?_
    try simp only [thenM, Exit.inBlock, if_true, if_false, reduceIte, Nat.reduceEqDiff]
    refine wpM_cond KK rfl ?_
    first | simp only [if_true, if_false, reduceIte, Bool.false_eq_true] | fail "COND"
    refine wpM_seq KK ?_
    refine wpM_region KK ?_
    simp only [List.size_toArray, List.length_cons, List.length_nil, Nat.reduceAdd, Nat.zero_add, List.range, List.range.loop]
    refine opsN_k KK rfl (by rfl) (by rfl) ?_
    intro _ hR C hC
    replace hF := FA.rely hF hR
    clear hR
    go_simp
    refine hC _ _ ?_
    clear hC C
    try walk_nrm
    refine opsM_nil KK ?_
    try simp only [thenM, Exit.inBlock, if_true, if_false, reduceIte, Nat.reduceEqDiff]
    refine wpM_ret KK ?_
    try simp only [thenM, Exit.inBlock, if_true, if_false, reduceIte, Nat.reduceEqDiff]
    exact ⟨rfl, .bool true, resultsC_tmp (t := 6) (by rfl) _, rfl, fun d => hpost _ (FA.rely hF ⟨d, rfl⟩).below⟩
  have z1 : decide ((3 : Int) < (fa.length : Int)) = false := decide_eq_false (by omega)
  refine opsN_k KK rfl (by rfl) (by rfl) ?_
  intro _ hR C hC
  replace hF := FA.rely hF hR
  clear hR
  go_simp
  refine hC _ _ ?_
  clear hC C
  try walk_nrm
  refine opsN_k KK rfl (by rfl) (by rfl) ?_
  intro _ hR C hC
  replace hF := FA.rely hF hR
  clear hR
  go_simp
  refine hC _ _ ?_
  clear hC C
  try walk_nrm
  refine opsN_k KK rfl (by rfl) (by rfl) ?_
  intro _ hR C hC
  replace hF := FA.rely hF hR
  clear hR
  go_simp
  refine hC _ _ ?_
  clear hC C
  try walk_nrm
  refine opsN_k KK rfl (by rfl) (by rfl) ?_
  intro _ hR C hC
  replace hF := FA.rely hF hR
  clear hR
  go_simp
  refine hC _ _ ?_
  clear hC C
  try walk_nrm
  refine opsN_k KK rfl (by rfl) (by rfl) ?_
  intro _ hR C hC
  replace hF := FA.rely hF hR
  clear hR
  go_simp
  refine hC _ _ ?_
  clear hC C
  try walk_nrm
  refine opsN_k KK rfl (by rfl) (by rfl) ?_
  intro _ hR C hC
  replace hF := FA.rely hF hR
  clear hR
  go_simp
  refine hC _ _ ?_
  clear hC C
  try walk_nrm
  refine opsN_k KK rfl (by rfl) (by rfl) ?_
  intro _ hR C hC
  replace hF := FA.rely hF hR
  clear hR
  go_simp
  refine hC _ _ ?_
  clear hC C
  try walk_nrm
  refine opsN_k KK rfl (by rfl) (by rfl) ?_
  intro _ hR C hC
  replace hF := FA.rely hF hR
  clear hR
  go_simp
  refine hC _ _ ?_
  clear hC C
  try walk_nrm
  refine opsN_k KK rfl (by rfl) (by rfl) ?_
  intro _ hR C hC
  replace hF := FA.rely hF hR
  clear hR
  go_simp
  refine hC _ _ ?_
  clear hC C
  try walk_nrm
  refine opsN_k KK rfl (by rfl) (by rfl) ?_
  intro _ hR C hC
  replace hF := FA.rely hF hR
  clear hR
  go_simp
  refine hC _ _ ?_
  clear hC C
  try walk_nrm
  refine opsN_k KK rfl (by rfl) (by rfl) ?_
  intro _ hR C hC
  replace hF := FA.rely hF hR
  clear hR
  go_simp
  refine hC _ _ ?_
  clear hC C
  try walk_nrm
  refine opsM_nil KK ?_
  try simp only [thenM, Exit.inBlock, if_true, if_false, reduceIte, Nat.reduceEqDiff]
  refine wpM_cond KK rfl ?_
  first | simp only [if_true, if_false, reduceIte, Bool.false_eq_true] | fail "COND"
  refine wpM_skip KK ?_
  try simp only [thenM, Exit.inBlock, if_true, if_false, reduceIte, Nat.reduceEqDiff]
  obtain ⟨fb, fo, rfl, hfc⟩ := HFA.out (by rw [Bs_length]; omega)
  have HFC := Go.Lib.hid hfc
  clear hfc z0 z1
  refine wpM_seq_cut KK (fun (γ : Option (Duet × Proto)) (a : Act) (w : World) => ∃ (Fa : Nat → Value), γ = none ∧ a = { tmps := #[.slice A ls.length cc, .slice (some ⟨fb, fo, none⟩) fa.length cf, .slice AM mo.length cm, Fa 3, Fa 4, Fa 5, Fa 6, .bool (fOne fa), Fa 8, Fa 9, Fa 10, Fa 11, Fa 12, Fa 13, Fa 14, Fa 15, Fa 16, Fa 17, Fa 18, Fa 19, Fa 20, Fa 21, Fa 22, Fa 23, Fa 24, Fa 25, Fa 26, Fa 27, Fa 28, Fa 29, Fa 30, Fa 31, Fa 32, Fa 33, Fa 34, Fa 35, Fa 36, Fa 37, Fa 38, Fa 39, Fa 40, Fa 41, Fa 42, Fa 43, Fa 44, Fa 45, Fa 46, Fa 47, Fa 48, Fa 49, Fa 50, Fa 51, Fa 52, Fa 53, Fa 54, Fa 55, Fa 56, Fa 57, Fa 58, Fa 59, Fa 60, Fa 61, Fa 62, Fa 63, Fa 64, Fa 65, Fa 66, Fa 67, Fa 68, Fa 69, Fa 70, Fa 71, Fa 72, Fa 73, Fa 74, Fa 75, Fa 76, Fa 77, Fa 78, Fa 79, Fa 80, Fa 81, Fa 82, Fa 83, Fa 84, Fa 85, Fa 86, Fa 87, Fa 88, Fa 89, Fa 90, Fa 91, Fa 92, Fa 93, Fa 94, Fa 95, Fa 96, Fa 97, Fa 98, Fa 99, Fa 100, Fa 101, Fa 102, Fa 103, Fa 104, Fa 105, Fa 106, Fa 107, Fa 108, Fa 109, Fa 110, Fa 111, Fa 112, Fa 113, Fa 114, Fa 115, Fa 116, Fa 117, Fa 118, Fa 119, Fa 120, Fa 121, Fa 122, Fa 123, Fa 124, Fa 125, Fa 126, Fa 127, Fa 128, Fa 129, Fa 130, Fa 131, Fa 132, Fa 133, Fa 134, Fa 135, Fa 136, Fa 137, Fa 138, Fa 139, Fa 140, Fa 141, Fa 142, Fa 143, Fa 144, Fa 145, Fa 146, Fa 147, Fa 148, Fa 149, Fa 150, Fa 151, Fa 152, Fa 153, Fa 154, Fa 155, Fa 156, Fa 157, Fa 158, Fa 159, Fa 160, Fa 161, Fa 162, Fa 163, Fa 164, Fa 165, Fa 166, Fa 167, Fa 168, Fa 169, Fa 170, Fa 171, Fa 172, Fa 173, Fa 174, Fa 175, Fa 176, Fa 177, Fa 178, Fa 179, Fa 180, Fa 181, Fa 182, Fa 183, Fa 184, Fa 185, Fa 186, Fa 187, Fa 188, Fa 189, Fa 190, Fa 191, Fa 192, Fa 193, Fa 194, Fa 195, Fa 196, Fa 197, Fa 198, Fa 199, Fa 200, Fa 201, Fa 202, Fa 203, Fa 204, Fa 205, Fa 206, Fa 207, Fa 208, Fa 209, Fa 210, Fa 211, Fa 212, Fa 213, Fa 214], defers := [] } ∧ FA w0 [] w) ?fsta ?snda
  case fsta =>
    rcases (show fa.length = 1 ∨ fa.length = 2 ∨ fa.length = 3 by omega) with h | h | h
    · obtain ⟨x, rfl⟩ := len_one h
      clear h
      refine wpM_region KK ?_
      simp only [List.size_toArray, List.length_cons, List.length_nil, Nat.reduceAdd, Nat.zero_add, List.range, List.range.loop]
      refine opsN_k KK rfl (by rfl) (by rfl) ?_
      intro _ hR C hC
      replace hF := FA.rely hF hR
      clear hR
      go_simp
      refine hC _ _ ?_
      clear hC C
      try walk_nrm
      refine opsN_k KK rfl (by rfl) (by rfl) ?_
      intro _ hR C hC
      replace hF := FA.rely hF hR
      clear hR
      go_simp
      refine hC _ _ ?_
      clear hC C
      try walk_nrm
      refine opsN_k KK rfl (by rfl) (by rfl) ?_
      intro _ hR C hC
      replace hF := FA.rely hF hR
      clear hR
      go_simp
      refine hC _ _ ?_
      clear hC C
      try walk_nrm
      refine opsN_k KK rfl (by rfl) (by rfl) ?_
      intro _ hR C hC
      replace hF := FA.rely hF hR
      clear hR
      go_simp
      refine hC _ _ ?_
      clear hC C
      try walk_nrm
      have hx2 : (n8 x != 165) = (x != 165) := bne_n8 x 165
      refine opsN_k KK rfl (by rfl) (by rfl) ?_
      intro _ hR C hC
      replace hF := FA.rely hF hR
      clear hR
      go_simp
      refine hC _ _ ?_
      clear hC C
      try walk_nrm
      refine opsN_k KK rfl (by rfl) (by rfl) ?_
      intro _ hR C hC
      replace hF := FA.rely hF hR
      clear hR
      go_simp
      refine hC _ _ ?_
      clear hC C
      try walk_nrm
      refine opsN_k KK rfl (by rfl) (by rfl) ?_
      intro _ hR C hC
      replace hF := FA.rely hF hR
      clear hR
      have hc := byte_at hF.below HFC.out 0 (by simp)
      rw [Nat.add_zero] at hc
      replace hc := hc.trans (show _ = some (Value.int .u8 (n8 x)) from rfl)
      go_simp
      refine hC _ _ ?_
      clear hC C
      try walk_nrm
      clear hc
      refine opsN_k KK rfl (by rfl) (by rfl) ?_
      intro _ hR C hC
      replace hF := FA.rely hF hR
      clear hR
      go_simp
      refine hC _ _ ?_
      clear hC C
      try walk_nrm
      refine opsN_k KK rfl (by rfl) (by rfl) ?_
      intro _ hR C hC
      replace hF := FA.rely hF hR
      clear hR
      go_simp
      refine hC _ _ ?_
      clear hC C
      try walk_nrm
      refine opsN_k KK rfl (by rfl) (by rfl) ?_
      intro _ hR C hC
      replace hF := FA.rely hF hR
      clear hR
      go_simp
      refine hC _ _ ?_
      clear hC C
      try walk_nrm
      refine opsM_nil KK ?_
      try simp only [thenM, Exit.inBlock, if_true, if_false, reduceIte, Nat.reduceEqDiff]
      exact ⟨(fun i => (#[undef, undef, undef, _, _, _, _, undef, _, _, _, _, _, _, _, _, _, _, _, _, _, _, _, _, _, _, _, _, _, _, _, _, _, _, _, _, _, _, _, _, _, _, _, _, _, _, _, _, _, _, _, _, _, _, _, _, _, _, _, _, _, _, _, _, _, _, _, _, _, _, _, _, _, _, _, _, _, _, _, _, _, _, _, _, _, _, _, _, _, _, _, _, _, _, _, _, _, _, _, _, _, _, _, _, _, _, _, _, _, _, _, _, _, _, _, _, _, _, _, _, _, _, _, _, _, _, _, _, _, _, _, _, _, _, _, _, _, _, _, _, _, _, _, _, _, _, _, _, _, _, _, _, _, _, _, _, _, _, _, _, _, _, _, _, _, _, _, _, _, _, _, _, _, _, _, _, _, _, _, _, _, _, _, _, _, _, _, _, _, _, _, _, _, _, _, _, _, _, _, _, _, _, _, _, _, _, _, _, _, _, _, _, _, _, _] : Array Value).getD i undef), (by first | rfl | trivial), rfl, hF⟩
    · obtain ⟨x, y, rfl⟩ := len_two h
      clear h
      refine wpM_region KK ?_
      simp only [List.size_toArray, List.length_cons, List.length_nil, Nat.reduceAdd, Nat.zero_add, List.range, List.range.loop]
      refine opsN_k KK rfl (by rfl) (by rfl) ?_
      intro _ hR C hC
      replace hF := FA.rely hF hR
      clear hR
      go_simp
      refine hC _ _ ?_
      clear hC C
      try walk_nrm
      refine opsN_k KK rfl (by rfl) (by rfl) ?_
      intro _ hR C hC
      replace hF := FA.rely hF hR
      clear hR
      go_simp
      refine hC _ _ ?_
      clear hC C
      try walk_nrm
      refine opsN_k KK rfl (by rfl) (by rfl) ?_
      intro _ hR C hC
      replace hF := FA.rely hF hR
      clear hR
      go_simp
      refine hC _ _ ?_
      clear hC C
      try walk_nrm
      refine opsN_k KK rfl (by rfl) (by rfl) ?_
      intro _ hR C hC
      replace hF := FA.rely hF hR
      clear hR
      go_simp
      refine hC _ _ ?_
      clear hC C
      try walk_nrm
      refine opsM_pass KK rfl (by rfl) ?_
      try walk_nrm
      refine opsM_pass KK rfl (by rfl) ?_
      try walk_nrm
      refine opsM_pass KK rfl (by rfl) ?_
      try walk_nrm
      refine opsM_pass KK rfl (by rfl) ?_
      try walk_nrm
      refine opsN_k KK rfl (by rfl) (by rfl) ?_
      intro _ hR C hC
      replace hF := FA.rely hF hR
      clear hR
      go_simp
      refine hC _ _ ?_
      clear hC C
      try walk_nrm
      refine opsN_k KK rfl (by rfl) (by rfl) ?_
      intro _ hR C hC
      replace hF := FA.rely hF hR
      clear hR
      go_simp
      refine hC _ _ ?_
      clear hC C
      try walk_nrm
      refine opsM_nil KK ?_
      try simp only [thenM, Exit.inBlock, if_true, if_false, reduceIte, Nat.reduceEqDiff]
      exact ⟨(fun i => (#[undef, undef, undef, _, _, _, _, undef, _, _, _, _, _, _, _, _, _, _, _, _, _, _, _, _, _, _, _, _, _, _, _, _, _, _, _, _, _, _, _, _, _, _, _, _, _, _, _, _, _, _, _, _, _, _, _, _, _, _, _, _, _, _, _, _, _, _, _, _, _, _, _, _, _, _, _, _, _, _, _, _, _, _, _, _, _, _, _, _, _, _, _, _, _, _, _, _, _, _, _, _, _, _, _, _, _, _, _, _, _, _, _, _, _, _, _, _, _, _, _, _, _, _, _, _, _, _, _, _, _, _, _, _, _, _, _, _, _, _, _, _, _, _, _, _, _, _, _, _, _, _, _, _, _, _, _, _, _, _, _, _, _, _, _, _, _, _, _, _, _, _, _, _, _, _, _, _, _, _, _, _, _, _, _, _, _, _, _, _, _, _, _, _, _, _, _, _, _, _, _, _, _, _, _, _, _, _, _, _, _, _, _, _, _, _, _] : Array Value).getD i undef), (by first | rfl | trivial), rfl, hF⟩
    · obtain ⟨x, y, z, rfl⟩ := len_three h
      clear h
      refine wpM_region KK ?_
      simp only [List.size_toArray, List.length_cons, List.length_nil, Nat.reduceAdd, Nat.zero_add, List.range, List.range.loop]
      refine opsN_k KK rfl (by rfl) (by rfl) ?_
      intro _ hR C hC
      replace hF := FA.rely hF hR
      clear hR
      go_simp
      refine hC _ _ ?_
      clear hC C
      try walk_nrm
      refine opsN_k KK rfl (by rfl) (by rfl) ?_
      intro _ hR C hC
      replace hF := FA.rely hF hR
      clear hR
      go_simp
      refine hC _ _ ?_
      clear hC C
      try walk_nrm
      refine opsN_k KK rfl (by rfl) (by rfl) ?_
      intro _ hR C hC
      replace hF := FA.rely hF hR
      clear hR
      go_simp
      refine hC _ _ ?_
      clear hC C
      try walk_nrm
      refine opsN_k KK rfl (by rfl) (by rfl) ?_
      intro _ hR C hC
      replace hF := FA.rely hF hR
      clear hR
      go_simp
      refine hC _ _ ?_
      clear hC C
      try walk_nrm
      refine opsM_pass KK rfl (by rfl) ?_
      try walk_nrm
      refine opsM_pass KK rfl (by rfl) ?_
      try walk_nrm
      refine opsM_pass KK rfl (by rfl) ?_
      try walk_nrm
      refine opsM_pass KK rfl (by rfl) ?_
      try walk_nrm
      refine opsN_k KK rfl (by rfl) (by rfl) ?_
      intro _ hR C hC
      replace hF := FA.rely hF hR
      clear hR
      go_simp
      refine hC _ _ ?_
      clear hC C
      try walk_nrm
      refine opsN_k KK rfl (by rfl) (by rfl) ?_
      intro _ hR C hC
      replace hF := FA.rely hF hR
      clear hR
      go_simp
      refine hC _ _ ?_
      clear hC C
      try walk_nrm
      refine opsM_nil KK ?_
      try simp only [thenM, Exit.inBlock, if_true, if_false, reduceIte, Nat.reduceEqDiff]
      exact ⟨(fun i => (#[undef, undef, undef, _, _, _, _, undef, _, _, _, _, _, _, _, _, _, _, _, _, _, _, _, _, _, _, _, _, _, _, _, _, _, _, _, _, _, _, _, _, _, _, _, _, _, _, _, _, _, _, _, _, _, _, _, _, _, _, _, _, _, _, _, _, _, _, _, _, _, _, _, _, _, _, _, _, _, _, _, _, _, _, _, _, _, _, _, _, _, _, _, _, _, _, _, _, _, _, _, _, _, _, _, _, _, _, _, _, _, _, _, _, _, _, _, _, _, _, _, _, _, _, _, _, _, _, _, _, _, _, _, _, _, _, _, _, _, _, _, _, _, _, _, _, _, _, _, _, _, _, _, _, _, _, _, _, _, _, _, _, _, _, _, _, _, _, _, _, _, _, _, _, _, _, _, _, _, _, _, _, _, _, _, _, _, _, _, _, _, _, _, _, _, _, _, _, _, _, _, _, _, _, _, _, _, _, _, _, _, _, _, _, _, _, _] : Array Value).getD i undef), (by first | rfl | trivial), rfl, hF⟩
  clear hF
  intro γ a w hI
  obtain ⟨Fa, rfl, rfl, hF⟩ := hI
  refine wpM_seq_cut KK (fun (γ : Option (Duet × Proto)) (a : Act) (w : World) => ∃ (Fb : Nat → Value), γ = none ∧ a = { tmps := #[.slice A ls.length cc, .slice (some ⟨fb, fo, none⟩) fa.length cf, .slice AM mo.length cm, Fb 3, Fb 4, Fb 5, Fb 6, .bool (fOne fa), .bool (fThree fa), Fb 9, Fb 10, Fb 11, Fb 12, Fb 13, Fb 14, Fb 15, Fb 16, Fb 17, Fb 18, Fb 19, Fb 20, Fb 21, Fb 22, Fb 23, Fb 24, Fb 25, Fb 26, Fb 27, Fb 28, Fb 29, Fb 30, Fb 31, Fb 32, Fb 33, Fb 34, Fb 35, Fb 36, Fb 37, Fb 38, Fb 39, Fb 40, Fb 41, Fb 42, Fb 43, Fb 44, Fb 45, Fb 46, Fb 47, Fb 48, Fb 49, Fb 50, Fb 51, Fb 52, Fb 53, Fb 54, Fb 55, Fb 56, Fb 57, Fb 58, Fb 59, Fb 60, Fb 61, Fb 62, Fb 63, Fb 64, Fb 65, Fb 66, Fb 67, Fb 68, Fb 69, Fb 70, Fb 71, Fb 72, Fb 73, Fb 74, Fb 75, Fb 76, Fb 77, Fb 78, Fb 79, Fb 80, Fb 81, Fb 82, Fb 83, Fb 84, Fb 85, Fb 86, Fb 87, Fb 88, Fb 89, Fb 90, Fb 91, Fb 92, Fb 93, Fb 94, Fb 95, Fb 96, Fb 97, Fb 98, Fb 99, Fb 100, Fb 101, Fb 102, Fb 103, Fb 104, Fb 105, Fb 106, Fb 107, Fb 108, Fb 109, Fb 110, Fb 111, Fb 112, Fb 113, Fb 114, Fb 115, Fb 116, Fb 117, Fb 118, Fb 119, Fb 120, Fb 121, Fb 122, Fb 123, Fb 124, Fb 125, Fb 126, Fb 127, Fb 128, Fb 129, Fb 130, Fb 131, Fb 132, Fb 133, Fb 134, Fb 135, Fb 136, Fb 137, Fb 138, Fb 139, Fb 140, Fb 141, Fb 142, Fb 143, Fb 144, Fb 145, Fb 146, Fb 147, Fb 148, Fb 149, Fb 150, Fb 151, Fb 152, Fb 153, Fb 154, Fb 155, Fb 156, Fb 157, Fb 158, Fb 159, Fb 160, Fb 161, Fb 162, Fb 163, Fb 164, Fb 165, Fb 166, Fb 167, Fb 168, Fb 169, Fb 170, Fb 171, Fb 172, Fb 173, Fb 174, Fb 175, Fb 176, Fb 177, Fb 178, Fb 179, Fb 180, Fb 181, Fb 182, Fb 183, Fb 184, Fb 185, Fb 186, Fb 187, Fb 188, Fb 189, Fb 190, Fb 191, Fb 192, Fb 193, Fb 194, Fb 195, Fb 196, Fb 197, Fb 198, Fb 199, Fb 200, Fb 201, Fb 202, Fb 203, Fb 204, Fb 205, Fb 206, Fb 207, Fb 208, Fb 209, Fb 210, Fb 211, Fb 212, Fb 213, Fb 214], defers := [] } ∧ FA w0 [] w) ?fstb ?sndb
  case fstb =>
    rcases (show fa.length = 1 ∨ fa.length = 2 ∨ fa.length = 3 by omega) with h | h | h
    · obtain ⟨x, rfl⟩ := len_one h
      clear h
      refine wpM_region KK ?_
      simp only [List.size_toArray, List.length_cons, List.length_nil, Nat.reduceAdd, Nat.zero_add, List.range, List.range.loop]
      refine opsN_k KK rfl (by rfl) (by rfl) ?_
      intro _ hR C hC
      replace hF := FA.rely hF hR
      clear hR
      go_simp
      refine hC _ _ ?_
      clear hC C
      try walk_nrm
      refine opsN_k KK rfl (by rfl) (by rfl) ?_
      intro _ hR C hC
      replace hF := FA.rely hF hR
      clear hR
      go_simp
      refine hC _ _ ?_
      clear hC C
      try walk_nrm
      refine opsN_k KK rfl (by rfl) (by rfl) ?_
      intro _ hR C hC
      replace hF := FA.rely hF hR
      clear hR
      go_simp
      refine hC _ _ ?_
      clear hC C
      try walk_nrm
      refine opsN_k KK rfl (by rfl) (by rfl) ?_
      intro _ hR C hC
      replace hF := FA.rely hF hR
      clear hR
      go_simp
      refine hC _ _ ?_
      clear hC C
      try walk_nrm
      refine opsM_pass KK rfl (by rfl) ?_
      try walk_nrm
      refine opsM_pass KK rfl (by rfl) ?_
      try walk_nrm
      refine opsM_pass KK rfl (by rfl) ?_
      try walk_nrm
      refine opsM_pass KK rfl (by rfl) ?_
      try walk_nrm
      refine opsN_k KK rfl (by rfl) (by rfl) ?_
      intro _ hR C hC
      replace hF := FA.rely hF hR
      clear hR
      go_simp
      refine hC _ _ ?_
      clear hC C
      try walk_nrm
      refine opsN_k KK rfl (by rfl) (by rfl) ?_
      intro _ hR C hC
      replace hF := FA.rely hF hR
      clear hR
      go_simp
      refine hC _ _ ?_
      clear hC C
      try walk_nrm
      refine opsM_nil KK ?_
      try simp only [thenM, Exit.inBlock, if_true, if_false, reduceIte, Nat.reduceEqDiff]
      exact ⟨(fun i => (#[undef, undef, undef, _, _, _, _, undef, undef, _, _, _, _, _, _, _, _, _, _, _, _, _, _, _, _, _, _, _, _, _, _, _, _, _, _, _, _, _, _, _, _, _, _, _, _, _, _, _, _, _, _, _, _, _, _, _, _, _, _, _, _, _, _, _, _, _, _, _, _, _, _, _, _, _, _, _, _, _, _, _, _, _, _, _, _, _, _, _, _, _, _, _, _, _, _, _, _, _, _, _, _, _, _, _, _, _, _, _, _, _, _, _, _, _, _, _, _, _, _, _, _, _, _, _, _, _, _, _, _, _, _, _, _, _, _, _, _, _, _, _, _, _, _, _, _, _, _, _, _, _, _, _, _, _, _, _, _, _, _, _, _, _, _, _, _, _, _, _, _, _, _, _, _, _, _, _, _, _, _, _, _, _, _, _, _, _, _, _, _, _, _, _, _, _, _, _, _, _, _, _, _, _, _, _, _, _, _, _, _, _, _, _, _, _, _] : Array Value).getD i undef), (by first | rfl | trivial), rfl, hF⟩
    · obtain ⟨x, y, rfl⟩ := len_two h
      clear h
      refine wpM_region KK ?_
      simp only [List.size_toArray, List.length_cons, List.length_nil, Nat.reduceAdd, Nat.zero_add, List.range, List.range.loop]
      refine opsN_k KK rfl (by rfl) (by rfl) ?_
      intro _ hR C hC
      replace hF := FA.rely hF hR
      clear hR
      go_simp
      refine hC _ _ ?_
      clear hC C
      try walk_nrm
      refine opsN_k KK rfl (by rfl) (by rfl) ?_
      intro _ hR C hC
      replace hF := FA.rely hF hR
      clear hR
      go_simp
      refine hC _ _ ?_
      clear hC C
      try walk_nrm
      refine opsN_k KK rfl (by rfl) (by rfl) ?_
      intro _ hR C hC
      replace hF := FA.rely hF hR
      clear hR
      go_simp
      refine hC _ _ ?_
      clear hC C
      try walk_nrm
      refine opsN_k KK rfl (by rfl) (by rfl) ?_
      intro _ hR C hC
      replace hF := FA.rely hF hR
      clear hR
      go_simp
      refine hC _ _ ?_
      clear hC C
      try walk_nrm
      refine opsM_pass KK rfl (by rfl) ?_
      try walk_nrm
      refine opsM_pass KK rfl (by rfl) ?_
      try walk_nrm
      refine opsM_pass KK rfl (by rfl) ?_
      try walk_nrm
      refine opsM_pass KK rfl (by rfl) ?_
      try walk_nrm
      refine opsN_k KK rfl (by rfl) (by rfl) ?_
      intro _ hR C hC
      replace hF := FA.rely hF hR
      clear hR
      go_simp
      refine hC _ _ ?_
      clear hC C
      try walk_nrm
      refine opsN_k KK rfl (by rfl) (by rfl) ?_
      intro _ hR C hC
      replace hF := FA.rely hF hR
      clear hR
      go_simp
      refine hC _ _ ?_
      clear hC C
      try walk_nrm
      refine opsM_nil KK ?_
      try simp only [thenM, Exit.inBlock, if_true, if_false, reduceIte, Nat.reduceEqDiff]
      exact ⟨(fun i => (#[undef, undef, undef, _, _, _, _, undef, undef, _, _, _, _, _, _, _, _, _, _, _, _, _, _, _, _, _, _, _, _, _, _, _, _, _, _, _, _, _, _, _, _, _, _, _, _, _, _, _, _, _, _, _, _, _, _, _, _, _, _, _, _, _, _, _, _, _, _, _, _, _, _, _, _, _, _, _, _, _, _, _, _, _, _, _, _, _, _, _, _, _, _, _, _, _, _, _, _, _, _, _, _, _, _, _, _, _, _, _, _, _, _, _, _, _, _, _, _, _, _, _, _, _, _, _, _, _, _, _, _, _, _, _, _, _, _, _, _, _, _, _, _, _, _, _, _, _, _, _, _, _, _, _, _, _, _, _, _, _, _, _, _, _, _, _, _, _, _, _, _, _, _, _, _, _, _, _, _, _, _, _, _, _, _, _, _, _, _, _, _, _, _, _, _, _, _, _, _, _, _, _, _, _, _, _, _, _, _, _, _, _, _, _, _, _, _] : Array Value).getD i undef), (by first | rfl | trivial), rfl, hF⟩
    · obtain ⟨x, y, z, rfl⟩ := len_three h
      clear h
      refine wpM_region KK ?_
      simp only [List.size_toArray, List.length_cons, List.length_nil, Nat.reduceAdd, Nat.zero_add, List.range, List.range.loop]
      refine opsN_k KK rfl (by rfl) (by rfl) ?_
      intro _ hR C hC
      replace hF := FA.rely hF hR
      clear hR
      go_simp
      refine hC _ _ ?_
      clear hC C
      try walk_nrm
      refine opsN_k KK rfl (by rfl) (by rfl) ?_
      intro _ hR C hC
      replace hF := FA.rely hF hR
      clear hR
      go_simp
      refine hC _ _ ?_
      clear hC C
      try walk_nrm
      refine opsN_k KK rfl (by rfl) (by rfl) ?_
      intro _ hR C hC
      replace hF := FA.rely hF hR
      clear hR
      go_simp
      refine hC _ _ ?_
      clear hC C
      try walk_nrm
      refine opsN_k KK rfl (by rfl) (by rfl) ?_
      intro _ hR C hC
      replace hF := FA.rely hF hR
      clear hR
      go_simp
      refine hC _ _ ?_
      clear hC C
      try walk_nrm
      have hx2 : (n8 x == 165) = (x == 165) := beq_n8 x 165
      refine opsN_k KK rfl (by rfl) (by rfl) ?_
      intro _ hR C hC
      replace hF := FA.rely hF hR
      clear hR
      go_simp
      refine hC _ _ ?_
      clear hC C
      try walk_nrm
      refine opsN_k KK rfl (by rfl) (by rfl) ?_
      intro _ hR C hC
      replace hF := FA.rely hF hR
      clear hR
      go_simp
      refine hC _ _ ?_
      clear hC C
      try walk_nrm
      refine opsN_k KK rfl (by rfl) (by rfl) ?_
      intro _ hR C hC
      replace hF := FA.rely hF hR
      clear hR
      have hc := byte_at hF.below HFC.out 0 (by simp)
      rw [Nat.add_zero] at hc
      replace hc := hc.trans (show _ = some (Value.int .u8 (n8 x)) from rfl)
      go_simp
      refine hC _ _ ?_
      clear hC C
      try walk_nrm
      clear hc
      refine opsN_k KK rfl (by rfl) (by rfl) ?_
      intro _ hR C hC
      replace hF := FA.rely hF hR
      clear hR
      go_simp
      refine hC _ _ ?_
      clear hC C
      try walk_nrm
      refine opsN_k KK rfl (by rfl) (by rfl) ?_
      intro _ hR C hC
      replace hF := FA.rely hF hR
      clear hR
      go_simp
      refine hC _ _ ?_
      clear hC C
      try walk_nrm
      refine opsN_k KK rfl (by rfl) (by rfl) ?_
      intro _ hR C hC
      replace hF := FA.rely hF hR
      clear hR
      go_simp
      refine hC _ _ ?_
      clear hC C
      try walk_nrm
      refine opsM_nil KK ?_
      try simp only [thenM, Exit.inBlock, if_true, if_false, reduceIte, Nat.reduceEqDiff]
      exact ⟨(fun i => (#[undef, undef, undef, _, _, _, _, undef, undef, _, _, _, _, _, _, _, _, _, _, _, _, _, _, _, _, _, _, _, _, _, _, _, _, _, _, _, _, _, _, _, _, _, _, _, _, _, _, _, _, _, _, _, _, _, _, _, _, _, _, _, _, _, _, _, _, _, _, _, _, _, _, _, _, _, _, _, _, _, _, _, _, _, _, _, _, _, _, _, _, _, _, _, _, _, _, _, _, _, _, _, _, _, _, _, _, _, _, _, _, _, _, _, _, _, _, _, _, _, _, _, _, _, _, _, _, _, _, _, _, _, _, _, _, _, _, _, _, _, _, _, _, _, _, _, _, _, _, _, _, _, _, _, _, _, _, _, _, _, _, _, _, _, _, _, _, _, _, _, _, _, _, _, _, _, _, _, _, _, _, _, _, _, _, _, _, _, _, _, _, _, _, _, _, _, _, _, _, _, _, _, _, _, _, _, _, _, _, _, _, _, _, _, _, _, _] : Array Value).getD i undef), (by first | rfl | trivial), rfl, hF⟩
  clear hF
  intro γ a w hI
  obtain ⟨Fb, rfl, rfl, hF⟩ := hI
  refine wpM_seq_cut KK (fun (γ : Option (Duet × Proto)) (a : Act) (w : World) => ∃ (Fc : Nat → Value), γ = none ∧ a = { tmps := #[.slice A ls.length cc, .slice (some ⟨fb, fo, none⟩) fa.length cf, .slice AM mo.length cm, Fc 3, Fc 4, Fc 5, Fc 6, .bool (fOne fa), .bool (fBad fa), Fc 9, Fc 10, Fc 11, Fc 12, Fc 13, Fc 14, Fc 15, Fc 16, Fc 17, Fc 18, Fc 19, Fc 20, Fc 21, Fc 22, Fc 23, Fc 24, Fc 25, Fc 26, Fc 27, Fc 28, Fc 29, Fc 30, Fc 31, Fc 32, Fc 33, Fc 34, Fc 35, Fc 36, Fc 37, Fc 38, Fc 39, Fc 40, Fc 41, Fc 42, Fc 43, Fc 44, Fc 45, Fc 46, Fc 47, Fc 48, Fc 49, Fc 50, Fc 51, Fc 52, Fc 53, Fc 54, Fc 55, Fc 56, Fc 57, Fc 58, Fc 59, Fc 60, Fc 61, Fc 62, Fc 63, Fc 64, Fc 65, Fc 66, Fc 67, Fc 68, Fc 69, Fc 70, Fc 71, Fc 72, Fc 73, Fc 74, Fc 75, Fc 76, Fc 77, Fc 78, Fc 79, Fc 80, Fc 81, Fc 82, Fc 83, Fc 84, Fc 85, Fc 86, Fc 87, Fc 88, Fc 89, Fc 90, Fc 91, Fc 92, Fc 93, Fc 94, Fc 95, Fc 96, Fc 97, Fc 98, Fc 99, Fc 100, Fc 101, Fc 102, Fc 103, Fc 104, Fc 105, Fc 106, Fc 107, Fc 108, Fc 109, Fc 110, Fc 111, Fc 112, Fc 113, Fc 114, Fc 115, Fc 116, Fc 117, Fc 118, Fc 119, Fc 120, Fc 121, Fc 122, Fc 123, Fc 124, Fc 125, Fc 126, Fc 127, Fc 128, Fc 129, Fc 130, Fc 131, Fc 132, Fc 133, Fc 134, Fc 135, Fc 136, Fc 137, Fc 138, Fc 139, Fc 140, Fc 141, Fc 142, Fc 143, Fc 144, Fc 145, Fc 146, Fc 147, Fc 148, Fc 149, Fc 150, Fc 151, Fc 152, Fc 153, Fc 154, Fc 155, Fc 156, Fc 157, Fc 158, Fc 159, Fc 160, Fc 161, Fc 162, Fc 163, Fc 164, Fc 165, Fc 166, Fc 167, Fc 168, Fc 169, Fc 170, Fc 171, Fc 172, Fc 173, Fc 174, Fc 175, Fc 176, Fc 177, Fc 178, Fc 179, Fc 180, Fc 181, Fc 182, Fc 183, Fc 184, Fc 185, Fc 186, Fc 187, Fc 188, Fc 189, Fc 190, Fc 191, Fc 192, Fc 193, Fc 194, Fc 195, Fc 196, Fc 197, Fc 198, Fc 199, Fc 200, Fc 201, Fc 202, Fc 203, Fc 204, Fc 205, Fc 206, Fc 207, Fc 208, Fc 209, Fc 210, Fc 211, Fc 212, Fc 213, Fc 214], defers := [] } ∧ FA w0 [] w) ?fstc ?sndc
  case fstc =>
    refine wpM_seq KK ?_
    refine wpM_region KK ?_
    simp only [List.size_toArray, List.length_cons, List.length_nil, Nat.reduceAdd, Nat.zero_add, List.range, List.range.loop]
    refine opsN_k KK rfl (by rfl) (by rfl) ?_
    intro _ hR C hC
    replace hF := FA.rely hF hR
    clear hR
    go_simp
    refine hC _ _ ?_
    clear hC C
    try walk_nrm
    refine opsM_nil KK ?_
    try simp only [thenM, Exit.inBlock, if_true, if_false, reduceIte, Nat.reduceEqDiff]
    cases h3 : fThree fa with
    | false =>
      have hb3 := fBad_of h3
      refine wpM_cond KK rfl ?_
      first | simp only [if_true, if_false, reduceIte, Bool.false_eq_true] | fail "COND"
      refine wpM_skip KK ?_
      try simp only [thenM, Exit.inBlock, if_true, if_false, reduceIte, Nat.reduceEqDiff]
      rw [← hb3]
      exact ⟨(fun i => (#[undef, undef, undef, _, _, _, _, undef, undef, _, _, _, _, _, _, _, _, _, _, _, _, _, _, _, _, _, _, _, _, _, _, _, _, _, _, _, _, _, _, _, _, _, _, _, _, _, _, _, _, _, _, _, _, _, _, _, _, _, _, _, _, _, _, _, _, _, _, _, _, _, _, _, _, _, _, _, _, _, _, _, _, _, _, _, _, _, _, _, _, _, _, _, _, _, _, _, _, _, _, _, _, _, _, _, _, _, _, _, _, _, _, _, _, _, _, _, _, _, _, _, _, _, _, _, _, _, _, _, _, _, _, _, _, _, _, _, _, _, _, _, _, _, _, _, _, _, _, _, _, _, _, _, _, _, _, _, _, _, _, _, _, _, _, _, _, _, _, _, _, _, _, _, _, _, _, _, _, _, _, _, _, _, _, _, _, _, _, _, _, _, _, _, _, _, _, _, _, _, _, _, _, _, _, _, _, _, _, _, _, _, _, _, _, _, _] : Array Value).getD i undef), (by first | rfl | trivial), rfl, hF⟩
    | true =>
      obtain ⟨x, y, z, rfl⟩ := fThree_of h3
      have hx : x = 165 := by simpa [fThree] using h3
      subst hx
      refine wpM_cond KK rfl ?_
      first | simp only [if_true, if_false, reduceIte, Bool.false_eq_true] | fail "COND"
      refine wpM_seq KK ?_
      have HY := Go.Lib.hid (HFC.out 1 (by rw [Bs_length]; simp))
      have HZ := Go.Lib.hid (HFC.out 2 (by rw [Bs_length]; simp))
      rw [show (Bs [165, y, z])[1]'_ = .int .u8 (n8 y) from rfl] at HY
      rw [show (Bs [165, y, z])[2]'_ = .int .u8 (n8 z) from rfl] at HZ
      have wy : IntKind.i64.wrap (n8 y) = n8 y := wrap64_n8 y
      have wz : IntKind.i64.wrap (n8 z) = n8 z := wrap64_n8 z
      have w1 : IntKind.i64.wrap (256 * n8 z) = 256 * n8 z := by have := n8_lt z; have := n8_nonneg z; rw [IntKind.wrap_i64]; omega
      have w2 : IntKind.i64.wrap (n8 y + 256 * n8 z) = (lenN y z : Int) := by have := n8_lt z; have := n8_nonneg z; have := n8_lt y; have := n8_nonneg y; rw [IntKind.wrap_i64]; unfold lenN n8 at *; omega
      refine wpM_of_wpC KK (n := 11 + 1 + 1) (Q' := _) ?_ (fun _ _ _ h => h)
      refine wpC_region_held (KK.terms none) (fun _ _ he => by simp at he) (S := FA w0 []) (by first | kernel_rfl | rfl) ?_
      intro _ hR
      replace hF := FA.rely (FA.rely hF hR) (ownN _)
      clear hR
      simp only [List.size_toArray, List.length_cons, List.length_nil, Nat.reduceAdd, Nat.zero_add]
      co_applyP anyCH_take (KK.terms none) (fun _ _ h r => FA.rely h r) (fun _ _ _ h r => wpM_rely KK h r) (i := 0) rfl (by first | kernel_rfl | decide +kernel) (by first | kernel_rfl | decide +kernel) (by first | kernel_rfl | decide +kernel) (.inl ⟨by rfl, fun _ hw => ⟨run_eq_of ?run1, ?guar1⟩⟩) hF ?rest1
      case run1 =>
        intro C hC
        skip
        go_simp
        exact hC
      case guar1 =>
        skip
        ((rw [listed_nil (by simp [go_sem]; done)]; exact gN_still _ _))
      try walk_nrm
      co_applyP anyCH_take (KK.terms none) (fun _ _ h r => FA.rely h r) (fun _ _ _ h r => wpM_rely KK h r) (i := 1) rfl (by first | kernel_rfl | decide +kernel) (by first | kernel_rfl | decide +kernel) (by first | kernel_rfl | decide +kernel) (.inl ⟨by rfl, fun _ hw => ⟨run_eq_of ?run2, ?guar2⟩⟩) hF ?rest2
      case run2 =>
        intro C hC
        skip
        go_simp
        exact hC
      case guar2 =>
        skip
        ((rw [listed_nil (by simp [go_sem]; done)]; exact gN_still _ _))
      try walk_nrm
      co_applyP anyCH_take (KK.terms none) (fun _ _ h r => FA.rely h r) (fun _ _ _ h r => wpM_rely KK h r) (i := 2) rfl (by first | kernel_rfl | decide +kernel) (by first | kernel_rfl | decide +kernel) (by first | kernel_rfl | decide +kernel) (.inl ⟨by rfl, fun _ hw => ⟨run_eq_of ?run3, ?guar3⟩⟩) hF ?rest3
      case run3 =>
        intro C hC
        have hc := below_cell hw.below HY.out
        go_simp
        exact hC
      case guar3 =>
        have hc := below_cell hw.below HY.out
        ((intro e he; have hm := mem_listed he; simp [go_sem, *] at hm; try (subst hm; exact ⟨by simp, by simp⟩)))
      try walk_nrm
      co_applyP anyCH_take (KK.terms none) (fun _ _ h r => FA.rely h r) (fun _ _ _ h r => wpM_rely KK h r) (i := 3) rfl (by first | kernel_rfl | decide +kernel) (by first | kernel_rfl | decide +kernel) (by first | kernel_rfl | decide +kernel) (.inl ⟨by rfl, fun _ hw => ⟨run_eq_of ?run4, ?guar4⟩⟩) hF ?rest4
      case run4 =>
        intro C hC
        skip
        go_simp
        exact hC
      case guar4 =>
        skip
        ((rw [listed_nil (by simp [go_sem]; done)]; exact gN_still _ _))
      try walk_nrm
      co_applyP anyCH_take (KK.terms none) (fun _ _ h r => FA.rely h r) (fun _ _ _ h r => wpM_rely KK h r) (i := 4) rfl (by first | kernel_rfl | decide +kernel) (by first | kernel_rfl | decide +kernel) (by first | kernel_rfl | decide +kernel) (.inl ⟨by rfl, fun _ hw => ⟨run_eq_of ?run5, ?guar5⟩⟩) hF ?rest5
      case run5 =>
        intro C hC
        skip
        go_simp
        exact hC
      case guar5 =>
        skip
        ((rw [listed_nil (by simp [go_sem]; done)]; exact gN_still _ _))
      try walk_nrm
      co_applyP anyCH_take (KK.terms none) (fun _ _ h r => FA.rely h r) (fun _ _ _ h r => wpM_rely KK h r) (i := 5) rfl (by first | kernel_rfl | decide +kernel) (by first | kernel_rfl | decide +kernel) (by first | kernel_rfl | decide +kernel) (.inl ⟨by rfl, fun _ hw => ⟨run_eq_of ?run6, ?guar6⟩⟩) hF ?rest6
      case run6 =>
        intro C hC
        skip
        go_simp
        exact hC
      case guar6 =>
        skip
        ((rw [listed_nil (by simp [go_sem]; done)]; exact gN_still _ _))
      try walk_nrm
      co_applyP anyCH_take (KK.terms none) (fun _ _ h r => FA.rely h r) (fun _ _ _ h r => wpM_rely KK h r) (i := 6) rfl (by first | kernel_rfl | decide +kernel) (by first | kernel_rfl | decide +kernel) (by first | kernel_rfl | decide +kernel) (.inl ⟨by rfl, fun _ hw => ⟨run_eq_of ?run7, ?guar7⟩⟩) hF ?rest7
      case run7 =>
        intro C hC
        have hc := below_cell hw.below HZ.out
        go_simp
        exact hC
      case guar7 =>
        have hc := below_cell hw.below HZ.out
        ((intro e he; have hm := mem_listed he; simp [go_sem, *] at hm; try (subst hm; exact ⟨by simp, by simp⟩)))
      try walk_nrm
      co_applyP anyCH_take (KK.terms none) (fun _ _ h r => FA.rely h r) (fun _ _ _ h r => wpM_rely KK h r) (i := 7) rfl (by first | kernel_rfl | decide +kernel) (by first | kernel_rfl | decide +kernel) (by first | kernel_rfl | decide +kernel) (.inl ⟨by rfl, fun _ hw => ⟨run_eq_of ?run8, ?guar8⟩⟩) hF ?rest8
      case run8 =>
        intro C hC
        skip
        go_simp
        exact hC
      case guar8 =>
        skip
        ((rw [listed_nil (by simp [go_sem]; done)]; exact gN_still _ _))
      try walk_nrm
      co_applyP anyCH_take (KK.terms none) (fun _ _ h r => FA.rely h r) (fun _ _ _ h r => wpM_rely KK h r) (i := 8) rfl (by first | kernel_rfl | decide +kernel) (by first | kernel_rfl | decide +kernel) (by first | kernel_rfl | decide +kernel) (.inl ⟨by rfl, fun _ hw => ⟨run_eq_of ?run9, ?guar9⟩⟩) hF ?rest9
      case run9 =>
        intro C hC
        skip
        go_simp
        exact hC
      case guar9 =>
        skip
        ((rw [listed_nil (by simp [go_sem]; done)]; exact gN_still _ _))
      try walk_nrm
      co_applyP anyCH_take (KK.terms none) (fun _ _ h r => FA.rely h r) (fun _ _ _ h r => wpM_rely KK h r) (i := 9) rfl (by first | kernel_rfl | decide +kernel) (by first | kernel_rfl | decide +kernel) (by first | kernel_rfl | decide +kernel) (.inl ⟨by rfl, fun _ hw => ⟨run_eq_of ?run10, ?guar10⟩⟩) hF ?rest10
      case run10 =>
        intro C hC
        skip
        go_simp
        exact hC
      case guar10 =>
        skip
        ((rw [listed_nil (by simp [go_sem]; done)]; exact gN_still _ _))
      try walk_nrm
      co_applyP anyCH_take (KK.terms none) (fun _ _ h r => FA.rely h r) (fun _ _ _ h r => wpM_rely KK h r) (i := 10) rfl (by first | kernel_rfl | decide +kernel) (by first | kernel_rfl | decide +kernel) (by first | kernel_rfl | decide +kernel) (.inl ⟨by rfl, fun _ hw => ⟨run_eq_of ?run11, ?guar11⟩⟩) hF ?rest11
      case run11 =>
        intro C hC
        skip
        go_simp
        exact hC
      case guar11 =>
        skip
        ((rw [listed_nil (by simp [go_sem]; done)]; exact gN_still _ _))
      try walk_nrm
      refine anyCH_done (by first | kernel_rfl | decide +kernel) ?_ _
      try simp only [thenM, Exit.inBlock, if_true, if_false, reduceIte, Nat.reduceEqDiff]
      clear wy wz w1 w2
      by_cases hl0 : lenN y z = 0
      · have z0 : ((lenN y z : Int) == 0) = true := beq_iff_eq.2 (by omega)
        refine wpM_region KK ?_
        simp only [List.size_toArray, List.length_cons, List.length_nil, Nat.reduceAdd, Nat.zero_add, List.range, List.range.loop]
        refine opsN_k KK rfl (by rfl) (by rfl) ?_
        intro _ hR C hC
        replace hF := FA.rely hF hR
        clear hR
        go_simp
        refine hC _ _ ?_
        clear hC C
        try walk_nrm
        refine opsN_k KK rfl (by rfl) (by rfl) ?_
        intro _ hR C hC
        replace hF := FA.rely hF hR
        clear hR
        go_simp
        refine hC _ _ ?_
        clear hC C
        try walk_nrm
        refine opsN_k KK rfl (by rfl) (by rfl) ?_
        intro _ hR C hC
        replace hF := FA.rely hF hR
        clear hR
        go_simp
        refine hC _ _ ?_
        clear hC C
        try walk_nrm
        refine opsM_pass KK rfl (by rfl) ?_
        try walk_nrm
        refine opsM_pass KK rfl (by rfl) ?_
        try walk_nrm
        refine opsN_k KK rfl (by rfl) (by rfl) ?_
        intro _ hR C hC
        replace hF := FA.rely hF hR
        clear hR
        go_simp
        refine hC _ _ ?_
        clear hC C
        try walk_nrm
        refine opsN_k KK rfl (by rfl) (by rfl) ?_
        intro _ hR C hC
        replace hF := FA.rely hF hR
        clear hR
        go_simp
        refine hC _ _ ?_
        clear hC C
        try walk_nrm
        refine opsM_nil KK ?_
        try simp only [thenM, Exit.inBlock, if_true, if_false, reduceIte, Nat.reduceEqDiff]
        have hbt : fBad [165, y, z] = true := by simp [fBad, hl0]
        rw [← hbt]
        exact ⟨(fun i => (#[undef, undef, undef, _, _, _, _, undef, undef, _, _, _, _, _, _, _, _, _, _, _, _, _, _, _, _, _, _, _, _, _, _, _, _, _, _, _, _, _, _, _, _, _, _, _, _, _, _, _, _, _, _, _, _, _, _, _, _, _, _, _, _, _, _, _, _, _, _, _, _, _, _, _, _, _, _, _, _, _, _, _, _, _, _, _, _, _, _, _, _, _, _, _, _, _, _, _, _, _, _, _, _, _, _, _, _, _, _, _, _, _, _, _, _, _, _, _, _, _, _, _, _, _, _, _, _, _, _, _, _, _, _, _, _, _, _, _, _, _, _, _, _, _, _, _, _, _, _, _, _, _, _, _, _, _, _, _, _, _, _, _, _, _, _, _, _, _, _, _, _, _, _, _, _, _, _, _, _, _, _, _, _, _, _, _, _, _, _, _, _, _, _, _, _, _, _, _, _, _, _, _, _, _, _, _, _, _, _, _, _, _, _, _, _, _, _] : Array Value).getD i undef), (by first | rfl | trivial), rfl, hF⟩
      · have z0 : ((lenN y z : Int) == 0) = false := beq_eq_false_iff_ne.2 (by omega)
        have hL2 : decide ((256 : Int) < (lenN y z : Int)) = fBad [165, y, z] := by rw [Bool.eq_iff_iff, decide_eq_true_eq]; simp [fBad, hl0]; omega
        refine wpM_region KK ?_
        simp only [List.size_toArray, List.length_cons, List.length_nil, Nat.reduceAdd, Nat.zero_add, List.range, List.range.loop]
        refine opsN_k KK rfl (by rfl) (by rfl) ?_
        intro _ hR C hC
        replace hF := FA.rely hF hR
        clear hR
        go_simp
        refine hC _ _ ?_
        clear hC C
        try walk_nrm
        refine opsN_k KK rfl (by rfl) (by rfl) ?_
        intro _ hR C hC
        replace hF := FA.rely hF hR
        clear hR
        go_simp
        refine hC _ _ ?_
        clear hC C
        try walk_nrm
        refine opsN_k KK rfl (by rfl) (by rfl) ?_
        intro _ hR C hC
        replace hF := FA.rely hF hR
        clear hR
        go_simp
        refine hC _ _ ?_
        clear hC C
        try walk_nrm
        refine opsN_k KK rfl (by rfl) (by rfl) ?_
        intro _ hR C hC
        replace hF := FA.rely hF hR
        clear hR
        go_simp
        refine hC _ _ ?_
        clear hC C
        try walk_nrm
        refine opsN_k KK rfl (by rfl) (by rfl) ?_
        intro _ hR C hC
        replace hF := FA.rely hF hR
        clear hR
        go_simp
        refine hC _ _ ?_
        clear hC C
        try walk_nrm
        refine opsN_k KK rfl (by rfl) (by rfl) ?_
        intro _ hR C hC
        replace hF := FA.rely hF hR
        clear hR
        go_simp
        refine hC _ _ ?_
        clear hC C
        try walk_nrm
        refine opsN_k KK rfl (by rfl) (by rfl) ?_
        intro _ hR C hC
        replace hF := FA.rely hF hR
        clear hR
        go_simp
        refine hC _ _ ?_
        clear hC C
        try walk_nrm
        refine opsM_nil KK ?_
        try simp only [thenM, Exit.inBlock, if_true, if_false, reduceIte, Nat.reduceEqDiff]
        exact ⟨(fun i => (#[undef, undef, undef, _, _, _, _, undef, undef, _, _, _, _, _, _, _, _, _, _, _, _, _, _, _, _, _, _, _, _, _, _, _, _, _, _, _, _, _, _, _, _, _, _, _, _, _, _, _, _, _, _, _, _, _, _, _, _, _, _, _, _, _, _, _, _, _, _, _, _, _, _, _, _, _, _, _, _, _, _, _, _, _, _, _, _, _, _, _, _, _, _, _, _, _, _, _, _, _, _, _, _, _, _, _, _, _, _, _, _, _, _, _, _, _, _, _, _, _, _, _, _, _, _, _, _, _, _, _, _, _, _, _, _, _, _, _, _, _, _, _, _, _, _, _, _, _, _, _, _, _, _, _, _, _, _, _, _, _, _, _, _, _, _, _, _, _, _, _, _, _, _, _, _, _, _, _, _, _, _, _, _, _, _, _, _, _, _, _, _, _, _, _, _, _, _, _, _, _, _, _, _, _, _, _, _, _, _, _, _, _, _, _, _, _, _] : Array Value).getD i undef), (by first | rfl | trivial), rfl, hF⟩
  clear hF
  intro γ a w hI
  obtain ⟨Fc, rfl, rfl, hF⟩ := hI
  refine wpM_seq_cut KK (fun (γ : Option (Duet × Proto)) (a : Act) (w : World) => ∃ (Fd : Nat → Value), γ = none ∧ a = { tmps := #[.slice A ls.length cc, .slice (some ⟨fb, fo, none⟩) fa.length cf, .slice AM mo.length cm, Fd 3, Fd 4, Fd 5, Fd 6, Fd 7, Fd 8, Fd 9, Fd 10, Fd 11, Fd 12, Fd 13, Fd 14, Fd 15, Fd 16, Fd 17, Fd 18, Fd 19, Fd 20, Fd 21, Fd 22, Fd 23, Fd 24, Fd 25, Fd 26, Fd 27, Fd 28, Fd 29, Fd 30, Fd 31, Fd 32, Fd 33, Fd 34, Fd 35, Fd 36, Fd 37, Fd 38, Fd 39, Fd 40, Fd 41, Fd 42, Fd 43, Fd 44, Fd 45, Fd 46, Fd 47, Fd 48, Fd 49, Fd 50, Fd 51, Fd 52, Fd 53, Fd 54, Fd 55, Fd 56, Fd 57, Fd 58, Fd 59, Fd 60, Fd 61, Fd 62, Fd 63, Fd 64, Fd 65, Fd 66, Fd 67, Fd 68, Fd 69, Fd 70, Fd 71, Fd 72, Fd 73, Fd 74, Fd 75, Fd 76, Fd 77, Fd 78, Fd 79, Fd 80, Fd 81, Fd 82, Fd 83, Fd 84, Fd 85, Fd 86, Fd 87, Fd 88, Fd 89, Fd 90, Fd 91, Fd 92, Fd 93, Fd 94, Fd 95, Fd 96, Fd 97, Fd 98, Fd 99, Fd 100, Fd 101, Fd 102, Fd 103, Fd 104, Fd 105, Fd 106, Fd 107, Fd 108, Fd 109, Fd 110, Fd 111, Fd 112, Fd 113, Fd 114, Fd 115, Fd 116, Fd 117, Fd 118, Fd 119, Fd 120, Fd 121, Fd 122, Fd 123, Fd 124, Fd 125, Fd 126, Fd 127, Fd 128, Fd 129, Fd 130, Fd 131, Fd 132, Fd 133, Fd 134, Fd 135, Fd 136, Fd 137, Fd 138, Fd 139, Fd 140, Fd 141, Fd 142, Fd 143, Fd 144, Fd 145, Fd 146, Fd 147, Fd 148, Fd 149, Fd 150, Fd 151, Fd 152, Fd 153, Fd 154, Fd 155, Fd 156, Fd 157, Fd 158, Fd 159, Fd 160, Fd 161, Fd 162, Fd 163, Fd 164, Fd 165, Fd 166, Fd 167, Fd 168, Fd 169, Fd 170, Fd 171, Fd 172, Fd 173, Fd 174, Fd 175, Fd 176, Fd 177, Fd 178, Fd 179, Fd 180, Fd 181, Fd 182, Fd 183, Fd 184, Fd 185, Fd 186, Fd 187, Fd 188, Fd 189, Fd 190, Fd 191, Fd 192, Fd 193, Fd 194, Fd 195, Fd 196, Fd 197, Fd 198, Fd 199, Fd 200, Fd 201, Fd 202, Fd 203, Fd 204, Fd 205, Fd 206, Fd 207, Fd 208, Fd 209, Fd 210, Fd 211, Fd 212, Fd 213, Fd 214], defers := [] } ∧ (fOne fa = true ∨ fBad fa = true) ∧ FA w0 [] w) ?fstd ?sndd
  case fstd =>
    refine wpM_seq KK ?_
    refine wpM_region KK ?_
    simp only [List.size_toArray, List.length_cons, List.length_nil, Nat.reduceAdd, Nat.zero_add, List.range, List.range.loop]
    refine opsN_k KK rfl (by rfl) (by rfl) ?_
    intro _ hR C hC
    replace hF := FA.rely hF hR
    clear hR
    go_simp
    refine hC _ _ ?_
    clear hC C
    try walk_nrm
    cases hone : fOne fa with
    | true =>
      refine opsN_k KK rfl (by rfl) (by rfl) ?_
      intro _ hR C hC
      replace hF := FA.rely hF hR
      clear hR
      go_simp
      refine hC _ _ ?_
      clear hC C
      try walk_nrm
      refine opsN_k KK rfl (by rfl) (by rfl) ?_
      intro _ hR C hC
      replace hF := FA.rely hF hR
      clear hR
      go_simp
      refine hC _ _ ?_
      clear hC C
      try walk_nrm
      refine opsM_pass KK rfl (by rfl) ?_
      try walk_nrm
      refine opsM_pass KK rfl (by rfl) ?_
      try walk_nrm
      refine opsN_k KK rfl (by rfl) (by rfl) ?_
      intro _ hR C hC
      replace hF := FA.rely hF hR
      clear hR
      go_simp
      refine hC _ _ ?_
      clear hC C
      try walk_nrm
      refine opsM_nil KK ?_
      try simp only [thenM, Exit.inBlock, if_true, if_false, reduceIte, Nat.reduceEqDiff]
      refine wpM_cond KK rfl ?_
      first | simp only [if_true, if_false, reduceIte, Bool.false_eq_true] | fail "COND"
      refine wpM_skip KK ?_
      try simp only [thenM, Exit.inBlock, if_true, if_false, reduceIte, Nat.reduceEqDiff]
      exact ⟨(fun i => (#[undef, undef, undef, _, _, _, _, _, _, _, _, _, _, _, _, _, _, _, _, _, _, _, _, _, _, _, _, _, _, _, _, _, _, _, _, _, _, _, _, _, _, _, _, _, _, _, _, _, _, _, _, _, _, _, _, _, _, _, _, _, _, _, _, _, _, _, _, _, _, _, _, _, _, _, _, _, _, _, _, _, _, _, _, _, _, _, _, _, _, _, _, _, _, _, _, _, _, _, _, _, _, _, _, _, _, _, _, _, _, _, _, _, _, _, _, _, _, _, _, _, _, _, _, _, _, _, _, _, _, _, _, _, _, _, _, _, _, _, _, _, _, _, _, _, _, _, _, _, _, _, _, _, _, _, _, _, _, _, _, _, _, _, _, _, _, _, _, _, _, _, _, _, _, _, _, _, _, _, _, _, _, _, _, _, _, _, _, _, _, _, _, _, _, _, _, _, _, _, _, _, _, _, _, _, _, _, _, _, _, _, _, _, _, _, _] : Array Value).getD i undef), (by first | rfl | trivial), rfl, (by simp), hF⟩
    | false =>
      refine opsN_k KK rfl (by rfl) (by rfl) ?_
      intro _ hR C hC
      replace hF := FA.rely hF hR
      clear hR
      go_simp
      refine hC _ _ ?_
      clear hC C
      try walk_nrm
      refine opsN_k KK rfl (by rfl) (by rfl) ?_
      intro _ hR C hC
      replace hF := FA.rely hF hR
      clear hR
      go_simp
      refine hC _ _ ?_
      clear hC C
      try walk_nrm
      cases hbd : fBad fa with
      | false =>
        refine opsN_k KK rfl (by rfl) (by rfl) ?_
        intro _ hR C hC
        replace hF := FA.rely hF hR
        clear hR
        go_simp
        refine hC _ _ ?_
        clear hC C
        try walk_nrm
        refine opsN_k KK rfl (by rfl) (by rfl) ?_
        intro _ hR C hC
        replace hF := FA.rely hF hR
        clear hR
        go_simp
        refine hC _ _ ?_
        clear hC C
        try walk_nrm
        refine opsN_k KK rfl (by rfl) (by rfl) ?_
        intro _ hR C hC
        replace hF := FA.rely hF hR
        clear hR
        go_simp
        refine hC _ _ ?_
        clear hC C
        try walk_nrm
        refine opsM_nil KK ?_
        try simp only [thenM, Exit.inBlock, if_true, if_false, reduceIte, Nat.reduceEqDiff]
        refine wpM_cond KK rfl ?_
        first | simp only [if_true, if_false, reduceIte, Bool.false_eq_true] | fail "COND"
        refine wpM_seq KK ?_
        refine wpM_region KK ?_
        simp only [List.size_toArray, List.length_cons, List.length_nil, Nat.reduceAdd, Nat.zero_add, List.range, List.range.loop]
        refine opsN_k KK rfl (by rfl) (by rfl) ?_
        intro _ hR C hC
        replace hF := FA.rely hF hR
        clear hR
        go_simp
        refine hC _ _ ?_
        clear hC C
        try walk_nrm
        refine opsM_nil KK ?_
        try simp only [thenM, Exit.inBlock, if_true, if_false, reduceIte, Nat.reduceEqDiff]
        refine wpM_ret KK ?_
        try simp only [thenM, Exit.inBlock, if_true, if_false, reduceIte, Nat.reduceEqDiff]
        exact ⟨rfl, .bool true, resultsC_tmp (t := 6) (by rfl) _, rfl, fun d => hpost _ (FA.rely hF ⟨d, rfl⟩).below⟩
      | true =>
        refine opsN_k KK rfl (by rfl) (by rfl) ?_
        intro _ hR C hC
        replace hF := FA.rely hF hR
        clear hR
        go_simp
        refine hC _ _ ?_
        clear hC C
        try walk_nrm
        refine opsN_k KK rfl (by rfl) (by rfl) ?_
        intro _ hR C hC
        replace hF := FA.rely hF hR
        clear hR
        go_simp
        refine hC _ _ ?_
        clear hC C
        try walk_nrm
        refine opsN_k KK rfl (by rfl) (by rfl) ?_
        intro _ hR C hC
        replace hF := FA.rely hF hR
        clear hR
        go_simp
        refine hC _ _ ?_
        clear hC C
        try walk_nrm
        refine opsM_nil KK ?_
        try simp only [thenM, Exit.inBlock, if_true, if_false, reduceIte, Nat.reduceEqDiff]
        refine wpM_cond KK rfl ?_
        first | simp only [if_true, if_false, reduceIte, Bool.false_eq_true] | fail "COND"
        refine wpM_skip KK ?_
        try simp only [thenM, Exit.inBlock, if_true, if_false, reduceIte, Nat.reduceEqDiff]
        exact ⟨(fun i => (#[undef, undef, undef, _, _, _, _, _, _, _, _, _, _, _, _, _, _, _, _, _, _, _, _, _, _, _, _, _, _, _, _, _, _, _, _, _, _, _, _, _, _, _, _, _, _, _, _, _, _, _, _, _, _, _, _, _, _, _, _, _, _, _, _, _, _, _, _, _, _, _, _, _, _, _, _, _, _, _, _, _, _, _, _, _, _, _, _, _, _, _, _, _, _, _, _, _, _, _, _, _, _, _, _, _, _, _, _, _, _, _, _, _, _, _, _, _, _, _, _, _, _, _, _, _, _, _, _, _, _, _, _, _, _, _, _, _, _, _, _, _, _, _, _, _, _, _, _, _, _, _, _, _, _, _, _, _, _, _, _, _, _, _, _, _, _, _, _, _, _, _, _, _, _, _, _, _, _, _, _, _, _, _, _, _, _, _, _, _, _, _, _, _, _, _, _, _, _, _, _, _, _, _, _, _, _, _, _, _, _, _, _, _, _, _, _] : Array Value).getD i undef), (by first | rfl | trivial), rfl, (by simp), hF⟩
  clear hF
  intro γ a w hI
  obtain ⟨Fd, rfl, rfl, hok, hF⟩ := hI
  have HOK := Go.Lib.hid (cut_fault hok)
  have hf1 := fault_len hok
  clear hok
  refine wpM_seq KK ?_
  refine wpM_region KK ?_
  simp only [List.size_toArray, List.length_cons, List.length_nil, Nat.reduceAdd, Nat.zero_add, List.range, List.range.loop]
  refine opsM_fcall KK (vals := #[]) rfl (by rfl) rfl Tryd.func8 (by rfl) rfl (by simp [Act.eval]) ?_
  refine callM_mono (new_calls _) ?_
  rintro γ v w ⟨rfl, ⟨sp, rfl, hS⟩, hB⟩
  replace hF : AllH w0 sp [] false (.slice none 0 0) (.slice none 0 0) [] [] w := ⟨hF.below.trans (hB.mono hF.below.size), ⟨hS.blk, own_low hS.own hF.below.size, Nat.le_trans hF.below.size hS.ge⟩, World.ownsRow_nil _ _ _ 1, Pays.nil _ _ _⟩
  clear hS hB
  try walk_nrm
  refine opsN_k KK rfl (by rfl) (by rfl) ?_
  intro _ hR C hC
  replace hF := AllH.rely hF hR
  clear hR
  go_simp
  refine hC _ _ ?_
  clear hC C
  try walk_nrm
  refine opsM_nil KK ?_
  try simp only [thenM, Exit.inBlock, if_true, if_false, reduceIte, Nat.reduceEqDiff]
  refine wpM_seq KK ?_
  refine wpM_region KK ?_
  simp only [List.size_toArray, List.length_cons, List.length_nil, Nat.reduceAdd, Nat.zero_add, List.range, List.range.loop]
  refine opsN_k KK rfl (by rfl) (by rfl) ?_
  intro _ hR C hC
  replace hF := AllH.rely hF hR
  clear hR
  go_simp
  refine hC _ _ ?_
  clear hC C
  try walk_nrm
  refine opsM_nil KK ?_
  try simp only [thenM, Exit.inBlock, if_true, if_false, reduceIte, Nat.reduceEqDiff]
  have HTT := Go.Lib.hid (len_le_tot1 ls)
  have HTM := Go.Lib.hid (len_le_tot1 mo)
  refine wpM_seq KK ?_
  refine wpM_seq KK ?_
  refine wpM_region KK ?_
  simp only [List.size_toArray, List.length_cons, List.length_nil, Nat.reduceAdd, Nat.zero_add, List.range, List.range.loop]
  refine opsN_k KK rfl (by rfl) (by rfl) ?_
  intro _ hR C hC
  replace hF := AllH.rely hF hR
  clear hR
  go_simp
  refine hC _ _ ?_
  clear hC C
  try walk_nrm
  refine opsM_nil KK ?_
  try simp only [thenM, Exit.inBlock, if_true, if_false, reduceIte, Nat.reduceEqDiff]
  refine wpM_block KK ?_
  refine wpM_loop KK (fun (γ : Option (Duet × Proto)) (a : Act) (w : World) => ∃ (k : Nat) (rv : Value) (vout : Value) (vs : List Value) (Fx : Nat → Value), γ = none ∧ a = { tmps := #[.slice A ls.length cc, .slice (some ⟨fb, fo, none⟩) fa.length cf, .slice AM mo.length cm, Fx 3, Fx 4, Fx 5, Fx 6, Fx 7, Fx 8, Fx 9, .pointer (some ⟨sp, 0, none⟩), vout, .int .i64 (k : Int), Fx 13, Fx 14, Fx 15, Fx 16, Fx 17, Fx 18, Fx 19, Fx 20, Fx 21, Fx 22, Fx 23, Fx 24, Fx 25, Fx 26, Fx 27, Fx 28, Fx 29, Fx 30, Fx 31, Fx 32, Fx 33, Fx 34, Fx 35, Fx 36, Fx 37, Fx 38, Fx 39, Fx 40, Fx 41, Fx 42, Fx 43, Fx 44, Fx 45, Fx 46, Fx 47, Fx 48, Fx 49, Fx 50, Fx 51, Fx 52, Fx 53, Fx 54, Fx 55, Fx 56, Fx 57, Fx 58, Fx 59, Fx 60, Fx 61, Fx 62, Fx 63, Fx 64, Fx 65, Fx 66, Fx 67, Fx 68, Fx 69, Fx 70, Fx 71, Fx 72, Fx 73, Fx 74, Fx 75, Fx 76, Fx 77, Fx 78, Fx 79, Fx 80, Fx 81, Fx 82, Fx 83, Fx 84, Fx 85, Fx 86, Fx 87, Fx 88, Fx 89, Fx 90, Fx 91, Fx 92, Fx 93, Fx 94, Fx 95, Fx 96, Fx 97, Fx 98, Fx 99, Fx 100, Fx 101, Fx 102, Fx 103, Fx 104, Fx 105, Fx 106, Fx 107, Fx 108, Fx 109, Fx 110, Fx 111, Fx 112, Fx 113, Fx 114, Fx 115, Fx 116, Fx 117, Fx 118, Fx 119, Fx 120, Fx 121, Fx 122, Fx 123, Fx 124, Fx 125, Fx 126, Fx 127, Fx 128, Fx 129, Fx 130, Fx 131, Fx 132, Fx 133, Fx 134, Fx 135, Fx 136, Fx 137, Fx 138, Fx 139, Fx 140, Fx 141, Fx 142, Fx 143, Fx 144, Fx 145, Fx 146, Fx 147, Fx 148, Fx 149, Fx 150, Fx 151, Fx 152, Fx 153, Fx 154, Fx 155, Fx 156, Fx 157, Fx 158, Fx 159, Fx 160, Fx 161, Fx 162, Fx 163, Fx 164, Fx 165, Fx 166, Fx 167, Fx 168, Fx 169, Fx 170, Fx 171, Fx 172, Fx 173, Fx 174, Fx 175, Fx 176, Fx 177, Fx 178, Fx 179, Fx 180, Fx 181, Fx 182, Fx 183, Fx 184, Fx 185, Fx 186, Fx 187, Fx 188, Fx 189, Fx 190, Fx 191, Fx 192, Fx 193, Fx 194, Fx 195, Fx 196, Fx 197, Fx 198, Fx 199, Fx 200, Fx 201, Fx 202, Fx 203, Fx 204, Fx 205, Fx 206, Fx 207, Fx 208, Fx 209, Fx 210, Fx 211, Fx 212, Fx 213, Fx 214], defers := [] } ∧ k ≤ ls.length ∧ AllH w0 sp [] false rv vout vs (ls.take k) w) (fun _ a _ => ls.length - slotN a 12) ?startx ?roundx
  case startx => exact ⟨0, .slice none 0 0, .slice none 0 0, [], (fun i => (#[undef, undef, undef, _, _, _, _, _, _, _, undef, undef, undef, _, _, _, _, _, _, _, _, _, _, _, _, _, _, _, _, _, _, _, _, _, _, _, _, _, _, _, _, _, _, _, _, _, _, _, _, _, _, _, _, _, _, _, _, _, _, _, _, _, _, _, _, _, _, _, _, _, _, _, _, _, _, _, _, _, _, _, _, _, _, _, _, _, _, _, _, _, _, _, _, _, _, _, _, _, _, _, _, _, _, _, _, _, _, _, _, _, _, _, _, _, _, _, _, _, _, _, _, _, _, _, _, _, _, _, _, _, _, _, _, _, _, _, _, _, _, _, _, _, _, _, _, _, _, _, _, _, _, _, _, _, _, _, _, _, _, _, _, _, _, _, _, _, _, _, _, _, _, _, _, _, _, _, _, _, _, _, _, _, _, _, _, _, _, _, _, _, _, _, _, _, _, _, _, _, _, _, _, _, _, _, _, _, _, _, _, _, _, _, _, _, _] : Array Value).getD i undef), rfl, rfl, by omega, hF⟩
  case roundx =>
      clear hF
      intro γ a w hI
      obtain ⟨k, rv, vout, vs, Fx, rfl, rfl, hk, hF⟩ := hI
      refine wpM_seq KK ?_
      refine wpM_seq KK ?_
      refine wpM_region KK ?_
      simp only [List.size_toArray, List.length_cons, List.length_nil, Nat.reduceAdd, Nat.zero_add, List.range, List.range.loop]
      by_cases hlt : k < ls.length
      · have e1 : decide ((k : Int) < (ls.length : Int)) = true := decide_eq_true (by omega)
        have i1 : (k : Int) < (ls.length : Int) := by omega
        have HT := Go.Lib.hid (List.take_append_getElem hlt).symm
        obtain ⟨b, o, hAe, A1, c1, hcc, hc1, hr1⟩ := HA.out.row2 k hlt
        have HC := Go.Lib.hid hc1
        have HR := Go.Lib.hid hr1
        clear hc1 hr1 hcc
        generalize ls[k] = lb at *
        subst hAe
        refine opsN_k KK rfl (by rfl) (by rfl) ?_
        intro _ hR C hC
        replace hF := AllH.rely hF hR
        clear hR
        go_simp
        refine hC _ _ ?_
        clear hC C
        try walk_nrm
        refine opsN_k KK rfl (by rfl) (by rfl) ?_
        intro _ hR C hC
        replace hF := AllH.rely hF hR
        clear hR
        go_simp
        refine hC _ _ ?_
        clear hC C
        try walk_nrm
        refine opsN_k KK rfl (by rfl) (by rfl) ?_
        intro _ hR C hC
        replace hF := AllH.rely hF hR
        clear hR
        go_simp
        refine hC _ _ ?_
        clear hC C
        try walk_nrm
        refine opsN_k KK rfl (by rfl) (by rfl) ?_
        intro _ hR C hC
        replace hF := AllH.rely hF hR
        clear hR
        go_simp
        refine hC _ _ ?_
        clear hC C
        try walk_nrm
        refine opsM_nil KK ?_
        try simp only [thenM, Exit.inBlock, if_true, if_false, reduceIte, Nat.reduceEqDiff]
        refine wpM_cond KK rfl ?_
        first | simp only [if_true, if_false, reduceIte, Bool.false_eq_true] | fail "COND"
        refine wpM_skip KK ?_
        try simp only [thenM, Exit.inBlock, if_true, if_false, reduceIte, Nat.reduceEqDiff]
        refine wpM_seq KK ?_
        refine wpM_block KK ?_
        refine wpM_seq KK ?_
        refine wpM_region KK ?_
        simp only [List.size_toArray, List.length_cons, List.length_nil, Nat.reduceAdd, Nat.zero_add, List.range, List.range.loop]
        refine opsN_k KK rfl (by rfl) (by rfl) ?_
        intro _ hR C hC
        replace hF := AllH.rely hF hR
        clear hR
        go_simp
        refine hC _ _ ?_
        clear hC C
        try walk_nrm
        refine opsN_k KK rfl (by rfl) (by rfl) ?_
        intro _ hR C hC
        replace hF := AllH.rely hF hR
        clear hR
        go_simp
        refine hC _ _ ?_
        clear hC C
        try walk_nrm
        refine opsN_k KK rfl (by rfl) (by rfl) ?_
        intro _ hR C hC
        replace hF := AllH.rely hF hR
        clear hR
        go_simp
        refine hC _ _ ?_
        clear hC C
        try walk_nrm
        refine opsN_k KK rfl (by rfl) (by rfl) ?_
        intro _ hR C hC
        replace hF := AllH.rely hF hR
        clear hR
        have hc := below_cell hF.below HC.out
        go_simp
        refine hC _ _ ?_
        clear hC C
        try walk_nrm
        clear hc
        by_cases hbad : lb.length = 0 ∨ 256 < lb.length
        · refine opsM_fcall KK (vals := #[.slice A1 lb.length c1]) rfl (by rfl) rfl Tryd.func7 (by rfl) rfl (by simp [Act.eval]) ?_
          refine callM_mono (frame_bad_m A1 c1 lb a1 a2 _ (errF_below HE.out hF.below) hbad) ?_
          rintro γ v w ⟨rfl, ⟨ea, rfl⟩, hB⟩
          replace hF := hF.next hB
          clear hB
          try walk_nrm
          refine opsN_k KK rfl (by rfl) (by rfl) ?_
          intro _ hR C hC
          replace hF := AllH.rely hF hR
          clear hR
          go_simp
          refine hC _ _ ?_
          clear hC C
          try walk_nrm
          refine opsN_k KK rfl (by rfl) (by rfl) ?_
          intro _ hR C hC
          replace hF := AllH.rely hF hR
          clear hR
          go_simp
          refine hC _ _ ?_
          clear hC C
          try walk_nrm
          refine opsN_k KK rfl (by rfl) (by rfl) ?_
          intro _ hR C hC
          replace hF := AllH.rely hF hR
          clear hR
          go_simp
          refine hC _ _ ?_
          clear hC C
          try walk_nrm
          refine opsN_k KK rfl (by rfl) (by rfl) ?_
          intro _ hR C hC
          replace hF := AllH.rely hF hR
          clear hR
          go_simp
          refine hC _ _ ?_
          clear hC C
          try walk_nrm
          refine opsN_k KK rfl (by rfl) (by rfl) ?_
          intro _ hR C hC
          replace hF := AllH.rely hF hR
          clear hR
          go_simp
          refine hC _ _ ?_
          clear hC C
          try walk_nrm
          refine opsM_nil KK ?_
          try simp only [thenM, Exit.inBlock, if_true, if_false, reduceIte, Nat.reduceEqDiff]
          refine wpM_seq KK ?_
          refine wpM_seq KK ?_
          refine wpM_region KK ?_
          simp only [List.size_toArray, List.length_cons, List.length_nil, Nat.reduceAdd, Nat.zero_add, List.range, List.range.loop]
          refine opsN_k KK rfl (by rfl) (by rfl) ?_
          intro _ hR C hC
          replace hF := AllH.rely hF hR
          clear hR
          go_simp
          refine hC _ _ ?_
          clear hC C
          try walk_nrm
          refine opsN_k KK rfl (by rfl) (by rfl) ?_
          intro _ hR C hC
          replace hF := AllH.rely hF hR
          clear hR
          go_simp
          refine hC _ _ ?_
          clear hC C
          try walk_nrm
          refine opsM_nil KK ?_
          try simp only [thenM, Exit.inBlock, if_true, if_false, reduceIte, Nat.reduceEqDiff]
          refine wpM_cond KK rfl ?_
          first | simp only [if_true, if_false, reduceIte, Bool.false_eq_true] | fail "COND"
          by_cases hz : lb.length = 0
          · have z0 : ((lb.length : Int) == 0) = true := beq_iff_eq.2 (by omega)
            refine wpM_seq KK ?_
            refine wpM_region KK ?_
            simp only [List.size_toArray, List.length_cons, List.length_nil, Nat.reduceAdd, Nat.zero_add, List.range, List.range.loop]
            refine opsN_k KK rfl (by rfl) (by rfl) ?_
            intro _ hR C hC
            replace hF := AllH.rely hF hR
            clear hR
            go_simp
            refine hC _ _ ?_
            clear hC C
            try walk_nrm
            refine opsN_k KK rfl (by rfl) (by rfl) ?_
            intro _ hR C hC
            replace hF := AllH.rely hF hR
            clear hR
            go_simp
            refine hC _ _ ?_
            clear hC C
            try walk_nrm
            refine opsN_k KK rfl (by rfl) (by rfl) ?_
            intro _ hR C hC
            replace hF := AllH.rely hF hR
            clear hR
            go_simp
            refine hC _ _ ?_
            clear hC C
            try walk_nrm
            refine opsN_k KK rfl (by rfl) (by rfl) ?_
            intro _ hR C hC
            replace hF := AllH.rely hF hR
            clear hR
            have hc := below_cell hF.below HC.out
            go_simp
            refine hC _ _ ?_
            clear hC C
            try walk_nrm
            clear hc
            refine opsN_k KK rfl (by rfl) (by rfl) ?_
            intro _ hR C hC
            replace hF := AllH.rely hF hR
            clear hR
            go_simp
            refine hC _ _ ?_
            clear hC C
            try walk_nrm
            refine opsN_k KK rfl (by rfl) (by rfl) ?_
            intro _ hR C hC
            replace hF := AllH.rely hF hR
            clear hR
            go_simp
            refine hC _ _ ?_
            clear hC C
            try walk_nrm
            refine opsN_k KK rfl (by rfl) (by rfl) ?_
            intro _ hR C hC
            replace hF := AllH.rely hF hR
            clear hR
            go_simp
            refine hC _ _ ?_
            clear hC C
            try walk_nrm
            refine opsM_pass KK rfl (by rfl) ?_
            try walk_nrm
            refine opsM_pass KK rfl (by rfl) ?_
            try walk_nrm
            refine opsM_pass KK rfl (by rfl) ?_
            try walk_nrm
            refine opsM_pass KK rfl (by rfl) ?_
            try walk_nrm
            refine opsM_pass KK rfl (by rfl) ?_
            try walk_nrm
            refine opsM_pass KK rfl (by rfl) ?_
            try walk_nrm
            refine opsN_k KK rfl (by rfl) (by rfl) ?_
            intro _ hR C hC
            replace hF := AllH.rely hF hR
            clear hR
            go_simp
            refine hC _ _ ?_
            clear hC C
            try walk_nrm
            refine opsN_k KK rfl (by rfl) (by rfl) ?_
            intro _ hR C hC
            replace hF := AllH.rely hF hR
            clear hR
            go_simp
            refine hC _ _ ?_
            clear hC C
            try walk_nrm
            refine opsM_nil KK ?_
            try simp only [thenM, Exit.inBlock, if_true, if_false, reduceIte, Nat.reduceEqDiff]
            refine wpM_ret KK ?_
            try simp only [thenM, Exit.inBlock, if_true, if_false, reduceIte, Nat.reduceEqDiff]
            exact ⟨rfl, .bool true, resultsC_tmp (t := 6) (by rfl) _, rfl, fun d => hpost _ (AllH.rely hF ⟨d, rfl⟩).below⟩
          · have z0 : ((lb.length : Int) == 0) = false := beq_eq_false_iff_ne.2 (by omega)
            have z1 : decide ((256 : Int) < (lb.length : Int)) = true := decide_eq_true (by omega)
            refine wpM_seq KK ?_
            refine wpM_region KK ?_
            simp only [List.size_toArray, List.length_cons, List.length_nil, Nat.reduceAdd, Nat.zero_add, List.range, List.range.loop]
            refine opsN_k KK rfl (by rfl) (by rfl) ?_
            intro _ hR C hC
            replace hF := AllH.rely hF hR
            clear hR
            go_simp
            refine hC _ _ ?_
            clear hC C
            try walk_nrm
            refine opsN_k KK rfl (by rfl) (by rfl) ?_
            intro _ hR C hC
            replace hF := AllH.rely hF hR
            clear hR
            go_simp
            refine hC _ _ ?_
            clear hC C
            try walk_nrm
            refine opsN_k KK rfl (by rfl) (by rfl) ?_
            intro _ hR C hC
            replace hF := AllH.rely hF hR
            clear hR
            go_simp
            refine hC _ _ ?_
            clear hC C
            try walk_nrm
            refine opsN_k KK rfl (by rfl) (by rfl) ?_
            intro _ hR C hC
            replace hF := AllH.rely hF hR
            clear hR
            have hc := below_cell hF.below HC.out
            go_simp
            refine hC _ _ ?_
            clear hC C
            try walk_nrm
            clear hc
            refine opsN_k KK rfl (by rfl) (by rfl) ?_
            intro _ hR C hC
            replace hF := AllH.rely hF hR
            clear hR
            go_simp
            refine hC _ _ ?_
            clear hC C
            try walk_nrm
            refine opsN_k KK rfl (by rfl) (by rfl) ?_
            intro _ hR C hC
            replace hF := AllH.rely hF hR
            clear hR
            go_simp
            refine hC _ _ ?_
            clear hC C
            try walk_nrm
            refine opsN_k KK rfl (by rfl) (by rfl) ?_
            intro _ hR C hC
            replace hF := AllH.rely hF hR
            clear hR
            go_simp
            refine hC _ _ ?_
            clear hC C
            try walk_nrm
            refine opsN_k KK rfl (by rfl) (by rfl) ?_
            intro _ hR C hC
            replace hF := AllH.rely hF hR
            clear hR
            go_simp
            refine hC _ _ ?_
            clear hC C
            try walk_nrm
            refine opsN_k KK rfl (by rfl) (by rfl) ?_
            intro _ hR C hC
            replace hF := AllH.rely hF hR
            clear hR
            go_simp
            refine hC _ _ ?_
            clear hC C
            try walk_nrm
            refine opsN_k KK rfl (by rfl) (by rfl) ?_
            intro _ hR C hC
            replace hF := AllH.rely hF hR
            clear hR
            go_simp
            refine hC _ _ ?_
            clear hC C
            try walk_nrm
            refine opsN_k KK rfl (by rfl) (by rfl) ?_
            intro _ hR C hC
            replace hF := AllH.rely hF hR
            clear hR
            have hc := below_cell hF.below HC.out
            go_simp
            refine hC _ _ ?_
            clear hC C
            try walk_nrm
            clear hc
            refine opsN_k KK rfl (by rfl) (by rfl) ?_
            intro _ hR C hC
            replace hF := AllH.rely hF hR
            clear hR
            go_simp
            refine hC _ _ ?_
            clear hC C
            try walk_nrm
            refine opsN_k KK rfl (by rfl) (by rfl) ?_
            intro _ hR C hC
            replace hF := AllH.rely hF hR
            clear hR
            go_simp
            refine hC _ _ ?_
            clear hC C
            try walk_nrm
            refine opsN_k KK rfl (by rfl) (by rfl) ?_
            intro _ hR C hC
            replace hF := AllH.rely hF hR
            clear hR
            go_simp
            refine hC _ _ ?_
            clear hC C
            try walk_nrm
            refine opsN_k KK rfl (by rfl) (by rfl) ?_
            intro _ hR C hC
            replace hF := AllH.rely hF hR
            clear hR
            go_simp
            refine hC _ _ ?_
            clear hC C
            try walk_nrm
            refine opsM_nil KK ?_
            try simp only [thenM, Exit.inBlock, if_true, if_false, reduceIte, Nat.reduceEqDiff]
            refine wpM_ret KK ?_
            try simp only [thenM, Exit.inBlock, if_true, if_false, reduceIte, Nat.reduceEqDiff]
            exact ⟨rfl, .bool true, resultsC_tmp (t := 6) (by rfl) _, rfl, fun d => hpost _ (AllH.rely hF ⟨d, rfl⟩).below⟩
        have hz0 : ¬ lb.length = 0 := by omega
        have hz1 : ¬ 256 < lb.length := by omega
        refine opsM_fcall KK (vals := #[.slice A1 lb.length c1]) rfl (by rfl) rfl Tryd.func7 (by rfl) rfl (by simp [Act.eval]) ?_
        refine callM_mono (frame_good_m A1 c1 lb _ hz0 hz1 (cells_below hF.below HR.out)) ?_
        rintro γ v w ⟨rfl, ⟨x, rfl, hx⟩, hB⟩
        obtain ⟨N, hN⟩ : ∃ N, N = lb.length + 3 := ⟨_, rfl⟩
        have hFL : (frameB lb).length = N := by rw [frameB_length, hN]
        obtain ⟨fg, fc, he, hfc1, hfc2, hfr⟩ := own_some hx (by rw [Bs_length, hFL]; omega)
        rw [Bs_length, hFL] at he hfc1
        subst he
        replace hF : AllC w0 sp [] false rv vout vs (ls.take k) (some ⟨fg, 0, none⟩) (frameB lb) _ := ⟨hF.next hB, hfr⟩
        have HFL := Go.Lib.hid hFL
        have hNb : N ≤ 259 := by omega
        have HFB := Go.Lib.hid (fed1_frame lb (by omega) (by omega))
        clear hB hx hfr hFL hN
        try walk_nrm
        refine opsN_k KK rfl (by rfl) (by rfl) ?_
        intro _ hR C hC
        replace hF := AllC.rely hF hR
        clear hR
        go_simp
        refine hC _ _ ?_
        clear hC C
        try walk_nrm
        refine opsN_k KK rfl (by rfl) (by rfl) ?_
        intro _ hR C hC
        replace hF := AllC.rely hF hR
        clear hR
        go_simp
        refine hC _ _ ?_
        clear hC C
        try walk_nrm
        refine opsN_k KK rfl (by rfl) (by rfl) ?_
        intro _ hR C hC
        replace hF := AllC.rely hF hR
        clear hR
        go_simp
        refine hC _ _ ?_
        clear hC C
        try walk_nrm
        refine opsN_k KK rfl (by rfl) (by rfl) ?_
        intro _ hR C hC
        replace hF := AllC.rely hF hR
        clear hR
        go_simp
        refine hC _ _ ?_
        clear hC C
        try walk_nrm
        refine opsN_k KK rfl (by rfl) (by rfl) ?_
        intro _ hR C hC
        replace hF := AllC.rely hF hR
        clear hR
        go_simp
        refine hC _ _ ?_
        clear hC C
        try walk_nrm
        refine opsM_nil KK ?_
        try simp only [thenM, Exit.inBlock, if_true, if_false, reduceIte, Nat.reduceEqDiff]
        refine wpM_seq KK ?_
        refine wpM_seq KK ?_
        refine wpM_region KK ?_
        simp only [List.size_toArray, List.length_cons, List.length_nil, Nat.reduceAdd, Nat.zero_add, List.range, List.range.loop]
        refine opsN_k KK rfl (by rfl) (by rfl) ?_
        intro _ hR C hC
        replace hF := AllC.rely hF hR
        clear hR
        go_simp
        refine hC _ _ ?_
        clear hC C
        try walk_nrm
        refine opsN_k KK rfl (by rfl) (by rfl) ?_
        intro _ hR C hC
        replace hF := AllC.rely hF hR
        clear hR
        go_simp
        refine hC _ _ ?_
        clear hC C
        try walk_nrm
        refine opsM_nil KK ?_
        try simp only [thenM, Exit.inBlock, if_true, if_false, reduceIte, Nat.reduceEqDiff]
        refine wpM_cond KK rfl ?_
        first | simp only [if_true, if_false, reduceIte, Bool.false_eq_true] | fail "COND"
        refine wpM_skip KK ?_
        try simp only [thenM, Exit.inBlock, if_true, if_false, reduceIte, Nat.reduceEqDiff]
        refine wpM_seq KK ?_
        refine wpM_region KK ?_
        simp only [List.size_toArray, List.length_cons, List.length_nil, Nat.reduceAdd, Nat.zero_add, List.range, List.range.loop]
        refine opsN_k KK rfl (by rfl) (by rfl) ?_
        intro _ hR C hC
        replace hF := AllC.rely hF hR
        clear hR
        go_simp
        refine hC _ _ ?_
        clear hC C
        try walk_nrm
        refine opsN_k KK rfl (by rfl) (by rfl) ?_
        intro _ hR C hC
        replace hF := AllC.rely hF hR
        clear hR
        go_simp
        refine hC _ _ ?_
        clear hC C
        try walk_nrm
        have h4 := feed_w (Post := Post) (some ⟨fg, 0, none⟩) fc (frameB lb) _ hF.h.spl hF.h.below.size hF.c (by rw [HFL.out]; exact ⟨hfc1, hfc2⟩) (by rw [HFL.out]; simp only [List.length_nil]; omega)
        rw [HFL.out] at h4
        refine opsM_fcall KK (vals := #[.pointer (some ⟨sp, 0, none⟩), .slice (some ⟨fg, 0, none⟩) N fc]) rfl (by rfl) rfl Tryd.func9 (by rfl) rfl (by simp [Act.eval]) ?_
        refine callM_mono (h4) ?_
        rintro γ r w ⟨rfl, hfed⟩
        obtain ⟨pv, us, qs, hv', bad', rv', rfl, heq, hF⟩ := hF.h.fed hfed
        rw [HFB.out] at heq
        obtain ⟨rfl, rfl, rfl⟩ : qs = [lb] ∧ hv' = [] ∧ bad' = false := by simpa using heq
        clear hfed heq h4
        try walk_nrm
        refine opsN_k KK rfl (by rfl) (by rfl) ?_
        intro _ hR C hC
        replace hF := AllP.rely hF hR
        clear hR
        go_simp
        refine hC _ _ ?_
        clear hC C
        try walk_nrm
        refine opsN_k KK rfl (by rfl) (by rfl) ?_
        intro _ hR C hC
        replace hF := AllP.rely hF hR
        clear hR
        go_simp
        refine hC _ _ ?_
        clear hC C
        try walk_nrm
        refine opsN_k KK rfl (by rfl) (by rfl) ?_
        intro _ hR C hC
        replace hF := AllP.rely hF hR
        clear hR
        go_simp
        refine hC _ _ ?_
        clear hC C
        try walk_nrm
        refine opsN_k KK rfl (by rfl) (by rfl) ?_
        intro _ hR C hC
        replace hF := AllP.rely hF hR
        clear hR
        go_simp
        refine hC _ _ ?_
        clear hC C
        try walk_nrm
        refine opsN_k KK rfl (by rfl) (by rfl) ?_
        intro _ hR C hC
        replace hF := AllP.rely hF hR
        clear hR
        go_simp
        refine hC _ _ ?_
        clear hC C
        try walk_nrm
        refine opsM_nil KK ?_
        try simp only [thenM, Exit.inBlock, if_true, if_false, reduceIte, Nat.reduceEqDiff]
        refine wpM_seq KK ?_
        refine wpM_seq KK ?_
        refine wpM_region KK ?_
        simp only [List.size_toArray, List.length_cons, List.length_nil, Nat.reduceAdd, Nat.zero_add, List.range, List.range.loop]
        refine opsN_k KK rfl (by rfl) (by rfl) ?_
        intro _ hR C hC
        replace hF := AllP.rely hF hR
        clear hR
        go_simp
        refine hC _ _ ?_
        clear hC C
        try walk_nrm
        refine opsM_nil KK ?_
        try simp only [thenM, Exit.inBlock, if_true, if_false, reduceIte, Nat.reduceEqDiff]
        refine wpM_cond KK rfl ?_
        first | simp only [if_true, if_false, reduceIte, Bool.false_eq_true] | fail "COND"
        refine wpM_skip KK ?_
        try simp only [thenM, Exit.inBlock, if_true, if_false, reduceIte, Nat.reduceEqDiff]
        refine wpM_region KK ?_
        simp only [List.size_toArray, List.length_cons, List.length_nil, Nat.reduceAdd, Nat.zero_add, List.range, List.range.loop]
        refine opsN_k KK rfl (by rfl) (by rfl) ?_
        intro _ hR C hC
        replace hF := AllP.rely hF hR
        clear hR
        go_simp
        refine hC _ _ ?_
        clear hC C
        try walk_nrm
        refine opsN_k KK rfl (by rfl) (by rfl) ?_
        intro _ hR C hC
        replace hF := AllP.rely hF hR
        clear hR
        go_simp
        refine hC _ _ ?_
        clear hC C
        try walk_nrm
        refine opsN_k KK rfl (by rfl) (by rfl) ?_
        intro w1 hR C hC
        replace hF := AllP.rely hF hR
        clear hR
        obtain ⟨v', w', hr, ho, hg⟩ := run_append_rows (P := Tryd.prog) w1 w0.heap.size 22 22 23 (by kernel_rfl) (by kernel_rfl) vout pv vs us hF.out hF.more (fun u hu => pays_one hF.pays u (List.mem_append_right _ hu)) (by have h1 := hF.len; have h2 := HTT.out; simp only [List.length_take, List.length_cons, List.length_nil] at h1; omega) hF.below.size
        replace hF := hF.grown ho hg
        refine uponK_append _ _ _ rfl rfl rfl hr (hC _ _ ?_)
        clear hC C
        clear hr ho hg
        try walk_nrm
        refine opsN_k KK rfl (by rfl) (by rfl) ?_
        intro _ hR C hC
        replace hF := AllH.rely hF hR
        clear hR
        go_simp
        refine hC _ _ ?_
        clear hC C
        try walk_nrm
        refine opsM_nil KK ?_
        try simp only [thenM, Exit.inBlock, if_true, if_false, reduceIte, Nat.reduceEqDiff]
        have wk : IntKind.i64.wrap ((k : Int) + 1) = ((k + 1 : Nat) : Int) := by rw [IntKind.wrap_i64]; omega
        refine wpM_region KK ?_
        simp only [List.size_toArray, List.length_cons, List.length_nil, Nat.reduceAdd, Nat.zero_add, List.range, List.range.loop]
        refine opsN_k KK rfl (by rfl) (by rfl) ?_
        intro _ hR C hC
        replace hF := AllH.rely hF hR
        clear hR
        go_simp
        refine hC _ _ ?_
        clear hC C
        try walk_nrm
        refine opsN_k KK rfl (by rfl) (by rfl) ?_
        intro _ hR C hC
        replace hF := AllH.rely hF hR
        clear hR
        go_simp
        refine hC _ _ ?_
        clear hC C
        try walk_nrm
        refine opsN_k KK rfl (by rfl) (by rfl) ?_
        intro _ hR C hC
        replace hF := AllH.rely hF hR
        clear hR
        go_simp
        refine hC _ _ ?_
        clear hC C
        try walk_nrm
        refine opsM_nil KK ?_
        try simp only [thenM, Exit.inBlock, if_true, if_false, reduceIte, Nat.reduceEqDiff]
        refine ⟨⟨k + 1, rv', _, _, (fun i => (#[undef, undef, undef, _, _, _, _, _, _, _, undef, undef, undef, _, _, _, _, _, _, _, _, _, _, _, _, _, _, _, _, _, _, _, _, _, _, _, _, _, _, _, _, _, _, _, _, _, _, _, _, _, _, _, _, _, _, _, _, _, _, _, _, _, _, _, _, _, _, _, _, _, _, _, _, _, _, _, _, _, _, _, _, _, _, _, _, _, _, _, _, _, _, _, _, _, _, _, _, _, _, _, _, _, _, _, _, _, _, _, _, _, _, _, _, _, _, _, _, _, _, _, _, _, _, _, _, _, _, _, _, _, _, _, _, _, _, _, _, _, _, _, _, _, _, _, _, _, _, _, _, _, _, _, _, _, _, _, _, _, _, _, _, _, _, _, _, _, _, _, _, _, _, _, _, _, _, _, _, _, _, _, _, _, _, _, _, _, _, _, _, _, _, _, _, _, _, _, _, _, _, _, _, _, _, _, _, _, _, _, _, _, _, _, _, _, _] : Array Value).getD i undef), (by first | rfl | trivial), rfl, by omega, (by rw [HT.out]; exact hF)⟩, ?_⟩
        show ls.length - ((k : Int) + 1).toNat < ls.length - (k : Int).toNat
        omega
      obtain rfl : k = ls.length := by omega
      have e1 : decide ((ls.length : Int) < (ls.length : Int)) = false := decide_eq_false (by omega)
      refine opsN_k KK rfl (by rfl) (by rfl) ?_
      intro _ hR C hC
      replace hF := AllH.rely hF hR
      clear hR
      go_simp
      refine hC _ _ ?_
      clear hC C
      try walk_nrm
      refine opsN_k KK rfl (by rfl) (by rfl) ?_
      intro _ hR C hC
      replace hF := AllH.rely hF hR
      clear hR
      go_simp
      refine hC _ _ ?_
      clear hC C
      try walk_nrm
      refine opsN_k KK rfl (by rfl) (by rfl) ?_
      intro _ hR C hC
      replace hF := AllH.rely hF hR
      clear hR
      go_simp
      refine hC _ _ ?_
      clear hC C
      try walk_nrm
      refine opsN_k KK rfl (by rfl) (by rfl) ?_
      intro _ hR C hC
      replace hF := AllH.rely hF hR
      clear hR
      go_simp
      refine hC _ _ ?_
      clear hC C
      try walk_nrm
      refine opsM_nil KK ?_
      try simp only [thenM, Exit.inBlock, if_true, if_false, reduceIte, Nat.reduceEqDiff]
      refine wpM_cond KK rfl ?_
      first | simp only [if_true, if_false, reduceIte, Bool.false_eq_true] | fail "COND"
      refine wpM_exit KK ?_
      try simp only [thenM, Exit.inBlock, if_true, if_false, reduceIte, Nat.reduceEqDiff]
      rw [List.take_length] at hF
      refine wpM_seq KK ?_
      refine wpM_seq KK ?_
      refine wpM_region KK ?_
      simp only [List.size_toArray, List.length_cons, List.length_nil, Nat.reduceAdd, Nat.zero_add, List.range, List.range.loop]
      refine opsN_k KK rfl (by rfl) (by rfl) ?_
      intro _ hR C hC
      replace hF := AllH.rely hF hR
      clear hR
      go_simp
      refine hC _ _ ?_
      clear hC C
      try walk_nrm
      refine opsM_nil KK ?_
      try simp only [thenM, Exit.inBlock, if_true, if_false, reduceIte, Nat.reduceEqDiff]
      refine wpM_block KK ?_
      refine wpM_loop KK (fun (γ : Option (Duet × Proto)) (a : Act) (w : World) => ∃ (j : Nat) (rv : Value) (Fy : Nat → Value), γ = none ∧ a = { tmps := #[.slice A ls.length cc, .slice (some ⟨fb, fo, none⟩) fa.length cf, .slice AM mo.length cm, Fy 3, Fy 4, Fy 5, Fy 6, Fy 7, Fy 8, Fy 9, .pointer (some ⟨sp, 0, none⟩), vout, Fy 12, Fy 13, Fy 14, Fy 15, Fy 16, .int .i64 (j : Int), Fy 18, Fy 19, Fy 20, Fy 21, Fy 22, Fy 23, Fy 24, Fy 25, Fy 26, Fy 27, Fy 28, Fy 29, Fy 30, Fy 31, Fy 32, Fy 33, Fy 34, Fy 35, Fy 36, Fy 37, Fy 38, Fy 39, Fy 40, Fy 41, Fy 42, Fy 43, Fy 44, Fy 45, Fy 46, Fy 47, Fy 48, Fy 49, Fy 50, Fy 51, Fy 52, Fy 53, Fy 54, Fy 55, Fy 56, Fy 57, Fy 58, Fy 59, Fy 60, Fy 61, Fy 62, Fy 63, Fy 64, Fy 65, Fy 66, Fy 67, Fy 68, Fy 69, Fy 70, Fy 71, Fy 72, Fy 73, Fy 74, Fy 75, Fy 76, Fy 77, Fy 78, Fy 79, Fy 80, Fy 81, Fy 82, Fy 83, Fy 84, Fy 85, Fy 86, Fy 87, Fy 88, Fy 89, Fy 90, Fy 91, Fy 92, Fy 93, Fy 94, Fy 95, Fy 96, Fy 97, Fy 98, Fy 99, Fy 100, Fy 101, Fy 102, Fy 103, Fy 104, Fy 105, Fy 106, Fy 107, Fy 108, Fy 109, Fy 110, Fy 111, Fy 112, Fy 113, Fy 114, Fy 115, Fy 116, Fy 117, Fy 118, Fy 119, Fy 120, Fy 121, Fy 122, Fy 123, Fy 124, Fy 125, Fy 126, Fy 127, Fy 128, Fy 129, Fy 130, Fy 131, Fy 132, Fy 133, Fy 134, Fy 135, Fy 136, Fy 137, Fy 138, Fy 139, Fy 140, Fy 141, Fy 142, Fy 143, Fy 144, Fy 145, Fy 146, Fy 147, Fy 148, Fy 149, Fy 150, Fy 151, Fy 152, Fy 153, Fy 154, Fy 155, Fy 156, Fy 157, Fy 158, Fy 159, Fy 160, Fy 161, Fy 162, Fy 163, Fy 164, Fy 165, Fy 166, Fy 167, Fy 168, Fy 169, Fy 170, Fy 171, Fy 172, Fy 173, Fy 174, Fy 175, Fy 176, Fy 177, Fy 178, Fy 179, Fy 180, Fy 181, Fy 182, Fy 183, Fy 184, Fy 185, Fy 186, Fy 187, Fy 188, Fy 189, Fy 190, Fy 191, Fy 192, Fy 193, Fy 194, Fy 195, Fy 196, Fy 197, Fy 198, Fy 199, Fy 200, Fy 201, Fy 202, Fy 203, Fy 204, Fy 205, Fy 206, Fy 207, Fy 208, Fy 209, Fy 210, Fy 211, Fy 212, Fy 213, Fy 214], defers := [] } ∧ j + 1 ≤ fa.length ∧ AllH w0 sp (fa.take j) false rv vout vs ls w) (fun _ a _ => fa.length - slotN a 17) ?starty ?roundy
      case starty => exact ⟨0, rv, (fun i => (#[undef, undef, undef, _, _, _, _, _, _, _, undef, undef, _, _, _, _, _, undef, _, _, _, _, _, _, _, _, _, _, _, _, _, _, _, _, _, _, _, _, _, _, _, _, _, _, _, _, _, _, _, _, _, _, _, _, _, _, _, _, _, _, _, _, _, _, _, _, _, _, _, _, _, _, _, _, _, _, _, _, _, _, _, _, _, _, _, _, _, _, _, _, _, _, _, _, _, _, _, _, _, _, _, _, _, _, _, _, _, _, _, _, _, _, _, _, _, _, _, _, _, _, _, _, _, _, _, _, _, _, _, _, _, _, _, _, _, _, _, _, _, _, _, _, _, _, _, _, _, _, _, _, _, _, _, _, _, _, _, _, _, _, _, _, _, _, _, _, _, _, _, _, _, _, _, _, _, _, _, _, _, _, _, _, _, _, _, _, _, _, _, _, _, _, _, _, _, _, _, _, _, _, _, _, _, _, _, _, _, _, _, _, _, _, _, _, _] : Array Value).getD i undef), rfl, rfl, by omega, hF⟩
      case roundy =>
          clear hF
          intro γ a w hI
          obtain ⟨j, rv, Fy, rfl, rfl, hj, hF⟩ := hI
          refine wpM_seq KK ?_
          refine wpM_seq KK ?_
          refine wpM_region KK ?_
          simp only [List.size_toArray, List.length_cons, List.length_nil, Nat.reduceAdd, Nat.zero_add, List.range, List.range.loop]
          have wj : IntKind.i64.wrap ((j : Int) + 1) = ((j + 1 : Nat) : Int) := by rw [IntKind.wrap_i64]; omega
          by_cases hlt : j + 1 < fa.length
          · have e1 : decide (((j + 1 : Nat) : Int) < (fa.length : Int)) = true := decide_eq_true (by omega)
            have e2 : decide ((j : Int) + 1 < (fa.length : Int)) = true := decide_eq_true (by omega)
            refine opsN_k KK rfl (by rfl) (by rfl) ?_
            intro _ hR C hC
            replace hF := AllH.rely hF hR
            clear hR
            go_simp
            refine hC _ _ ?_
            clear hC C
            try walk_nrm
            refine opsN_k KK rfl (by rfl) (by rfl) ?_
            intro _ hR C hC
            replace hF := AllH.rely hF hR
            clear hR
            go_simp
            refine hC _ _ ?_
            clear hC C
            try walk_nrm
            refine opsN_k KK rfl (by rfl) (by rfl) ?_
            intro _ hR C hC
            replace hF := AllH.rely hF hR
            clear hR
            go_simp
            refine hC _ _ ?_
            clear hC C
            try walk_nrm
            refine opsN_k KK rfl (by rfl) (by rfl) ?_
            intro _ hR C hC
            replace hF := AllH.rely hF hR
            clear hR
            go_simp
            refine hC _ _ ?_
            clear hC C
            try walk_nrm
            refine opsN_k KK rfl (by rfl) (by rfl) ?_
            intro _ hR C hC
            replace hF := AllH.rely hF hR
            clear hR
            go_simp
            refine hC _ _ ?_
            clear hC C
            try walk_nrm
            refine opsM_nil KK ?_
            try simp only [thenM, Exit.inBlock, if_true, if_false, reduceIte, Nat.reduceEqDiff]
            refine wpM_cond KK rfl ?_
            first | simp only [if_true, if_false, reduceIte, Bool.false_eq_true] | fail "COND"
            refine wpM_skip KK ?_
            try simp only [thenM, Exit.inBlock, if_true, if_false, reduceIte, Nat.reduceEqDiff]
            refine wpM_seq KK ?_
            refine wpM_block KK ?_
            have hcut : ∀ W : World, (Instr.slice 23 (.slice (some ⟨fb, fo, none⟩) fa.length cf) (some (.int .i64 (j : Int))) (some (.int .i64 ((j : Int) + 1))) none).run Tryd.prog W = .ok (.slice (cutA (some ⟨fb, fo, none⟩) cf j) 1 (cf - j)) W := by
                have h := run_cut_lh (P := Tryd.prog) 23 5 Tryd.underlying23 (by kernel_rfl) (some ⟨fb, fo, none⟩) fa.length cf j (j + 1) (by omega) (by have := HCF.out.1; omega)
                rw [show j + 1 - j = 1 by omega, show ((j + 1 : Nat) : Int) = (j : Int) + 1 by omega] at h
                exact h
            refine wpM_seq KK ?_
            refine wpM_region KK ?_
            simp only [List.size_toArray, List.length_cons, List.length_nil, Nat.reduceAdd, Nat.zero_add, List.range, List.range.loop]
            refine opsN_k KK rfl (by rfl) (by rfl) ?_
            intro _ hR C hC
            replace hF := AllH.rely hF hR
            clear hR
            go_simp
            refine hC _ _ ?_
            clear hC C
            try walk_nrm
            refine opsN_k KK rfl (by rfl) (by rfl) ?_
            intro _ hR C hC
            replace hF := AllH.rely hF hR
            clear hR
            go_simp
            refine hC _ _ ?_
            clear hC C
            try walk_nrm
            refine opsN_k KK rfl (by rfl) (by rfl) ?_
            intro _ hR C hC
            replace hF := AllH.rely hF hR
            clear hR
            go_simp
            refine hC _ _ ?_
            clear hC C
            try walk_nrm
            refine opsN_k KK rfl (by rfl) (by rfl) ?_
            intro _ hR C hC
            replace hF := AllH.rely hF hR
            clear hR
            go_simp
            refine hC _ _ ?_
            clear hC C
            try walk_nrm
            refine opsN_k KK rfl (by rfl) (by rfl) ?_
            intro _ hR C hC
            replace hF := AllH.rely hF hR
            clear hR
            go_simp
            refine hC _ _ ?_
            clear hC C
            try walk_nrm
            refine opsN_k KK rfl (by rfl) (by rfl) ?_
            intro _ hR C hC
            replace hF := AllH.rely hF hR
            clear hR
            go_simp
            refine hC _ _ ?_
            clear hC C
            try walk_nrm
            have h4 := feed_w (Post := Post) (cutA (some ⟨fb, fo, none⟩) cf j) (cf - j) [fa[j]] _ hF.spl hF.below.size (cells_below hF.below (cells_one HFA.out HCF.out.1 HCF.out.2 j (by omega))) (by have := HCF.out; simp only [List.length_singleton]; omega) (by rw [List.length_take, List.length_singleton]; omega)
            rw [show ([fa[j]] : List UInt8).length = 1 from rfl] at h4
            refine opsM_fcall KK (vals := #[.pointer (some ⟨sp, 0, none⟩), .slice (cutA (some ⟨fb, fo, none⟩) cf j) 1 (cf - j)]) rfl (by rfl) rfl Tryd.func9 (by rfl) rfl (by simp [Act.eval]) ?_
            refine callM_mono (h4) ?_
            rintro γ r w ⟨rfl, hfed⟩
            obtain ⟨PA, pc, rv', rfl, hF⟩ := hF.fed0 hfed (fed1_step HOK.out.1 j hlt)
            clear hfed h4
            try walk_nrm
            refine opsN_k KK rfl (by rfl) (by rfl) ?_
            intro _ hR C hC
            replace hF := AllH.rely hF hR
            clear hR
            go_simp
            refine hC _ _ ?_
            clear hC C
            try walk_nrm
            refine opsN_k KK rfl (by rfl) (by rfl) ?_
            intro _ hR C hC
            replace hF := AllH.rely hF hR
            clear hR
            go_simp
            refine hC _ _ ?_
            clear hC C
            try walk_nrm
            refine opsN_k KK rfl (by rfl) (by rfl) ?_
            intro _ hR C hC
            replace hF := AllH.rely hF hR
            clear hR
            go_simp
            refine hC _ _ ?_
            clear hC C
            try walk_nrm
            refine opsN_k KK rfl (by rfl) (by rfl) ?_
            intro _ hR C hC
            replace hF := AllH.rely hF hR
            clear hR
            go_simp
            refine hC _ _ ?_
            clear hC C
            try walk_nrm
            refine opsN_k KK rfl (by rfl) (by rfl) ?_
            intro _ hR C hC
            replace hF := AllH.rely hF hR
            clear hR
            go_simp
            refine hC _ _ ?_
            clear hC C
            try walk_nrm
            refine opsM_nil KK ?_
            try simp only [thenM, Exit.inBlock, if_true, if_false, reduceIte, Nat.reduceEqDiff]
            refine wpM_seq KK ?_
            refine wpM_region KK ?_
            simp only [List.size_toArray, List.length_cons, List.length_nil, Nat.reduceAdd, Nat.zero_add, List.range, List.range.loop]
            refine opsN_k KK rfl (by rfl) (by rfl) ?_
            intro _ hR C hC
            replace hF := AllH.rely hF hR
            clear hR
            go_simp
            refine hC _ _ ?_
            clear hC C
            try walk_nrm
            refine opsN_k KK rfl (by rfl) (by rfl) ?_
            intro _ hR C hC
            replace hF := AllH.rely hF hR
            clear hR
            go_simp
            refine hC _ _ ?_
            clear hC C
            try walk_nrm
            refine opsN_k KK rfl (by rfl) (by rfl) ?_
            intro _ hR C hC
            replace hF := AllH.rely hF hR
            clear hR
            go_simp
            refine hC _ _ ?_
            clear hC C
            try walk_nrm
            refine opsN_k KK rfl (by rfl) (by rfl) ?_
            intro _ hR C hC
            replace hF := AllH.rely hF hR
            clear hR
            go_simp
            refine hC _ _ ?_
            clear hC C
            try walk_nrm
            refine opsN_k KK rfl (by rfl) (by rfl) ?_
            intro _ hR C hC
            replace hF := AllH.rely hF hR
            clear hR
            go_simp
            refine hC _ _ ?_
            clear hC C
            try walk_nrm
            refine opsN_k KK rfl (by rfl) (by rfl) ?_
            intro _ hR C hC
            replace hF := AllH.rely hF hR
            clear hR
            go_simp
            refine hC _ _ ?_
            clear hC C
            try walk_nrm
            refine opsN_k KK rfl (by rfl) (by rfl) ?_
            intro _ hR C hC
            replace hF := AllH.rely hF hR
            clear hR
            go_simp
            refine hC _ _ ?_
            clear hC C
            try walk_nrm
            refine opsN_k KK rfl (by rfl) (by rfl) ?_
            intro _ hR C hC
            replace hF := AllH.rely hF hR
            clear hR
            go_simp
            refine hC _ _ ?_
            clear hC C
            try walk_nrm
            refine opsM_fcall KK (vals := #[.pointer (some ⟨sp, 0, none⟩)]) rfl (by rfl) rfl Tryd.func11 (by rfl) rfl (by simp [Act.eval]) ?_
            refine callM_mono (waiting_spl _ hF.spl) ?_
            rintro γ x w ⟨rfl, rfl, hB⟩
            rw [show (((fa.take (j + 1)).length : Nat) : Int) = (j : Int) + 1 by rw [List.length_take, Nat.min_eq_left (by omega)]; omega]
            have nq : (((j : Int) + 1) != ((j : Int) + 1)) = false := by simp
            replace hF := hF.next hB
            clear hB
            try walk_nrm
            refine opsN_k KK rfl (by rfl) (by rfl) ?_
            intro _ hR C hC
            replace hF := AllH.rely hF hR
            clear hR
            go_simp
            refine hC _ _ ?_
            clear hC C
            try walk_nrm
            refine opsN_k KK rfl (by rfl) (by rfl) ?_
            intro _ hR C hC
            replace hF := AllH.rely hF hR
            clear hR
            go_simp
            refine hC _ _ ?_
            clear hC C
            try walk_nrm
            refine opsN_k KK rfl (by rfl) (by rfl) ?_
            intro _ hR C hC
            replace hF := AllH.rely hF hR
            clear hR
            go_simp
            refine hC _ _ ?_
            clear hC C
            try walk_nrm
            refine opsN_k KK rfl (by rfl) (by rfl) ?_
            intro _ hR C hC
            replace hF := AllH.rely hF hR
            clear hR
            go_simp
            refine hC _ _ ?_
            clear hC C
            try walk_nrm
            refine opsM_nil KK ?_
            try simp only [thenM, Exit.inBlock, if_true, if_false, reduceIte, Nat.reduceEqDiff]
            refine wpM_cond KK rfl ?_
            first | simp only [if_true, if_false, reduceIte, Bool.false_eq_true] | fail "COND"
            refine wpM_skip KK ?_
            try simp only [thenM, Exit.inBlock, if_true, if_false, reduceIte, Nat.reduceEqDiff]
            refine wpM_region KK ?_
            simp only [List.size_toArray, List.length_cons, List.length_nil, Nat.reduceAdd, Nat.zero_add, List.range, List.range.loop]
            refine opsN_k KK rfl (by rfl) (by rfl) ?_
            intro _ hR C hC
            replace hF := AllH.rely hF hR
            clear hR
            go_simp
            refine hC _ _ ?_
            clear hC C
            try walk_nrm
            refine opsN_k KK rfl (by rfl) (by rfl) ?_
            intro _ hR C hC
            replace hF := AllH.rely hF hR
            clear hR
            go_simp
            refine hC _ _ ?_
            clear hC C
            try walk_nrm
            refine opsN_k KK rfl (by rfl) (by rfl) ?_
            intro _ hR C hC
            replace hF := AllH.rely hF hR
            clear hR
            go_simp
            refine hC _ _ ?_
            clear hC C
            try walk_nrm
            refine opsM_nil KK ?_
            try simp only [thenM, Exit.inBlock, if_true, if_false, reduceIte, Nat.reduceEqDiff]
            refine ⟨⟨j + 1, rv', (fun i => (#[undef, undef, undef, _, _, _, _, _, _, _, undef, undef, _, _, _, _, _, undef, _, _, _, _, _, _, _, _, _, _, _, _, _, _, _, _, _, _, _, _, _, _, _, _, _, _, _, _, _, _, _, _, _, _, _, _, _, _, _, _, _, _, _, _, _, _, _, _, _, _, _, _, _, _, _, _, _, _, _, _, _, _, _, _, _, _, _, _, _, _, _, _, _, _, _, _, _, _, _, _, _, _, _, _, _, _, _, _, _, _, _, _, _, _, _, _, _, _, _, _, _, _, _, _, _, _, _, _, _, _, _, _, _, _, _, _, _, _, _, _, _, _, _, _, _, _, _, _, _, _, _, _, _, _, _, _, _, _, _, _, _, _, _, _, _, _, _, _, _, _, _, _, _, _, _, _, _, _, _, _, _, _, _, _, _, _, _, _, _, _, _, _, _, _, _, _, _, _, _, _, _, _, _, _, _, _, _, _, _, _, _, _, _, _, _, _, _] : Array Value).getD i undef), (by first | rfl | trivial), rfl, by omega, hF⟩, ?_⟩
            show fa.length - ((j : Int) + 1).toNat < fa.length - (j : Int).toNat
            omega
          have hjl : j + 1 = fa.length := by omega
          have e1 : decide (((j + 1 : Nat) : Int) < (fa.length : Int)) = false := decide_eq_false (by omega)
          have e2 : decide ((j : Int) + 1 < (fa.length : Int)) = false := decide_eq_false (by omega)
          refine opsN_k KK rfl (by rfl) (by rfl) ?_
          intro _ hR C hC
          replace hF := AllH.rely hF hR
          clear hR
          go_simp
          refine hC _ _ ?_
          clear hC C
          try walk_nrm
          refine opsN_k KK rfl (by rfl) (by rfl) ?_
          intro _ hR C hC
          replace hF := AllH.rely hF hR
          clear hR
          go_simp
          refine hC _ _ ?_
          clear hC C
          try walk_nrm
          refine opsN_k KK rfl (by rfl) (by rfl) ?_
          intro _ hR C hC
          replace hF := AllH.rely hF hR
          clear hR
          go_simp
          refine hC _ _ ?_
          clear hC C
          try walk_nrm
          refine opsN_k KK rfl (by rfl) (by rfl) ?_
          intro _ hR C hC
          replace hF := AllH.rely hF hR
          clear hR
          go_simp
          refine hC _ _ ?_
          clear hC C
          try walk_nrm
          refine opsN_k KK rfl (by rfl) (by rfl) ?_
          intro _ hR C hC
          replace hF := AllH.rely hF hR
          clear hR
          go_simp
          refine hC _ _ ?_
          clear hC C
          try walk_nrm
          refine opsM_nil KK ?_
          try simp only [thenM, Exit.inBlock, if_true, if_false, reduceIte, Nat.reduceEqDiff]
          refine wpM_cond KK rfl ?_
          first | simp only [if_true, if_false, reduceIte, Bool.false_eq_true] | fail "COND"
          refine wpM_exit KK ?_
          try simp only [thenM, Exit.inBlock, if_true, if_false, reduceIte, Nat.reduceEqDiff]
          clear e1 e2
          have ws : IntKind.i64.wrap ((fa.length : Int) - 1) = (j : Int) := by rw [IntKind.wrap_i64]; omega
          have hlt : j < fa.length := by omega
          have hcut : ∀ W : World, (Instr.slice 23 (.slice (some ⟨fb, fo, none⟩) fa.length cf) (some (.int .i64 (j : Int))) none none).run Tryd.prog W = .ok (.slice (cutA (some ⟨fb, fo, none⟩) cf j) 1 (cf - j)) W := by
            have h := run_cut_l (P := Tryd.prog) 23 5 Tryd.underlying23 (by kernel_rfl) (some ⟨fb, fo, none⟩) fa.length cf j (by omega)
            rw [show fa.length - j = 1 by omega] at h
            exact h
          have HLST := Go.Lib.hid (fed1_last2 HOK.out.2 j hjl hlt)
          clear hjl
          refine wpM_seq KK ?_
          refine wpM_region KK ?_
          simp only [List.size_toArray, List.length_cons, List.length_nil, Nat.reduceAdd, Nat.zero_add, List.range, List.range.loop]
          refine opsN_k KK rfl (by rfl) (by rfl) ?_
          intro _ hR C hC
          replace hF := AllH.rely hF hR
          clear hR
          go_simp
          refine hC _ _ ?_
          clear hC C
          try walk_nrm
          refine opsN_k KK rfl (by rfl) (by rfl) ?_
          intro _ hR C hC
          replace hF := AllH.rely hF hR
          clear hR
          go_simp
          refine hC _ _ ?_
          clear hC C
          try walk_nrm
          refine opsN_k KK rfl (by rfl) (by rfl) ?_
          intro _ hR C hC
          replace hF := AllH.rely hF hR
          clear hR
          go_simp
          refine hC _ _ ?_
          clear hC C
          try walk_nrm
          refine opsN_k KK rfl (by rfl) (by rfl) ?_
          intro _ hR C hC
          replace hF := AllH.rely hF hR
          clear hR
          go_simp
          refine hC _ _ ?_
          clear hC C
          try walk_nrm
          refine opsN_k KK rfl (by rfl) (by rfl) ?_
          intro _ hR C hC
          replace hF := AllH.rely hF hR
          clear hR
          go_simp
          refine hC _ _ ?_
          clear hC C
          try walk_nrm
          refine opsN_k KK rfl (by rfl) (by rfl) ?_
          intro _ hR C hC
          replace hF := AllH.rely hF hR
          clear hR
          go_simp
          refine hC _ _ ?_
          clear hC C
          try walk_nrm
          have h4 := feed_w (Post := Post) (cutA (some ⟨fb, fo, none⟩) cf j) (cf - j) [fa[j]] _ hF.spl hF.below.size (cells_below hF.below (cells_one HFA.out HCF.out.1 HCF.out.2 j hlt)) (by have := HCF.out; simp only [List.length_singleton]; omega) (by rw [List.length_take, List.length_singleton]; omega)
          rw [show ([fa[j]] : List UInt8).length = 1 from rfl] at h4
          refine opsM_fcall KK (vals := #[.pointer (some ⟨sp, 0, none⟩), .slice (cutA (some ⟨fb, fo, none⟩) cf j) 1 (cf - j)]) rfl (by rfl) rfl Tryd.func9 (by rfl) rfl (by simp [Act.eval]) ?_
          refine callM_mono (h4) ?_
          rintro γ r w ⟨rfl, hfed⟩
          obtain ⟨PA, pc, rv', rfl, hF⟩ := hF.fed0 hfed HLST.out
          clear hfed h4 hcut
          try walk_nrm
          refine opsN_k KK rfl (by rfl) (by rfl) ?_
          intro _ hR C hC
          replace hF := AllH.rely hF hR
          clear hR
          go_simp
          refine hC _ _ ?_
          clear hC C
          try walk_nrm
          refine opsN_k KK rfl (by rfl) (by rfl) ?_
          intro _ hR C hC
          replace hF := AllH.rely hF hR
          clear hR
          go_simp
          refine hC _ _ ?_
          clear hC C
          try walk_nrm
          refine opsN_k KK rfl (by rfl) (by rfl) ?_
          intro _ hR C hC
          replace hF := AllH.rely hF hR
          clear hR
          go_simp
          refine hC _ _ ?_
          clear hC C
          try walk_nrm
          refine opsN_k KK rfl (by rfl) (by rfl) ?_
          intro _ hR C hC
          replace hF := AllH.rely hF hR
          clear hR
          go_simp
          refine hC _ _ ?_
          clear hC C
          try walk_nrm
          refine opsN_k KK rfl (by rfl) (by rfl) ?_
          intro _ hR C hC
          replace hF := AllH.rely hF hR
          clear hR
          go_simp
          refine hC _ _ ?_
          clear hC C
          try walk_nrm
          refine opsM_nil KK ?_
          try simp only [thenM, Exit.inBlock, if_true, if_false, reduceIte, Nat.reduceEqDiff]
          refine wpM_seq KK ?_
          refine wpM_seq KK ?_
          refine wpM_region KK ?_
          simp only [List.size_toArray, List.length_cons, List.length_nil, Nat.reduceAdd, Nat.zero_add, List.range, List.range.loop]
          refine opsN_k KK rfl (by rfl) (by rfl) ?_
          intro _ hR C hC
          replace hF := AllH.rely hF hR
          clear hR
          go_simp
          refine hC _ _ ?_
          clear hC C
          try walk_nrm
          refine opsN_k KK rfl (by rfl) (by rfl) ?_
          intro _ hR C hC
          replace hF := AllH.rely hF hR
          clear hR
          go_simp
          refine hC _ _ ?_
          clear hC C
          try walk_nrm
          refine opsN_k KK rfl (by rfl) (by rfl) ?_
          intro _ hR C hC
          replace hF := AllH.rely hF hR
          clear hR
          go_simp
          refine hC _ _ ?_
          clear hC C
          try walk_nrm
          refine opsN_k KK rfl (by rfl) (by rfl) ?_
          intro _ hR C hC
          replace hF := AllH.rely hF hR
          clear hR
          go_simp
          refine hC _ _ ?_
          clear hC C
          try walk_nrm
          refine opsN_k KK rfl (by rfl) (by rfl) ?_
          intro _ hR C hC
          replace hF := AllH.rely hF hR
          clear hR
          go_simp
          refine hC _ _ ?_
          clear hC C
          try walk_nrm
          refine opsN_k KK rfl (by rfl) (by rfl) ?_
          intro _ hR C hC
          replace hF := AllH.rely hF hR
          clear hR
          go_simp
          refine hC _ _ ?_
          clear hC C
          try walk_nrm
          refine opsN_k KK rfl (by rfl) (by rfl) ?_
          intro _ hR C hC
          replace hF := AllH.rely hF hR
          clear hR
          go_simp
          refine hC _ _ ?_
          clear hC C
          try walk_nrm
          refine opsN_k KK rfl (by rfl) (by rfl) ?_
          intro _ hR C hC
          replace hF := AllH.rely hF hR
          clear hR
          go_simp
          refine hC _ _ ?_
          clear hC C
          try walk_nrm
          refine opsN_k KK rfl (by rfl) (by rfl) ?_
          intro _ hR C hC
          replace hF := AllH.rely hF hR
          clear hR
          go_simp
          refine hC _ _ ?_
          clear hC C
          try walk_nrm
          refine opsM_fcall KK (vals := #[.pointer (some ⟨sp, 0, none⟩)]) rfl (by rfl) rfl Tryd.func11 (by rfl) rfl (by simp [Act.eval]) ?_
          refine callM_mono (waiting_spl _ hF.spl) ?_
          rintro γ x w ⟨rfl, rfl, hB⟩
          rw [show ((([] : List UInt8).length : Nat) : Int) = 0 from rfl]
          replace hF := hF.next hB
          clear hB
          try walk_nrm
          refine opsN_k KK rfl (by rfl) (by rfl) ?_
          intro _ hR C hC
          replace hF := AllH.rely hF hR
          clear hR
          go_simp
          refine hC _ _ ?_
          clear hC C
          try walk_nrm
          refine opsN_k KK rfl (by rfl) (by rfl) ?_
          intro _ hR C hC
          replace hF := AllH.rely hF hR
          clear hR
          go_simp
          refine hC _ _ ?_
          clear hC C
          try walk_nrm
          refine opsN_k KK rfl (by rfl) (by rfl) ?_
          intro _ hR C hC
          replace hF := AllH.rely hF hR
          clear hR
          go_simp
          refine hC _ _ ?_
          clear hC C
          try walk_nrm
          refine opsN_k KK rfl (by rfl) (by rfl) ?_
          intro _ hR C hC
          replace hF := AllH.rely hF hR
          clear hR
          go_simp
          refine hC _ _ ?_
          clear hC C
          try walk_nrm
          refine opsM_fcall KK (vals := #[.pointer (some ⟨sp, 0, none⟩)]) rfl (by rfl) rfl Tryd.func12 (by rfl) rfl (by simp [Act.eval]) ?_
          refine callM_mono (bad_calls _ hF.spl.blk) ?_
          rintro γ x w ⟨rfl, rfl, hB⟩
          replace hF := hF.next hB
          clear hB
          try walk_nrm
          refine opsN_k KK rfl (by rfl) (by rfl) ?_
          intro _ hR C hC
          replace hF := AllH.rely hF hR
          clear hR
          go_simp
          refine hC _ _ ?_
          clear hC C
          try walk_nrm
          refine opsN_k KK rfl (by rfl) (by rfl) ?_
          intro _ hR C hC
          replace hF := AllH.rely hF hR
          clear hR
          go_simp
          refine hC _ _ ?_
          clear hC C
          try walk_nrm
          refine opsM_nil KK ?_
          try simp only [thenM, Exit.inBlock, if_true, if_false, reduceIte, Nat.reduceEqDiff]
          refine wpM_cond KK rfl ?_
          first | simp only [if_true, if_false, reduceIte, Bool.false_eq_true] | fail "COND"
          refine wpM_skip KK ?_
          try simp only [thenM, Exit.inBlock, if_true, if_false, reduceIte, Nat.reduceEqDiff]
          refine wpM_seq KK ?_
          refine wpM_seq KK ?_
          refine wpM_region KK ?_
          simp only [List.size_toArray, List.length_cons, List.length_nil, Nat.reduceAdd, Nat.zero_add, List.range, List.range.loop]
          refine opsN_k KK rfl (by rfl) (by rfl) ?_
          intro _ hR C hC
          replace hF := AllH.rely hF hR
          clear hR
          go_simp
          refine hC _ _ ?_
          clear hC C
          try walk_nrm
          refine opsM_nil KK ?_
          try simp only [thenM, Exit.inBlock, if_true, if_false, reduceIte, Nat.reduceEqDiff]
          refine wpM_block KK ?_
          refine wpM_loop KK (fun (γ : Option (Duet × Proto)) (a : Act) (w : World) => ∃ (m : Nat) (rv : Value) (Fz : Nat → Value), γ = none ∧ a = { tmps := #[.slice A ls.length cc, .slice (some ⟨fb, fo, none⟩) fa.length cf, .slice AM mo.length cm, Fz 3, Fz 4, Fz 5, Fz 6, Fz 7, Fz 8, Fz 9, .pointer (some ⟨sp, 0, none⟩), vout, Fz 12, Fz 13, Fz 14, Fz 15, Fz 16, Fz 17, Fz 18, Fz 19, Fz 20, Fz 21, .int .i64 (m : Int), Fz 23, Fz 24, Fz 25, Fz 26, Fz 27, Fz 28, Fz 29, Fz 30, Fz 31, Fz 32, Fz 33, Fz 34, Fz 35, Fz 36, Fz 37, Fz 38, Fz 39, Fz 40, Fz 41, Fz 42, Fz 43, Fz 44, Fz 45, Fz 46, Fz 47, Fz 48, Fz 49, Fz 50, Fz 51, Fz 52, Fz 53, Fz 54, Fz 55, Fz 56, Fz 57, Fz 58, Fz 59, Fz 60, Fz 61, Fz 62, Fz 63, Fz 64, Fz 65, Fz 66, Fz 67, Fz 68, Fz 69, Fz 70, Fz 71, Fz 72, Fz 73, Fz 74, Fz 75, Fz 76, Fz 77, Fz 78, Fz 79, Fz 80, Fz 81, Fz 82, Fz 83, Fz 84, Fz 85, Fz 86, Fz 87, Fz 88, Fz 89, Fz 90, Fz 91, Fz 92, Fz 93, Fz 94, Fz 95, Fz 96, Fz 97, Fz 98, Fz 99, Fz 100, Fz 101, Fz 102, Fz 103, Fz 104, Fz 105, Fz 106, Fz 107, Fz 108, Fz 109, Fz 110, Fz 111, Fz 112, Fz 113, Fz 114, Fz 115, Fz 116, Fz 117, Fz 118, Fz 119, Fz 120, Fz 121, Fz 122, Fz 123, Fz 124, Fz 125, Fz 126, Fz 127, Fz 128, Fz 129, Fz 130, Fz 131, Fz 132, Fz 133, Fz 134, Fz 135, Fz 136, Fz 137, Fz 138, Fz 139, Fz 140, Fz 141, Fz 142, Fz 143, Fz 144, Fz 145, Fz 146, Fz 147, Fz 148, Fz 149, Fz 150, Fz 151, Fz 152, Fz 153, Fz 154, Fz 155, Fz 156, Fz 157, Fz 158, Fz 159, Fz 160, Fz 161, Fz 162, Fz 163, Fz 164, Fz 165, Fz 166, Fz 167, Fz 168, Fz 169, Fz 170, Fz 171, Fz 172, Fz 173, Fz 174, Fz 175, Fz 176, Fz 177, Fz 178, Fz 179, Fz 180, Fz 181, Fz 182, Fz 183, Fz 184, Fz 185, Fz 186, Fz 187, Fz 188, Fz 189, Fz 190, Fz 191, Fz 192, Fz 193, Fz 194, Fz 195, Fz 196, Fz 197, Fz 198, Fz 199, Fz 200, Fz 201, Fz 202, Fz 203, Fz 204, Fz 205, Fz 206, Fz 207, Fz 208, Fz 209, Fz 210, Fz 211, Fz 212, Fz 213, Fz 214], defers := [] } ∧ m ≤ mo.length ∧ AllH w0 sp [] true rv vout vs ls w) (fun _ a _ => mo.length - slotN a 22) ?startz ?roundz
          case startz => exact ⟨0, rv', (fun i => (#[undef, undef, undef, _, _, _, _, _, _, _, undef, undef, _, _, _, _, _, _, _, _, _, _, undef, _, _, _, _, _, _, _, _, _, _, _, _, _, _, _, _, _, _, _, _, _, _, _, _, _, _, _, _, _, _, _, _, _, _, _, _, _, _, _, _, _, _, _, _, _, _, _, _, _, _, _, _, _, _, _, _, _, _, _, _, _, _, _, _, _, _, _, _, _, _, _, _, _, _, _, _, _, _, _, _, _, _, _, _, _, _, _, _, _, _, _, _, _, _, _, _, _, _, _, _, _, _, _, _, _, _, _, _, _, _, _, _, _, _, _, _, _, _, _, _, _, _, _, _, _, _, _, _, _, _, _, _, _, _, _, _, _, _, _, _, _, _, _, _, _, _, _, _, _, _, _, _, _, _, _, _, _, _, _, _, _, _, _, _, _, _, _, _, _, _, _, _, _, _, _, _, _, _, _, _, _, _, _, _, _, _, _, _, _, _, _, _] : Array Value).getD i undef), rfl, rfl, by omega, hF⟩
          case roundz =>
              clear hF
              intro γ a w hI
              obtain ⟨m, rv, Fz, rfl, rfl, hm, hF⟩ := hI
              refine wpM_seq KK ?_
              refine wpM_seq KK ?_
              refine wpM_region KK ?_
              simp only [List.size_toArray, List.length_cons, List.length_nil, Nat.reduceAdd, Nat.zero_add, List.range, List.range.loop]
              by_cases hlt : m < mo.length
              · have e1 : decide ((m : Int) < (mo.length : Int)) = true := decide_eq_true (by omega)
                have i1 : (m : Int) < (mo.length : Int) := by omega
                have hz : mo[m].length ≤ 16777216 := by have h1 := totL_take mo m hlt; have h3 := totL_mono mo (m + 1); have h5 := totL_le mo; omega
                obtain ⟨b, o, hAe, A1, c1, hcc, hc1, hr1⟩ := HM.out.row2 m hlt
                have HC := Go.Lib.hid hc1
                have HR := Go.Lib.hid hr1
                have HCC := Go.Lib.hid hcc
                clear hc1 hr1 hcc
                generalize mo[m] = lb at *
                subst hAe
                refine opsN_k KK rfl (by rfl) (by rfl) ?_
                intro _ hR C hC
                replace hF := AllH.rely hF hR
                clear hR
                go_simp
                refine hC _ _ ?_
                clear hC C
                try walk_nrm
                refine opsN_k KK rfl (by rfl) (by rfl) ?_
                intro _ hR C hC
                replace hF := AllH.rely hF hR
                clear hR
                go_simp
                refine hC _ _ ?_
                clear hC C
                try walk_nrm
                refine opsN_k KK rfl (by rfl) (by rfl) ?_
                intro _ hR C hC
                replace hF := AllH.rely hF hR
                clear hR
                go_simp
                refine hC _ _ ?_
                clear hC C
                try walk_nrm
                refine opsN_k KK rfl (by rfl) (by rfl) ?_
                intro _ hR C hC
                replace hF := AllH.rely hF hR
                clear hR
                go_simp
                refine hC _ _ ?_
                clear hC C
                try walk_nrm
                refine opsM_nil KK ?_
                try simp only [thenM, Exit.inBlock, if_true, if_false, reduceIte, Nat.reduceEqDiff]
                refine wpM_cond KK rfl ?_
                first | simp only [if_true, if_false, reduceIte, Bool.false_eq_true] | fail "COND"
                refine wpM_skip KK ?_
                try simp only [thenM, Exit.inBlock, if_true, if_false, reduceIte, Nat.reduceEqDiff]
                refine wpM_seq KK ?_
                refine wpM_block KK ?_
                refine wpM_seq KK ?_
                refine wpM_region KK ?_
                simp only [List.size_toArray, List.length_cons, List.length_nil, Nat.reduceAdd, Nat.zero_add, List.range, List.range.loop]
                refine opsN_k KK rfl (by rfl) (by rfl) ?_
                intro _ hR C hC
                replace hF := AllH.rely hF hR
                clear hR
                go_simp
                refine hC _ _ ?_
                clear hC C
                try walk_nrm
                refine opsN_k KK rfl (by rfl) (by rfl) ?_
                intro _ hR C hC
                replace hF := AllH.rely hF hR
                clear hR
                go_simp
                refine hC _ _ ?_
                clear hC C
                try walk_nrm
                refine opsN_k KK rfl (by rfl) (by rfl) ?_
                intro _ hR C hC
                replace hF := AllH.rely hF hR
                clear hR
                go_simp
                refine hC _ _ ?_
                clear hC C
                try walk_nrm
                refine opsN_k KK rfl (by rfl) (by rfl) ?_
                intro _ hR C hC
                replace hF := AllH.rely hF hR
                clear hR
                go_simp
                refine hC _ _ ?_
                clear hC C
                try walk_nrm
                refine opsN_k KK rfl (by rfl) (by rfl) ?_
                intro _ hR C hC
                replace hF := AllH.rely hF hR
                clear hR
                have hc := below_cell hF.below HC.out
                go_simp
                refine hC _ _ ?_
                clear hC C
                try walk_nrm
                clear hc
                refine opsM_fcall KK (vals := #[.pointer (some ⟨sp, 0, none⟩), .slice A1 lb.length c1]) rfl (by rfl) rfl Tryd.func9 (by rfl) rfl (by simp [Act.eval]) ?_
                refine callM_mono (feed_w A1 c1 lb _ hF.spl hF.below.size (cells_below hF.below HR.out) HCC.out (by simp only [List.length_nil]; omega)) ?_
                rintro γ r w ⟨rfl, hfed⟩
                obtain ⟨PA, pc, rv', rfl, hF⟩ := hF.fed0 hfed (show fed1 ([], true) lb = ([], [], true) from rfl)
                clear hfed
                try walk_nrm
                refine opsN_k KK rfl (by rfl) (by rfl) ?_
                intro _ hR C hC
                replace hF := AllH.rely hF hR
                clear hR
                go_simp
                refine hC _ _ ?_
                clear hC C
                try walk_nrm
                refine opsN_k KK rfl (by rfl) (by rfl) ?_
                intro _ hR C hC
                replace hF := AllH.rely hF hR
                clear hR
                go_simp
                refine hC _ _ ?_
                clear hC C
                try walk_nrm
                refine opsN_k KK rfl (by rfl) (by rfl) ?_
                intro _ hR C hC
                replace hF := AllH.rely hF hR
                clear hR
                go_simp
                refine hC _ _ ?_
                clear hC C
                try walk_nrm
                refine opsN_k KK rfl (by rfl) (by rfl) ?_
                intro _ hR C hC
                replace hF := AllH.rely hF hR
                clear hR
                go_simp
                refine hC _ _ ?_
                clear hC C
                try walk_nrm
                refine opsN_k KK rfl (by rfl) (by rfl) ?_
                intro _ hR C hC
                replace hF := AllH.rely hF hR
                clear hR
                go_simp
                refine hC _ _ ?_
                clear hC C
                try walk_nrm
                refine opsM_nil KK ?_
                try simp only [thenM, Exit.inBlock, if_true, if_false, reduceIte, Nat.reduceEqDiff]
                refine wpM_seq KK ?_
                refine wpM_region KK ?_
                simp only [List.size_toArray, List.length_cons, List.length_nil, Nat.reduceAdd, Nat.zero_add, List.range, List.range.loop]
                refine opsN_k KK rfl (by rfl) (by rfl) ?_
                intro _ hR C hC
                replace hF := AllH.rely hF hR
                clear hR
                go_simp
                refine hC _ _ ?_
                clear hC C
                try walk_nrm
                refine opsN_k KK rfl (by rfl) (by rfl) ?_
                intro _ hR C hC
                replace hF := AllH.rely hF hR
                clear hR
                go_simp
                refine hC _ _ ?_
                clear hC C
                try walk_nrm
                refine opsN_k KK rfl (by rfl) (by rfl) ?_
                intro _ hR C hC
                replace hF := AllH.rely hF hR
                clear hR
                go_simp
                refine hC _ _ ?_
                clear hC C
                try walk_nrm
                refine opsN_k KK rfl (by rfl) (by rfl) ?_
                intro _ hR C hC
                replace hF := AllH.rely hF hR
                clear hR
                go_simp
                refine hC _ _ ?_
                clear hC C
                try walk_nrm
                refine opsN_k KK rfl (by rfl) (by rfl) ?_
                intro _ hR C hC
                replace hF := AllH.rely hF hR
                clear hR
                go_simp
                refine hC _ _ ?_
                clear hC C
                try walk_nrm
                refine opsN_k KK rfl (by rfl) (by rfl) ?_
                intro _ hR C hC
                replace hF := AllH.rely hF hR
                clear hR
                go_simp
                refine hC _ _ ?_
                clear hC C
                try walk_nrm
                refine opsN_k KK rfl (by rfl) (by rfl) ?_
                intro _ hR C hC
                replace hF := AllH.rely hF hR
                clear hR
                go_simp
                refine hC _ _ ?_
                clear hC C
                try walk_nrm
                refine opsN_k KK rfl (by rfl) (by rfl) ?_
                intro _ hR C hC
                replace hF := AllH.rely hF hR
                clear hR
                go_simp
                refine hC _ _ ?_
                clear hC C
                try walk_nrm
                refine opsN_k KK rfl (by rfl) (by rfl) ?_
                intro _ hR C hC
                replace hF := AllH.rely hF hR
                clear hR
                go_simp
                refine hC _ _ ?_
                clear hC C
                try walk_nrm
                refine opsM_fcall KK (vals := #[.pointer (some ⟨sp, 0, none⟩)]) rfl (by rfl) rfl Tryd.func11 (by rfl) rfl (by simp [Act.eval]) ?_
                refine callM_mono (waiting_spl _ hF.spl) ?_
                rintro γ x w ⟨rfl, rfl, hB⟩
                rw [show ((([] : List UInt8).length : Nat) : Int) = 0 from rfl]
                replace hF := hF.next hB
                clear hB
                try walk_nrm
                refine opsN_k KK rfl (by rfl) (by rfl) ?_
                intro _ hR C hC
                replace hF := AllH.rely hF hR
                clear hR
                go_simp
                refine hC _ _ ?_
                clear hC C
                try walk_nrm
                refine opsN_k KK rfl (by rfl) (by rfl) ?_
                intro _ hR C hC
                replace hF := AllH.rely hF hR
                clear hR
                go_simp
                refine hC _ _ ?_
                clear hC C
                try walk_nrm
                refine opsN_k KK rfl (by rfl) (by rfl) ?_
                intro _ hR C hC
                replace hF := AllH.rely hF hR
                clear hR
                go_simp
                refine hC _ _ ?_
                clear hC C
                try walk_nrm
                refine opsN_k KK rfl (by rfl) (by rfl) ?_
                intro _ hR C hC
                replace hF := AllH.rely hF hR
                clear hR
                go_simp
                refine hC _ _ ?_
                clear hC C
                try walk_nrm
                refine opsM_fcall KK (vals := #[.pointer (some ⟨sp, 0, none⟩)]) rfl (by rfl) rfl Tryd.func12 (by rfl) rfl (by simp [Act.eval]) ?_
                refine callM_mono (bad_calls _ hF.spl.blk) ?_
                rintro γ x w ⟨rfl, rfl, hB⟩
                replace hF := hF.next hB
                clear hB
                try walk_nrm
                refine opsN_k KK rfl (by rfl) (by rfl) ?_
                intro _ hR C hC
                replace hF := AllH.rely hF hR
                clear hR
                go_simp
                refine hC _ _ ?_
                clear hC C
                try walk_nrm
                refine opsN_k KK rfl (by rfl) (by rfl) ?_
                intro _ hR C hC
                replace hF := AllH.rely hF hR
                clear hR
                go_simp
                refine hC _ _ ?_
                clear hC C
                try walk_nrm
                refine opsM_nil KK ?_
                try simp only [thenM, Exit.inBlock, if_true, if_false, reduceIte, Nat.reduceEqDiff]
                refine wpM_cond KK rfl ?_
                first | simp only [if_true, if_false, reduceIte, Bool.false_eq_true] | fail "COND"
                refine wpM_skip KK ?_
                try simp only [thenM, Exit.inBlock, if_true, if_false, reduceIte, Nat.reduceEqDiff]
                have wk : IntKind.i64.wrap ((m : Int) + 1) = ((m + 1 : Nat) : Int) := by rw [IntKind.wrap_i64]; omega
                refine wpM_region KK ?_
                simp only [List.size_toArray, List.length_cons, List.length_nil, Nat.reduceAdd, Nat.zero_add, List.range, List.range.loop]
                refine opsN_k KK rfl (by rfl) (by rfl) ?_
                intro _ hR C hC
                replace hF := AllH.rely hF hR
                clear hR
                go_simp
                refine hC _ _ ?_
                clear hC C
                try walk_nrm
                refine opsN_k KK rfl (by rfl) (by rfl) ?_
                intro _ hR C hC
                replace hF := AllH.rely hF hR
                clear hR
                go_simp
                refine hC _ _ ?_
                clear hC C
                try walk_nrm
                refine opsN_k KK rfl (by rfl) (by rfl) ?_
                intro _ hR C hC
                replace hF := AllH.rely hF hR
                clear hR
                go_simp
                refine hC _ _ ?_
                clear hC C
                try walk_nrm
                refine opsM_nil KK ?_
                try simp only [thenM, Exit.inBlock, if_true, if_false, reduceIte, Nat.reduceEqDiff]
                refine ⟨⟨m + 1, rv', (fun i => (#[undef, undef, undef, _, _, _, _, _, _, _, undef, undef, _, _, _, _, _, _, _, _, _, _, undef, _, _, _, _, _, _, _, _, _, _, _, _, _, _, _, _, _, _, _, _, _, _, _, _, _, _, _, _, _, _, _, _, _, _, _, _, _, _, _, _, _, _, _, _, _, _, _, _, _, _, _, _, _, _, _, _, _, _, _, _, _, _, _, _, _, _, _, _, _, _, _, _, _, _, _, _, _, _, _, _, _, _, _, _, _, _, _, _, _, _, _, _, _, _, _, _, _, _, _, _, _, _, _, _, _, _, _, _, _, _, _, _, _, _, _, _, _, _, _, _, _, _, _, _, _, _, _, _, _, _, _, _, _, _, _, _, _, _, _, _, _, _, _, _, _, _, _, _, _, _, _, _, _, _, _, _, _, _, _, _, _, _, _, _, _, _, _, _, _, _, _, _, _, _, _, _, _, _, _, _, _, _, _, _, _, _, _, _, _, _, _, _] : Array Value).getD i undef), (by first | rfl | trivial), rfl, by omega, hF⟩, ?_⟩
                show mo.length - ((m : Int) + 1).toNat < mo.length - (m : Int).toNat
                omega
              obtain rfl : m = mo.length := by omega
              have e1 : decide ((mo.length : Int) < (mo.length : Int)) = false := decide_eq_false (by omega)
              refine opsN_k KK rfl (by rfl) (by rfl) ?_
              intro _ hR C hC
              replace hF := AllH.rely hF hR
              clear hR
              go_simp
              refine hC _ _ ?_
              clear hC C
              try walk_nrm
              refine opsN_k KK rfl (by rfl) (by rfl) ?_
              intro _ hR C hC
              replace hF := AllH.rely hF hR
              clear hR
              go_simp
              refine hC _ _ ?_
              clear hC C
              try walk_nrm
              refine opsN_k KK rfl (by rfl) (by rfl) ?_
              intro _ hR C hC
              replace hF := AllH.rely hF hR
              clear hR
              go_simp
              refine hC _ _ ?_
              clear hC C
              try walk_nrm
              refine opsN_k KK rfl (by rfl) (by rfl) ?_
              intro _ hR C hC
              replace hF := AllH.rely hF hR
              clear hR
              go_simp
              refine hC _ _ ?_
              clear hC C
              try walk_nrm
              refine opsM_nil KK ?_
              try simp only [thenM, Exit.inBlock, if_true, if_false, reduceIte, Nat.reduceEqDiff]
              refine wpM_cond KK rfl ?_
              first | simp only [if_true, if_false, reduceIte, Bool.false_eq_true] | fail "COND"
              refine wpM_exit KK ?_
              try simp only [thenM, Exit.inBlock, if_true, if_false, reduceIte, Nat.reduceEqDiff]
              refine wpM_seq KK ?_
              refine wpM_region KK ?_
              simp only [List.size_toArray, List.length_cons, List.length_nil, Nat.reduceAdd, Nat.zero_add, List.range, List.range.loop]
              refine opsN_k KK rfl (by rfl) (by rfl) ?_
              intro _ hR C hC
              replace hF := AllH.rely hF hR
              clear hR
              go_simp
              refine hC _ _ ?_
              clear hC C
              try walk_nrm
              refine opsN_k KK rfl (by rfl) (by rfl) ?_
              intro _ hR C hC
              replace hF := AllH.rely hF hR
              clear hR
              go_simp
              refine hC _ _ ?_
              clear hC C
              try walk_nrm
              obtain ⟨PB, pd, rfl, _, _, hrows⟩ := rows_of hF.out hF.pays
              have hpl : ls.length ≤ 9223372036854775807 := hL
              refine opsM_fcall KK (vals := #[.slice PB ls.length pd, .slice A ls.length cc]) rfl (by rfl) rfl Tryd.func10 (by rfl) rfl (by simp [Act.eval]) ?_
              refine callM_mono (same_m PB A pd cc ls ls _ hpl hrows (rowsB_below hF.below HA.out)) ?_
              rintro γ x w ⟨rfl, hv1, hd⟩
              rw [beq_self_eq_true] at hv1
              subst hv1
              replace hF := hF.rely hd
              clear hd hrows
              try walk_nrm
              refine opsN_k KK rfl (by rfl) (by rfl) ?_
              intro _ hR C hC
              replace hF := AllH.rely hF hR
              clear hR
              go_simp
              refine hC _ _ ?_
              clear hC C
              try walk_nrm
              refine opsM_nil KK ?_
              try simp only [thenM, Exit.inBlock, if_true, if_false, reduceIte, Nat.reduceEqDiff]
              refine wpM_ret KK ?_
              try simp only [thenM, Exit.inBlock, if_true, if_false, reduceIte, Nat.reduceEqDiff]
              exact ⟨rfl, .bool true, resultsC_tmp (t := 6) (by rfl) _, rfl, fun d => hpost _ (AllH.rely hF ⟨d, rfl⟩).below⟩
end Go.Proofs.YtngmhkhncimknaaDoor
