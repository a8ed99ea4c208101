/- all: the payloads of bytes that come in pieces. -/
import Derived.Test.YtngmhkhncimknaaStmW
import Derived.Test.YtngmhkhncimknaaStmPl
namespace Go.Proofs.Ytngmhkhncimknaa
open Go Go.Conc Go.RowKit
set_option linter.unusedVariables false
set_option linter.unusedSimpArgs false

theorem resultsC_tmp3 {P : Program} {fn : Func} {t u s : Tmp} (h : fn.results = #[.tmp t, .tmp u, .tmp s]) (tmps : Array Value) : ResultsC P fn tmps (.tuple #[tmps.getD t undef, tmps.getD u undef, tmps.getD s undef]) := fun w => ⟨by simp [results, h], by simp [results, h]⟩

/-- a splitter, and what has come out of it -/
structure AllH (w0 : World) (sp : Nat) (hv : List UInt8) (bad : Bool) (v vout : Value) (vs : List Value) (ps : List (List UInt8)) (w : World) : Prop where
  below : Below w0.heap.size w0 w
  spl : Spl w0.heap.size sp hv bad v w
  out : Own w w0.heap.size 30 vout vs
  pays : Pays w w0.heap.size w.heap.size vs ps
/-- .. and what came last -/
structure AllP (w0 : World) (sp : Nat) (hv : List UInt8) (bad : Bool) (v vout : Value) (vs : List Value) (ps : List (List UInt8)) (pv : Value) (us : List Value) (qs : List (List UInt8)) (w : World) : Prop where
  below : Below w0.heap.size w0 w
  spl : Spl w0.heap.size sp hv bad v w
  out : Own w w0.heap.size 30 vout vs
  more : Own w w0.heap.size 30 pv us
  pays : Pays w w0.heap.size w.heap.size (vs ++ us) (ps ++ qs)
  len : vs.length = ps.length ∧ us.length = qs.length

theorem at_below {w0 w : World} (h : Below w0.heap.size w0 w) (d : Nat) : Below w0.heap.size w0 (w.at d) := ⟨h.os, h.tape, h.output, h.size, h.block⟩
theorem at_spl {n0 sp : Nat} {hv : List UInt8} {bad : Bool} {v : Value} {w : World} (h : Spl n0 sp hv bad v w) (d : Nat) : Spl n0 sp hv bad v (w.at d) := ⟨h.blk, h.own, h.ge⟩
theorem at_pays {B0 B1 : Nat} {vs : List Value} {ps : List (List UInt8)} {w : World} (h : Pays w B0 B1 vs ps) (d : Nat) : Pays (w.at d) B0 B1 vs ps := ⟨h.len, h.own, h.apart, h.lt⟩

section
variable {w0 w w' : World} {sp : Nat} {hv : List UInt8} {bad : Bool} {v vout : Value} {vs : List Value} {ps : List (List UInt8)} {pv : Value} {us : List Value} {qs : List (List UInt8)}
theorem AllH.rely (h : AllH w0 sp hv bad v vout vs ps w) (r : ∃ d, w' = w.at d) : AllH w0 sp hv bad v vout vs ps w' := by
  obtain ⟨d, rfl⟩ := r
  exact ⟨at_below h.below d, at_spl h.spl d, h.out, at_pays h.pays d⟩
theorem AllP.rely (h : AllP w0 sp hv bad v vout vs ps pv us qs w) (r : ∃ d, w' = w.at d) : AllP w0 sp hv bad v vout vs ps pv us qs w' := by
  obtain ⟨d, rfl⟩ := r
  exact ⟨at_below h.below d, at_spl h.spl d, h.out, h.more, at_pays h.pays d, h.len⟩
theorem AllH.next (h : AllH w0 sp hv bad v vout vs ps w) (hb : Below w.heap.size w w') : AllH w0 sp hv bad v vout vs ps w' :=
  ⟨h.below.trans (hb.mono h.below.size), h.spl.below hb, own_drewless h.out hb, (h.pays.same fun g _ hc => hb.block g (lt_of_isCells hc)).up hb.size⟩

theorem spl_ne {n0 : Nat} {b : Nat} {e : TypeId} {x : Value} {xs : List Value} {B : Nat} (h : Spl n0 sp hv bad v w) (ho : Own w B e x xs) (he : e ≠ 45) (hb : x.ownBlock = some b) : b ≠ sp := by
  rintro rfl
  obtain ⟨_, _, hc⟩ := (own_block ho hb).2.2
  rw [h.blk] at hc
  simp only [Option.some.injEq, Obj.cells.injEq] at hc
  exact he hc.2.1.symm
theorem own_save {B : Nat} {e : TypeId} {x : Value} {xs : List Value} {n0 : Nat} (h : Own w B e x xs) (hs : Spl n0 sp hv bad v w) (he : e ≠ 45) (hv : Save sp w w') : Own w' B e x xs :=
  own_same h fun g hg => hv.block g (own_block h hg).2.1 (spl_ne hs h he hg)

theorem AllH.fed {lb : List UInt8} {r : Value} (h : AllH w0 sp hv bad v vout vs ps w) (hf : FedW w w0.heap.size sp hv bad lb r w') :
    ∃ pv us qs hv' bad' rv, r = .tuple #[pv, .bool bad'] ∧ (qs, hv', bad') = fed1 (hv, bad) lb ∧ AllP w0 sp hv' bad' rv vout vs ps pv us qs w' := by
  obtain ⟨B0, pv, us, qs, hv', bad', rv, hB, rfl, hfed, hown, hpays, hspl, hsave⟩ := hf
  refine ⟨pv, us, qs, hv', bad', rv, rfl, fed_eq hfed, ⟨h.below.trans (hsave.below h.spl.ge h.below.size), hspl, own_save h.out h.spl (by decide) hsave, own_low hown (Nat.le_trans h.below.size hB), ?_, h.pays.len, hpays.len⟩⟩
  have hz : w.heap.size ≤ w'.heap.size := hsave.size
  have hB2 : B0 ≤ w'.heap.size ∨ us = [] := by
    rcases us with _ | ⟨u, us⟩
    · exact .inr rfl
    · left
      have hl := hpays.len
      rcases own_slice hown with ⟨A, c, rfl, _, _, hc⟩
      obtain ⟨b, o, rfl, _⟩ := hc (by simp)
      have := own_block hown (g := b) (by rcases hown.2 with ⟨h1, _⟩ | ⟨g', cap, cur, h1, _⟩ <;> simp_all [Value.ownBlock])
      omega
  have hp1 : Pays w' w0.heap.size w.heap.size vs ps := h.pays.same fun g hg hc => hsave.block g (lt_of_isCells hc) (by
    rintro rfl
    obtain ⟨_, _, hc⟩ := hc
    rw [h.spl.blk] at hc
    simp only [Option.some.injEq, Obj.cells.injEq] at hc
    exact absurd hc.2.1 (by decide))
  rcases hB2 with hB2 | rfl
  · exact (hp1.up hB).append hpays (Nat.le_trans h.below.size hB) hB2
  · have e : qs = [] := List.eq_nil_of_length_eq_zero (by rw [← hpays.len]; rfl)
    subst e
    rw [List.append_nil, List.append_nil]
    exact hp1.up hz

theorem pays_one {B0 B1 : Nat} (h : Pays w B0 B1 vs ps) : ∀ u ∈ vs, u.oneCell' = true := by
  intro u hu
  obtain ⟨i, hi, rfl⟩ := List.mem_iff_getElem.1 hu
  obtain ⟨A, c, e, _⟩ := own_slice (h.own i hi (by rw [← h.len]; exact hi))
  rw [e]; rfl
theorem own_grown2 {B B' : Nat} {e e' : TypeId} {x y : Value} {xs ys : List Value} (h : Own w B e x xs) (ho : Own w B' e' y ys) (he : e ≠ e') (hg : w.grownBy w' y.ownBlock) : Own w' B e x xs :=
  own_same h fun g hb => hg.block g (own_block h hb).2.1 fun e1 => he (isCells_inj (own_block h hb).2.2 (own_block ho e1.symm).2.2)

/-- append(out, p...) -/
theorem AllP.grown {v' : Value} (h : AllP w0 sp hv bad v vout vs ps pv us qs w) (ho : Own w' w0.heap.size 30 v' (vs ++ us)) (hg : w.grownBy w' vout.ownBlock) : AllH w0 sp hv bad v v' (vs ++ us) (ps ++ qs) w' := by
  refine ⟨below_grown h.below h.out hg (Nat.le_refl _) h.below.size, ⟨?_, own_grown2 h.spl.own h.out (by decide) hg, h.spl.ge⟩, ho, (h.pays.same fun g _ hc => hg.block g (lt_of_isCells hc) fun e => ?_).up hg.size⟩
  · rw [hg.block sp (heap_lt h.spl.blk) fun e => spl_ne h.spl h.out (by decide) e.symm rfl]
    exact h.spl.blk
  · exact absurd (isCells_inj hc (own_block h.out e.symm).2.2) (by decide)
end

set_option maxRecDepth 100000 in
set_option maxHeartbeats 6400000 in
theorem all_calls {Post : Value → World → Prop} (A : Option Addr) (cc : Nat) (ls : List (List UInt8)) (hL : ls.length ≤ 9223372036854775807) (hP : totL ls ≤ 16777216) (w0 : World) (hA : RowsB w0 A ls) :
    callM Try.prog (XF Try.prog (XEnds Try.prog Post)) 20 #[.slice A ls.length cc] (fun γ v w' => γ = none ∧ ∃ PA pc ps hv bad, v = .tuple #[.slice PA ps.length pc, .bool bad, .int .i64 (hv.length : Int)] ∧ (ps, hv, bad) = runS ([], false) ls ∧ ps.length ≤ pc ∧ pc ≤ 9223372036854775807 ∧ RowsB w' PA ps ∧ Below w0.heap.size w0 w') none w0 := by
  have KK := kitF (P := Try.prog) (X := XEnds Try.prog Post) XEnds.back XEnds.at_
  have hF : FA w0 [] w0 := ⟨Below.refl _ _, fun p hp => by cases hp⟩
  have HA := Go.Lib.hid hA
  clear hA
  refine callM_of_wpM KK Try.func20 rfl ?_
  simp only [Try.ntmps20, List.size_toArray, List.length_cons, List.length_nil, Nat.reduceAdd, Nat.reduceSub, Array.replicate_succ, Array.replicate_zero, List.push_toArray, List.append_toArray, List.nil_append, List.cons_append]
  refine wpM_seq KK ?_
  refine wpM_region KK ?_
  simp only [List.size_toArray, List.length_cons, List.length_nil, Nat.reduceAdd, Nat.zero_add, List.range, List.range.loop]
  refine opsN_k KK rfl (by rfl) (by rfl) ?_
  intro _ hR C hC
  replace hF := FA.rely hF hR
  clear hR
  go_simp
  refine hC _ _ ?_
  clear hC C
  try walk_nrm
  refine opsN_k KK rfl (by rfl) (by rfl) ?_
  intro _ hR C hC
  replace hF := FA.rely hF hR
  clear hR
  go_simp
  refine hC _ _ ?_
  clear hC C
  try walk_nrm
  refine opsN_k KK rfl (by rfl) (by rfl) ?_
  intro _ hR C hC
  replace hF := FA.rely hF hR
  clear hR
  go_simp
  refine hC _ _ ?_
  clear hC C
  try walk_nrm
  refine opsM_nil KK ?_
  try simp only [thenM, Exit.inBlock, if_true, if_false, reduceIte, Nat.reduceEqDiff]
  refine wpM_seq KK ?_
  refine wpM_region KK ?_
  simp only [List.size_toArray, List.length_cons, List.length_nil, Nat.reduceAdd, Nat.zero_add, List.range, List.range.loop]
  refine opsM_fcall KK (vals := #[]) rfl (by rfl) rfl Try.func8 (by rfl) rfl (by first | rfl | simp) ?_
  refine callM_mono (new_calls _) ?_
  rintro γ v w ⟨rfl, ⟨sp, rfl, hS⟩, hB⟩
  replace hF : AllH w0 sp [] false (.slice none 0 0) (.slice none 0 0) [] [] w := ⟨hF.below.trans (hB.mono hF.below.size), ⟨hS.blk, own_low hS.own hF.below.size, Nat.le_trans hF.below.size hS.ge⟩, World.ownsRow_nil _ _ _ 1, Pays.nil _ _ _⟩
  clear hS hB
  try walk_nrm
  refine opsN_k KK rfl (by rfl) (by rfl) ?_
  intro _ hR C hC
  replace hF := AllH.rely hF hR
  clear hR
  go_simp
  refine hC _ _ ?_
  clear hC C
  try walk_nrm
  refine opsM_nil KK ?_
  try simp only [thenM, Exit.inBlock, if_true, if_false, reduceIte, Nat.reduceEqDiff]
  refine wpM_seq KK ?_
  refine wpM_region KK ?_
  simp only [List.size_toArray, List.length_cons, List.length_nil, Nat.reduceAdd, Nat.zero_add, List.range, List.range.loop]
  refine opsN_k KK rfl (by rfl) (by rfl) ?_
  intro _ hR C hC
  replace hF := AllH.rely hF hR
  clear hR
  go_simp
  refine hC _ _ ?_
  clear hC C
  try walk_nrm
  refine opsM_nil KK ?_
  try simp only [thenM, Exit.inBlock, if_true, if_false, reduceIte, Nat.reduceEqDiff]
  refine wpM_seq KK ?_
  refine wpM_region KK ?_
  simp only [List.size_toArray, List.length_cons, List.length_nil, Nat.reduceAdd, Nat.zero_add, List.range, List.range.loop]
  refine opsN_k KK rfl (by rfl) (by rfl) ?_
  intro _ hR C hC
  replace hF := AllH.rely hF hR
  clear hR
  go_simp
  refine hC _ _ ?_
  clear hC C
  try walk_nrm
  refine opsM_nil KK ?_
  try simp only [thenM, Exit.inBlock, if_true, if_false, reduceIte, Nat.reduceEqDiff]
  refine wpM_seq KK ?_
  refine wpM_seq KK ?_
  refine wpM_region KK ?_
  simp only [List.size_toArray, List.length_cons, List.length_nil, Nat.reduceAdd, Nat.zero_add, List.range, List.range.loop]
  refine opsN_k KK rfl (by rfl) (by rfl) ?_
  intro _ hR C hC
  replace hF := AllH.rely hF hR
  clear hR
  go_simp
  refine hC _ _ ?_
  clear hC C
  try walk_nrm
  refine opsM_nil KK ?_
  try simp only [thenM, Exit.inBlock, if_true, if_false, reduceIte, Nat.reduceEqDiff]
  refine wpM_block KK ?_
  refine wpM_loop KK (fun (γ : Option (Duet × Proto)) (a : Act) (w : World) => ∃ (k : Nat) (hv : List UInt8) (bad : Bool) (rv : Value) (vout : Value) (vs : List Value) (ps : List (List UInt8)) (Fx : Nat → Value), γ = none ∧ a = { tmps := #[.slice A ls.length cc, Fx 1, Fx 2, Fx 3, Fx 4, .pointer (some ⟨sp, 0, none⟩), vout, .bool bad, .int .i64 (k : Int), Fx 9, Fx 10, Fx 11, Fx 12, Fx 13, Fx 14, Fx 15, Fx 16, Fx 17, Fx 18, Fx 19, Fx 20, Fx 21, Fx 22, Fx 23, Fx 24, Fx 25, Fx 26, Fx 27, Fx 28, Fx 29, Fx 30, Fx 31, Fx 32, Fx 33, Fx 34], defers := [] } ∧ k ≤ ls.length ∧ Hid ((ps, hv, bad) = runS ([], false) (ls.take k)) ∧ AllH w0 sp hv bad rv vout vs ps w) (fun _ a _ => ls.length - slotN a 8) ?startx ?roundx
  case startx => exact ⟨0, [], false, .slice none 0 0, .slice none 0 0, [], [], (fun i => (#[undef, _, _, _, _, undef, undef, undef, undef, _, _, _, _, _, _, _, _, _, _, _, _, _, _, _, _, _, _, _, _, _, _, _, _, _, _] : Array Value).getD i undef), rfl, rfl, by omega, rfl, hF⟩
  case roundx =>
      clear hF
      intro γ a w hI
      obtain ⟨k, hv, bad, rv, vout, vs, ps, Fx, rfl, rfl, hk, HS, hF⟩ := hI
      have HB0 : Hid (ps.length ≤ 16777216 ∧ hv.length ≤ 258) := by
        have h := runS_size (ls.take k)
        rw [← HS.out, flatten_totL] at h
        have h2 := totL_mono ls k
        exact ⟨by have := h.1; simp only at this; omega, h.2⟩
      refine wpM_seq KK ?_
      refine wpM_seq KK ?_
      refine wpM_region KK ?_
      simp only [List.size_toArray, List.length_cons, List.length_nil, Nat.reduceAdd, Nat.zero_add, List.range, List.range.loop]
      by_cases hlt : k < ls.length
      · have e1 : decide ((k : Int) < (ls.length : Int)) = true := decide_eq_true (by omega)
        have i1 : (k : Int) < (ls.length : Int) := by omega
        have HT := Go.Lib.hid (List.take_append_getElem hlt).symm
        have hz : ls[k].length ≤ 16777216 := by have h1 := totL_take ls k hlt; have h3 := totL_mono ls (k + 1); omega
        obtain ⟨b, o, hAe, A1, c1, hcc, hc1, hr1⟩ := HA.out.row2 k hlt
        have HC := Go.Lib.hid hc1
        have HR := Go.Lib.hid hr1
        have HCC := Go.Lib.hid hcc
        clear hc1 hr1 hcc
        generalize ls[k] = lb at *
        subst hAe
        refine opsN_k KK rfl (by rfl) (by rfl) ?_
        intro _ hR C hC
        replace hF := AllH.rely hF hR
        clear hR
        go_simp
        refine hC _ _ ?_
        clear hC C
        try walk_nrm
        refine opsN_k KK rfl (by rfl) (by rfl) ?_
        intro _ hR C hC
        replace hF := AllH.rely hF hR
        clear hR
        go_simp
        refine hC _ _ ?_
        clear hC C
        try walk_nrm
        refine opsN_k KK rfl (by rfl) (by rfl) ?_
        intro _ hR C hC
        replace hF := AllH.rely hF hR
        clear hR
        go_simp
        refine hC _ _ ?_
        clear hC C
        try walk_nrm
        refine opsN_k KK rfl (by rfl) (by rfl) ?_
        intro _ hR C hC
        replace hF := AllH.rely hF hR
        clear hR
        go_simp
        refine hC _ _ ?_
        clear hC C
        try walk_nrm
        refine opsM_nil KK ?_
        try simp only [thenM, Exit.inBlock, if_true, if_false, reduceIte, Nat.reduceEqDiff]
        refine wpM_cond KK rfl ?_
        first | simp only [if_true, if_false, reduceIte, Bool.false_eq_true] | fail "COND"
        refine wpM_skip KK ?_
        try simp only [thenM, Exit.inBlock, if_true, if_false, reduceIte, Nat.reduceEqDiff]
        refine wpM_seq KK ?_
        refine wpM_block KK ?_
        refine wpM_seq KK ?_
        refine wpM_region KK ?_
        simp only [List.size_toArray, List.length_cons, List.length_nil, Nat.reduceAdd, Nat.zero_add, List.range, List.range.loop]
        refine opsN_k KK rfl (by rfl) (by rfl) ?_
        intro _ hR C hC
        replace hF := AllH.rely hF hR
        clear hR
        go_simp
        refine hC _ _ ?_
        clear hC C
        try walk_nrm
        refine opsN_k KK rfl (by rfl) (by rfl) ?_
        intro _ hR C hC
        replace hF := AllH.rely hF hR
        clear hR
        go_simp
        refine hC _ _ ?_
        clear hC C
        try walk_nrm
        refine opsN_k KK rfl (by rfl) (by rfl) ?_
        intro _ hR C hC
        replace hF := AllH.rely hF hR
        clear hR
        go_simp
        refine hC _ _ ?_
        clear hC C
        try walk_nrm
        refine opsN_k KK rfl (by rfl) (by rfl) ?_
        intro _ hR C hC
        replace hF := AllH.rely hF hR
        clear hR
        go_simp
        refine hC _ _ ?_
        clear hC C
        try walk_nrm
        refine opsN_k KK rfl (by rfl) (by rfl) ?_
        intro _ hR C hC
        replace hF := AllH.rely hF hR
        clear hR
        have hc := below_cell hF.below HC.out
        go_simp
        refine hC _ _ ?_
        clear hC C
        try walk_nrm
        clear hc
        refine opsM_fcall KK (vals := #[.pointer (some ⟨sp, 0, none⟩), .slice A1 lb.length c1]) rfl (by rfl) rfl Try.func11 (by rfl) rfl (by simp [Act.eval]) ?_
        refine callM_mono (feed_w A1 c1 lb _ hF.spl hF.below.size (cells_below hF.below HR.out) HCC.out (by have := HB0.out.2; omega)) ?_
        rintro γ r w ⟨rfl, hfed⟩
        obtain ⟨pv, us, qs, hv', bad', rv', rfl, heq, hF⟩ := hF.fed hfed
        clear hfed
        have HS2 : Hid ((ps ++ qs, hv', bad') = runS ([], false) (ls.take (k + 1))) := by
            rw [RowKit.Hid, HT.out, runS_snoc, ← HS.out]
            simp only
            rw [← heq]
        have HB2 := Go.Lib.hid (runS_size (ls.take (k + 1)))
        have HM2 := Go.Lib.hid (totL_mono ls (k + 1))
        clear heq
        try walk_nrm
        refine opsN_k KK rfl (by rfl) (by rfl) ?_
        intro _ hR C hC
        replace hF := AllP.rely hF hR
        clear hR
        go_simp
        refine hC _ _ ?_
        clear hC C
        try walk_nrm
        refine opsN_k KK rfl (by rfl) (by rfl) ?_
        intro _ hR C hC
        replace hF := AllP.rely hF hR
        clear hR
        go_simp
        refine hC _ _ ?_
        clear hC C
        try walk_nrm
        refine opsN_k KK rfl (by rfl) (by rfl) ?_
        intro _ hR C hC
        replace hF := AllP.rely hF hR
        clear hR
        go_simp
        refine hC _ _ ?_
        clear hC C
        try walk_nrm
        refine opsN_k KK rfl (by rfl) (by rfl) ?_
        intro _ hR C hC
        replace hF := AllP.rely hF hR
        clear hR
        go_simp
        refine hC _ _ ?_
        clear hC C
        try walk_nrm
        refine opsN_k KK rfl (by rfl) (by rfl) ?_
        intro _ hR C hC
        replace hF := AllP.rely hF hR
        clear hR
        go_simp
        refine hC _ _ ?_
        clear hC C
        try walk_nrm
        refine opsM_nil KK ?_
        try simp only [thenM, Exit.inBlock, if_true, if_false, reduceIte, Nat.reduceEqDiff]
        refine wpM_seq KK ?_
        refine wpM_region KK ?_
        simp only [List.size_toArray, List.length_cons, List.length_nil, Nat.reduceAdd, Nat.zero_add, List.range, List.range.loop]
        refine opsN_k KK rfl (by rfl) (by rfl) ?_
        intro _ hR C hC
        replace hF := AllP.rely hF hR
        clear hR
        go_simp
        refine hC _ _ ?_
        clear hC C
        try walk_nrm
        refine opsN_k KK rfl (by rfl) (by rfl) ?_
        intro _ hR C hC
        replace hF := AllP.rely hF hR
        clear hR
        go_simp
        refine hC _ _ ?_
        clear hC C
        try walk_nrm
        refine opsM_nil KK ?_
        try simp only [thenM, Exit.inBlock, if_true, if_false, reduceIte, Nat.reduceEqDiff]
        refine wpM_region KK ?_
        simp only [List.size_toArray, List.length_cons, List.length_nil, Nat.reduceAdd, Nat.zero_add, List.range, List.range.loop]
        refine opsN_k KK rfl (by rfl) (by rfl) ?_
        intro _ hR C hC
        replace hF := AllP.rely hF hR
        clear hR
        go_simp
        refine hC _ _ ?_
        clear hC C
        try walk_nrm
        refine opsN_k KK rfl (by rfl) (by rfl) ?_
        intro _ hR C hC
        replace hF := AllP.rely hF hR
        clear hR
        go_simp
        refine hC _ _ ?_
        clear hC C
        try walk_nrm
        refine opsN_k KK rfl (by rfl) (by rfl) ?_
        intro w1 hR C hC
        replace hF := AllP.rely hF hR
        clear hR
        obtain ⟨v', w', hr, ho, hg⟩ := run_append_rows (P := Try.prog) w1 w0.heap.size 34 34 30 (by kernel_rfl) (by kernel_rfl) vout pv vs us hF.out hF.more (fun u hu => pays_one hF.pays u (List.mem_append_right _ hu)) (by have h1 := hF.len; have h2 := HB2.out.1; rw [← HS2.out, flatten_totL] at h2; simp only [List.length_append] at h2; have h3 := HM2.out; omega) hF.below.size
        replace hF := hF.grown ho hg
        refine uponK_append _ _ _ rfl rfl rfl hr (hC _ _ ?_)
        clear hC C
        clear hr ho hg
        try walk_nrm
        refine opsN_k KK rfl (by rfl) (by rfl) ?_
        intro _ hR C hC
        replace hF := AllH.rely hF hR
        clear hR
        go_simp
        refine hC _ _ ?_
        clear hC C
        try walk_nrm
        refine opsM_nil KK ?_
        try simp only [thenM, Exit.inBlock, if_true, if_false, reduceIte, Nat.reduceEqDiff]
        have wk : IntKind.i64.wrap ((k : Int) + 1) = ((k + 1 : Nat) : Int) := by rw [IntKind.wrap_i64]; omega
        refine wpM_region KK ?_
        simp only [List.size_toArray, List.length_cons, List.length_nil, Nat.reduceAdd, Nat.zero_add, List.range, List.range.loop]
        refine opsN_k KK rfl (by rfl) (by rfl) ?_
        intro _ hR C hC
        replace hF := AllH.rely hF hR
        clear hR
        go_simp
        refine hC _ _ ?_
        clear hC C
        try walk_nrm
        refine opsN_k KK rfl (by rfl) (by rfl) ?_
        intro _ hR C hC
        replace hF := AllH.rely hF hR
        clear hR
        go_simp
        refine hC _ _ ?_
        clear hC C
        try walk_nrm
        refine opsN_k KK rfl (by rfl) (by rfl) ?_
        intro _ hR C hC
        replace hF := AllH.rely hF hR
        clear hR
        go_simp
        refine hC _ _ ?_
        clear hC C
        try walk_nrm
        refine opsM_nil KK ?_
        try simp only [thenM, Exit.inBlock, if_true, if_false, reduceIte, Nat.reduceEqDiff]
        refine ⟨⟨k + 1, hv', bad', rv', _, _, _, (fun i => (#[undef, _, _, _, _, undef, undef, undef, undef, _, _, _, _, _, _, _, _, _, _, _, _, _, _, _, _, _, _, _, _, _, _, _, _, _, _] : Array Value).getD i undef), (by first | rfl | trivial), rfl, by omega, HS2.out, hF⟩, ?_⟩
        show ls.length - ((k : Int) + 1).toNat < ls.length - (k : Int).toNat
        omega
      obtain rfl : k = ls.length := by omega
      have e1 : decide ((ls.length : Int) < (ls.length : Int)) = false := decide_eq_false (by omega)
      refine opsN_k KK rfl (by rfl) (by rfl) ?_
      intro _ hR C hC
      replace hF := AllH.rely hF hR
      clear hR
      go_simp
      refine hC _ _ ?_
      clear hC C
      try walk_nrm
      refine opsN_k KK rfl (by rfl) (by rfl) ?_
      intro _ hR C hC
      replace hF := AllH.rely hF hR
      clear hR
      go_simp
      refine hC _ _ ?_
      clear hC C
      try walk_nrm
      refine opsN_k KK rfl (by rfl) (by rfl) ?_
      intro _ hR C hC
      replace hF := AllH.rely hF hR
      clear hR
      go_simp
      refine hC _ _ ?_
      clear hC C
      try walk_nrm
      refine opsN_k KK rfl (by rfl) (by rfl) ?_
      intro _ hR C hC
      replace hF := AllH.rely hF hR
      clear hR
      go_simp
      refine hC _ _ ?_
      clear hC C
      try walk_nrm
      refine opsM_nil KK ?_
      try simp only [thenM, Exit.inBlock, if_true, if_false, reduceIte, Nat.reduceEqDiff]
      refine wpM_cond KK rfl ?_
      first | simp only [if_true, if_false, reduceIte, Bool.false_eq_true] | fail "COND"
      refine wpM_exit KK ?_
      try simp only [thenM, Exit.inBlock, if_true, if_false, reduceIte, Nat.reduceEqDiff]
      obtain ⟨rA, rc, rfl⟩ : ∃ A c, rv = .slice A hv.length c := by
        obtain ⟨A, c, e, _⟩ := own_slice hF.spl.own
        rw [Bs_length] at e
        exact ⟨A, c, e⟩
      refine wpM_seq KK ?_
      refine wpM_region KK ?_
      simp only [List.size_toArray, List.length_cons, List.length_nil, Nat.reduceAdd, Nat.zero_add, List.range, List.range.loop]
      refine opsN_k KK rfl (by rfl) (by rfl) ?_
      intro _ hR C hC
      replace hF := AllH.rely hF hR
      clear hR
      go_simp
      refine hC _ _ ?_
      clear hC C
      try walk_nrm
      refine opsN_k KK rfl (by rfl) (by rfl) ?_
      intro _ hR C hC
      replace hF := AllH.rely hF hR
      clear hR
      go_simp
      refine hC _ _ ?_
      clear hC C
      try walk_nrm
      refine opsN_k KK rfl (by rfl) (by rfl) ?_
      intro _ hR C hC
      replace hF := AllH.rely hF hR
      clear hR
      go_simp
      refine hC _ _ ?_
      clear hC C
      try walk_nrm
      refine opsM_fcall KK (vals := #[.pointer (some ⟨sp, 0, none⟩)]) rfl (by rfl) rfl Try.func14 (by rfl) rfl (by simp [Act.eval]) ?_
      refine callM_mono (waiting_calls _ hF.spl.blk) ?_
      rintro γ v w ⟨rfl, rfl, hB⟩
      replace hF := hF.next hB
      clear hB
      try walk_nrm
      refine opsN_k KK rfl (by rfl) (by rfl) ?_
      intro _ hR C hC
      replace hF := AllH.rely hF hR
      clear hR
      go_simp
      refine hC _ _ ?_
      clear hC C
      try walk_nrm
      refine opsN_k KK rfl (by rfl) (by rfl) ?_
      intro _ hR C hC
      replace hF := AllH.rely hF hR
      clear hR
      go_simp
      refine hC _ _ ?_
      clear hC C
      try walk_nrm
      refine opsN_k KK rfl (by rfl) (by rfl) ?_
      intro _ hR C hC
      replace hF := AllH.rely hF hR
      clear hR
      go_simp
      refine hC _ _ ?_
      clear hC C
      try walk_nrm
      refine opsM_nil KK ?_
      try simp only [thenM, Exit.inBlock, if_true, if_false, reduceIte, Nat.reduceEqDiff]
      refine wpM_ret KK ?_
      try simp only [thenM, Exit.inBlock, if_true, if_false, reduceIte, Nat.reduceEqDiff]
      obtain ⟨PA, pc, rfl, q1, q2, q3⟩ := rows_of hF.out hF.pays
      rw [List.take_length] at HS
      exact ⟨rfl, _, resultsC_tmp3 (by rfl) _, rfl, PA, pc, ps, hv, bad, by simp, HS.out, q1, q2, q3, hF.below⟩
end Go.Proofs.Ytngmhkhncimknaa
