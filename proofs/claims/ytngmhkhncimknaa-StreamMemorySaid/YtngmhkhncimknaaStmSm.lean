/- Feed whole; New, Waiting, Bad. -/
import Derived.Test.YtngmhkhncimknaaStmCon
namespace Go.Proofs.Ytngmhkhncimknaa
open Go Go.Conc Go.RowKit
set_option linter.unusedVariables false
set_option linter.unusedSimpArgs false

/-- a Splitter that has these bytes waiting -/
structure Spl (n0 sp : Nat) (hv : List UInt8) (bad : Bool) (v : Value) (w : World) : Prop where
  blk : w.heap[sp]? = some (.cells #[v, .bool bad] 45 (0, 0))
  own : Own w n0 5 v (Bs hv)
  ge : n0 ≤ sp
theorem Spl.below {n0 sp : Nat} {hv : List UInt8} {bad : Bool} {v : Value} {w w' : World} (h : Spl n0 sp hv bad v w) (hb : Below w.heap.size w w') : Spl n0 sp hv bad v w' :=
  ⟨below_heap hb h.blk, own_drewless h.own hb, h.ge⟩

theorem feed_good {Post : Value → World → Prop} {n0 sp : Nat} {hv : List UInt8} {v : Value} (Ab : Option Addr) (cb : Nat) (lb : List UInt8) (w0 : World) (hs : Spl n0 sp hv false v w0) (hAb : Cells w0 Ab (Bs lb)) (hcb : lb.length ≤ cb ∧ cb ≤ 9223372036854775807) (hlen : hv.length + lb.length ≤ 1000000000) :
    callM Try.prog (XF Try.prog (XEnds Try.prog Post)) 11 #[.pointer (some ⟨sp, 0, none⟩), .slice Ab lb.length cb] (fun γ v w' => γ = none ∧ FeedR w0 sp (hv ++ lb) v w') none w0 := by
  obtain ⟨A, c, rfl, h1, h2, h3⟩ := own_slice hs.own
  have hl := Bs_length hv
  have hb := hs.blk
  rw [hl] at hb h1
  refine feed_calls sp A Ab c cb hv lb w0 hb hlen fun gb w hg hbw => ?_
  have hrows : RowsB w (some ⟨gb, 0, none⟩) [hv, lb] := by
    refine ⟨[.slice A hv.length c, .slice Ab lb.length cb], rfl, fun _ => ⟨gb, 0, rfl, fun i hi => ?_⟩, fun i h4 h5 => ?_⟩
    · rw [Nat.zero_add, cell_of_row w gb i _ _ _ hg]
      match i, hi with
      | 0, _ => rfl
      | 1, _ => rfl
    · match i, h4, h5 with
      | 0, _, _ => exact ⟨A, c, rfl, h1, h2, cells_below hbw h3⟩
      | 1, _, _ => exact ⟨Ab, cb, rfl, hcb.1, hcb.2, cells_below hbw hAb⟩
  have := concat_calls (Post := Post) (some ⟨gb, 0, none⟩) 2 [hv, lb] (by simp) (by simp; omega) w hrows
  refine callX_mono (callX_of_callF (callM_mono this fun γ v w' q => q)) fun v w' q => ?_
  simpa using q
set_option maxRecDepth 100000 in
set_option maxHeartbeats 1600000 in
theorem feed_bad {Post : Value → World → Prop} {sp : Nat} {x : Value} (b : Value) (w0 : World) (hs : w0.heap[sp]? = some (.cells #[x, .bool true] 45 (0, 0))) :
    callM Try.prog (XF Try.prog (XEnds Try.prog Post)) 11 #[.pointer (some ⟨sp, 0, none⟩), b] (fun γ v w' => γ = none ∧ v = .tuple #[.slice none 0 0, .bool true] ∧ Below w0.heap.size w0 w') none w0 := by
  have KK := kitF (P := Try.prog) (X := XEnds Try.prog Post) XEnds.back XEnds.at_
  have hF : FA w0 [(sp, Obj.cells #[x, .bool true] 45 (0, 0))] w0 := ⟨Below.refl _ _, fun p hp => by obtain rfl := List.mem_singleton.1 hp; exact hs⟩
  refine callM_of_wpM KK Try.func11 rfl ?_
  simp only [Try.ntmps11, List.size_toArray, List.length_cons, List.length_nil, Nat.reduceAdd, Nat.reduceSub, Array.replicate_succ, Array.replicate_zero, List.push_toArray, List.append_toArray, List.nil_append, List.cons_append]
  refine wpM_seq KK ?_
  refine wpM_region KK ?_
  simp only [List.size_toArray, List.length_cons, List.length_nil, Nat.reduceAdd, Nat.zero_add, List.range, List.range.loop]
  refine opsN_k KK rfl (by rfl) (by rfl) ?_
  intro _ hR C hC
  replace hF := FA.rely hF hR
  clear hR
  go_simp
  refine hC _ _ ?_
  clear hC C
  try walk_nrm
  rename_i V2
  have hlt2 := Go.Lib.hid hF.lt
  have hn2 := Go.Lib.hid hF.below.size
  replace hF := hF.alloc (Obj.cells #[.pointer (some ⟨sp, 0, none⟩)] 24)
  generalize V2.alloc (Obj.cells #[.pointer (some ⟨sp, 0, none⟩)] 24) = W2 at *
  generalize V2.heap.size = g2 at *
  refine opsN_k KK rfl (by rfl) (by rfl) ?_
  intro _ hR C hC
  replace hF := FA.rely hF hR
  clear hR
  go_simp
  refine hC _ _ ?_
  clear hC C
  try walk_nrm
  refine opsN_k KK rfl (by rfl) (by rfl) ?_
  intro _ hR C hC
  replace hF := FA.rely hF hR
  clear hR
  go_simp
  refine hC _ _ ?_
  clear hC C
  try walk_nrm
  refine opsM_nil KK ?_
  try simp only [thenM, Exit.inBlock, if_true, if_false, reduceIte, Nat.reduceEqDiff]
  refine wpM_seq KK ?_
  refine wpM_seq KK ?_
  refine wpM_region KK ?_
  simp only [List.size_toArray, List.length_cons, List.length_nil, Nat.reduceAdd, Nat.zero_add, List.range, List.range.loop]
  refine opsN_k KK rfl (by rfl) (by rfl) ?_
  intro _ hR C hC
  replace hF := FA.rely hF hR
  clear hR
  have hc := hF.cell (g := g2) (i := 0) (cs := #[.pointer (some ⟨sp, 0, none⟩)]) (t := 24) (by simp) rfl
  go_simp
  refine hC _ _ ?_
  clear hC C
  try walk_nrm
  clear hc
  refine opsN_k KK rfl (by rfl) (by rfl) ?_
  intro _ hR C hC
  replace hF := FA.rely hF hR
  clear hR
  go_simp
  refine hC _ _ ?_
  clear hC C
  try walk_nrm
  refine opsM_nil KK ?_
  try simp only [thenM, Exit.inBlock, if_true, if_false, reduceIte, Nat.reduceEqDiff]
  refine wpM_cond KK rfl ?_
  first | simp only [Option.isNone_some, if_true, if_false, reduceIte, Bool.false_eq_true] | fail "COND"
  refine wpM_skip KK ?_
  try simp only [thenM, Exit.inBlock, if_true, if_false, reduceIte, Nat.reduceEqDiff]
  refine wpM_seq KK ?_
  refine wpM_seq KK ?_
  refine wpM_region KK ?_
  simp only [List.size_toArray, List.length_cons, List.length_nil, Nat.reduceAdd, Nat.zero_add, List.range, List.range.loop]
  refine opsN_k KK rfl (by rfl) (by rfl) ?_
  intro _ hR C hC
  replace hF := FA.rely hF hR
  clear hR
  have hc := hF.cell (g := g2) (i := 0) (cs := #[.pointer (some ⟨sp, 0, none⟩)]) (t := 24) (by simp) rfl
  go_simp
  refine hC _ _ ?_
  clear hC C
  try walk_nrm
  clear hc
  refine opsN_k KK rfl (by rfl) (by rfl) ?_
  intro _ hR C hC
  replace hF := FA.rely hF hR
  clear hR
  go_simp
  refine hC _ _ ?_
  clear hC C
  try walk_nrm
  refine opsN_k KK rfl (by rfl) (by rfl) ?_
  intro _ hR C hC
  replace hF := FA.rely hF hR
  clear hR
  go_simp
  refine hC _ _ ?_
  clear hC C
  try walk_nrm
  refine opsN_k KK rfl (by rfl) (by rfl) ?_
  intro _ hR C hC
  replace hF := FA.rely hF hR
  clear hR
  have hc := hF.cell (g := sp) (i := 1) (cs := #[x, .bool true]) (t := 45) (by simp) rfl
  go_simp
  refine hC _ _ ?_
  clear hC C
  try walk_nrm
  clear hc
  refine opsM_nil KK ?_
  try simp only [thenM, Exit.inBlock, if_true, if_false, reduceIte, Nat.reduceEqDiff]
  refine wpM_cond KK rfl ?_
  first | simp only [if_true, if_false, reduceIte, Bool.false_eq_true] | fail "COND"
  refine wpM_seq KK ?_
  refine wpM_region KK ?_
  simp only [List.size_toArray, List.length_cons, List.length_nil, Nat.reduceAdd, Nat.zero_add, List.range, List.range.loop]
  refine opsN_k KK rfl (by rfl) (by rfl) ?_
  intro _ hR C hC
  replace hF := FA.rely hF hR
  clear hR
  go_simp
  refine hC _ _ ?_
  clear hC C
  try walk_nrm
  refine opsN_k KK rfl (by rfl) (by rfl) ?_
  intro _ hR C hC
  replace hF := FA.rely hF hR
  clear hR
  go_simp
  refine hC _ _ ?_
  clear hC C
  try walk_nrm
  refine opsM_nil KK ?_
  try simp only [thenM, Exit.inBlock, if_true, if_false, reduceIte, Nat.reduceEqDiff]
  refine wpM_ret KK ?_
  try simp only [thenM, Exit.inBlock, if_true, if_false, reduceIte, Nat.reduceEqDiff]
  exact ⟨rfl, _, resultsC_tmp2 (by rfl) _, rfl, by simp, hF.below⟩
set_option maxRecDepth 100000 in
set_option maxHeartbeats 1600000 in
theorem waiting_calls {Post : Value → World → Prop} {sp : Nat} {A : Option Addr} {n c : Nat} {bad : Bool} (w0 : World) (hs : w0.heap[sp]? = some (.cells #[.slice A n c, .bool bad] 45 (0, 0))) :
    callM Try.prog (XF Try.prog (XEnds Try.prog Post)) 14 #[.pointer (some ⟨sp, 0, none⟩)] (fun γ v w' => γ = none ∧ v = .int .i64 (n : Int) ∧ Below w0.heap.size w0 w') none w0 := by
  have KK := kitF (P := Try.prog) (X := XEnds Try.prog Post) XEnds.back XEnds.at_
  have hF : FA w0 [(sp, Obj.cells #[.slice A n c, .bool bad] 45 (0, 0))] w0 := ⟨Below.refl _ _, fun p hp => by obtain rfl := List.mem_singleton.1 hp; exact hs⟩
  refine callM_of_wpM KK Try.func14 rfl ?_
  simp only [Try.ntmps14, List.size_toArray, List.length_cons, List.length_nil, Nat.reduceAdd, Nat.reduceSub, Array.replicate_succ, Array.replicate_zero, List.push_toArray, List.append_toArray, List.nil_append, List.cons_append]
  refine wpM_seq KK ?_
  refine wpM_region KK ?_
  simp only [List.size_toArray, List.length_cons, List.length_nil, Nat.reduceAdd, Nat.zero_add, List.range, List.range.loop]
  refine opsN_k KK rfl (by rfl) (by rfl) ?_
  intro _ hR C hC
  replace hF := FA.rely hF hR
  clear hR
  go_simp
  refine hC _ _ ?_
  clear hC C
  try walk_nrm
  refine opsM_nil KK ?_
  try simp only [thenM, Exit.inBlock, if_true, if_false, reduceIte, Nat.reduceEqDiff]
  refine wpM_seq KK ?_
  refine wpM_seq KK ?_
  refine wpM_region KK ?_
  simp only [List.size_toArray, List.length_cons, List.length_nil, Nat.reduceAdd, Nat.zero_add, List.range, List.range.loop]
  refine opsN_k KK rfl (by rfl) (by rfl) ?_
  intro _ hR C hC
  replace hF := FA.rely hF hR
  clear hR
  go_simp
  refine hC _ _ ?_
  clear hC C
  try walk_nrm
  refine opsN_k KK rfl (by rfl) (by rfl) ?_
  intro _ hR C hC
  replace hF := FA.rely hF hR
  clear hR
  go_simp
  refine hC _ _ ?_
  clear hC C
  try walk_nrm
  refine opsM_nil KK ?_
  try simp only [thenM, Exit.inBlock, if_true, if_false, reduceIte, Nat.reduceEqDiff]
  refine wpM_cond KK rfl ?_
  first | simp only [Option.isNone_some, if_true, if_false, reduceIte, Bool.false_eq_true] | fail "COND"
  refine wpM_skip KK ?_
  try simp only [thenM, Exit.inBlock, if_true, if_false, reduceIte, Nat.reduceEqDiff]
  refine wpM_seq KK ?_
  refine wpM_region KK ?_
  simp only [List.size_toArray, List.length_cons, List.length_nil, Nat.reduceAdd, Nat.zero_add, List.range, List.range.loop]
  refine opsN_k KK rfl (by rfl) (by rfl) ?_
  intro _ hR C hC
  replace hF := FA.rely hF hR
  clear hR
  go_simp
  refine hC _ _ ?_
  clear hC C
  try walk_nrm
  refine opsN_k KK rfl (by rfl) (by rfl) ?_
  intro _ hR C hC
  replace hF := FA.rely hF hR
  clear hR
  go_simp
  refine hC _ _ ?_
  clear hC C
  try walk_nrm
  refine opsN_k KK rfl (by rfl) (by rfl) ?_
  intro _ hR C hC
  replace hF := FA.rely hF hR
  clear hR
  go_simp
  refine hC _ _ ?_
  clear hC C
  try walk_nrm
  refine opsN_k KK rfl (by rfl) (by rfl) ?_
  intro _ hR C hC
  replace hF := FA.rely hF hR
  clear hR
  have hc := hF.cell (g := sp) (i := 0) (cs := #[.slice A n c, .bool bad]) (t := 45) (by simp) rfl
  go_simp
  refine hC _ _ ?_
  clear hC C
  try walk_nrm
  clear hc
  refine opsN_k KK rfl (by rfl) (by rfl) ?_
  intro _ hR C hC
  replace hF := FA.rely hF hR
  clear hR
  go_simp
  refine hC _ _ ?_
  clear hC C
  try walk_nrm
  refine opsN_k KK rfl (by rfl) (by rfl) ?_
  intro _ hR C hC
  replace hF := FA.rely hF hR
  clear hR
  go_simp
  refine hC _ _ ?_
  clear hC C
  try walk_nrm
  refine opsM_nil KK ?_
  try simp only [thenM, Exit.inBlock, if_true, if_false, reduceIte, Nat.reduceEqDiff]
  refine wpM_ret KK ?_
  try simp only [thenM, Exit.inBlock, if_true, if_false, reduceIte, Nat.reduceEqDiff]
  exact ⟨rfl, _, resultsC_tmp (by rfl) _, rfl, by simp, hF.below⟩
set_option maxRecDepth 100000 in
set_option maxHeartbeats 1600000 in
theorem bad_calls {Post : Value → World → Prop} {sp : Nat} {x : Value} {bad : Bool} (w0 : World) (hs : w0.heap[sp]? = some (.cells #[x, .bool bad] 45 (0, 0))) :
    callM Try.prog (XF Try.prog (XEnds Try.prog Post)) 16 #[.pointer (some ⟨sp, 0, none⟩)] (fun γ v w' => γ = none ∧ v = .bool bad ∧ Below w0.heap.size w0 w') none w0 := by
  have KK := kitF (P := Try.prog) (X := XEnds Try.prog Post) XEnds.back XEnds.at_
  have hF : FA w0 [(sp, Obj.cells #[x, .bool bad] 45 (0, 0))] w0 := ⟨Below.refl _ _, fun p hp => by obtain rfl := List.mem_singleton.1 hp; exact hs⟩
  refine callM_of_wpM KK Try.func16 rfl ?_
  simp only [Try.ntmps16, List.size_toArray, List.length_cons, List.length_nil, Nat.reduceAdd, Nat.reduceSub, Array.replicate_succ, Array.replicate_zero, List.push_toArray, List.append_toArray, List.nil_append, List.cons_append]
  refine wpM_seq KK ?_
  refine wpM_region KK ?_
  simp only [List.size_toArray, List.length_cons, List.length_nil, Nat.reduceAdd, Nat.zero_add, List.range, List.range.loop]
  refine opsN_k KK rfl (by rfl) (by rfl) ?_
  intro _ hR C hC
  replace hF := FA.rely hF hR
  clear hR
  go_simp
  refine hC _ _ ?_
  clear hC C
  try walk_nrm
  refine opsM_nil KK ?_
  try simp only [thenM, Exit.inBlock, if_true, if_false, reduceIte, Nat.reduceEqDiff]
  refine wpM_seq KK ?_
  refine wpM_region KK ?_
  simp only [List.size_toArray, List.length_cons, List.length_nil, Nat.reduceAdd, Nat.zero_add, List.range, List.range.loop]
  refine opsN_k KK rfl (by rfl) (by rfl) ?_
  intro _ hR C hC
  replace hF := FA.rely hF hR
  clear hR
  go_simp
  refine hC _ _ ?_
  clear hC C
  try walk_nrm
  try simp only [Option.isNone_some, Bool.not_false, bne]
  refine opsN_k KK rfl (by rfl) (by rfl) ?_
  intro _ hR C hC
  replace hF := FA.rely hF hR
  clear hR
  go_simp
  refine hC _ _ ?_
  clear hC C
  try walk_nrm
  try simp only [Option.isNone_some, Bool.not_false, bne]
  refine opsN_k KK rfl (by rfl) (by rfl) ?_
  intro _ hR C hC
  replace hF := FA.rely hF hR
  clear hR
  go_simp
  refine hC _ _ ?_
  clear hC C
  try walk_nrm
  refine opsN_k KK rfl (by rfl) (by rfl) ?_
  intro _ hR C hC
  replace hF := FA.rely hF hR
  clear hR
  go_simp
  refine hC _ _ ?_
  clear hC C
  try walk_nrm
  refine opsN_k KK rfl (by rfl) (by rfl) ?_
  intro _ hR C hC
  replace hF := FA.rely hF hR
  clear hR
  go_simp
  refine hC _ _ ?_
  clear hC C
  try walk_nrm
  refine opsN_k KK rfl (by rfl) (by rfl) ?_
  intro _ hR C hC
  replace hF := FA.rely hF hR
  clear hR
  go_simp
  refine hC _ _ ?_
  clear hC C
  try walk_nrm
  refine opsN_k KK rfl (by rfl) (by rfl) ?_
  intro _ hR C hC
  replace hF := FA.rely hF hR
  clear hR
  have hc := hF.cell (g := sp) (i := 1) (cs := #[x, .bool bad]) (t := 45) (by simp) rfl
  go_simp
  refine hC _ _ ?_
  clear hC C
  try walk_nrm
  clear hc
  refine opsN_k KK rfl (by rfl) (by rfl) ?_
  intro _ hR C hC
  replace hF := FA.rely hF hR
  clear hR
  go_simp
  refine hC _ _ ?_
  clear hC C
  try walk_nrm
  refine opsN_k KK rfl (by rfl) (by rfl) ?_
  intro _ hR C hC
  replace hF := FA.rely hF hR
  clear hR
  go_simp
  refine hC _ _ ?_
  clear hC C
  try walk_nrm
  refine opsM_nil KK ?_
  try simp only [thenM, Exit.inBlock, if_true, if_false, reduceIte, Nat.reduceEqDiff]
  refine wpM_ret KK ?_
  try simp only [thenM, Exit.inBlock, if_true, if_false, reduceIte, Nat.reduceEqDiff]
  exact ⟨rfl, _, resultsC_tmp (by rfl) _, rfl, by simp, hF.below⟩
set_option maxRecDepth 100000 in
set_option maxHeartbeats 1600000 in
theorem new_calls {Post : Value → World → Prop} (w0 : World) :
    callM Try.prog (XF Try.prog (XEnds Try.prog Post)) 8 #[] (fun γ v w' => γ = none ∧ (∃ sp, v = .pointer (some ⟨sp, 0, none⟩) ∧ Spl w0.heap.size sp [] false (.slice none 0 0) w') ∧ Below w0.heap.size w0 w') none w0 := by
  have KK := kitF (P := Try.prog) (X := XEnds Try.prog Post) XEnds.back XEnds.at_
  have hF : FA w0 [] w0 := ⟨Below.refl _ _, fun p hp => by cases hp⟩
  refine callM_of_wpM KK Try.func8 rfl ?_
  simp only [Try.ntmps8, List.size_toArray, List.length_cons, List.length_nil, Nat.reduceAdd, Nat.reduceSub, Array.replicate_succ, Array.replicate_zero, List.push_toArray, List.append_toArray, List.nil_append, List.cons_append]
  refine wpM_seq KK ?_
  refine wpM_region KK ?_
  simp only [List.size_toArray, List.length_cons, List.length_nil, Nat.reduceAdd, Nat.zero_add, List.range, List.range.loop]
  refine opsN_k KK rfl (by rfl) (by rfl) ?_
  intro _ hR C hC
  replace hF := FA.rely hF hR
  clear hR
  go_simp
  refine hC _ _ ?_
  clear hC C
  try walk_nrm
  refine opsM_nil KK ?_
  try simp only [thenM, Exit.inBlock, if_true, if_false, reduceIte, Nat.reduceEqDiff]
  refine wpM_seq KK ?_
  refine wpM_region KK ?_
  simp only [List.size_toArray, List.length_cons, List.length_nil, Nat.reduceAdd, Nat.zero_add, List.range, List.range.loop]
  refine opsN_k KK rfl (by rfl) (by rfl) ?_
  intro _ hR C hC
  replace hF := FA.rely hF hR
  clear hR
  go_simp
  refine hC _ _ ?_
  clear hC C
  try walk_nrm
  refine opsN_k KK rfl (by rfl) (by rfl) ?_
  intro _ hR C hC
  replace hF := FA.rely hF hR
  clear hR
  go_simp
  refine hC _ _ ?_
  clear hC C
  try walk_nrm
  rename_i V2
  have hlt2 := Go.Lib.hid hF.lt
  have hn2 := Go.Lib.hid hF.below.size
  replace hF := hF.alloc (Obj.cells #[.slice none 0 0, .bool false] 45)
  generalize V2.alloc (Obj.cells #[.slice none 0 0, .bool false] 45) = W2 at *
  generalize V2.heap.size = g2 at *
  refine opsN_k KK rfl (by rfl) (by rfl) ?_
  intro _ hR C hC
  replace hF := FA.rely hF hR
  clear hR
  go_simp
  refine hC _ _ ?_
  clear hC C
  try walk_nrm
  refine opsM_nil KK ?_
  try simp only [thenM, Exit.inBlock, if_true, if_false, reduceIte, Nat.reduceEqDiff]
  refine wpM_ret KK ?_
  try simp only [thenM, Exit.inBlock, if_true, if_false, reduceIte, Nat.reduceEqDiff]
  exact ⟨rfl, _, resultsC_tmp (by rfl) _, rfl, ⟨g2, by simp, ⟨hF.at_ (g2, _) (by simp), ⟨by simp [Bs], .inl ⟨rfl, by simp [Bs]⟩⟩, hn2.out⟩⟩, hF.below⟩
end Go.Proofs.Ytngmhkhncimknaa
