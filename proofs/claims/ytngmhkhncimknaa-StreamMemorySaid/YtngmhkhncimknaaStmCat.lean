/- slices.Grow and slices.Concat, of rows of bytes. -/
import Derived.Test.YtngmhkhncimknaaStmN
import Derived.Test.YtngmhkhncimknaaAppZ
namespace Go.Proofs.Ytngmhkhncimknaa
open Go Go.Conc Go.RowKit
set_option linter.unusedVariables false
set_option linter.unusedSimpArgs false

theorem uponK_append2 {P : Program} {o : Oper} {a : Act} {K : Act → World → Prop} {w w' : World} {v xv v' : Value} (s x : Operand) (t u : TypeId)
    (ho : o.op = .call { callee := .builtin .append, args := #[s, x], argTypes := #[t, u] }) (hs : a.eval s = v) (hx : a.eval x = xv)
    (hr : (Builtin.append_ #[t, u] o.type #[v, xv]).run P w = .ok v' w') (h : K (a.put o.dst v') w') : uponK o a K ((execOp a.eval o).run P w) := by
  unfold execOp
  simp only [ho, resolve, invoke, builtin, Sem.run_bind, Sem.run_pure, Result.andThen_ok, List.map_toArray, List.map_cons, List.map_nil, hs, hx, hr]
  exact h

theorem run_append_bytes {P : Program} (w : World) (base : Nat) (t ty e : TypeId) (ht : P.underlying t = some (.slice e)) (hinfo : (P.info? e).map (fun i => (i.zero, i.size, i.bytes)) = some (some (.int .u8 0), 1, 1)) (v : Value) (l m : List UInt8) (A : Option Addr) (c : Nat)
    (hown : Own w base e v (Bs l)) (hA : Cells w A (Bs m)) (hroom : l.length + m.length ≤ 100000000000000) (hbase : base ≤ w.heap.size) :
    ∃ v' w', (Builtin.append_ #[t, t] ty #[v, .slice A m.length c]).run P w = .ok v' w' ∧ Own w' base e v' (Bs (l ++ m)) ∧ w.grownBy w' v.ownBlock := by
  obtain ⟨i, hi, hz0, hz1, hz2⟩ := info_parts hinfo
  have hl : (Bs l).length = l.length := Bs_length l
  rcases Nat.eq_zero_or_pos m.length with h0 | h0
  · obtain rfl := List.eq_nil_of_length_eq_zero h0
    refine ⟨v, w, ?_, by simpa using hown, ⟨rfl, rfl, rfl, Nat.le_refl _, fun _ _ _ => rfl⟩⟩
    rcases hown.2 with ⟨rfl, _⟩ | ⟨g, cap, cur, rfl, _, hg, hn, _⟩
    · cases A <;> simp [Builtin.append_, run_underlying ht, sizeOf, typeInfo, hi, Builtin.lenOf, Builtin.firstCells, loadCells, loadCellsFrom]
    · rw [hl] at hn
      cases A <;> simp [Builtin.append_, run_underlying ht, sizeOf, typeInfo, hi, Builtin.lenOf, Builtin.firstCells, loadCells, loadCellsFrom, storeCells, hn, Bs_length]
  · obtain ⟨ad, rfl, hc⟩ := cells_src hA (by rw [Bs_length]; exact h0)
    obtain ⟨v', w', hr, h1, h2, _⟩ := run_append_own (P := P) w base t ty e i (.int .u8 0) 1 1 ht hi hz0 hz1 hz2 rfl (by decide) v (Bs l).length (Bs l) hown ad m.length c (Bs m) (by simp [Bs]) hc (Bs_one m) (by rw [hl]; unfold maxLen; omega) (by rw [hl]; omega) hbase
    refine ⟨v', w', hr, ?_, h2⟩
    unfold Own
    rw [Bs_append]
    simpa [Bs_length] using h1

theorem run_append_nil_zeros {P : Program} (w : World) (t u ty e : TypeId) (ht : P.underlying t = some (.slice e)) (hu : P.underlying u = some (.int .i64)) (hinfo : (P.info? e).map (fun i => (i.zero, i.size, i.bytes)) = some (some (.int .u8 0), 1, 1)) (n : Nat) (h0 : 0 < n) (hn : n ≤ 100000000000000) :
    ∃ cur, cur.size = grownCap w n 0 e ∧ (Builtin.append_ #[t, u] ty #[.slice none 0 0, .int .i64 (n : Int)]).run P w = .ok (.slice (some ⟨w.heap.size, 0, none⟩) n (grownCap w n 0 e)) (w.drew.alloc (.cells cur e)) := by
  obtain ⟨i, hi, hz0, hz1, hz2⟩ := info_parts hinfo
  have hwr : IntKind.i64.wrap (n : Int) = (n : Int) := by rw [IntKind.wrap_i64]; omega
  have hneg : ¬ ((n : Int) < 0) := by omega
  have hbig : ¬ ((281474976710656 : Int) < (n : Int)) := by omega
  have hnz : ¬ n = 0 := by omega
  have h63' : ¬ (9223372036854775807 < (n : Int)) := by omega
  have h48' : ¬ (281474976710656 < Builtin.nextslicecap n 0) := by rw [nextslicecap_zero h0]; omega
  refine ⟨(Bs (List.replicate n 0)).toArray ++ Builtin.zeroCells (Value.int IntKind.u8 0).cells (grownCap w n 0 e - n), ?_, ?_⟩
  · have hz : (Value.int IntKind.u8 0).cells.size = 1 := rfl
    have := grownCap_ge w n 0 e
    simp only [Array.size_append, size_zeroCells, hz]
    simp [Bs]
    omega
  · simp [Builtin.append_, run_underlying ht, run_underlying hu, sizeOf, typeInfo, zeroValue, hi, hz1, hz2, hz0, hwr, hneg, hbig, hnz, h63', h48', Question.forced, newRow, grownCap, zeroCells_list, asInt, asIntOf, Builtin.firstCells, loadCells]

set_option maxRecDepth 100000 in
set_option maxHeartbeats 1600000 in
theorem grow_calls {Post : Value → World → Prop} (n : Nat) (hn : n ≤ 1000000000) (w0 : World) :
    callM Try.prog (XF Try.prog (XEnds Try.prog Post)) 25 #[.slice none 0 0, .int .i64 (n : Int)] (fun γ v w' => γ = none ∧ Own w' w0.heap.size 5 v (Bs []) ∧ Below w0.heap.size w0 w') none w0 := by
  have e0 : decide ((n : Int) < 0) = false := decide_eq_false (by omega)
  have w00 : IntKind.i64.wrap 0 = 0 := by decide
  have wn : IntKind.i64.wrap (n : Int) = (n : Int) := by rw [IntKind.wrap_i64]; omega
  have KK := kitF (P := Try.prog) (X := XEnds Try.prog Post) XEnds.back XEnds.at_
  have hF : FA w0 [] w0 := ⟨Below.refl _ _, fun p hp => by cases hp⟩
  refine callM_of_wpM KK Try.func25 rfl ?_
  simp only [Try.ntmps25, List.size_toArray, List.length_cons, List.length_nil, Nat.reduceAdd, Nat.reduceSub, Array.replicate_succ, Array.replicate_zero, List.push_toArray, List.append_toArray, List.nil_append, List.cons_append]
  refine wpM_seq KK ?_
  refine wpM_region KK ?_
  simp only [List.size_toArray, List.length_cons, List.length_nil, Nat.reduceAdd, Nat.zero_add, List.range, List.range.loop]
  refine opsN_k KK rfl (by rfl) (by rfl) ?_
  intro _ hR C hC
  replace hF := FA.rely hF hR
  clear hR
  go_simp
  refine hC _ _ ?_
  clear hC C
  try walk_nrm
  refine opsM_nil KK ?_
  try simp only [thenM, Exit.inBlock, if_true, if_false, reduceIte, Nat.reduceEqDiff]
  refine wpM_seq KK ?_
  refine wpM_seq KK ?_
  refine wpM_region KK ?_
  simp only [List.size_toArray, List.length_cons, List.length_nil, Nat.reduceAdd, Nat.zero_add, List.range, List.range.loop]
  refine opsN_k KK rfl (by rfl) (by rfl) ?_
  intro _ hR C hC
  replace hF := FA.rely hF hR
  clear hR
  go_simp
  refine hC _ _ ?_
  clear hC C
  try walk_nrm
  refine opsN_k KK rfl (by rfl) (by rfl) ?_
  intro _ hR C hC
  replace hF := FA.rely hF hR
  clear hR
  go_simp
  refine hC _ _ ?_
  clear hC C
  try walk_nrm
  refine opsM_nil KK ?_
  try simp only [thenM, Exit.inBlock, if_true, if_false, reduceIte, Nat.reduceEqDiff]
  refine wpM_cond KK rfl ?_
  first | simp only [if_true, if_false, reduceIte, Bool.false_eq_true] | fail "COND"
  refine wpM_skip KK ?_
  try simp only [thenM, Exit.inBlock, if_true, if_false, reduceIte, Nat.reduceEqDiff]
  refine wpM_seq KK ?_
  refine wpM_seq KK ?_
  refine wpM_region KK ?_
  simp only [List.size_toArray, List.length_cons, List.length_nil, Nat.reduceAdd, Nat.zero_add, List.range, List.range.loop]
  refine opsN_k KK rfl (by rfl) (by rfl) ?_
  intro _ hR C hC
  replace hF := FA.rely hF hR
  clear hR
  go_simp
  refine hC _ _ ?_
  clear hC C
  try walk_nrm
  refine opsN_k KK rfl (by rfl) (by rfl) ?_
  intro _ hR C hC
  replace hF := FA.rely hF hR
  clear hR
  go_simp
  refine hC _ _ ?_
  clear hC C
  try walk_nrm
  refine opsN_k KK rfl (by rfl) (by rfl) ?_
  intro _ hR C hC
  replace hF := FA.rely hF hR
  clear hR
  go_simp
  refine hC _ _ ?_
  clear hC C
  try walk_nrm
  refine opsN_k KK rfl (by rfl) (by rfl) ?_
  intro _ hR C hC
  replace hF := FA.rely hF hR
  clear hR
  go_simp
  refine hC _ _ ?_
  clear hC C
  try walk_nrm
  refine opsN_k KK rfl (by rfl) (by rfl) ?_
  intro _ hR C hC
  replace hF := FA.rely hF hR
  clear hR
  go_simp
  refine hC _ _ ?_
  clear hC C
  try walk_nrm
  refine opsN_k KK rfl (by rfl) (by rfl) ?_
  intro _ hR C hC
  replace hF := FA.rely hF hR
  clear hR
  go_simp
  refine hC _ _ ?_
  clear hC C
  try walk_nrm
  refine opsN_k KK rfl (by rfl) (by rfl) ?_
  intro _ hR C hC
  replace hF := FA.rely hF hR
  clear hR
  go_simp
  refine hC _ _ ?_
  clear hC C
  try walk_nrm
  refine opsN_k KK rfl (by rfl) (by rfl) ?_
  intro _ hR C hC
  replace hF := FA.rely hF hR
  clear hR
  go_simp
  refine hC _ _ ?_
  clear hC C
  try walk_nrm
  refine opsM_nil KK ?_
  try simp only [thenM, Exit.inBlock, if_true, if_false, reduceIte, Nat.reduceEqDiff]
  refine wpM_seq KK ?_
  refine wpM_region KK ?_
  simp only [List.size_toArray, List.length_cons, List.length_nil, Nat.reduceAdd, Nat.zero_add, List.range, List.range.loop]
  rcases Nat.eq_zero_or_pos n with rfl | h0
  · refine opsN_k KK rfl (by rfl) (by rfl) ?_
    intro _ hR C hC
    replace hF := FA.rely hF hR
    clear hR
    go_simp
    refine hC _ _ ?_
    clear hC C
    try walk_nrm
    refine opsN_k KK rfl (by rfl) (by rfl) ?_
    intro _ hR C hC
    replace hF := FA.rely hF hR
    clear hR
    go_simp
    refine hC _ _ ?_
    clear hC C
    try walk_nrm
    refine opsM_nil KK ?_
    try simp only [thenM, Exit.inBlock, if_true, if_false, reduceIte, Nat.reduceEqDiff]
    refine wpM_cond KK rfl ?_
    first | simp only [if_true, if_false, reduceIte, Bool.false_eq_true] | fail "COND"
    refine wpM_skip KK ?_
    try simp only [thenM, Exit.inBlock, if_true, if_false, reduceIte, Nat.reduceEqDiff]
    refine wpM_seq KK ?_
    refine wpM_region KK ?_
    simp only [List.size_toArray, List.length_cons, List.length_nil, Nat.reduceAdd, Nat.zero_add, List.range, List.range.loop]
    refine opsN_k KK rfl (by rfl) (by rfl) ?_
    intro _ hR C hC
    replace hF := FA.rely hF hR
    clear hR
    go_simp
    refine hC _ _ ?_
    clear hC C
    try walk_nrm
    refine opsN_k KK rfl (by rfl) (by rfl) ?_
    intro _ hR C hC
    replace hF := FA.rely hF hR
    clear hR
    go_simp
    refine hC _ _ ?_
    clear hC C
    try walk_nrm
    refine opsM_nil KK ?_
    try simp only [thenM, Exit.inBlock, if_true, if_false, reduceIte, Nat.reduceEqDiff]
    refine wpM_ret KK ?_
    try simp only [thenM, Exit.inBlock, if_true, if_false, reduceIte, Nat.reduceEqDiff]
    exact ⟨rfl, _, resultsC_tmp (by rfl) _, rfl, ⟨by simp [Bs], .inl ⟨by simp, by simp [Bs]⟩⟩, hF.below⟩
  have e1 : decide ((0 : Int) < (n : Int)) = true := decide_eq_true (by omega)
  refine opsN_k KK rfl (by rfl) (by rfl) ?_
  intro _ hR C hC
  replace hF := FA.rely hF hR
  clear hR
  go_simp
  refine hC _ _ ?_
  clear hC C
  try walk_nrm
  refine opsN_k KK rfl (by rfl) (by rfl) ?_
  intro _ hR C hC
  replace hF := FA.rely hF hR
  clear hR
  go_simp
  refine hC _ _ ?_
  clear hC C
  try walk_nrm
  refine opsM_nil KK ?_
  try simp only [thenM, Exit.inBlock, if_true, if_false, reduceIte, Nat.reduceEqDiff]
  refine wpM_cond KK rfl ?_
  first | simp only [if_true, if_false, reduceIte, Bool.false_eq_true] | fail "COND"
  refine wpM_region KK ?_
  simp only [List.size_toArray, List.length_cons, List.length_nil, Nat.reduceAdd, Nat.zero_add, List.range, List.range.loop]
  refine opsN_k KK rfl (by rfl) (by rfl) ?_
  intro _ hR C hC
  replace hF := FA.rely hF hR
  clear hR
  go_simp
  refine hC _ _ ?_
  clear hC C
  try walk_nrm
  refine opsN_k KK rfl (by rfl) (by rfl) ?_
  intro _ hR C hC
  replace hF := FA.rely hF hR
  clear hR
  go_simp
  refine hC _ _ ?_
  clear hC C
  try walk_nrm
  refine opsN_k KK rfl (by rfl) (by rfl) ?_
  intro _ hR C hC
  replace hF := FA.rely hF hR
  clear hR
  go_simp
  refine hC _ _ ?_
  clear hC C
  try walk_nrm
  refine opsN_k KK rfl (by rfl) (by rfl) ?_
  intro _ hR C hC
  replace hF := FA.rely hF hR
  clear hR
  go_simp
  refine hC _ _ ?_
  clear hC C
  try walk_nrm
  refine opsN_k KK rfl (by rfl) (by rfl) ?_
  intro _ hR C hC
  replace hF := FA.rely hF hR
  clear hR
  go_simp
  refine hC _ _ ?_
  clear hC C
  try walk_nrm
  refine opsN_k KK rfl (by rfl) (by rfl) ?_
  intro w1 hR C hC
  replace hF := FA.rely hF hR
  clear hR
  obtain ⟨cur, hcs, hr⟩ := run_append_nil_zeros (P := Try.prog) w1 30 3 30 5 (by kernel_rfl) (by kernel_rfl) (by kernel_rfl) n h0 (by omega)
  refine uponK_append2 _ _ _ _ rfl rfl rfl hr (hC _ _ ?_)
  clear hC C
  try walk_nrm
  have hge := grownCap_ge w1 n 0 5
  have hcm := grownCap_le_maxLen w1 n 0 5 (by unfold maxLen; omega)
  have hnn := Go.Lib.hid hF.below.size
  replace hF := FA.alloc (FA.rely hF (w₁ := w1.drew) ⟨_, rfl⟩) (Obj.cells cur 5)
  have hgd : w1.drew.heap.size = w1.heap.size := rfl
  rw [hgd] at hF
  clear hr hgd
  generalize w1.drew.alloc (Obj.cells cur 5) = W at *
  generalize grownCap w1 n 0 5 = cap at *
  generalize w1.heap.size = g at *
  have HC := Go.Lib.hid (And.intro hcs (And.intro hge hcm))
  clear hcs hge hcm
  refine opsN_k KK rfl (by rfl) (by rfl) ?_
  intro _ hR C hC
  replace hF := FA.rely hF hR
  clear hR
  go_simp
  refine hC _ _ ?_
  clear hC C
  try walk_nrm
  refine opsN_k KK rfl (by rfl) (by rfl) ?_
  intro _ hR C hC
  replace hF := FA.rely hF hR
  clear hR
  go_simp
  refine hC _ _ ?_
  clear hC C
  try walk_nrm
  refine opsN_k KK rfl (by rfl) (by rfl) ?_
  intro _ hR C hC
  replace hF := FA.rely hF hR
  clear hR
  go_simp
  refine hC _ _ ?_
  clear hC C
  try walk_nrm
  refine opsN_k KK rfl (by rfl) (by rfl) ?_
  intro _ hR C hC
  replace hF := FA.rely hF hR
  clear hR
  go_simp
  refine hC _ _ ?_
  clear hC C
  try walk_nrm
  refine opsM_nil KK ?_
  try simp only [thenM, Exit.inBlock, if_true, if_false, reduceIte, Nat.reduceEqDiff]
  refine wpM_seq KK ?_
  refine wpM_region KK ?_
  simp only [List.size_toArray, List.length_cons, List.length_nil, Nat.reduceAdd, Nat.zero_add, List.range, List.range.loop]
  refine opsN_k KK rfl (by rfl) (by rfl) ?_
  intro _ hR C hC
  replace hF := FA.rely hF hR
  clear hR
  go_simp
  refine hC _ _ ?_
  clear hC C
  try walk_nrm
  refine opsN_k KK rfl (by rfl) (by rfl) ?_
  intro _ hR C hC
  replace hF := FA.rely hF hR
  clear hR
  go_simp
  refine hC _ _ ?_
  clear hC C
  try walk_nrm
  refine opsM_nil KK ?_
  try simp only [thenM, Exit.inBlock, if_true, if_false, reduceIte, Nat.reduceEqDiff]
  refine wpM_ret KK ?_
  try simp only [thenM, Exit.inBlock, if_true, if_false, reduceIte, Nat.reduceEqDiff]
  have hb := hF.at_ (g, Obj.cells cur 5 (0, 0)) (by simp)
  exact ⟨rfl, _, resultsC_tmp (by rfl) _, rfl, ⟨by simp [Bs], .inr ⟨g, cap, cur, by simp [Bs], hnn.out, hb, by simp [Bs], HC.out.2.2, by rw [HC.out.1]; simp, by simp [Bs]⟩⟩, hF.below⟩
end Go.Proofs.Ytngmhkhncimknaa
