/- The reference's Feed, New, Waiting, Bad, and the nil receivers', as calls of the law's goroutine; place. -/
import Derived.Test.YtngmhkhncimknaaStmRefF
namespace Go.Proofs.Ytngmhkhncimknaa
open Go Go.Conc Go.RowKit
set_option linter.unusedVariables false
set_option linter.unusedSimpArgs false

theorem RH.turn {n0 tp : Nat} {w w1 w' : World} {ob : Option Nat} {h : List UInt8} {bad : Bool} {hv ov : Value} {us : List Value} {ps : List (List UInt8)} (r : RH n0 tp w1 ob h bad hv ov us ps w') (h1 : w1.heap = w.heap) (h2 : w1.os = w.os) (h3 : w1.output = w.output) (d : Nat) : RH n0 tp w ob h bad hv ov us ps (Go.Proofs.Ytngmhkhncimknaa.turn w' w.tape d) := by
  refine ⟨⟨r.ref.blk, r.ref.own, r.ref.ge⟩, ⟨r.save.os.trans h2, rfl, r.save.output.trans h3, by have := r.save.size; rw [h1] at this; exact this, fun i a b c => ?_⟩, ?_, ?_, ⟨r.rows.1, r.rows.2⟩, by have := r.tp; rw [h1] at this; exact this, by have := r.base; rw [h1] at this; exact this, by have := r.src; rw [h1] at this; exact this⟩
  · have := r.save.block i (by rw [h1]; exact a) b c
    rw [h1] at this
    exact this
  · have := r.ob; rw [h1] at this; exact this
  · have := r.out; rw [h1] at this; exact this
theorem RH.at_ {n0 tp : Nat} {w w' : World} {ob : Option Nat} {h : List UInt8} {bad : Bool} {hv ov : Value} {us : List Value} {ps : List (List UInt8)} (r : RH n0 tp w ob h bad hv ov us ps w') (d : Nat) : RH n0 tp w ob h bad hv ov us ps (w'.at d) :=
  r.next ⟨rfl, rfl, rfl, Nat.le_refl _, fun _ _ => rfl⟩

theorem refFeed_shut : Shut Try.prog (fun x => [12, 24].contains x) := shut_of _ (by kernel_rfl) (by kernel_rfl)
theorem refFeed_m {Post : Value → World → Prop} (n0 tp : Nat) (w : World) (hv : Value) (h : List UInt8) (bad : Bool) (Ab : Option Addr) (lb : List UInt8) (cb : Nat) (hR : RefS n0 tp h bad hv w) (hw : bad = false → Whole0 h)
    (hA : Cells w Ab (Bs lb)) (hlow : 0 < lb.length → ∀ a, Ab = some a → a.block < n0) (hl : lb.length ≤ 16777216) :
    callM Try.prog (XF Try.prog (XEnds Try.prog Post)) 12 #[.pointer (some ⟨tp, 0, none⟩), .slice Ab lb.length cb] (fun γ v w' => γ = none ∧ FedT n0 tp w hv (h, bad) lb v w') none w := by
  refine callM_of_calls (R := fun v w' => FedT n0 tp w hv (h, bad) lb v w') refFeed_shut (by decide) (fun w1 h1 h2 h3 => ?_) ?_
  · refine (refFeed_calls n0 tp w1 hv h bad Ab lb cb ⟨by rw [h1]; exact hR.blk, own_same hR.own fun g _ => by rw [h1], hR.ge⟩ hw (cells_heap h1 hA) hlow hl).mono ?_
    rintro e w' ⟨r, he, ov, us, ps, h', bad', hv', rfl, q1, q2, q3⟩
    exact ⟨_, he, ov, us, ps, h', bad', hv', rfl, q1, q2, q3.turn h1 h2 h3 _⟩
  · rintro v w' d ⟨ov, us, ps, h', bad', hv', rfl, q1, q2, q3⟩
    exact ⟨ov, us, ps, h', bad', hv', rfl, q1, q2, q3.at_ d⟩

/-- where a number falls -/
def pl3 (i : Int) : Nat := ((i % 18446744073709551616) % 3).toNat
theorem pl3_lt (i : Int) : pl3 i < 3 := by unfold pl3; omega
set_option maxRecDepth 100000 in
theorem place_calls (i : Int) (w : World) : Calls Try.prog 10 #[.int .i64 i] w fun e w' => e = .returned (.int .i64 (pl3 i : Int)) ∧ LoneN w w' := by
  have e1 : IntKind.u64.wrap i = i % 18446744073709551616 := IntKind.wrap_u64 i
  have e2 : IntKind.u64.wrap ((i % 18446744073709551616).tmod 3) = (pl3 i : Int) := by
    rw [IntKind.wrap_u64, Int.tmod_eq_emod_of_nonneg (by omega)]
    unfold pl3
    omega
  have e3 : IntKind.i64.wrap (pl3 i : Int) = (pl3 i : Int) := by
    have := pl3_lt i
    rw [IntKind.wrap_i64]
    omega
  have e4 : (i % 18446744073709551616).tmod 3 = (pl3 i : Int) := by
    rw [Int.tmod_eq_emod_of_nonneg (by omega)]
    unfold pl3
    omega
  go_enter Try.func10, Try.ntmps10
  go_wp2
  go_ret
  refine ⟨?_, loneN_refl _⟩
  first | rfl | (simp [e1, e2, e3, e4]; done)
theorem place_shut : Shut Try.prog (fun x => [10].contains x) := shut_of _ (by kernel_rfl) (by kernel_rfl)
theorem place_m {Post : Value → World → Prop} (i : Int) (w : World) : callM Try.prog (XF Try.prog (XEnds Try.prog Post)) 10 #[.int .i64 i] (fun γ v w' => γ = none ∧ v = .int .i64 (pl3 i : Int) ∧ ∃ d, w' = w.at d) none w := by
  refine callM_of_calls (R := fun v w' => v = .int .i64 (pl3 i : Int) ∧ ∃ d, w' = w.at d) place_shut (by decide) (fun w1 h1 h2 h3 => ?_) ?_
  · refine (place_calls i w1).mono ?_
    rintro e w' ⟨he, n, rfl⟩
    refine ⟨_, he, rfl, (w1.drewN n).drawn, ?_⟩
    cases w1
    cases w
    simp only at h1 h2 h3
    subst h1 h2 h3
    rfl
  · rintro v w' d ⟨rfl, d', rfl⟩
    exact ⟨rfl, d, rfl⟩
set_option maxRecDepth 100000 in
set_option maxHeartbeats 1600000 in
theorem rwaiting_calls {Post : Value → World → Prop} {sp : Nat} {A : Option Addr} {n c : Nat} {bad : Bool} (w0 : World) (hs : w0.heap[sp]? = some (.cells #[.slice A n c, .bool bad] 47 (0, 0))) :
    callM Try.prog (XF Try.prog (XEnds Try.prog Post)) 15 #[.pointer (some ⟨sp, 0, none⟩)] (fun γ v w' => γ = none ∧ v = .int .i64 (n : Int) ∧ Below w0.heap.size w0 w') none w0 := by
  have KK := kitF (P := Try.prog) (X := XEnds Try.prog Post) XEnds.back XEnds.at_
  have hF : FA w0 [(sp, Obj.cells #[.slice A n c, .bool bad] 47 (0, 0))] w0 := ⟨Below.refl _ _, fun p hp => by obtain rfl := List.mem_singleton.1 hp; exact hs⟩
  refine callM_of_wpM KK Try.func15 rfl ?_
  simp only [Try.ntmps15, List.size_toArray, List.length_cons, List.length_nil, Nat.reduceAdd, Nat.reduceSub, Array.replicate_succ, Array.replicate_zero, List.push_toArray, List.append_toArray, List.nil_append, List.cons_append]
  refine wpM_seq KK ?_
  refine wpM_region KK ?_
  simp only [List.size_toArray, List.length_cons, List.length_nil, Nat.reduceAdd, Nat.zero_add, List.range, List.range.loop]
  refine opsN_k KK rfl (by rfl) (by rfl) ?_
  intro _ hR C hC
  replace hF := FA.rely hF hR
  clear hR
  go_simp
  refine hC _ _ ?_
  clear hC C
  try walk_nrm
  refine opsM_nil KK ?_
  try simp only [thenM, Exit.inBlock, if_true, if_false, reduceIte, Nat.reduceEqDiff]
  refine wpM_seq KK ?_
  refine wpM_seq KK ?_
  refine wpM_region KK ?_
  simp only [List.size_toArray, List.length_cons, List.length_nil, Nat.reduceAdd, Nat.zero_add, List.range, List.range.loop]
  refine opsN_k KK rfl (by rfl) (by rfl) ?_
  intro _ hR C hC
  replace hF := FA.rely hF hR
  clear hR
  go_simp
  refine hC _ _ ?_
  clear hC C
  try walk_nrm
  refine opsN_k KK rfl (by rfl) (by rfl) ?_
  intro _ hR C hC
  replace hF := FA.rely hF hR
  clear hR
  go_simp
  refine hC _ _ ?_
  clear hC C
  try walk_nrm
  refine opsM_nil KK ?_
  try simp only [thenM, Exit.inBlock, if_true, if_false, reduceIte, Nat.reduceEqDiff]
  refine wpM_cond KK rfl ?_
  first | simp only [Option.isNone_some, if_true, if_false, reduceIte, Bool.false_eq_true] | fail "COND"
  refine wpM_skip KK ?_
  try simp only [thenM, Exit.inBlock, if_true, if_false, reduceIte, Nat.reduceEqDiff]
  refine wpM_seq KK ?_
  refine wpM_region KK ?_
  simp only [List.size_toArray, List.length_cons, List.length_nil, Nat.reduceAdd, Nat.zero_add, List.range, List.range.loop]
  refine opsN_k KK rfl (by rfl) (by rfl) ?_
  intro _ hR C hC
  replace hF := FA.rely hF hR
  clear hR
  go_simp
  refine hC _ _ ?_
  clear hC C
  try walk_nrm
  refine opsN_k KK rfl (by rfl) (by rfl) ?_
  intro _ hR C hC
  replace hF := FA.rely hF hR
  clear hR
  go_simp
  refine hC _ _ ?_
  clear hC C
  try walk_nrm
  refine opsN_k KK rfl (by rfl) (by rfl) ?_
  intro _ hR C hC
  replace hF := FA.rely hF hR
  clear hR
  go_simp
  refine hC _ _ ?_
  clear hC C
  try walk_nrm
  refine opsN_k KK rfl (by rfl) (by rfl) ?_
  intro _ hR C hC
  replace hF := FA.rely hF hR
  clear hR
  have hc := hF.cell (g := sp) (i := 0) (cs := #[.slice A n c, .bool bad]) (t := 47) (by simp) rfl
  go_simp
  refine hC _ _ ?_
  clear hC C
  try walk_nrm
  clear hc
  refine opsN_k KK rfl (by rfl) (by rfl) ?_
  intro _ hR C hC
  replace hF := FA.rely hF hR
  clear hR
  go_simp
  refine hC _ _ ?_
  clear hC C
  try walk_nrm
  refine opsN_k KK rfl (by rfl) (by rfl) ?_
  intro _ hR C hC
  replace hF := FA.rely hF hR
  clear hR
  go_simp
  refine hC _ _ ?_
  clear hC C
  try walk_nrm
  refine opsM_nil KK ?_
  try simp only [thenM, Exit.inBlock, if_true, if_false, reduceIte, Nat.reduceEqDiff]
  refine wpM_ret KK ?_
  try simp only [thenM, Exit.inBlock, if_true, if_false, reduceIte, Nat.reduceEqDiff]
  exact ⟨rfl, _, resultsC_tmp (by rfl) _, rfl, by simp, hF.below⟩
set_option maxRecDepth 100000 in
set_option maxHeartbeats 1600000 in
theorem rbad_calls {Post : Value → World → Prop} {sp : Nat} {x : Value} {bad : Bool} (w0 : World) (hs : w0.heap[sp]? = some (.cells #[x, .bool bad] 47 (0, 0))) :
    callM Try.prog (XF Try.prog (XEnds Try.prog Post)) 17 #[.pointer (some ⟨sp, 0, none⟩)] (fun γ v w' => γ = none ∧ v = .bool bad ∧ Below w0.heap.size w0 w') none w0 := by
  have KK := kitF (P := Try.prog) (X := XEnds Try.prog Post) XEnds.back XEnds.at_
  have hF : FA w0 [(sp, Obj.cells #[x, .bool bad] 47 (0, 0))] w0 := ⟨Below.refl _ _, fun p hp => by obtain rfl := List.mem_singleton.1 hp; exact hs⟩
  refine callM_of_wpM KK Try.func17 rfl ?_
  simp only [Try.ntmps17, List.size_toArray, List.length_cons, List.length_nil, Nat.reduceAdd, Nat.reduceSub, Array.replicate_succ, Array.replicate_zero, List.push_toArray, List.append_toArray, List.nil_append, List.cons_append]
  refine wpM_seq KK ?_
  refine wpM_region KK ?_
  simp only [List.size_toArray, List.length_cons, List.length_nil, Nat.reduceAdd, Nat.zero_add, List.range, List.range.loop]
  refine opsN_k KK rfl (by rfl) (by rfl) ?_
  intro _ hR C hC
  replace hF := FA.rely hF hR
  clear hR
  go_simp
  refine hC _ _ ?_
  clear hC C
  try walk_nrm
  refine opsM_nil KK ?_
  try simp only [thenM, Exit.inBlock, if_true, if_false, reduceIte, Nat.reduceEqDiff]
  refine wpM_seq KK ?_
  refine wpM_region KK ?_
  simp only [List.size_toArray, List.length_cons, List.length_nil, Nat.reduceAdd, Nat.zero_add, List.range, List.range.loop]
  refine opsN_k KK rfl (by rfl) (by rfl) ?_
  intro _ hR C hC
  replace hF := FA.rely hF hR
  clear hR
  go_simp
  refine hC _ _ ?_
  clear hC C
  try walk_nrm
  try simp only [Option.isNone_some, Bool.not_false, bne]
  refine opsN_k KK rfl (by rfl) (by rfl) ?_
  intro _ hR C hC
  replace hF := FA.rely hF hR
  clear hR
  go_simp
  refine hC _ _ ?_
  clear hC C
  try walk_nrm
  try simp only [Option.isNone_some, Bool.not_false, bne]
  refine opsN_k KK rfl (by rfl) (by rfl) ?_
  intro _ hR C hC
  replace hF := FA.rely hF hR
  clear hR
  go_simp
  refine hC _ _ ?_
  clear hC C
  try walk_nrm
  refine opsN_k KK rfl (by rfl) (by rfl) ?_
  intro _ hR C hC
  replace hF := FA.rely hF hR
  clear hR
  go_simp
  refine hC _ _ ?_
  clear hC C
  try walk_nrm
  refine opsN_k KK rfl (by rfl) (by rfl) ?_
  intro _ hR C hC
  replace hF := FA.rely hF hR
  clear hR
  go_simp
  refine hC _ _ ?_
  clear hC C
  try walk_nrm
  refine opsN_k KK rfl (by rfl) (by rfl) ?_
  intro _ hR C hC
  replace hF := FA.rely hF hR
  clear hR
  go_simp
  refine hC _ _ ?_
  clear hC C
  try walk_nrm
  refine opsN_k KK rfl (by rfl) (by rfl) ?_
  intro _ hR C hC
  replace hF := FA.rely hF hR
  clear hR
  have hc := hF.cell (g := sp) (i := 1) (cs := #[x, .bool bad]) (t := 47) (by simp) rfl
  go_simp
  refine hC _ _ ?_
  clear hC C
  try walk_nrm
  clear hc
  refine opsN_k KK rfl (by rfl) (by rfl) ?_
  intro _ hR C hC
  replace hF := FA.rely hF hR
  clear hR
  go_simp
  refine hC _ _ ?_
  clear hC C
  try walk_nrm
  refine opsN_k KK rfl (by rfl) (by rfl) ?_
  intro _ hR C hC
  replace hF := FA.rely hF hR
  clear hR
  go_simp
  refine hC _ _ ?_
  clear hC C
  try walk_nrm
  refine opsM_nil KK ?_
  try simp only [thenM, Exit.inBlock, if_true, if_false, reduceIte, Nat.reduceEqDiff]
  refine wpM_ret KK ?_
  try simp only [thenM, Exit.inBlock, if_true, if_false, reduceIte, Nat.reduceEqDiff]
  exact ⟨rfl, _, resultsC_tmp (by rfl) _, rfl, by simp, hF.below⟩
set_option maxRecDepth 100000 in
set_option maxHeartbeats 1600000 in
theorem rnew_calls {Post : Value → World → Prop} (w0 : World) :
    callM Try.prog (XF Try.prog (XEnds Try.prog Post)) 9 #[] (fun γ v w' => γ = none ∧ (∃ sp, v = .pointer (some ⟨sp, 0, none⟩) ∧ RefS w0.heap.size sp [] false (.slice none 0 0) w') ∧ Below w0.heap.size w0 w') none w0 := by
  have KK := kitF (P := Try.prog) (X := XEnds Try.prog Post) XEnds.back XEnds.at_
  have hF : FA w0 [] w0 := ⟨Below.refl _ _, fun p hp => by cases hp⟩
  refine callM_of_wpM KK Try.func9 rfl ?_
  simp only [Try.ntmps9, List.size_toArray, List.length_cons, List.length_nil, Nat.reduceAdd, Nat.reduceSub, Array.replicate_succ, Array.replicate_zero, List.push_toArray, List.append_toArray, List.nil_append, List.cons_append]
  refine wpM_seq KK ?_
  refine wpM_region KK ?_
  simp only [List.size_toArray, List.length_cons, List.length_nil, Nat.reduceAdd, Nat.zero_add, List.range, List.range.loop]
  refine opsN_k KK rfl (by rfl) (by rfl) ?_
  intro _ hR C hC
  replace hF := FA.rely hF hR
  clear hR
  go_simp
  refine hC _ _ ?_
  clear hC C
  try walk_nrm
  refine opsM_nil KK ?_
  try simp only [thenM, Exit.inBlock, if_true, if_false, reduceIte, Nat.reduceEqDiff]
  refine wpM_seq KK ?_
  refine wpM_region KK ?_
  simp only [List.size_toArray, List.length_cons, List.length_nil, Nat.reduceAdd, Nat.zero_add, List.range, List.range.loop]
  refine opsN_k KK rfl (by rfl) (by rfl) ?_
  intro _ hR C hC
  replace hF := FA.rely hF hR
  clear hR
  go_simp
  refine hC _ _ ?_
  clear hC C
  try walk_nrm
  refine opsN_k KK rfl (by rfl) (by rfl) ?_
  intro _ hR C hC
  replace hF := FA.rely hF hR
  clear hR
  go_simp
  refine hC _ _ ?_
  clear hC C
  try walk_nrm
  rename_i V2
  have hlt2 := Go.Lib.hid hF.lt
  have hn2 := Go.Lib.hid hF.below.size
  replace hF := hF.alloc (Obj.cells #[.slice none 0 0, .bool false] 47)
  generalize V2.alloc (Obj.cells #[.slice none 0 0, .bool false] 47) = W2 at *
  generalize V2.heap.size = g2 at *
  refine opsN_k KK rfl (by rfl) (by rfl) ?_
  intro _ hR C hC
  replace hF := FA.rely hF hR
  clear hR
  go_simp
  refine hC _ _ ?_
  clear hC C
  try walk_nrm
  refine opsM_nil KK ?_
  try simp only [thenM, Exit.inBlock, if_true, if_false, reduceIte, Nat.reduceEqDiff]
  refine wpM_ret KK ?_
  try simp only [thenM, Exit.inBlock, if_true, if_false, reduceIte, Nat.reduceEqDiff]
  exact ⟨rfl, _, resultsC_tmp (by rfl) _, rfl, ⟨g2, by simp, ⟨hF.at_ (g2, _) (by simp), ⟨by simp [Bs], .inl ⟨rfl, by simp [Bs]⟩⟩, hn2.out⟩⟩, hF.below⟩
set_option maxRecDepth 100000 in
set_option maxHeartbeats 1600000 in
theorem waiting_nil {Post : Value → World → Prop} (w0 : World) :
    callM Try.prog (XF Try.prog (XEnds Try.prog Post)) 14 #[.pointer none] (fun γ v w' => γ = none ∧ v = .int .i64 ((0 : Nat) : Int) ∧ Below w0.heap.size w0 w') none w0 := by
  have KK := kitF (P := Try.prog) (X := XEnds Try.prog Post) XEnds.back XEnds.at_
  have hF : FA w0 [] w0 := ⟨Below.refl _ _, fun p hp => by cases hp⟩
  refine callM_of_wpM KK Try.func14 rfl ?_
  simp only [Try.ntmps14, List.size_toArray, List.length_cons, List.length_nil, Nat.reduceAdd, Nat.reduceSub, Array.replicate_succ, Array.replicate_zero, List.push_toArray, List.append_toArray, List.nil_append, List.cons_append]
  refine wpM_seq KK ?_
  refine wpM_region KK ?_
  simp only [List.size_toArray, List.length_cons, List.length_nil, Nat.reduceAdd, Nat.zero_add, List.range, List.range.loop]
  refine opsN_k KK rfl (by rfl) (by rfl) ?_
  intro _ hR C hC
  replace hF := FA.rely hF hR
  clear hR
  go_simp
  refine hC _ _ ?_
  clear hC C
  try walk_nrm
  refine opsM_nil KK ?_
  try simp only [thenM, Exit.inBlock, if_true, if_false, reduceIte, Nat.reduceEqDiff]
  refine wpM_seq KK ?_
  refine wpM_seq KK ?_
  refine wpM_region KK ?_
  simp only [List.size_toArray, List.length_cons, List.length_nil, Nat.reduceAdd, Nat.zero_add, List.range, List.range.loop]
  refine opsN_k KK rfl (by rfl) (by rfl) ?_
  intro _ hR C hC
  replace hF := FA.rely hF hR
  clear hR
  go_simp
  refine hC _ _ ?_
  clear hC C
  try walk_nrm
  refine opsN_k KK rfl (by rfl) (by rfl) ?_
  intro _ hR C hC
  replace hF := FA.rely hF hR
  clear hR
  go_simp
  refine hC _ _ ?_
  clear hC C
  try walk_nrm
  refine opsM_nil KK ?_
  try simp only [thenM, Exit.inBlock, if_true, if_false, reduceIte, Nat.reduceEqDiff]
  refine wpM_cond KK rfl ?_
  first | simp only [Option.isNone_none, if_true, if_false, reduceIte, Bool.false_eq_true] | fail "COND"
  refine wpM_seq KK ?_
  refine wpM_region KK ?_
  simp only [List.size_toArray, List.length_cons, List.length_nil, Nat.reduceAdd, Nat.zero_add, List.range, List.range.loop]
  refine opsN_k KK rfl (by rfl) (by rfl) ?_
  intro _ hR C hC
  replace hF := FA.rely hF hR
  clear hR
  go_simp
  refine hC _ _ ?_
  clear hC C
  try walk_nrm
  refine opsM_nil KK ?_
  try simp only [thenM, Exit.inBlock, if_true, if_false, reduceIte, Nat.reduceEqDiff]
  refine wpM_ret KK ?_
  try simp only [thenM, Exit.inBlock, if_true, if_false, reduceIte, Nat.reduceEqDiff]
  exact ⟨rfl, _, resultsC_tmp (by rfl) _, rfl, by simp, hF.below⟩
set_option maxRecDepth 100000 in
set_option maxHeartbeats 1600000 in
theorem bad_nil {Post : Value → World → Prop} (w0 : World) :
    callM Try.prog (XF Try.prog (XEnds Try.prog Post)) 16 #[.pointer none] (fun γ v w' => γ = none ∧ v = .bool false ∧ Below w0.heap.size w0 w') none w0 := by
  have KK := kitF (P := Try.prog) (X := XEnds Try.prog Post) XEnds.back XEnds.at_
  have hF : FA w0 [] w0 := ⟨Below.refl _ _, fun p hp => by cases hp⟩
  refine callM_of_wpM KK Try.func16 rfl ?_
  simp only [Try.ntmps16, List.size_toArray, List.length_cons, List.length_nil, Nat.reduceAdd, Nat.reduceSub, Array.replicate_succ, Array.replicate_zero, List.push_toArray, List.append_toArray, List.nil_append, List.cons_append]
  refine wpM_seq KK ?_
  refine wpM_region KK ?_
  simp only [List.size_toArray, List.length_cons, List.length_nil, Nat.reduceAdd, Nat.zero_add, List.range, List.range.loop]
  refine opsN_k KK rfl (by rfl) (by rfl) ?_
  intro _ hR C hC
  replace hF := FA.rely hF hR
  clear hR
  go_simp
  refine hC _ _ ?_
  clear hC C
  try walk_nrm
  refine opsM_nil KK ?_
  try simp only [thenM, Exit.inBlock, if_true, if_false, reduceIte, Nat.reduceEqDiff]
  refine wpM_seq KK ?_
  refine wpM_region KK ?_
  simp only [List.size_toArray, List.length_cons, List.length_nil, Nat.reduceAdd, Nat.zero_add, List.range, List.range.loop]
  refine opsN_k KK rfl (by rfl) (by rfl) ?_
  intro _ hR C hC
  replace hF := FA.rely hF hR
  clear hR
  go_simp
  refine hC _ _ ?_
  clear hC C
  try walk_nrm
  try simp only [Option.isNone_none, Bool.not_true, bne]
  refine opsN_k KK rfl (by rfl) (by rfl) ?_
  intro _ hR C hC
  replace hF := FA.rely hF hR
  clear hR
  go_simp
  refine hC _ _ ?_
  clear hC C
  try walk_nrm
  try simp only [Option.isNone_none, Bool.not_true, bne]
  refine opsN_k KK rfl (by rfl) (by rfl) ?_
  intro _ hR C hC
  replace hF := FA.rely hF hR
  clear hR
  go_simp
  refine hC _ _ ?_
  clear hC C
  try walk_nrm
  refine opsM_pass KK rfl (by rfl) ?_
  try walk_nrm
  refine opsM_pass KK rfl (by rfl) ?_
  try walk_nrm
  refine opsM_pass KK rfl (by rfl) ?_
  try walk_nrm
  refine opsM_pass KK rfl (by rfl) ?_
  try walk_nrm
  refine opsN_k KK rfl (by rfl) (by rfl) ?_
  intro _ hR C hC
  replace hF := FA.rely hF hR
  clear hR
  go_simp
  refine hC _ _ ?_
  clear hC C
  try walk_nrm
  refine opsN_k KK rfl (by rfl) (by rfl) ?_
  intro _ hR C hC
  replace hF := FA.rely hF hR
  clear hR
  go_simp
  refine hC _ _ ?_
  clear hC C
  try walk_nrm
  refine opsM_nil KK ?_
  try simp only [thenM, Exit.inBlock, if_true, if_false, reduceIte, Nat.reduceEqDiff]
  refine wpM_ret KK ?_
  try simp only [thenM, Exit.inBlock, if_true, if_false, reduceIte, Nat.reduceEqDiff]
  exact ⟨rfl, _, resultsC_tmp (by rfl) _, rfl, by simp, hF.below⟩
set_option maxRecDepth 100000 in
set_option maxHeartbeats 1600000 in
theorem rwaiting_nil {Post : Value → World → Prop} (w0 : World) :
    callM Try.prog (XF Try.prog (XEnds Try.prog Post)) 15 #[.pointer none] (fun γ v w' => γ = none ∧ v = .int .i64 ((0 : Nat) : Int) ∧ Below w0.heap.size w0 w') none w0 := by
  have KK := kitF (P := Try.prog) (X := XEnds Try.prog Post) XEnds.back XEnds.at_
  have hF : FA w0 [] w0 := ⟨Below.refl _ _, fun p hp => by cases hp⟩
  refine callM_of_wpM KK Try.func15 rfl ?_
  simp only [Try.ntmps15, List.size_toArray, List.length_cons, List.length_nil, Nat.reduceAdd, Nat.reduceSub, Array.replicate_succ, Array.replicate_zero, List.push_toArray, List.append_toArray, List.nil_append, List.cons_append]
  refine wpM_seq KK ?_
  refine wpM_region KK ?_
  simp only [List.size_toArray, List.length_cons, List.length_nil, Nat.reduceAdd, Nat.zero_add, List.range, List.range.loop]
  refine opsN_k KK rfl (by rfl) (by rfl) ?_
  intro _ hR C hC
  replace hF := FA.rely hF hR
  clear hR
  go_simp
  refine hC _ _ ?_
  clear hC C
  try walk_nrm
  refine opsM_nil KK ?_
  try simp only [thenM, Exit.inBlock, if_true, if_false, reduceIte, Nat.reduceEqDiff]
  refine wpM_seq KK ?_
  refine wpM_seq KK ?_
  refine wpM_region KK ?_
  simp only [List.size_toArray, List.length_cons, List.length_nil, Nat.reduceAdd, Nat.zero_add, List.range, List.range.loop]
  refine opsN_k KK rfl (by rfl) (by rfl) ?_
  intro _ hR C hC
  replace hF := FA.rely hF hR
  clear hR
  go_simp
  refine hC _ _ ?_
  clear hC C
  try walk_nrm
  refine opsN_k KK rfl (by rfl) (by rfl) ?_
  intro _ hR C hC
  replace hF := FA.rely hF hR
  clear hR
  go_simp
  refine hC _ _ ?_
  clear hC C
  try walk_nrm
  refine opsM_nil KK ?_
  try simp only [thenM, Exit.inBlock, if_true, if_false, reduceIte, Nat.reduceEqDiff]
  refine wpM_cond KK rfl ?_
  first | simp only [Option.isNone_none, if_true, if_false, reduceIte, Bool.false_eq_true] | fail "COND"
  refine wpM_seq KK ?_
  refine wpM_region KK ?_
  simp only [List.size_toArray, List.length_cons, List.length_nil, Nat.reduceAdd, Nat.zero_add, List.range, List.range.loop]
  refine opsN_k KK rfl (by rfl) (by rfl) ?_
  intro _ hR C hC
  replace hF := FA.rely hF hR
  clear hR
  go_simp
  refine hC _ _ ?_
  clear hC C
  try walk_nrm
  refine opsM_nil KK ?_
  try simp only [thenM, Exit.inBlock, if_true, if_false, reduceIte, Nat.reduceEqDiff]
  refine wpM_ret KK ?_
  try simp only [thenM, Exit.inBlock, if_true, if_false, reduceIte, Nat.reduceEqDiff]
  exact ⟨rfl, _, resultsC_tmp (by rfl) _, rfl, by simp, hF.below⟩
set_option maxRecDepth 100000 in
set_option maxHeartbeats 1600000 in
theorem rbad_nil {Post : Value → World → Prop} (w0 : World) :
    callM Try.prog (XF Try.prog (XEnds Try.prog Post)) 17 #[.pointer none] (fun γ v w' => γ = none ∧ v = .bool false ∧ Below w0.heap.size w0 w') none w0 := by
  have KK := kitF (P := Try.prog) (X := XEnds Try.prog Post) XEnds.back XEnds.at_
  have hF : FA w0 [] w0 := ⟨Below.refl _ _, fun p hp => by cases hp⟩
  refine callM_of_wpM KK Try.func17 rfl ?_
  simp only [Try.ntmps17, List.size_toArray, List.length_cons, List.length_nil, Nat.reduceAdd, Nat.reduceSub, Array.replicate_succ, Array.replicate_zero, List.push_toArray, List.append_toArray, List.nil_append, List.cons_append]
  refine wpM_seq KK ?_
  refine wpM_region KK ?_
  simp only [List.size_toArray, List.length_cons, List.length_nil, Nat.reduceAdd, Nat.zero_add, List.range, List.range.loop]
  refine opsN_k KK rfl (by rfl) (by rfl) ?_
  intro _ hR C hC
  replace hF := FA.rely hF hR
  clear hR
  go_simp
  refine hC _ _ ?_
  clear hC C
  try walk_nrm
  refine opsM_nil KK ?_
  try simp only [thenM, Exit.inBlock, if_true, if_false, reduceIte, Nat.reduceEqDiff]
  refine wpM_seq KK ?_
  refine wpM_region KK ?_
  simp only [List.size_toArray, List.length_cons, List.length_nil, Nat.reduceAdd, Nat.zero_add, List.range, List.range.loop]
  refine opsN_k KK rfl (by rfl) (by rfl) ?_
  intro _ hR C hC
  replace hF := FA.rely hF hR
  clear hR
  go_simp
  refine hC _ _ ?_
  clear hC C
  try walk_nrm
  try simp only [Option.isNone_none, Bool.not_true, bne]
  refine opsN_k KK rfl (by rfl) (by rfl) ?_
  intro _ hR C hC
  replace hF := FA.rely hF hR
  clear hR
  go_simp
  refine hC _ _ ?_
  clear hC C
  try walk_nrm
  try simp only [Option.isNone_none, Bool.not_true, bne]
  refine opsN_k KK rfl (by rfl) (by rfl) ?_
  intro _ hR C hC
  replace hF := FA.rely hF hR
  clear hR
  go_simp
  refine hC _ _ ?_
  clear hC C
  try walk_nrm
  refine opsM_pass KK rfl (by rfl) ?_
  try walk_nrm
  refine opsM_pass KK rfl (by rfl) ?_
  try walk_nrm
  refine opsM_pass KK rfl (by rfl) ?_
  try walk_nrm
  refine opsM_pass KK rfl (by rfl) ?_
  try walk_nrm
  refine opsN_k KK rfl (by rfl) (by rfl) ?_
  intro _ hR C hC
  replace hF := FA.rely hF hR
  clear hR
  go_simp
  refine hC _ _ ?_
  clear hC C
  try walk_nrm
  refine opsN_k KK rfl (by rfl) (by rfl) ?_
  intro _ hR C hC
  replace hF := FA.rely hF hR
  clear hR
  go_simp
  refine hC _ _ ?_
  clear hC C
  try walk_nrm
  refine opsM_nil KK ?_
  try simp only [thenM, Exit.inBlock, if_true, if_false, reduceIte, Nat.reduceEqDiff]
  refine wpM_ret KK ?_
  try simp only [thenM, Exit.inBlock, if_true, if_false, reduceIte, Nat.reduceEqDiff]
  exact ⟨rfl, _, resultsC_tmp (by rfl) _, rfl, by simp, hF.below⟩
set_option maxRecDepth 100000 in
set_option maxHeartbeats 1600000 in
theorem feed_nil {Post : Value → World → Prop} (b : Value) (w0 : World) :
    callM Try.prog (XF Try.prog (XEnds Try.prog Post)) 11 #[.pointer none, b] (fun γ v w' => γ = none ∧ v = .tuple #[.slice none 0 0, .bool false] ∧ Below w0.heap.size w0 w') none w0 := by
  have KK := kitF (P := Try.prog) (X := XEnds Try.prog Post) XEnds.back XEnds.at_
  have hF : FA w0 [] w0 := ⟨Below.refl _ _, fun p hp => by cases hp⟩
  refine callM_of_wpM KK Try.func11 rfl ?_
  simp only [Try.ntmps11, List.size_toArray, List.length_cons, List.length_nil, Nat.reduceAdd, Nat.reduceSub, Array.replicate_succ, Array.replicate_zero, List.push_toArray, List.append_toArray, List.nil_append, List.cons_append]
  refine wpM_seq KK ?_
  refine wpM_region KK ?_
  simp only [List.size_toArray, List.length_cons, List.length_nil, Nat.reduceAdd, Nat.zero_add, List.range, List.range.loop]
  refine opsN_k KK rfl (by rfl) (by rfl) ?_
  intro _ hR C hC
  replace hF := FA.rely hF hR
  clear hR
  go_simp
  refine hC _ _ ?_
  clear hC C
  try walk_nrm
  rename_i V2
  have hlt2 := Go.Lib.hid hF.lt
  have hn2 := Go.Lib.hid hF.below.size
  replace hF := hF.alloc (Obj.cells #[.pointer none] 24)
  generalize V2.alloc (Obj.cells #[.pointer none] 24) = W2 at *
  generalize V2.heap.size = g2 at *
  refine opsN_k KK rfl (by rfl) (by rfl) ?_
  intro _ hR C hC
  replace hF := FA.rely hF hR
  clear hR
  go_simp
  refine hC _ _ ?_
  clear hC C
  try walk_nrm
  refine opsN_k KK rfl (by rfl) (by rfl) ?_
  intro _ hR C hC
  replace hF := FA.rely hF hR
  clear hR
  go_simp
  refine hC _ _ ?_
  clear hC C
  try walk_nrm
  refine opsM_nil KK ?_
  try simp only [thenM, Exit.inBlock, if_true, if_false, reduceIte, Nat.reduceEqDiff]
  refine wpM_seq KK ?_
  refine wpM_seq KK ?_
  refine wpM_region KK ?_
  simp only [List.size_toArray, List.length_cons, List.length_nil, Nat.reduceAdd, Nat.zero_add, List.range, List.range.loop]
  refine opsN_k KK rfl (by rfl) (by rfl) ?_
  intro _ hR C hC
  replace hF := FA.rely hF hR
  clear hR
  have hc := hF.cell (g := g2) (i := 0) (cs := #[.pointer none]) (t := 24) (by simp) rfl
  go_simp
  refine hC _ _ ?_
  clear hC C
  try walk_nrm
  clear hc
  refine opsN_k KK rfl (by rfl) (by rfl) ?_
  intro _ hR C hC
  replace hF := FA.rely hF hR
  clear hR
  go_simp
  refine hC _ _ ?_
  clear hC C
  try walk_nrm
  refine opsM_nil KK ?_
  try simp only [thenM, Exit.inBlock, if_true, if_false, reduceIte, Nat.reduceEqDiff]
  refine wpM_cond KK rfl ?_
  first | simp only [Option.isNone_none, if_true, if_false, reduceIte, Bool.false_eq_true] | fail "COND"
  refine wpM_seq KK ?_
  refine wpM_region KK ?_
  simp only [List.size_toArray, List.length_cons, List.length_nil, Nat.reduceAdd, Nat.zero_add, List.range, List.range.loop]
  refine opsN_k KK rfl (by rfl) (by rfl) ?_
  intro _ hR C hC
  replace hF := FA.rely hF hR
  clear hR
  go_simp
  refine hC _ _ ?_
  clear hC C
  try walk_nrm
  refine opsN_k KK rfl (by rfl) (by rfl) ?_
  intro _ hR C hC
  replace hF := FA.rely hF hR
  clear hR
  go_simp
  refine hC _ _ ?_
  clear hC C
  try walk_nrm
  refine opsM_nil KK ?_
  try simp only [thenM, Exit.inBlock, if_true, if_false, reduceIte, Nat.reduceEqDiff]
  refine wpM_ret KK ?_
  try simp only [thenM, Exit.inBlock, if_true, if_false, reduceIte, Nat.reduceEqDiff]
  exact ⟨rfl, _, resultsC_tmp2 (by rfl) _, rfl, by simp, hF.below⟩
set_option maxRecDepth 100000 in
set_option maxHeartbeats 1600000 in
theorem rfeed_nil {Post : Value → World → Prop} (b : Value) (w0 : World) :
    callM Try.prog (XF Try.prog (XEnds Try.prog Post)) 12 #[.pointer none, b] (fun γ v w' => γ = none ∧ v = .tuple #[.slice none 0 0, .bool false] ∧ Below w0.heap.size w0 w') none w0 := by
  have KK := kitF (P := Try.prog) (X := XEnds Try.prog Post) XEnds.back XEnds.at_
  have hF : FA w0 [] w0 := ⟨Below.refl _ _, fun p hp => by cases hp⟩
  refine callM_of_wpM KK Try.func12 rfl ?_
  simp only [Try.ntmps12, List.size_toArray, List.length_cons, List.length_nil, Nat.reduceAdd, Nat.reduceSub, Array.replicate_succ, Array.replicate_zero, List.push_toArray, List.append_toArray, List.nil_append, List.cons_append]
  refine wpM_seq KK ?_
  refine wpM_region KK ?_
  simp only [List.size_toArray, List.length_cons, List.length_nil, Nat.reduceAdd, Nat.zero_add, List.range, List.range.loop]
  refine opsN_k KK rfl (by rfl) (by rfl) ?_
  intro _ hR C hC
  replace hF := FA.rely hF hR
  clear hR
  go_simp
  refine hC _ _ ?_
  clear hC C
  try walk_nrm
  refine opsN_k KK rfl (by rfl) (by rfl) ?_
  intro _ hR C hC
  replace hF := FA.rely hF hR
  clear hR
  go_simp
  refine hC _ _ ?_
  clear hC C
  try walk_nrm
  refine opsM_nil KK ?_
  try simp only [thenM, Exit.inBlock, if_true, if_false, reduceIte, Nat.reduceEqDiff]
  refine wpM_seq KK ?_
  refine wpM_seq KK ?_
  refine wpM_region KK ?_
  simp only [List.size_toArray, List.length_cons, List.length_nil, Nat.reduceAdd, Nat.zero_add, List.range, List.range.loop]
  refine opsN_k KK rfl (by rfl) (by rfl) ?_
  intro _ hR C hC
  replace hF := FA.rely hF hR
  clear hR
  go_simp
  refine hC _ _ ?_
  clear hC C
  try walk_nrm
  refine opsN_k KK rfl (by rfl) (by rfl) ?_
  intro _ hR C hC
  replace hF := FA.rely hF hR
  clear hR
  go_simp
  refine hC _ _ ?_
  clear hC C
  try walk_nrm
  refine opsM_nil KK ?_
  try simp only [thenM, Exit.inBlock, if_true, if_false, reduceIte, Nat.reduceEqDiff]
  refine wpM_cond KK rfl ?_
  first | simp only [Option.isNone_none, if_true, if_false, reduceIte, Bool.false_eq_true] | fail "COND"
  refine wpM_seq KK ?_
  refine wpM_region KK ?_
  simp only [List.size_toArray, List.length_cons, List.length_nil, Nat.reduceAdd, Nat.zero_add, List.range, List.range.loop]
  refine opsN_k KK rfl (by rfl) (by rfl) ?_
  intro _ hR C hC
  replace hF := FA.rely hF hR
  clear hR
  go_simp
  refine hC _ _ ?_
  clear hC C
  try walk_nrm
  refine opsN_k KK rfl (by rfl) (by rfl) ?_
  intro _ hR C hC
  replace hF := FA.rely hF hR
  clear hR
  go_simp
  refine hC _ _ ?_
  clear hC C
  try walk_nrm
  refine opsM_nil KK ?_
  try simp only [thenM, Exit.inBlock, if_true, if_false, reduceIte, Nat.reduceEqDiff]
  refine wpM_ret KK ?_
  try simp only [thenM, Exit.inBlock, if_true, if_false, reduceIte, Nat.reduceEqDiff]
  exact ⟨rfl, _, resultsC_tmp2 (by rfl) _, rfl, by simp, hF.below⟩
end Go.Proofs.Ytngmhkhncimknaa
