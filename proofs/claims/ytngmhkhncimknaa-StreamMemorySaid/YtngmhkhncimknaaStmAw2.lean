/- awake; what a law holds of its Splitter. -/
import Derived.Test.YtngmhkhncimknaaStmAw
namespace Go.Proofs.Ytngmhkhncimknaa
open Go Go.Conc Go.RowKit
set_option linter.unusedVariables false
set_option linter.unusedSimpArgs false

/-- a law's Splitter -/
structure LawH (w0 : World) (sp : Nat) (hv : List UInt8) (bad : Bool) (v : Value) (w : World) : Prop where
  below : Below w0.heap.size w0 w
  spl : Spl w0.heap.size sp hv bad v w
theorem LawH.at_ {w0 w : World} {sp : Nat} {hv : List UInt8} {bad : Bool} {v : Value} (h : LawH w0 sp hv bad v w) (d : Nat) : LawH w0 sp hv bad v (w.at d) :=
  ⟨⟨h.below.os, h.below.tape, h.below.output, h.below.size, h.below.block⟩, ⟨h.spl.blk, h.spl.own, h.spl.ge⟩⟩
theorem LawH.next {w0 w w' : World} {sp : Nat} {hv : List UInt8} {bad : Bool} {v : Value} (h : LawH w0 sp hv bad v w) (hb : Below w.heap.size w w') : LawH w0 sp hv bad v w' :=
  ⟨h.below.trans (hb.mono h.below.size), h.spl.below hb⟩
theorem LawH.slice {w0 w : World} {sp : Nat} {hv : List UInt8} {bad : Bool} {v : Value} (h : LawH w0 sp hv bad v w) : ∃ A c, v = .slice A hv.length c := by
  obtain ⟨A, c, e, _⟩ := own_slice h.spl.own
  rw [Bs_length] at e
  exact ⟨A, c, e⟩
theorem rowsB_below {w w1 : World} (hb : Below w.heap.size w w1) {A : Option Addr} {ls : List (List UInt8)} (h : RowsB w A ls) : RowsB w1 A ls := by
  obtain ⟨vs, h1, h2, h3⟩ := h
  exact ⟨vs, h1, cells_below hb h2, fun i a b => slb_below hb (h3 i a b)⟩
/-- behind Feed -/
theorem LawH.fed {w0 w w' : World} {sp : Nat} {hv lb : List UInt8} {v v' : Value} (h : LawH w0 sp hv false v w) (hf : FeedR w sp (hv ++ lb) v' w') :
    ∃ A c rv, v' = .tuple #[.slice A (cutS (hv ++ lb)).1.length c, .bool (cutS (hv ++ lb)).2.2] ∧ (cutS (hv ++ lb)).1.length ≤ c ∧ c ≤ 9223372036854775807 ∧ RowsB w' A (cutS (hv ++ lb)).1 ∧ LawH w0 sp (cutS (hv ++ lb)).2.1 (cutS (hv ++ lb)).2.2 rv w' := by
  obtain ⟨B0, B1, vout, vs, rv, h0, h1, rfl, ho, hp, hsp, hrv, hold, hos, htp, hout, hsz⟩ := hf
  obtain ⟨A, c, rfl, h2, h3, h4⟩ := own_slice ho
  rw [hp.len] at h2
  have hw := h.below.size
  have hge := h.spl.ge
  refine ⟨A, c, rv, by rw [hp.len], h2, h3, ⟨vs, hp.len, h4, fun i a b => ?_⟩, ⟨⟨hos.trans h.below.os, htp.trans h.below.tape, hout.trans h.below.output, Nat.le_trans hw hsz, fun i hi => (hold i (by omega) (by omega)).trans (h.below.block i hi)⟩, ⟨hsp, own_low hrv (by omega), hge⟩⟩⟩
  obtain ⟨A', c', e, q1, q2, q3⟩ := own_slice (hp.own i a b)
  rw [Bs_length] at e q1
  exact ⟨A', c', e, q1, q2, q3⟩
/-- .. and the rows it gave -/
structure LP (w0 : World) (sp : Nat) (hv : List UInt8) (bad : Bool) (v : Value) (A : Option Addr) (ps : List (List UInt8)) (w : World) : Prop where
  law : LawH w0 sp hv bad v w
  rows : RowsB w A ps
theorem LP.rely {w0 w w₁ : World} {sp : Nat} {hv : List UInt8} {bad : Bool} {v : Value} {A : Option Addr} {ps : List (List UInt8)} (h : LP w0 sp hv bad v A ps w) (r : ∃ d, w₁ = w.at d) : LP w0 sp hv bad v A ps w₁ := by
  obtain ⟨d, rfl⟩ := r
  exact ⟨h.law.at_ d, h.rows⟩
theorem LP.next {w0 w w' : World} {sp : Nat} {hv : List UInt8} {bad : Bool} {v : Value} {A : Option Addr} {ps : List (List UInt8)} (h : LP w0 sp hv bad v A ps w) (hb : Below w.heap.size w w') : LP w0 sp hv bad v A ps w' := ⟨h.law.next hb, rowsB_below hb h.rows⟩

def LQ (w0 : World) (sp : Nat) (hv : List UInt8) (bad : Bool) (v : Value) (A : Option Addr) (ps : List (List UInt8)) (A1 : Option Addr) (l : List UInt8) (w : World) : Prop := LP w0 sp hv bad v A ps w ∧ Cells w A1 (Bs l)
theorem LQ.rely {w0 w w₁ : World} {sp : Nat} {hv : List UInt8} {bad : Bool} {v : Value} {A : Option Addr} {ps : List (List UInt8)} {A1 : Option Addr} {l : List UInt8} (h : LQ w0 sp hv bad v A ps A1 l w) (r : ∃ d, w₁ = w.at d) : LQ w0 sp hv bad v A ps A1 l w₁ := by
  refine ⟨h.1.rely r, ?_⟩
  obtain ⟨d, rfl⟩ := r
  exact h.2

theorem cut_one : cutS [165, 1, 0, 65, 165, 2, 0, 66] = ([[65]], [165, 2, 0, 66], false) := by
  have h1 := cutS_more (l := [165, 1, 0, 65, 165, 2, 0, 66]) (by decide) (by decide) (by decide)
  have h2 := cutS_rest (l := [165, 2, 0, 66]) (by decide) (.inr (by decide))
  have e : List.drop (frN [165, 1, 0, 65, 165, 2, 0, 66]) [(165 : UInt8), 1, 0, 65, 165, 2, 0, 66] = [165, 2, 0, 66] := by decide
  rw [e, h2.1, h2.2] at h1
  exact Prod.ext h1.1 h1.2
theorem cut_two : cutS [165, 2, 0, 66, 67] = ([[66, 67]], [], false) := by
  have h1 := cutS_more (l := [165, 2, 0, 66, 67]) (by decide) (by decide) (by decide)
  have h2 := cutS_rest (l := []) (by decide) (.inl (by decide))
  have e : List.drop (frN [165, 2, 0, 66, 67]) [(165 : UInt8), 2, 0, 66, 67] = [] := by decide
  rw [e, h2.1, h2.2] at h1
  exact Prod.ext h1.1 h1.2

/-- a row as a string -/
theorem row_string {w : World} {A : Option Addr} {c : Nat} {l : List UInt8} (h : Cells w A (Bs l)) (h0 : 0 < l.length) : ∃ ad, A = some ad ∧ (convert 30 9 (.slice (some ad) l.length c)).run Try.prog w = .ok (.string ⟨l.toArray⟩) w := by
  obtain ⟨ad, rfl, hc⟩ := cells_src h (by rw [Bs_length]; exact h0)
  exact ⟨ad, rfl, run_convert_bytes_back w _ _ 5 ad c l (by kernel_rfl) (by kernel_rfl) (by kernel_rfl) fun j hj => hc j _ (by simp [Bs, hj, n8])⟩

set_option maxRecDepth 100000 in
set_option maxHeartbeats 3200000 in
theorem awake_calls {Post : Value → World → Prop} (w0 : World) :
    callM Try.prog (XF Try.prog (XEnds Try.prog Post)) 7 #[] (fun γ v w' => γ = none ∧ v = .bool true ∧ Below w0.heap.size w0 w') none w0 := by
  have KK := kitF (P := Try.prog) (X := XEnds Try.prog Post) XEnds.back XEnds.at_
  have hF : FA w0 [] w0 := ⟨Below.refl _ _, fun p hp => by cases hp⟩
  refine callM_of_wpM KK Try.func7 rfl ?_
  simp only [Try.ntmps7, List.size_toArray, List.length_cons, List.length_nil, Nat.reduceAdd, Nat.reduceSub, Array.replicate_succ, Array.replicate_zero, List.push_toArray, List.append_toArray, List.nil_append, List.cons_append]
  refine wpM_seq KK ?_
  refine wpM_region KK ?_
  simp only [List.size_toArray, List.length_cons, List.length_nil, Nat.reduceAdd, Nat.zero_add, List.range, List.range.loop]
  refine opsN_k KK rfl (by rfl) (by rfl) ?_
  intro _ hR C hC
  replace hF := FA.rely hF hR
  clear hR
  go_simp
  refine hC _ _ ?_
  clear hC C
  try walk_nrm
  refine opsM_nil KK ?_
  try simp only [thenM, Exit.inBlock, if_true, if_false, reduceIte, Nat.reduceEqDiff]
  refine wpM_seq KK ?_
  refine wpM_region KK ?_
  simp only [List.size_toArray, List.length_cons, List.length_nil, Nat.reduceAdd, Nat.zero_add, List.range, List.range.loop]
  rename_i V0
  refine opsM_fcall KK (vals := #[]) rfl (by rfl) rfl Try.func8 (by rfl) rfl (by first | rfl | simp) ?_
  refine callM_mono (new_calls V0) ?_
  rintro γ v w ⟨rfl, ⟨sp, rfl, hS⟩, hB⟩
  replace hF : LP w0 sp [] false (.slice none 0 0) none [] w := ⟨⟨hF.below.trans (hB.mono hF.below.size), ⟨hS.blk, own_low hS.own hF.below.size, Nat.le_trans hF.below.size hS.ge⟩⟩, ⟨[], rfl, fun h => absurd h (by simp), fun i h => absurd h (by simp)⟩⟩
  clear hS hB
  try walk_nrm
  refine opsN_k KK rfl (by rfl) (by rfl) ?_
  intro _ hR C hC
  replace hF := LP.rely hF hR
  clear hR
  go_simp
  refine hC _ _ ?_
  clear hC C
  try walk_nrm
  refine opsM_nil KK ?_
  try simp only [thenM, Exit.inBlock, if_true, if_false, reduceIte, Nat.reduceEqDiff]
  refine wpM_seq KK ?_
  refine wpM_seq KK ?_
  refine wpM_region KK ?_
  simp only [List.size_toArray, List.length_cons, List.length_nil, Nat.reduceAdd, Nat.zero_add, List.range, List.range.loop]
  refine opsN_k KK rfl (by rfl) (by rfl) ?_
  intro _ hR C hC
  replace hF := LP.rely hF hR
  clear hR
  go_simp
  refine hC _ _ ?_
  clear hC C
  try walk_nrm
  refine opsN_k KK rfl (by rfl) (by rfl) ?_
  intro _ hR C hC
  replace hF := LP.rely hF hR
  clear hR
  go_simp
  refine hC _ _ ?_
  clear hC C
  try walk_nrm
  refine opsM_nil KK ?_
  try simp only [thenM, Exit.inBlock, if_true, if_false, reduceIte, Nat.reduceEqDiff]
  refine wpM_cond KK rfl ?_
  first | simp only [Option.isNone_some, if_true, if_false, reduceIte, Bool.false_eq_true] | fail "COND"
  refine wpM_skip KK ?_
  try simp only [thenM, Exit.inBlock, if_true, if_false, reduceIte, Nat.reduceEqDiff]
  refine wpM_seq KK ?_
  refine wpM_region KK ?_
  simp only [List.size_toArray, List.length_cons, List.length_nil, Nat.reduceAdd, Nat.zero_add, List.range, List.range.loop]
  refine opsN_k KK rfl (by rfl) (by rfl) ?_
  intro _ hR C hC
  replace hF := LP.rely hF hR
  clear hR
  go_simp
  refine hC _ _ ?_
  clear hC C
  try walk_nrm
  refine opsN_k KK rfl (by rfl) (by rfl) ?_
  intro _ hR C hC
  replace hF := LP.rely hF hR
  clear hR
  go_simp
  refine hC _ _ ?_
  clear hC C
  try walk_nrm
  rename_i V1
  have hcl1 : Cells (V1.alloc (Obj.cells #[.int .u8 165, .int .u8 1, .int .u8 0, .int .u8 65, .int .u8 165, .int .u8 2, .int .u8 0, .int .u8 66] 5)) (some ⟨V1.heap.size, 0, none⟩) (Bs [165, 1, 0, 65, 165, 2, 0, 66]) := fun _ => ⟨_, 0, rfl, fun i hi => by rw [Nat.zero_add, cell_of_row _ _ i _ _ _ (heap_alloc_new V1 _)]; match i, hi with | 0, _ => rfl | 1, _ => rfl | 2, _ => rfl | 3, _ => rfl | 4, _ => rfl | 5, _ => rfl | 6, _ => rfl | 7, _ => rfl⟩
  replace hF := hF.next ((Below.refl V1.heap.size V1).alloc (Nat.le_refl _) (Obj.cells #[.int .u8 165, .int .u8 1, .int .u8 0, .int .u8 65, .int .u8 165, .int .u8 2, .int .u8 0, .int .u8 66] 5))
  generalize V1.alloc (Obj.cells #[.int .u8 165, .int .u8 1, .int .u8 0, .int .u8 65, .int .u8 165, .int .u8 2, .int .u8 0, .int .u8 66] 5) = W1 at *
  generalize V1.heap.size = g1 at *
  refine opsM_fcall KK (vals := #[.pointer (some ⟨sp, 0, none⟩), .slice (some ⟨g1, 0, none⟩) 8 8]) rfl (by rfl) rfl Try.func11 (by rfl) rfl (by simp [Act.eval]) ?_
  refine callM_mono (feed_good (some ⟨g1, 0, none⟩) 8 [165, 1, 0, 65, 165, 2, 0, 66] W1 hF.law.spl hcl1 (by decide) (by decide)) ?_
  rintro γ v w ⟨rfl, hR⟩
  obtain ⟨PA, pc, rv, rfl, hc1, hc2, hrows, hlaw⟩ := hF.law.fed hR
  simp only [List.nil_append, List.cons_append, cut_one, List.length_cons, List.length_nil, Nat.zero_add] at hrows hlaw hc1 ⊢
  replace hF : LP w0 sp [165, 2, 0, 66] false rv PA [[65]] w := ⟨hlaw, hrows⟩
  obtain ⟨rA, rc, rfl⟩ := hF.law.slice
  clear hR hlaw hrows hcl1
  try walk_nrm
  refine opsN_k KK rfl (by rfl) (by rfl) ?_
  intro _ hR C hC
  replace hF := LP.rely hF hR
  clear hR
  go_simp
  refine hC _ _ ?_
  clear hC C
  try walk_nrm
  refine opsN_k KK rfl (by rfl) (by rfl) ?_
  intro _ hR C hC
  replace hF := LP.rely hF hR
  clear hR
  go_simp
  refine hC _ _ ?_
  clear hC C
  try walk_nrm
  refine opsN_k KK rfl (by rfl) (by rfl) ?_
  intro _ hR C hC
  replace hF := LP.rely hF hR
  clear hR
  go_simp
  refine hC _ _ ?_
  clear hC C
  try walk_nrm
  refine opsN_k KK rfl (by rfl) (by rfl) ?_
  intro _ hR C hC
  replace hF := LP.rely hF hR
  clear hR
  go_simp
  refine hC _ _ ?_
  clear hC C
  try walk_nrm
  refine opsN_k KK rfl (by rfl) (by rfl) ?_
  intro _ hR C hC
  replace hF := LP.rely hF hR
  clear hR
  go_simp
  refine hC _ _ ?_
  clear hC C
  try walk_nrm
  refine opsM_nil KK ?_
  try simp only [thenM, Exit.inBlock, if_true, if_false, reduceIte, Nat.reduceEqDiff]
  refine wpM_seq KK ?_
  refine wpM_seq KK ?_
  refine wpM_region KK ?_
  simp only [List.size_toArray, List.length_cons, List.length_nil, Nat.reduceAdd, Nat.zero_add, List.range, List.range.loop]
  obtain ⟨rb, ro, rfl, A1, c1, _, hcl0, hbs0⟩ := hF.rows.row 0 (by decide)
  refine opsN_k KK rfl (by rfl) (by rfl) ?_
  intro _ hR C hC
  replace hF := LP.rely hF hR
  clear hR
  go_simp
  refine hC _ _ ?_
  clear hC C
  try walk_nrm
  refine opsN_k KK rfl (by rfl) (by rfl) ?_
  intro _ hR C hC
  replace hF := LP.rely hF hR
  clear hR
  go_simp
  refine hC _ _ ?_
  clear hC C
  try walk_nrm
  refine opsN_k KK rfl (by rfl) (by rfl) ?_
  intro _ hR C hC
  replace hF := LP.rely hF hR
  clear hR
  go_simp
  refine hC _ _ ?_
  clear hC C
  try walk_nrm
  refine opsN_k KK rfl (by rfl) (by rfl) ?_
  intro _ hR C hC
  replace hF := LP.rely hF hR
  clear hR
  go_simp
  refine hC _ _ ?_
  clear hC C
  try walk_nrm
  refine opsN_k KK rfl (by rfl) (by rfl) ?_
  intro _ hR C hC
  replace hF := LP.rely hF hR
  clear hR
  go_simp
  refine hC _ _ ?_
  clear hC C
  try walk_nrm
  refine opsN_k KK rfl (by rfl) (by rfl) ?_
  intro _ hR C hC
  replace hF := LP.rely hF hR
  clear hR
  go_simp
  refine hC _ _ ?_
  clear hC C
  try walk_nrm
  refine opsN_k KK rfl (by rfl) (by rfl) ?_
  intro _ hR C hC
  replace hF := LP.rely hF hR
  clear hR
  go_simp
  refine hC _ _ ?_
  clear hC C
  try walk_nrm
  refine opsN_k KK rfl (by rfl) (by rfl) ?_
  intro _ hR C hC
  replace hF := LP.rely hF hR
  clear hR
  go_simp
  refine hC _ _ ?_
  clear hC C
  try walk_nrm
  refine opsN_k KK rfl (by rfl) (by rfl) ?_
  intro _ hR C hC
  replace hF := LP.rely hF hR
  clear hR
  go_simp
  refine hC _ _ ?_
  clear hC C
  try walk_nrm
  clear hcl0 hbs0
  refine opsN_k KK rfl (by rfl) (by rfl) ?_
  intro w1 hR C hC
  replace hF := LP.rely hF hR
  clear hR
  obtain ⟨rb', ro', hPA, A1, c1, _, hcl, hbs⟩ := hF.rows.row 0 (by decide)
  simp only [Option.some.injEq, Addr.mk.injEq, and_true] at hPA
  obtain ⟨rfl, rfl⟩ := hPA
  rw [Nat.add_zero] at hcl
  replace hcl : w1.cell? ⟨rb, ro, none⟩ = some (.slice A1 1 c1) := hcl
  go_simp
  refine hC _ _ ?_
  replace hF : LQ w0 sp [165, 2, 0, 66] false (.slice rA _ rc) (some ⟨rb, ro, none⟩) [[65]] A1 [65] w1 := ⟨hF, hbs⟩
  clear hC C hcl hbs
  try walk_nrm
  refine opsN_k KK rfl (by rfl) (by rfl) ?_
  intro w1 hR C hC
  replace hF := LQ.rely hF hR
  clear hR
  obtain ⟨ad, rfl, hcv⟩ := row_string (c := c1) hF.2 (by decide)
  replace hcv : (convert 30 9 (.slice (some ad) 1 c1)).run Try.prog w1 = .ok (.string ⟨#[65]⟩) w1 := hcv
  go_simp
  refine hC _ _ ?_
  replace hF := hF.1
  clear hC C hcv
  try walk_nrm
  refine opsN_k KK rfl (by rfl) (by rfl) ?_
  intro _ hR C hC
  replace hF := LP.rely hF hR
  clear hR
  go_simp
  refine hC _ _ ?_
  clear hC C
  try walk_nrm
  refine opsN_k KK rfl (by rfl) (by rfl) ?_
  intro _ hR C hC
  replace hF := LP.rely hF hR
  clear hR
  go_simp
  refine hC _ _ ?_
  clear hC C
  try walk_nrm
  refine opsN_k KK rfl (by rfl) (by rfl) ?_
  intro _ hR C hC
  replace hF := LP.rely hF hR
  clear hR
  go_simp
  refine hC _ _ ?_
  clear hC C
  try walk_nrm
  refine opsN_k KK rfl (by rfl) (by rfl) ?_
  intro _ hR C hC
  replace hF := LP.rely hF hR
  clear hR
  go_simp
  refine hC _ _ ?_
  clear hC C
  try walk_nrm
  rename_i V9
  refine opsM_fcall KK (vals := #[.pointer (some ⟨sp, 0, none⟩)]) rfl (by rfl) rfl Try.func14 (by rfl) rfl (by simp [Act.eval]) ?_
  refine callM_mono (waiting_calls V9 hF.law.spl.blk) ?_
  rintro γ v w ⟨rfl, rfl, hB⟩
  replace hF := hF.next hB
  clear hB
  try walk_nrm
  refine opsN_k KK rfl (by rfl) (by rfl) ?_
  intro _ hR C hC
  replace hF := LP.rely hF hR
  clear hR
  go_simp
  refine hC _ _ ?_
  clear hC C
  try walk_nrm
  refine opsN_k KK rfl (by rfl) (by rfl) ?_
  intro _ hR C hC
  replace hF := LP.rely hF hR
  clear hR
  go_simp
  refine hC _ _ ?_
  clear hC C
  try walk_nrm
  refine opsM_nil KK ?_
  try simp only [thenM, Exit.inBlock, if_true, if_false, reduceIte, Nat.reduceEqDiff]
  refine wpM_cond KK rfl ?_
  first | simp only [if_true, if_false, reduceIte, Bool.false_eq_true] | fail "COND"
  refine wpM_skip KK ?_
  try simp only [thenM, Exit.inBlock, if_true, if_false, reduceIte, Nat.reduceEqDiff]
  refine wpM_seq KK ?_
  refine wpM_region KK ?_
  simp only [List.size_toArray, List.length_cons, List.length_nil, Nat.reduceAdd, Nat.zero_add, List.range, List.range.loop]
  refine opsN_k KK rfl (by rfl) (by rfl) ?_
  intro _ hR C hC
  replace hF := LP.rely hF hR
  clear hR
  go_simp
  refine hC _ _ ?_
  clear hC C
  try walk_nrm
  refine opsN_k KK rfl (by rfl) (by rfl) ?_
  intro _ hR C hC
  replace hF := LP.rely hF hR
  clear hR
  go_simp
  refine hC _ _ ?_
  clear hC C
  try walk_nrm
  rename_i V2
  have hcl2 : Cells (V2.alloc (Obj.cells #[.int .u8 67] 5)) (some ⟨V2.heap.size, 0, none⟩) (Bs [67]) := fun _ => ⟨_, 0, rfl, fun i hi => by rw [Nat.zero_add, cell_of_row _ _ i _ _ _ (heap_alloc_new V2 _)]; match i, hi with | 0, _ => rfl⟩
  replace hF := hF.next ((Below.refl V2.heap.size V2).alloc (Nat.le_refl _) (Obj.cells #[.int .u8 67] 5))
  generalize V2.alloc (Obj.cells #[.int .u8 67] 5) = W2 at *
  generalize V2.heap.size = g2 at *
  refine opsM_fcall KK (vals := #[.pointer (some ⟨sp, 0, none⟩), .slice (some ⟨g2, 0, none⟩) 1 1]) rfl (by rfl) rfl Try.func11 (by rfl) rfl (by simp [Act.eval]) ?_
  refine callM_mono (feed_good (some ⟨g2, 0, none⟩) 1 [67] W2 hF.law.spl hcl2 (by decide) (by decide)) ?_
  rintro γ v w ⟨rfl, hR⟩
  obtain ⟨PA, pc, rv, rfl, hc1, hc2, hrows, hlaw⟩ := hF.law.fed hR
  simp only [List.nil_append, List.cons_append, cut_two, List.length_cons, List.length_nil, Nat.zero_add] at hrows hlaw hc1 ⊢
  replace hF : LP w0 sp [] false rv PA [[66, 67]] w := ⟨hlaw, hrows⟩
  obtain ⟨rA, rc, rfl⟩ := hF.law.slice
  clear hR hlaw hrows hcl2
  try walk_nrm
  refine opsN_k KK rfl (by rfl) (by rfl) ?_
  intro _ hR C hC
  replace hF := LP.rely hF hR
  clear hR
  go_simp
  refine hC _ _ ?_
  clear hC C
  try walk_nrm
  refine opsN_k KK rfl (by rfl) (by rfl) ?_
  intro _ hR C hC
  replace hF := LP.rely hF hR
  clear hR
  go_simp
  refine hC _ _ ?_
  clear hC C
  try walk_nrm
  refine opsN_k KK rfl (by rfl) (by rfl) ?_
  intro _ hR C hC
  replace hF := LP.rely hF hR
  clear hR
  go_simp
  refine hC _ _ ?_
  clear hC C
  try walk_nrm
  refine opsN_k KK rfl (by rfl) (by rfl) ?_
  intro _ hR C hC
  replace hF := LP.rely hF hR
  clear hR
  go_simp
  refine hC _ _ ?_
  clear hC C
  try walk_nrm
  refine opsN_k KK rfl (by rfl) (by rfl) ?_
  intro _ hR C hC
  replace hF := LP.rely hF hR
  clear hR
  go_simp
  refine hC _ _ ?_
  clear hC C
  try walk_nrm
  refine opsM_nil KK ?_
  try simp only [thenM, Exit.inBlock, if_true, if_false, reduceIte, Nat.reduceEqDiff]
  refine wpM_seq KK ?_
  refine wpM_region KK ?_
  simp only [List.size_toArray, List.length_cons, List.length_nil, Nat.reduceAdd, Nat.zero_add, List.range, List.range.loop]
  obtain ⟨rb, ro, rfl, A1, c1, _, hcl0, hbs0⟩ := hF.rows.row 0 (by decide)
  refine opsN_k KK rfl (by rfl) (by rfl) ?_
  intro _ hR C hC
  replace hF := LP.rely hF hR
  clear hR
  go_simp
  refine hC _ _ ?_
  clear hC C
  try walk_nrm
  refine opsN_k KK rfl (by rfl) (by rfl) ?_
  intro _ hR C hC
  replace hF := LP.rely hF hR
  clear hR
  go_simp
  refine hC _ _ ?_
  clear hC C
  try walk_nrm
  refine opsN_k KK rfl (by rfl) (by rfl) ?_
  intro _ hR C hC
  replace hF := LP.rely hF hR
  clear hR
  go_simp
  refine hC _ _ ?_
  clear hC C
  try walk_nrm
  refine opsN_k KK rfl (by rfl) (by rfl) ?_
  intro _ hR C hC
  replace hF := LP.rely hF hR
  clear hR
  go_simp
  refine hC _ _ ?_
  clear hC C
  try walk_nrm
  refine opsN_k KK rfl (by rfl) (by rfl) ?_
  intro _ hR C hC
  replace hF := LP.rely hF hR
  clear hR
  go_simp
  refine hC _ _ ?_
  clear hC C
  try walk_nrm
  refine opsN_k KK rfl (by rfl) (by rfl) ?_
  intro _ hR C hC
  replace hF := LP.rely hF hR
  clear hR
  go_simp
  refine hC _ _ ?_
  clear hC C
  try walk_nrm
  refine opsN_k KK rfl (by rfl) (by rfl) ?_
  intro _ hR C hC
  replace hF := LP.rely hF hR
  clear hR
  go_simp
  refine hC _ _ ?_
  clear hC C
  try walk_nrm
  refine opsN_k KK rfl (by rfl) (by rfl) ?_
  intro _ hR C hC
  replace hF := LP.rely hF hR
  clear hR
  go_simp
  refine hC _ _ ?_
  clear hC C
  try walk_nrm
  refine opsN_k KK rfl (by rfl) (by rfl) ?_
  intro _ hR C hC
  replace hF := LP.rely hF hR
  clear hR
  go_simp
  refine hC _ _ ?_
  clear hC C
  try walk_nrm
  refine opsN_k KK rfl (by rfl) (by rfl) ?_
  intro _ hR C hC
  replace hF := LP.rely hF hR
  clear hR
  go_simp
  refine hC _ _ ?_
  clear hC C
  try walk_nrm
  clear hcl0 hbs0
  refine opsN_k KK rfl (by rfl) (by rfl) ?_
  intro w1 hR C hC
  replace hF := LP.rely hF hR
  clear hR
  obtain ⟨rb', ro', hPA, A1, c1, _, hcl, hbs⟩ := hF.rows.row 0 (by decide)
  simp only [Option.some.injEq, Addr.mk.injEq, and_true] at hPA
  obtain ⟨rfl, rfl⟩ := hPA
  rw [Nat.add_zero] at hcl
  replace hcl : w1.cell? ⟨rb, ro, none⟩ = some (.slice A1 2 c1) := hcl
  go_simp
  refine hC _ _ ?_
  replace hF : LQ w0 sp [] false (.slice rA _ rc) (some ⟨rb, ro, none⟩) [[66, 67]] A1 [66, 67] w1 := ⟨hF, hbs⟩
  clear hC C hcl hbs
  try walk_nrm
  refine opsN_k KK rfl (by rfl) (by rfl) ?_
  intro w1 hR C hC
  replace hF := LQ.rely hF hR
  clear hR
  obtain ⟨ad, rfl, hcv⟩ := row_string (c := c1) hF.2 (by decide)
  replace hcv : (convert 30 9 (.slice (some ad) 2 c1)).run Try.prog w1 = .ok (.string ⟨#[66, 67]⟩) w1 := hcv
  go_simp
  refine hC _ _ ?_
  replace hF := hF.1
  clear hC C hcv
  try walk_nrm
  refine opsN_k KK rfl (by rfl) (by rfl) ?_
  intro _ hR C hC
  replace hF := LP.rely hF hR
  clear hR
  go_simp
  refine hC _ _ ?_
  clear hC C
  try walk_nrm
  refine opsN_k KK rfl (by rfl) (by rfl) ?_
  intro _ hR C hC
  replace hF := LP.rely hF hR
  clear hR
  go_simp
  refine hC _ _ ?_
  clear hC C
  try walk_nrm
  refine opsN_k KK rfl (by rfl) (by rfl) ?_
  intro _ hR C hC
  replace hF := LP.rely hF hR
  clear hR
  go_simp
  refine hC _ _ ?_
  clear hC C
  try walk_nrm
  refine opsN_k KK rfl (by rfl) (by rfl) ?_
  intro _ hR C hC
  replace hF := LP.rely hF hR
  clear hR
  go_simp
  refine hC _ _ ?_
  clear hC C
  try walk_nrm
  rename_i V9
  refine opsM_fcall KK (vals := #[.pointer (some ⟨sp, 0, none⟩)]) rfl (by rfl) rfl Try.func14 (by rfl) rfl (by simp [Act.eval]) ?_
  refine callM_mono (waiting_calls V9 hF.law.spl.blk) ?_
  rintro γ v w ⟨rfl, rfl, hB⟩
  replace hF := hF.next hB
  clear hB
  try walk_nrm
  refine opsN_k KK rfl (by rfl) (by rfl) ?_
  intro _ hR C hC
  replace hF := LP.rely hF hR
  clear hR
  go_simp
  refine hC _ _ ?_
  clear hC C
  try walk_nrm
  refine opsN_k KK rfl (by rfl) (by rfl) ?_
  intro _ hR C hC
  replace hF := LP.rely hF hR
  clear hR
  go_simp
  refine hC _ _ ?_
  clear hC C
  try walk_nrm
  refine opsN_k KK rfl (by rfl) (by rfl) ?_
  intro _ hR C hC
  replace hF := LP.rely hF hR
  clear hR
  go_simp
  refine hC _ _ ?_
  clear hC C
  try walk_nrm
  refine opsN_k KK rfl (by rfl) (by rfl) ?_
  intro _ hR C hC
  replace hF := LP.rely hF hR
  clear hR
  go_simp
  refine hC _ _ ?_
  clear hC C
  try walk_nrm
  rename_i V8
  refine opsM_fcall KK (vals := #[.pointer (some ⟨sp, 0, none⟩)]) rfl (by rfl) rfl Try.func16 (by rfl) rfl (by simp [Act.eval]) ?_
  refine callM_mono (bad_calls V8 hF.law.spl.blk) ?_
  rintro γ v w ⟨rfl, rfl, hB⟩
  replace hF := hF.next hB
  clear hB
  try walk_nrm
  refine opsN_k KK rfl (by rfl) (by rfl) ?_
  intro _ hR C hC
  replace hF := LP.rely hF hR
  clear hR
  go_simp
  refine hC _ _ ?_
  clear hC C
  try walk_nrm
  refine opsN_k KK rfl (by rfl) (by rfl) ?_
  intro _ hR C hC
  replace hF := LP.rely hF hR
  clear hR
  go_simp
  refine hC _ _ ?_
  clear hC C
  try walk_nrm
  refine opsN_k KK rfl (by rfl) (by rfl) ?_
  intro _ hR C hC
  replace hF := LP.rely hF hR
  clear hR
  go_simp
  refine hC _ _ ?_
  clear hC C
  try walk_nrm
  refine opsM_nil KK ?_
  try simp only [thenM, Exit.inBlock, if_true, if_false, reduceIte, Nat.reduceEqDiff]
  refine wpM_ret KK ?_
  try simp only [thenM, Exit.inBlock, if_true, if_false, reduceIte, Nat.reduceEqDiff]
  exact ⟨rfl, _, resultsC_tmp (by rfl) _, rfl, by simp, hF.law.below⟩
end Go.Proofs.Ytngmhkhncimknaa
