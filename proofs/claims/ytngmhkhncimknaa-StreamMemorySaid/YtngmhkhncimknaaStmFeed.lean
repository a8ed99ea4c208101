/- Feed: goroutine 0's walk, from its call to its return. -/
import Derived.Test.YtngmhkhncimknaaStmFd
namespace Go.Proofs.Ytngmhkhncimknaa
open Go Go.Conc Go.RowKit
set_option linter.unusedVariables false
set_option linter.unusedSimpArgs false

/-- what is held of the world while goroutine 0 is alone in Feed -/
structure FA (w0 : World) (L : List (Nat × Obj)) (w : World) : Prop where
  below : Below w0.heap.size w0 w
  at_ : ∀ p ∈ L, w.heap[p.1]? = some p.2

section
variable {w0 w w₁ : World} {L : List (Nat × Obj)}
theorem FA.rely (h : FA w0 L w) (r : ∃ d, w₁ = w.at d) : FA w0 L w₁ := by
  obtain ⟨d, rfl⟩ := r
  exact ⟨⟨h.below.os, h.below.tape, h.below.output, h.below.size, h.below.block⟩, h.at_⟩
theorem FA.lt (h : FA w0 L w) : ∀ p ∈ L, p.1 < w.heap.size := fun p hp => heap_lt (h.at_ p hp)
theorem FA.alloc (h : FA w0 L w) (o : Obj) : FA w0 ((w.heap.size, o) :: L) (w.alloc o) :=
  ⟨h.below.alloc h.below.size o, fun p hp => by
    rcases List.mem_cons.1 hp with rfl | hp
    · exact heap_alloc_new w _
    · exact heap_before w o _ _ (by have := h.lt p hp; omega) (h.at_ p hp)⟩
theorem FA.cell (h : FA w0 L w) {g i : Nat} {cs : Array Value} {t : TypeId} {v : Value} (hp : (g, Obj.cells cs t (0, 0)) ∈ L) (hv : cs[i]? = some v) : w.cell? ⟨g, i, none⟩ = some v := by
  rw [cell_of_row w g i _ _ _ (h.at_ _ hp)]
  exact hv
theorem FA.next (h : FA w0 L w) (hb : Below w.heap.size w w₁) : FA w0 L w₁ :=
  ⟨h.below.trans (hb.mono h.below.size), fun p hp => (hb.block _ (h.lt p hp)).trans (h.at_ p hp)⟩
/-- a store into the newest block -/
theorem FA.set (h : FA w0 L w) {L' : List (Nat × Obj)} {g : Nat} {cs : Array Value} {t : TypeId} (i : Nat) (v : Value) (hL : L = (g, Obj.cells cs t (0, 0)) :: L') (hn : w0.heap.size ≤ g) (hd : ∀ p ∈ L', p.1 < g) : FA w0 ((g, Obj.cells (cs.setIfInBounds i v) t (0, 0)) :: L') (w.setCell ⟨g, i, none⟩ v) := by
  subst hL
  refine ⟨h.below.setCell (p := ⟨g, i, none⟩) hn v, fun p hp => ?_⟩
  rcases List.mem_cons.1 hp with rfl | hp
  · exact heap_setCell_same w g i cs t v (h.at_ (g, Obj.cells cs t (0, 0)) (by simp))
  · rw [Below.heap_setCell w ⟨g, i, none⟩ v p.1 (by have := hd p hp; simp; omega)]
    exact h.at_ p (by simp [hp])
end

theorem FA.add {w0 w : World} {L : List (Nat × Obj)} (h : FA w0 L w) {g : Nat} {o : Obj} (ho : w.heap[g]? = some o) : FA w0 ((g, o) :: L) w :=
  ⟨h.below, fun p hp => by
    rcases List.mem_cons.1 hp with rfl | hp
    · exact ho
    · exact h.at_ p hp⟩

/-- all bytes, as the child gets them -/
theorem own_all {w : World} {B : Nat} {v : Value} {l : List UInt8} (h : Own w B 5 v (Bs l)) {g0 : Nat} {o0 : Obj} (h0 : w.heap[g0]? = some o0) : ∃ A c g o cs, v = .slice A l.length c ∧ l.length ≤ c ∧ (A = none → c = 0 ∧ l = []) ∧ w.heap[g]? = some o ∧ (0 < l.length → o = .cells cs 5 (0, 0) ∧ B ≤ g ∧ ∃ k, A = some ⟨g, k, none⟩ ∧ ∀ i (h : i < l.length), cs[k + i]? = some (.int .u8 (n8 l[i]))) := by
  rcases h.2 with ⟨rfl, h1⟩ | ⟨g, cap, cur, rfl, hb, hh, hn, hm, hs, ht⟩
  · rw [Bs_length] at h1
    exact ⟨none, 0, g0, o0, #[], by rw [h1], by omega, fun _ => ⟨rfl, List.eq_nil_of_length_eq_zero h1⟩, h0, fun h => absurd h (by omega)⟩
  · rw [Bs_length] at hn ht
    refine ⟨some ⟨g, 0, none⟩, cap, g, _, cur, by rw [Bs_length], hn, fun h => (by cases h), hh, fun _ => ⟨rfl, hb, 0, rfl, fun i hi => ?_⟩⟩
    rw [Nat.mul_one] at ht
    have h2 : cur.toList[i]? = (Bs l)[i]? := by rw [← ht, List.getElem?_take_of_lt hi]
    rw [Nat.zero_add, ← Array.getElem?_toList, h2]
    simp [Bs, hi]

theorem ev_eql_ptr {P : Program} (w : World) {t e : TypeId} (a : Addr) (ht : P.underlying t = some (.pointer e)) : (binOp .eql t (.pointer (some a)) (.pointer none)).events P w #[] = #[] := by
  have h : ∀ d : Nat, (Op.equalIn (d + 1) t (.pointer (some a)) (.pointer none)).events P w #[] = #[] := fun d => by
    simp [Op.equalIn, run_underlying ht]
  have hr : ∀ d : Nat, ∃ b, (Op.equalIn (d + 1) t (.pointer (some a)) (.pointer none)).run P w = .ok b w := fun d => by
    simp [Op.equalIn, run_underlying ht]
  obtain ⟨b, hb⟩ := hr 9999
  simp only [binOp]
  simp [Op.equal, Op.maxDepth, h 9999, hb]

theorem ownN (w : World) : rF none w { w with drawn := w.drawn + 1 } := ⟨w.drawn + 1, rfl⟩
theorem cutS_len : ∀ (n : Nat) (l : List UInt8), l.length = n → (cutS l).1.length ≤ l.length := by
  intro n
  induction n using Nat.strongRecOn with
  | _ n ih =>
    intro l hl
    by_cases h1 : frOK l = true
    · by_cases h2 : frN l = 0 ∨ l.length < frN l
      · rw [(cutS_rest h1 h2).1]; simp
      · have h3 := cutS_more h1 (by omega) (by omega)
        have h4 := ih (l.drop (frN l)).length (by simp; omega) (l.drop (frN l)) rfl
        rw [h3.1]
        simp at h4 ⊢
        omega
    · rw [(cutS_bad (by simpa using h1)).1]; simp

theorem mk0 (w : World) : (Instr.makeChan 50 (.int .i64 0)).run Try.prog w = .ok (.chan (some w.heap.size)) (w.alloc (.chan 0 #[] false 0 0 false)) := by
  obtain ⟨i, hi, hb⟩ := Option.map_eq_some_iff.1 (show (Try.prog.info? 30).map (·.bytes) = some 24 by kernel_rfl)
  have hd : Try.prog.underlying 50 = some (.chan .both 30) := by kernel_rfl
  simpa using run_makeChan (P := Try.prog) (w := w) hd hi .i64 0 (by omega) (by rw [hb]; omega)
theorem mk0e (w : World) (es : Array Event) : (Instr.makeChan 50 (.int .i64 0)).events Try.prog w es = es := by
  obtain ⟨i, hi, hb⟩ := Option.map_eq_some_iff.1 (show (Try.prog.info? 30).map (·.bytes) = some 24 by kernel_rfl)
  have hd : Try.prog.underlying 50 = some (.chan .both 30) := by kernel_rfl
  simpa using events_makeChan (P := Try.prog) (w := w) hd hi .i64 0 (by omega) (by rw [hb]; omega) es

def len8 (a : Act) : Nat := match (a.tmps[8]? : Option Value) with | some (.slice _ n _) => n | _ => 0

/-- what Feed answers, and what it leaves -/
def FeedR (w0 : World) (sp : Nat) (l : List UInt8) (v : Value) (w' : World) : Prop :=
  ∃ B0 B1 vout vs rv, w0.heap.size ≤ B0 ∧ B0 ≤ B1 ∧ v = .tuple #[vout, .bool (cutS l).2.2] ∧ Own w' B0 30 vout vs ∧ Pays w' B0 B1 vs (cutS l).1 ∧ w'.heap[sp]? = some (.cells #[rv, .bool (cutS l).2.2] 45 (0, 0)) ∧
    Own w' B1 5 rv (Bs (cutS l).2.1) ∧ (∀ i, i < w0.heap.size → i ≠ sp → w'.heap[i]? = w0.heap[i]?) ∧ w'.os = w0.os ∧ w'.tape = w0.tape ∧ w'.output = w0.output ∧ w0.heap.size ≤ w'.heap.size

set_option maxRecDepth 100000 in
set_option maxHeartbeats 1600000 in
theorem feed_calls {Post : Value → World → Prop} (sp : Nat) (A Ab : Option Addr) (c cb : Nat) (hv lb : List UInt8) (w0 : World) (hF : w0.heap[sp]? = some (.cells #[.slice A hv.length c, .bool false] 45 (0, 0)))
    (hlen : hv.length + lb.length ≤ 1000000000)
    (hcat : ∀ gb w, w.heap[gb]? = some (.cells #[.slice A hv.length c, .slice Ab lb.length cb] 30 (0, 0)) → Below w0.heap.size w0 w → callX Try.prog (XEnds Try.prog Post) 21 #[.slice (some ⟨gb, 0, none⟩) 2 2] (fun v w' => Own w' w.heap.size 5 v (Bs (hv ++ lb)) ∧ Below w.heap.size w w') w) :
    callM Try.prog (XF Try.prog (XEnds Try.prog Post)) 11 #[.pointer (some ⟨sp, 0, none⟩), .slice Ab lb.length cb] (fun γ v w' => γ = none ∧ FeedR w0 sp (hv ++ lb) v w') none w0 := by
  have KK := kitF (P := Try.prog) (X := XEnds Try.prog Post) XEnds.back XEnds.at_
  replace hF : FA w0 [(sp, Obj.cells #[.slice A hv.length c, .bool false] 45 (0, 0))] w0 := ⟨Below.refl _ _, fun p hp => by obtain rfl := List.mem_singleton.1 hp; exact hF⟩
  refine callM_of_wpM KK Try.func11 rfl ?_
  simp only [Try.ntmps11, List.size_toArray, List.length_cons, List.length_nil, Nat.reduceAdd, Nat.reduceSub, Array.replicate_succ, Array.replicate_zero, List.push_toArray, List.append_toArray, List.nil_append, List.cons_append]
  refine wpM_seq KK ?_
  refine wpM_region KK ?_
  simp only [List.size_toArray, List.length_cons, List.length_nil, Nat.reduceAdd, Nat.zero_add, List.range, List.range.loop]
  refine opsM_cons_k KK rfl (by rfl) ?_
  intro _ hR C hC
  replace hF := FA.rely hF hR
  clear hR
  go_simp
  refine hC _ _ ⟨?_, ?_⟩
  · ((intro e he; have hm := mem_listed he; simp [go_sem, storedEv, *] at hm; try (subst hm; exact ⟨by simp, by simp⟩)))
  clear hC C
  try walk_nrm
  rename_i V2
  have hlt2 := Go.Lib.hid hF.lt
  have hn2 := Go.Lib.hid hF.below.size
  replace hF := hF.alloc (Obj.cells #[.pointer (some ⟨sp, 0, none⟩)] 24)
  generalize V2.alloc (Obj.cells #[.pointer (some ⟨sp, 0, none⟩)] 24) = W2 at *
  generalize V2.heap.size = g2 at *
  refine opsM_cons_k KK rfl (by rfl) ?_
  intro _ hR C hC
  replace hF := FA.rely hF hR
  clear hR
  go_simp
  refine hC _ _ ⟨?_, ?_⟩
  · ((intro e he; have hm := mem_listed he; simp [go_sem, storedEv, *] at hm; try (subst hm; exact ⟨by simp, by simp⟩)))
  clear hC C
  try walk_nrm
  refine opsM_cons_k KK rfl (by rfl) ?_
  intro _ hR C hC
  replace hF := FA.rely hF hR
  clear hR
  go_simp
  refine hC _ _ ⟨?_, ?_⟩
  · ((intro e he; have hm := mem_listed he; simp [go_sem, storedEv, *] at hm; try (subst hm; exact ⟨by simp, by simp⟩)))
  clear hC C
  try walk_nrm
  refine opsM_nil KK ?_
  try simp only [thenM, Exit.inBlock, if_true, if_false, reduceIte, Nat.reduceEqDiff]
  refine wpM_seq KK ?_
  refine wpM_seq KK ?_
  refine wpM_region KK ?_
  simp only [List.size_toArray, List.length_cons, List.length_nil, Nat.reduceAdd, Nat.zero_add, List.range, List.range.loop]
  refine opsM_cons_k KK rfl (by rfl) ?_
  intro _ hR C hC
  replace hF := FA.rely hF hR
  clear hR
  have hc := hF.cell (g := g2) (i := 0) (cs := #[.pointer (some ⟨sp, 0, none⟩)]) (t := 24) (by simp) rfl
  go_simp
  refine hC _ _ ⟨?_, ?_⟩
  · ((intro e he; have hm := mem_listed he; simp [go_sem, storedEv, *] at hm; try (subst hm; exact ⟨by simp, by simp⟩)))
  clear hC C
  try walk_nrm
  clear hc
  refine opsM_cons_k KK rfl (by rfl) ?_
  intro _ hR C hC
  replace hF := FA.rely hF hR
  clear hR
  go_simp
  refine hC _ _ ⟨?_, ?_⟩
  · (rw [listed_nil (by simp [go_sem, ev_eql_ptr]; done)]; exact gN_still _ _)
  clear hC C
  try walk_nrm
  refine opsM_nil KK ?_
  try simp only [thenM, Exit.inBlock, if_true, if_false, reduceIte, Nat.reduceEqDiff]
  refine wpM_cond KK rfl ?_
  first | simp only [Option.isNone_some, if_true, if_false, reduceIte, Bool.false_eq_true] | fail "COND"
  refine wpM_skip KK ?_
  try simp only [thenM, Exit.inBlock, if_true, if_false, reduceIte, Nat.reduceEqDiff]
  refine wpM_seq KK ?_
  refine wpM_seq KK ?_
  refine wpM_region KK ?_
  simp only [List.size_toArray, List.length_cons, List.length_nil, Nat.reduceAdd, Nat.zero_add, List.range, List.range.loop]
  refine opsM_cons_k KK rfl (by rfl) ?_
  intro _ hR C hC
  replace hF := FA.rely hF hR
  clear hR
  have hc := hF.cell (g := g2) (i := 0) (cs := #[.pointer (some ⟨sp, 0, none⟩)]) (t := 24) (by simp) rfl
  go_simp
  refine hC _ _ ⟨?_, ?_⟩
  · ((intro e he; have hm := mem_listed he; simp [go_sem, storedEv, *] at hm; try (subst hm; exact ⟨by simp, by simp⟩)))
  clear hC C
  try walk_nrm
  clear hc
  refine opsM_cons_k KK rfl (by rfl) ?_
  intro _ hR C hC
  replace hF := FA.rely hF hR
  clear hR
  go_simp
  refine hC _ _ ⟨?_, ?_⟩
  · ((intro e he; have hm := mem_listed he; simp [go_sem, storedEv, *] at hm; try (subst hm; exact ⟨by simp, by simp⟩)))
  clear hC C
  try walk_nrm
  refine opsM_cons_k KK rfl (by rfl) ?_
  intro _ hR C hC
  replace hF := FA.rely hF hR
  clear hR
  go_simp
  refine hC _ _ ⟨?_, ?_⟩
  · ((intro e he; have hm := mem_listed he; simp [go_sem, storedEv, *] at hm; try (subst hm; exact ⟨by simp, by simp⟩)))
  clear hC C
  try walk_nrm
  refine opsM_cons_k KK rfl (by rfl) ?_
  intro _ hR C hC
  replace hF := FA.rely hF hR
  clear hR
  have hc := hF.cell (g := sp) (i := 1) (cs := #[.slice A hv.length c, .bool false]) (t := 45) (by simp) rfl
  go_simp
  refine hC _ _ ⟨?_, ?_⟩
  · ((intro e he; have hm := mem_listed he; simp [go_sem, storedEv, *] at hm; try (subst hm; exact ⟨by simp, by simp⟩)))
  clear hC C
  try walk_nrm
  clear hc
  refine opsM_nil KK ?_
  try simp only [thenM, Exit.inBlock, if_true, if_false, reduceIte, Nat.reduceEqDiff]
  refine wpM_cond KK rfl ?_
  first | simp only [if_true, if_false, reduceIte, Bool.false_eq_true] | fail "COND"
  refine wpM_skip KK ?_
  try simp only [thenM, Exit.inBlock, if_true, if_false, reduceIte, Nat.reduceEqDiff]
  refine wpM_seq KK ?_
  refine wpM_region KK ?_
  simp only [List.size_toArray, List.length_cons, List.length_nil, Nat.reduceAdd, Nat.zero_add, List.range, List.range.loop]
  refine opsM_cons_k KK rfl (by rfl) ?_
  intro _ hR C hC
  replace hF := FA.rely hF hR
  clear hR
  have hc := hF.cell (g := g2) (i := 0) (cs := #[.pointer (some ⟨sp, 0, none⟩)]) (t := 24) (by simp) rfl
  go_simp
  refine hC _ _ ⟨?_, ?_⟩
  · ((intro e he; have hm := mem_listed he; simp [go_sem, storedEv, *] at hm; try (subst hm; exact ⟨by simp, by simp⟩)))
  clear hC C
  try walk_nrm
  clear hc
  refine opsM_cons_k KK rfl (by rfl) ?_
  intro _ hR C hC
  replace hF := FA.rely hF hR
  clear hR
  go_simp
  refine hC _ _ ⟨?_, ?_⟩
  · ((intro e he; have hm := mem_listed he; simp [go_sem, storedEv, *] at hm; try (subst hm; exact ⟨by simp, by simp⟩)))
  clear hC C
  try walk_nrm
  refine opsM_cons_k KK rfl (by rfl) ?_
  intro _ hR C hC
  replace hF := FA.rely hF hR
  clear hR
  go_simp
  refine hC _ _ ⟨?_, ?_⟩
  · ((intro e he; have hm := mem_listed he; simp [go_sem, storedEv, *] at hm; try (subst hm; exact ⟨by simp, by simp⟩)))
  clear hC C
  try walk_nrm
  refine opsM_cons_k KK rfl (by rfl) ?_
  intro _ hR C hC
  replace hF := FA.rely hF hR
  clear hR
  have hc := hF.cell (g := sp) (i := 0) (cs := #[.slice A hv.length c, .bool false]) (t := 45) (by simp) rfl
  go_simp
  refine hC _ _ ⟨?_, ?_⟩
  · ((intro e he; have hm := mem_listed he; simp [go_sem, storedEv, *] at hm; try (subst hm; exact ⟨by simp, by simp⟩)))
  clear hC C
  try walk_nrm
  clear hc
  refine opsM_cons_k KK rfl (by rfl) ?_
  intro _ hR C hC
  replace hF := FA.rely hF hR
  clear hR
  go_simp
  refine hC _ _ ⟨?_, ?_⟩
  · ((intro e he; have hm := mem_listed he; simp [go_sem, storedEv, *] at hm; try (subst hm; exact ⟨by simp, by simp⟩)))
  clear hC C
  try walk_nrm
  refine opsM_cons_k KK rfl (by rfl) ?_
  intro _ hR C hC
  replace hF := FA.rely hF hR
  clear hR
  go_simp
  refine hC _ _ ⟨?_, ?_⟩
  · ((intro e he; have hm := mem_listed he; simp [go_sem, storedEv, *] at hm; try (subst hm; exact ⟨by simp, by simp⟩)))
  clear hC C
  try walk_nrm
  rename_i Vb
  have hltb := Go.Lib.hid hF.lt
  have hnb := Go.Lib.hid hF.below.size
  replace hF := hF.alloc (Obj.cells #[.slice A hv.length c, .slice Ab lb.length cb] 30)
  generalize Vb.alloc (Obj.cells #[.slice A hv.length c, .slice Ab lb.length cb] 30) = Wb at *
  generalize Vb.heap.size = gb at *
  have hgb := hF.at_ (gb, Obj.cells #[.slice A hv.length c, .slice Ab lb.length cb] 30 (0, 0)) (by simp)
  refine opsM_fcall KK (vals := #[.slice (some ⟨gb, 0, none⟩) 2 2]) rfl (by rfl) rfl Try.func21 (by rfl) rfl (by simp [Act.eval]) ?_
  refine callM_mono (callF_of_callX (hcat gb Wb hgb hF.below)) ?_
  rintro γ v w ⟨rfl, HO, HB⟩
  have hszb := hF.lt (gb, _) List.mem_cons_self
  have hwb := Go.Lib.hid hF.below.size
  replace hF := hF.next HB
  obtain ⟨A', c', ga, oa, cs, rfl, hlc, hn', hga, hall⟩ := own_all HO ((HB.block gb hszb).trans hgb)
  replace hF := hF.add hga
  have HL := Go.Lib.hid (show 0 < (hv ++ lb).length → oa = .cells cs 5 (0, 0) ∧ w0.heap.size ≤ ga ∧ ∃ k, A' = some ⟨ga, k, none⟩ ∧ ∀ i (h : i < (hv ++ lb).length), cs[k + i]? = some (.int .u8 (n8 (hv ++ lb)[i])) from fun h => ⟨(hall h).1, Nat.le_trans hwb.out (hall h).2.1, (hall h).2.2⟩)
  clear HO HB hall hga hgb hcat hszb hwb
  have HN := Go.Lib.hid hn'
  clear hn'
  have hll : (hv ++ lb).length ≤ 1000000000 := by simp; omega
  generalize hv ++ lb = l at *
  try walk_nrm
  refine opsM_cons_k KK rfl (by rfl) ?_
  intro _ hR C hC
  replace hF := FA.rely hF hR
  clear hR
  go_simp
  refine hC _ _ ⟨?_, ?_⟩
  · ((intro e he; have hm := mem_listed he; simp [go_sem, storedEv, *] at hm; try (subst hm; exact ⟨by simp, by simp⟩)))
  clear hC C
  try walk_nrm
  rename_i V6
  have hlt6 := Go.Lib.hid hF.lt
  have hn6 := Go.Lib.hid hF.below.size
  replace hF := hF.alloc (Obj.cells #[.slice none 0 0] 30)
  generalize V6.alloc (Obj.cells #[.slice none 0 0] 30) = W6 at *
  generalize V6.heap.size = g6 at *
  refine opsM_cons_k KK rfl (by rfl) ?_
  intro _ hR C hC
  replace hF := FA.rely hF hR
  clear hR
  have hc := hF.cell (g := g6) (i := 0) (cs := #[.slice none 0 0]) (t := 30) (by simp) rfl
  have hz := heap_frozen (hF.at_ (g6, Obj.cells #[.slice none 0 0] 30 (0, 0)) (by simp)) 0
  go_simp
  try (unfold stored; go_simp)
  refine hC _ _ ⟨?_, ?_⟩
  · ((intro e he; have hm := mem_listed he; have hse := fun (w : World) es => events_store Try.prog w es ⟨g6, 0, none⟩ (.slice A' l.length c') .plain rfl; simp [go_sem, storedEv, hse, *] at hm; try (subst hm; exact ⟨by simp, by simp⟩)))
  clear hC C
  try walk_nrm
  clear hc hz
  replace hF := hF.set 0 (.slice A' l.length c') rfl hn6.out hlt6.out
  generalize hW : World.setCell _ ⟨g6, 0, none⟩ (.slice A' l.length c') = W7 at *
  clear hW
  refine opsM_nil KK ?_
  try simp only [thenM, Exit.inBlock, if_true, if_false, reduceIte, Nat.reduceEqDiff]
  refine wpM_seq KK ?_
  refine wpM_region KK ?_
  simp only [List.size_toArray, List.length_cons, List.length_nil, Nat.reduceAdd, Nat.zero_add, List.range, List.range.loop]
  refine opsM_cons_k KK rfl (by rfl) ?_
  intro _ hR C hC
  replace hF := FA.rely hF hR
  clear hR
  have hmk := mk0
  go_simp
  refine hC _ _ ⟨?_, ?_⟩
  · ((rw [listed_nil (by simp [go_sem, mk0e]; done)]; exact gN_still _ _))
  clear hC C
  try walk_nrm
  clear hmk
  rename_i Vc
  have hltc := Go.Lib.hid hF.lt
  have hnc := Go.Lib.hid hF.below.size
  replace hF := hF.alloc (Obj.chan 0 #[] false 0 0 false)
  generalize Vc.alloc (Obj.chan 0 #[] false 0 0 false) = Wc at *
  generalize Vc.heap.size = ch at *
  refine opsM_cons_k KK rfl (by rfl) ?_
  intro _ hR C hC
  replace hF := FA.rely hF hR
  clear hR
  go_simp
  refine hC _ _ ⟨?_, ?_⟩
  · ((intro e he; have hm := mem_listed he; simp [go_sem, storedEv, *] at hm; try (subst hm; exact ⟨by simp, by simp⟩)))
  clear hC C
  try walk_nrm
  rename_i V7
  have hlt7 := Go.Lib.hid hF.lt
  have hn7 := Go.Lib.hid hF.below.size
  replace hF := hF.alloc (Obj.cells #[.chan none] 50)
  generalize V7.alloc (Obj.cells #[.chan none] 50) = W7 at *
  generalize V7.heap.size = g7 at *
  refine opsM_cons_k KK rfl (by rfl) ?_
  intro _ hR C hC
  replace hF := FA.rely hF hR
  clear hR
  have hc := hF.cell (g := g7) (i := 0) (cs := #[.chan none]) (t := 50) (by simp) rfl
  have hz := heap_frozen (hF.at_ (g7, Obj.cells #[.chan none] 50 (0, 0)) (by simp)) 0
  go_simp
  try (unfold stored; go_simp)
  refine hC _ _ ⟨?_, ?_⟩
  · ((intro e he; have hm := mem_listed he; have hse := fun (w : World) es => events_store Try.prog w es ⟨g7, 0, none⟩ (.chan (some ch)) .plain rfl; simp [go_sem, storedEv, hse, *] at hm; try (subst hm; exact ⟨by simp, by simp⟩)))
  clear hC C
  try walk_nrm
  clear hc hz
  replace hF := hF.set 0 (.chan (some ch)) rfl hn7.out hlt7.out
  generalize hW : World.setCell _ ⟨g7, 0, none⟩ (.chan (some ch)) = W8 at *
  clear hW
  refine opsM_nil KK ?_
  try simp only [thenM, Exit.inBlock, if_true, if_false, reduceIte, Nat.reduceEqDiff]
  refine wpM_seq KK ?_
  refine wpM_region KK ?_
  simp only [List.size_toArray, List.length_cons, List.length_nil, Nat.reduceAdd, Nat.zero_add, List.range, List.range.loop]
  refine opsM_cons_k KK rfl (by rfl) ?_
  intro _ hR C hC
  replace hF := FA.rely hF hR
  clear hR
  go_simp
  refine hC _ _ ⟨?_, ?_⟩
  · ((rw [listed_nil (by simp [go_sem]; done)]; exact gN_still _ _))
  clear hC C
  try walk_nrm
  rename_i W9
  have f2 : W9.heap[g2]? = some (Obj.cells #[.pointer (some ⟨sp, 0, none⟩)] 24 (0, 0)) := hF.at_ (g2, _) (by simp)
  have f6 : W9.heap[g6]? = some (Obj.cells #[.slice A' l.length c'] 30 (0, 0)) := hF.at_ (g6, _) (by simp)
  have f7 : W9.heap[g7]? = some (Obj.cells #[.chan (some ch)] 50 (0, 0)) := hF.at_ (g7, _) (by simp)
  have fc : W9.heap[ch]? = some (Obj.chan 0 #[] false 0 0 false) := hF.at_ (ch, _) (by simp)
  have fs : W9.heap[sp]? = some (Obj.cells #[.slice A hv.length c, .bool false] 45 (0, 0)) := hF.at_ (sp, _) (by simp)
  have fa : W9.heap[ga]? = some oa := hF.at_ (ga, _) (by simp)
  have hbel := hF.below
  have nsp : ∀ g t cs, W9.heap[g]? = some (Obj.cells cs t (0, 0)) → t ≠ 45 → g ≠ sp := fun g t cs h ht e => by subst e; rw [fs] at h; simp at h; exact ht h.2.symm
  have nch : ∀ g t cs, W9.heap[g]? = some (Obj.cells cs t (0, 0)) → g ≠ ch := fun g t cs h e => by subst e; rw [fc] at h; simp at h
  refine opsF_go (f := .func 22) (caps := #[.pointer (some ⟨g7, 0, none⟩), .pointer (some ⟨g6, 0, none⟩), .pointer (some ⟨g2, 0, none⟩)]) (vals := #[]) rfl (by rfl) (fun w₁ => by simp [go_sem, resolve, Deferred.ofValue]; done) (fun w₁ => by simp [go_sem, resolve, Deferred.ofValue]; done) fun cn hcn => ?_
  obtain ⟨D, rfl, rfl, hDb, rfl, hDA, hDB⟩ : ∃ D : Duet, D.c = cn ∧ D.ch = ch ∧ D.base = W9.heap.size ∧ D.sp = sp ∧ D.tA = 30 ∧ D.tB = 5 := ⟨{ c := cn, ch := ch, base := W9.heap.size, sp := sp, tA := 30, tB := 5, ne := by decide, c0 := hcn, sp_lt := heap_lt fs, ch_lt := heap_lt fc, ch_sp := fun e => by subst e; rw [fs] at fc; simp at fc }, rfl, rfl, rfl, rfl, rfl, rfl⟩
  have hD : Du D := ⟨hDA, hDB⟩
  refine ⟨D, rfl, Nat.le_of_eq hDb, ⟨0, 0, false, fc⟩, PP (FinB D (cutS l).2.1 (cutS l).2.2) D.base (cutS l).1, ?_, ?_⟩
  case refine_2 =>
    refine f1_script hD (A := A') (c := c') (g := ga) (cs := cs) hll hlc HN.out (fun h0 => ((HL.out h0).2.2)) (Nat.le_refl _) (x := .slice A hv.length c) (y := .bool false) ⟨⟨⟨f7, by rw [hDb]; exact heap_lt f7, nch _ _ _ f7, nsp _ _ _ f7 (by decide)⟩, ⟨f6, by rw [hDb]; exact heap_lt f6, nch _ _ _ f6, nsp _ _ _ f6 (by decide)⟩, ⟨f2, by rw [hDb]; exact heap_lt f2, nch _ _ _ f2, nsp _ _ _ f2 (by decide)⟩, ⟨0, 0, false, fc⟩, fun h0 => ?_⟩, fs, Nat.le_of_eq hDb⟩
    have fa' : W9.heap[ga]? = some (Obj.cells cs 5 (0, 0)) := by rw [← (HL.out h0).1]; exact fa
    exact ⟨fa', nch _ _ _ fa', nsp _ _ _ fa' (by decide)⟩
  replace hF : HA D w0 w0.heap.size [(g2, Obj.cells #[.pointer (some ⟨D.sp, 0, none⟩)] 24 (0, 0)), (g7, Obj.cells #[.chan (some D.ch)] 50 (0, 0))] D.base [] [] (.slice none 0 0) [] W9 := ⟨⟨hbel.os, hbel.tape, hbel.output, fun i hi _ => hbel.block i hi, fun p hp => by simp at hp; rcases hp with rfl | rfl <;> assumption, fun p hp => by simp at hp; rcases hp with rfl | rfl <;> first | exact ⟨by rw [hDb]; exact heap_lt f2, nch _ _ _ f2, nsp _ _ _ f2 (by decide)⟩ | exact ⟨by rw [hDb]; exact heap_lt f7, nch _ _ _ f7, nsp _ _ _ f7 (by decide)⟩, ⟨by rw [hDb]; exact hbel.size, hnc.out⟩, ⟨Nat.le_refl _, Nat.le_of_eq hDb⟩, Nat.le_refl _, Pays.nil _ _ _⟩, ⟨by simp, .inl ⟨rfl, rfl⟩⟩⟩
  have hn0 : w0.heap.size ≤ D.base := hF.1.new.1
  have hsp0 : D.sp < w0.heap.size ∨ True := .inr trivial
  clear f2 f6 f7 fc fs fa hbel nsp nch hnc hlt2 hn2 hltb hnb hlt6 hn6 hltc hlt7 hn7 HL HN hcn hDb
  try walk_nrm
  refine opsM_nil KK ?_
  try simp only [thenM, Exit.inBlock, if_true, if_false, reduceIte, Nat.reduceEqDiff]
  refine wpM_seq KK ?_
  refine wpM_region KK ?_
  simp only [List.size_toArray, List.length_cons, List.length_nil, Nat.reduceAdd, Nat.zero_add, List.range, List.range.loop]
  refine opsM_cons_k KK rfl (by rfl) ?_
  intro _ hR C hC
  replace hF := HA.rely hF hR
  clear hR
  go_simp
  refine hC _ _ ⟨?_, ?_⟩
  · ((rw [listed_nil (by simp [go_sem]; done)]; exact gA_still _ _))
  clear hC C
  try walk_nrm
  refine opsM_nil KK ?_
  try simp only [thenM, Exit.inBlock, if_true, if_false, reduceIte, Nat.reduceEqDiff]
  refine wpM_seq KK ?_
  refine wpM_seq KK ?_
  refine wpM_region KK ?_
  simp only [List.size_toArray, List.length_cons, List.length_nil, Nat.reduceAdd, Nat.zero_add, List.range, List.range.loop]
  refine opsM_cons_k KK rfl (by rfl) ?_
  intro _ hR C hC
  replace hF := HA.rely hF hR
  clear hR
  have hc := hF.1.cell (g := g7) (i := 0) (cs := #[.chan (some D.ch)]) (t := 50) (by simp) rfl
  go_simp
  refine hC _ _ ⟨?_, ?_⟩
  · ((refine ⟨RelA.at_ _ _, ?_⟩; co_evs (exact hF.1.ev _ (g := g7) (o := Obj.cells #[.chan (some D.ch)] 50 (0, 0)) (by simp) _)))
  clear hC C
  try walk_nrm
  clear hc
  refine opsM_nil KK ?_
  try simp only [thenM, Exit.inBlock, if_true, if_false, reduceIte, Nat.reduceEqDiff]
  refine wpM_block KK ?_
  refine wpM_loop KK (fun (γ : Option (Duet × Proto)) (a : Act) (w : World) => ∃ (B1 : Nat) (vs : List Value) (dn rs : List (List UInt8)) (VA : Option Addr) (vn vc : Nat) (x3 x4 x5 x9 x10 x11 x12 x13 x14 x15 x16 x17 x18 x19 x20 x21 x22 x23 x24 x26 x27 x28 x29 x30 x31 x32 x33 x34 x35 x36 x37 : Value), a = { tmps := #[.pointer (some ⟨D.sp, 0, none⟩), .slice Ab lb.length cb, .pointer (some ⟨g2, 0, none⟩), x3, x4, x5, .pointer (some ⟨g6, 0, none⟩), .pointer (some ⟨g7, 0, none⟩), .slice VA vn vc, x9, x10, x11, x12, x13, x14, x15, x16, x17, x18, x19, x20, x21, x22, x23, x24, .chan (some D.ch), x26, x27, x28, x29, x30, x31, x32, x33, x34, x35, x36, x37], defers := [] } ∧ vn = vs.length ∧ Hid (γ = some (D, PP (FinB D (cutS l).2.1 (cutS l).2.2) B1 rs)) ∧ Hid (dn ++ rs = (cutS l).1) ∧ HA D w0 w0.heap.size [(g2, Obj.cells #[.pointer (some ⟨D.sp, 0, none⟩)] 24 (0, 0)), (g7, Obj.cells #[.chan (some D.ch)] 50 (0, 0))] B1 vs dn (.slice VA vn vc) vs w) (fun _ a _ => (cutS l).1.length - len8 a) ?start ?round
  case start => exact ⟨D.base, [], [], (cutS l).1, none, 0, 0, _, _, _, _, _, _, _, _, _, _, _, _, _, _, _, _, _, _, _, _, _, _, _, _, _, _, _, _, _, _, _, rfl, rfl, rfl, rfl, hF⟩
  case round =>
      clear hF
      intro γ a w hI
      obtain ⟨B1, vs, dn, rs, VA, vn, vc, x3, x4, x5, x9, x10, x11, x12, x13, x14, x15, x16, x17, x18, x19, x20, x21, x22, x23, x24, x26, x27, x28, x29, x30, x31, x32, x33, x34, x35, x36, x37, rfl, rfl, HG, HR, hF⟩ := hI
      refine wpM_seq KK ?_
      refine wpM_region KK ?_
      simp only [List.size_toArray, List.length_cons, List.length_nil, Nat.reduceAdd, Nat.zero_add, List.range, List.range.loop]
      cases rs with
      | nil =>
        obtain rfl : γ = some (D, .stop (FinB D (cutS l).2.1 (cutS l).2.2 B1)) := HG.out
        refine opsF_done (z := .slice none 0 0) rfl (by rfl) (fun w₁ => by simp [go_sem, rcase]; done) (fun w₁ => by simp [go_sem]; done) fun w₁ hb hR hfin => ?_
        replace hF : HD D w0 w0.heap.size [(g2, Obj.cells #[.pointer (some ⟨D.sp, 0, none⟩)] 24 (0, 0)), (g7, Obj.cells #[.chan (some D.ch)] 50 (0, 0))] B1 vs dn (.slice VA vs.length vc) vs (cutS l).2.1 (cutS l).2.2 w₁ := ⟨hF.rely (ms := .stop fun _ => True) ⟨hb, hR⟩, hfin⟩
        clear hR hb hfin
        try walk_nrm
        refine opsM_cons_k KK rfl (by rfl) ?_
        intro _ hR C hC
        replace hF := HD.rely hF hR
        clear hR
        go_simp
        refine hC _ _ ⟨?_, ?_⟩
        · ((rw [listed_nil (by simp [go_sem]; done)]; exact gN_still _ _))
        clear hC C
        try walk_nrm
        refine opsM_nil KK ?_
        try simp only [thenM, Exit.inBlock, if_true, if_false, reduceIte, Nat.reduceEqDiff]
        refine wpM_seq KK ?_
        refine wpM_cond KK rfl ?_
        first | simp only [if_true, if_false, reduceIte, Bool.false_eq_true] | fail "COND"
        refine wpM_exit KK ?_
        try simp only [thenM, Exit.inBlock, if_true, if_false, reduceIte, Nat.reduceEqDiff]
        refine wpM_seq KK ?_
        refine wpM_of_wpC KK (n := 7 + 1 + 1) (Q' := _) ?_ (fun _ _ _ h => h)
        refine wpC_region_held (KK.terms none) (fun _ _ he => by simp at he) (S := HD D w0 w0.heap.size [(g2, Obj.cells #[.pointer (some ⟨D.sp, 0, none⟩)] 24 (0, 0)), (g7, Obj.cells #[.chan (some D.ch)] 50 (0, 0))] B1 vs dn (.slice VA vs.length vc) vs (cutS l).2.1 (cutS l).2.2) (by first | kernel_rfl | rfl) ?_
        intro _ hR
        replace hF := HD.rely (HD.rely hF hR) (ownN _)
        clear hR
        simp only [List.size_toArray, List.length_cons, List.length_nil, Nat.reduceAdd, Nat.zero_add]
        co_applyP anyCH_take (KK.terms none) (fun _ _ h r => HD.rely h r) (fun _ _ _ h r => wpM_rely KK h r) (i := 0) rfl (by first | kernel_rfl | decide +kernel) (by first | kernel_rfl | decide +kernel) (by first | kernel_rfl | decide +kernel) (.inl ⟨by rfl, fun _ hw => ⟨run_eq_of ?run1, ?guar1⟩⟩) hF ?rest1
        case run1 =>
          intro C hC
          skip
          go_simp
          exact hC
        case guar1 =>
          skip
          ((rw [listed_nil (by simp [go_sem]; done)]; exact gN_still _ _))
        try walk_nrm
        co_applyP anyCH_take (KK.terms none) (fun _ _ h r => HD.rely h r) (fun _ _ _ h r => wpM_rely KK h r) (i := 1) rfl (by first | kernel_rfl | decide +kernel) (by first | kernel_rfl | decide +kernel) (by first | kernel_rfl | decide +kernel) (.inl ⟨by rfl, fun _ hw => ⟨run_eq_of ?run2, ?guar2⟩⟩) hF ?rest2
        case run2 =>
          intro C hC
          have hc := hw.1.1.cell (g := g2) (i := 0) (cs := #[.pointer (some ⟨D.sp, 0, none⟩)]) (t := 24) (by simp) rfl
          go_simp
          exact hC
        case guar2 =>
          have hc := hw.1.1.cell (g := g2) (i := 0) (cs := #[.pointer (some ⟨D.sp, 0, none⟩)]) (t := 24) (by simp) rfl
          ((intro e he; have hm := mem_listed he; simp [go_sem, *] at hm; try (subst hm; exact ⟨by simp, by simp⟩)))
        try walk_nrm
        co_applyP anyCH_take (KK.terms none) (fun _ _ h r => HD.rely h r) (fun _ _ _ h r => wpM_rely KK h r) (i := 2) rfl (by first | kernel_rfl | decide +kernel) (by first | kernel_rfl | decide +kernel) (by first | kernel_rfl | decide +kernel) (.inl ⟨by rfl, fun _ hw => ⟨run_eq_of ?run3, ?guar3⟩⟩) hF ?rest3
        case run3 =>
          intro C hC
          skip
          go_simp
          exact hC
        case guar3 =>
          skip
          ((rw [listed_nil (by simp [go_sem]; done)]; exact gN_still _ _))
        try walk_nrm
        co_applyP anyCH_take (KK.terms none) (fun _ _ h r => HD.rely h r) (fun _ _ _ h r => wpM_rely KK h r) (i := 3) rfl (by first | kernel_rfl | decide +kernel) (by first | kernel_rfl | decide +kernel) (by first | kernel_rfl | decide +kernel) (.inl ⟨by rfl, fun _ hw => ⟨run_eq_of ?run4, ?guar4⟩⟩) hF ?rest4
        case run4 =>
          intro C hC
          skip
          go_simp
          exact hC
        case guar4 =>
          skip
          ((rw [listed_nil (by simp [go_sem]; done)]; exact gN_still _ _))
        try walk_nrm
        co_applyP anyCH_take (KK.terms none) (fun _ _ h r => HD.rely h r) (fun _ _ _ h r => wpM_rely KK h r) (i := 4) rfl (by first | kernel_rfl | decide +kernel) (by first | kernel_rfl | decide +kernel) (by first | kernel_rfl | decide +kernel) (.inl ⟨by rfl, fun _ hw => ⟨run_eq_of ?run5, ?guar5⟩⟩) hF ?rest5
        case run5 =>
          intro C hC
          obtain ⟨rv, hsp, _⟩ := hw.2
          have hc := cell_of_row _ D.sp 1 _ _ _ hsp
          replace hc := hc.trans (show #[rv, Value.bool (cutS l).2.2][1]? = some (Value.bool (cutS l).2.2) from rfl)
          go_simp
          exact hC
        case guar5 =>
          obtain ⟨rv, hsp, _⟩ := hw.2
          have hc := cell_of_row _ D.sp 1 _ _ _ hsp
          replace hc := hc.trans (show #[rv, Value.bool (cutS l).2.2][1]? = some (Value.bool (cutS l).2.2) from rfl)
          ((intro e he; have hm := mem_listed he; simp [go_sem, *] at hm; try (subst hm; exact ⟨by simp, by simp⟩)))
        try walk_nrm
        co_applyP anyCH_take (KK.terms none) (fun _ _ h r => HD.rely h r) (fun _ _ _ h r => wpM_rely KK h r) (i := 5) rfl (by first | kernel_rfl | decide +kernel) (by first | kernel_rfl | decide +kernel) (by first | kernel_rfl | decide +kernel) (.inl ⟨by rfl, fun _ hw => ⟨run_eq_of ?run6, ?guar6⟩⟩) hF ?rest6
        case run6 =>
          intro C hC
          skip
          go_simp
          exact hC
        case guar6 =>
          skip
          ((rw [listed_nil (by simp [go_sem]; done)]; exact gN_still _ _))
        try walk_nrm
        co_applyP anyCH_take (KK.terms none) (fun _ _ h r => HD.rely h r) (fun _ _ _ h r => wpM_rely KK h r) (i := 6) rfl (by first | kernel_rfl | decide +kernel) (by first | kernel_rfl | decide +kernel) (by first | kernel_rfl | decide +kernel) (.inl ⟨by rfl, fun _ hw => ⟨run_eq_of ?run7, ?guar7⟩⟩) hF ?rest7
        case run7 =>
          intro C hC
          skip
          go_simp
          exact hC
        case guar7 =>
          skip
          ((rw [listed_nil (by simp [go_sem]; done)]; exact gN_still _ _))
        try walk_nrm
        refine anyCH_done (by first | kernel_rfl | decide +kernel) ?_ _
        try simp only [thenM, Exit.inBlock, if_true, if_false, reduceIte, Nat.reduceEqDiff]
        refine wpM_ret KK ?_
        try simp only [thenM, Exit.inBlock, if_true, if_false, reduceIte, Nat.reduceEqDiff]
        obtain ⟨⟨hx, ho⟩, rv, hsp, hrv⟩ := hF
        have hdn : dn = (cutS l).1 := by rw [← HR.out, List.append_nil]
        subst hdn
        exact ⟨rfl, _, resultsC_tmp2 (by rfl) _, rfl, D.base, B1, .slice VA vs.length vc, vs, rv, hn0, hx.base.1, by simp, ho, hx.pays, hsp, hrv, fun i hi hne => hx.old i hi hne, hx.os, hx.tape, hx.output, Nat.le_trans hn0 (Nat.le_trans hx.base.1 hx.base.2)⟩
      | cons p rs =>
        obtain rfl : γ = some (D, .msg (fun v w => Own w B1 5 v (Bs p)) (fun _ w => PP (FinB D (cutS l).2.1 (cutS l).2.2) w.heap.size rs)) := HG.out
        refine opsF_recv (z := .slice none 0 0) rfl (by rfl) (fun w₁ => by simp [go_sem, rcase]; done) (fun w₁ => by simp [go_sem]; done) fun v w₁ hb hR hv => ?_
        obtain ⟨pA, pn, pc, rfl⟩ : ∃ pA pn pc, v = .slice pA pn pc := by rcases hv.2 with ⟨h, _⟩ | ⟨_, _, _, h, _⟩ <;> exact ⟨_, _, _, h⟩
        have hF2 := hF.rely (ms := .stop fun _ => True) ⟨hb, hR⟩
        replace hF : HA D w0 w0.heap.size [(g2, Obj.cells #[.pointer (some ⟨D.sp, 0, none⟩)] 24 (0, 0)), (g7, Obj.cells #[.chan (some D.ch)] 50 (0, 0))] w₁.heap.size (vs ++ [.slice pA pn pc]) (dn ++ [p]) (.slice VA vs.length vc) vs w₁ := ⟨hF2.1.got hv, hF2.2⟩
        have hvl : vs.length < (cutS l).1.length := by have h1 := congrArg List.length HR.out; have h2 := hF2.1.pays.len; simp at h1; omega
        have hvl2 : vs.length ≤ 1000000000 := by have := cutS_len _ l rfl; omega
        clear hR hb hF2 hv HG
        try walk_nrm
        refine opsM_cons_k KK rfl (by rfl) ?_
        intro _ hR C hC
        replace hF := HA.rely hF hR
        clear hR
        go_simp
        refine hC _ _ ⟨?_, ?_⟩
        · ((rw [listed_nil (by simp [go_sem]; done)]; exact gA_still _ _))
        clear hC C
        try walk_nrm
        refine opsM_nil KK ?_
        try simp only [thenM, Exit.inBlock, if_true, if_false, reduceIte, Nat.reduceEqDiff]
        refine wpM_seq KK ?_
        refine wpM_cond KK rfl ?_
        first | simp only [if_true, if_false, reduceIte, Bool.false_eq_true] | fail "COND"
        refine wpM_skip KK ?_
        try simp only [thenM, Exit.inBlock, if_true, if_false, reduceIte, Nat.reduceEqDiff]
        refine wpM_block KK ?_
        refine wpM_seq KK ?_
        refine wpM_region KK ?_
        simp only [List.size_toArray, List.length_cons, List.length_nil, Nat.reduceAdd, Nat.zero_add, List.range, List.range.loop]
        refine opsM_cons_k KK rfl (by rfl) ?_
        intro _ hR C hC
        replace hF := HA.rely hF hR
        clear hR
        go_simp
        refine hC _ _ ⟨?_, ?_⟩
        · ((rw [listed_nil (by simp [go_sem]; done)]; exact gA_still _ _))
        clear hC C
        try walk_nrm
        refine opsM_cons_k KK rfl (by rfl) ?_
        intro _ hR C hC
        replace hF := HA.rely hF hR
        clear hR
        go_simp
        refine hC _ _ ⟨?_, ?_⟩
        · ((rw [listed_nil (by simp [go_sem]; done)]; exact gA_still _ _))
        clear hC C
        try walk_nrm
        refine opsM_nil KK ?_
        try simp only [thenM, Exit.inBlock, if_true, if_false, reduceIte, Nat.reduceEqDiff]
        refine wpM_region KK ?_
        simp only [List.size_toArray, List.length_cons, List.length_nil, Nat.reduceAdd, Nat.zero_add, List.range, List.range.loop]
        refine opsM_cons_k KK rfl (by rfl) ?_
        intro _ hR C hC
        replace hF := HA.rely hF hR
        clear hR
        go_simp
        refine hC _ _ ⟨?_, ?_⟩
        · ((rw [listed_nil (by simp [go_sem]; done)]; exact gA_still _ _))
        clear hC C
        try walk_nrm
        refine opsM_cons_k KK rfl (by rfl) ?_
        intro _ hR C hC
        replace hF := HA.rely hF hR
        clear hR
        go_simp
        refine hC _ _ ⟨?_, ?_⟩
        · ((rw [listed_nil (by simp [go_sem]; done)]; exact gA_still _ _))
        clear hC C
        try walk_nrm
        refine opsM_cons_k KK rfl (by rfl) ?_
        intro w1 hR C hC
        replace hF := HA.rely hF hR
        clear hR
        go_simp
        have hrel := relA_alloc hD (w := w1) #[.slice pA pn pc]
        have hbs : D.base ≤ w1.heap.size := Nat.le_trans hF.1.base.1 hF.1.base.2
        refine hC _ _ ⟨?_, ?_⟩
        · rw [listed_nil (by simp [go_sem]; done)]
          exact ⟨hrel, evIn_none⟩
        clear hC C
        replace hF : HB2 D w0 w0.heap.size [(g2, Obj.cells #[.pointer (some ⟨D.sp, 0, none⟩)] 24 (0, 0)), (g7, Obj.cells #[.chan (some D.ch)] 50 (0, 0))] w₁.heap.size (vs ++ [.slice pA pn pc]) (dn ++ [p]) (.slice VA vs.length vc) vs w1.heap.size (.slice pA pn pc) (w1.alloc (Obj.cells #[.slice pA pn pc] 30)) := ⟨⟨hF.1.own hD hrel, own_same hF.2 fun g hg => heap_before w1 _ g _ (by have := (own_block hF.2 hg).2.1; omega) rfl⟩, heap_alloc_new w1 _, hbs⟩
        generalize w1.alloc (Obj.cells #[.slice pA pn pc] 30) = W at *
        generalize w1.heap.size = gn at *
        clear hrel hbs
        try walk_nrm
        refine opsM_cons KK rfl (by rfl) fun w2 hR => ?_
        replace hF := HB2.rely hF hR
        clear hR
        obtain ⟨v', w', hr, ho, hrel, hev⟩ := append_one (P := Try.prog) hD (B1 := 0) hF.1.2 hF.2 (Nat.le_trans hF.1.1.base.1 hF.1.1.base.2) rfl hvl2 34 (by kernel_rfl) (by kernel_rfl)
        refine uponK_append _ _ _ rfl rfl rfl hr ⟨⟨hrel, evIn_cells fun e he => ?_⟩, ?_⟩
        · have hm := mem_listed he
          rw [events_append_op _ _ _ rfl rfl rfl] at hm
          rcases hev e hm with ⟨ad, h1, h2⟩ | h
          · exact .inl ⟨ad, h1, .inl h2⟩
          · exact .inr h
        obtain ⟨nA, nc, rfl⟩ : ∃ nA nc, v' = .slice nA (vs.length + 1) nc := by
          rcases ho.2 with ⟨h, h0⟩ | ⟨_, _, _, h, _⟩
          · simp at h0
          · simp at h; exact ⟨_, _, h⟩
        replace hF : HA D w0 w0.heap.size [(g2, Obj.cells #[.pointer (some ⟨D.sp, 0, none⟩)] 24 (0, 0)), (g7, Obj.cells #[.chan (some D.ch)] 50 (0, 0))] w₁.heap.size (vs ++ [.slice pA pn pc]) (dn ++ [p]) (.slice nA (vs.length + 1) nc) (vs ++ [.slice pA pn pc]) w' := ⟨hF.1.1.own hD hrel, ho⟩
        clear ho hrel hev hr
        try walk_nrm
        refine opsM_cons_k KK rfl (by rfl) ?_
        intro _ hR C hC
        replace hF := HA.rely hF hR
        clear hR
        go_simp
        refine hC _ _ ⟨?_, ?_⟩
        · ((rw [listed_nil (by simp [go_sem]; done)]; exact gA_still _ _))
        clear hC C
        try walk_nrm
        refine opsM_nil KK ?_
        try simp only [thenM, Exit.inBlock, if_true, if_false, reduceIte, Nat.reduceEqDiff]
        refine ⟨⟨w₁.heap.size, vs ++ [.slice pA pn pc], dn ++ [p], rs, nA, vs.length + 1, nc, _, _, _, _, _, _, _, _, _, _, _, _, _, _, _, _, _, _, _, _, _, _, _, _, _, _, _, _, _, _, _, rfl, by simp, rfl, ?_, hF⟩, ?_⟩
        · rw [RowKit.Hid, ← HR.out]; simp
        · show (cutS l).1.length - (vs.length + 1) < (cutS l).1.length - vs.length
          omega
end Go.Proofs.Ytngmhkhncimknaa
