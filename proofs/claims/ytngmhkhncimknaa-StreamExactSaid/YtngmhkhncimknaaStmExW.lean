/- StreamExact: the walk of the law. -/
import Derived.Test.YtngmhkhncimknaaStmEx
import Derived.Test.YtngmhkhncimknaaStmHold
import Derived.Test.YtngmhkhncimknaaOpen
namespace Go.Proofs.Ytngmhkhncimknaa
open Go Go.Conc Go.RowKit
set_option linter.unusedVariables false
set_option linter.unusedSimpArgs false

/-- one call of the script: which splitter, what it is fed -/
def OpD (w : World) (cs : List Value) (o : Int × List UInt8) : Prop :=
  ∃ A c, cs = [.int .i64 o.1, .slice A o.2.length c] ∧ (o.2.length ≤ c ∧ c ≤ 9223372036854775807) ∧ o.2.length ≤ 140737488351232 ∧ Cells w A (Bs o.2)
def sumD (os : List (Int × List UInt8)) : Nat := (os.map fun o => o.2.length).sum
theorem sumD_take (os : List (Int × List UInt8)) (k : Nat) (hk : k < os.length) : sumD (os.take (k + 1)) = sumD (os.take k) + os[k].2.length := by
  unfold sumD
  rw [← List.take_append_getElem hk, List.map_append, List.sum_append]
  simp
theorem opRow {w : World} {A : Option Addr} {os : List (Int × List UInt8)} (h : ElemsOf w 2 (OpD w) A os) (k : Nat) (hk : k < os.length) :
    ∃ b o, A = some ⟨b, o, none⟩ ∧ ∃ A' c', w.cell? ⟨b, o + k * 2, none⟩ = some (.int .i64 os[k].1) ∧ w.cell? ⟨b, o + k * 2 + 1, none⟩ = some (.slice A' os[k].2.length c') ∧ (os[k].2.length ≤ c' ∧ c' ≤ 9223372036854775807) ∧ os[k].2.length ≤ 140737488351232 ∧ Cells w A' (Bs os[k].2) := by
  obtain ⟨b, o, hA, hx⟩ := h (by omega)
  obtain ⟨cs, hl, hc, A', c', rfl, h1, h2, h3⟩ := hx k hk
  exact ⟨b, o, hA, A', c', hc 0 (by simp), hc 1 (by simp), h1, h2, h3⟩
theorem cells_low {w : World} {A : Option Addr} {l : List UInt8} (h : Cells w A (Bs l)) : 0 < l.length → ∀ a, A = some a → a.block < w.heap.size := fun h0 a ha => by
  obtain ⟨b, o, e, hc⟩ := h (by rw [Bs_length]; exact h0)
  rw [ha] at e
  cases e
  exact World.block_lt_of_cell? w _ (hc 0 (by rw [Bs_length]; exact h0))
structure EXR (w0 : World) (sp tp : Nat → Nat) (h : Nat → List UInt8) (b : Nat → Bool) (v : Nat → Value) (k : Nat → List UInt8) (c : Nat → Bool) (u : Nat → Value) (L : List (Nat × Obj)) (A B : Option Addr) (ps : List (List UInt8)) (w : World) : Prop where
  hx : EXS w0 sp tp h b v k c u L w
  ra : RowsB w A ps
  rb : RowsB w B ps
theorem EXR.rely {w0 w w' : World} {sp tp : Nat → Nat} {h k : Nat → List UInt8} {b c : Nat → Bool} {v u : Nat → Value} {L : List (Nat × Obj)} {A B : Option Addr} {ps : List (List UInt8)} (H : EXR w0 sp tp h b v k c u L A B ps w) (r : ∃ d, w' = w.at d) : EXR w0 sp tp h b v k c u L A B ps w' := by
  have h1 := H.hx.rely r
  obtain ⟨d, rfl⟩ := r
  have hb : Below w.heap.size w (w.at d) := ⟨rfl, rfl, rfl, Nat.le_refl _, fun _ _ => rfl⟩
  exact ⟨h1, rowsB_below hb H.ra, rowsB_below hb H.rb⟩
theorem waiting_spl {Post : Value → World → Prop} {n0 sp : Nat} {hv : List UInt8} {bad : Bool} {v : Value} (w : World) (hs : Spl n0 sp hv bad v w) :
    callM Try.prog (XF Try.prog (XEnds Try.prog Post)) 14 #[.pointer (some ⟨sp, 0, none⟩)] (fun γ v w' => γ = none ∧ v = .int .i64 (hv.length : Int) ∧ Below w.heap.size w w') none w := by
  obtain ⟨A, c, rfl, _⟩ := own_slice hs.own
  have := hs.blk
  rw [Bs_length] at this
  exact waiting_calls w this
theorem rwaiting_ref {Post : Value → World → Prop} {n0 sp : Nat} {hv : List UInt8} {bad : Bool} {v : Value} (w : World) (hs : RefS n0 sp hv bad v w) :
    callM Try.prog (XF Try.prog (XEnds Try.prog Post)) 15 #[.pointer (some ⟨sp, 0, none⟩)] (fun γ v w' => γ = none ∧ v = .int .i64 (hv.length : Int) ∧ Below w.heap.size w w') none w := by
  obtain ⟨A, c, rfl, _⟩ := own_slice hs.own
  have := hs.blk
  rw [Bs_length] at this
  exact rwaiting_calls w this
theorem fed1_len {st : List UInt8 × Bool} {l : List UInt8} {ps : List (List UInt8)} {h : List UInt8} {b : Bool} (hs : st.1.length ≤ 258) (hf : (ps, h, b) = fed1 st l) : h.length ≤ 258 := by
  unfold fed1 at hf
  cases hb : st.2 with
  | true =>
    simp only [hb, if_true, Prod.mk.injEq] at hf
    rw [hf.2.1]; exact hs
  | false =>
    simp only [hb, Bool.false_eq_true, if_false] at hf
    have := (cutS_sum _ (st.1 ++ l) rfl).2.2.2.1
    rw [← hf] at this
    exact this
theorem fed1_small2 {st : List UInt8 × Bool} {l : List UInt8} {ps : List (List UInt8)} {h : List UInt8} {b : Bool} (hs : st.1.length ≤ 258) (hf : (ps, h, b) = fed1 st l) : ps.length ≤ 258 + l.length := by
  unfold fed1 at hf
  cases hb : st.2 with
  | true =>
    simp only [hb, if_true, Prod.mk.injEq] at hf
    rw [hf.1]; simp
  | false =>
    simp only [hb, Bool.false_eq_true, if_false] at hf
    have h1 := cutS_len _ (st.1 ++ l) rfl
    rw [← hf, List.length_append] at h1
    simp only at h1
    omega
theorem small_turn {h : Nat → List UInt8} {j : Nat} {h' : List UInt8} (HB : ∀ i, i < 2 → (h i).length ≤ 258) (hl : h'.length ≤ 258) : ∀ i, i < 2 → (turnAt h j h' i).length ≤ 258 := fun i hi => by
  by_cases e : i = j
  · subst e; rw [turnAt_same]; exact hl
  · rw [turnAt_ne _ _ e]; exact HB i hi
theorem rowsB_nil (w : World) : RowsB w none [] := ⟨[], rfl, fun h => absurd h (by simp), fun i h => absurd h (by simp)⟩

theorem exs_start {w0 w : World} {sp tp : Nat → Nat} {ga gb : Nat} {OA OB : Obj} (hF : FA w0 [(gb, OB), (tp 1, Obj.cells #[.slice none 0 0, .bool false] 47 (0, 0)), (tp 0, Obj.cells #[.slice none 0 0, .bool false] 47 (0, 0)), (ga, OA), (sp 1, Obj.cells #[.slice none 0 0, .bool false] 45 (0, 0)), (sp 0, Obj.cells #[.slice none 0 0, .bool false] 45 (0, 0))] w)
    (h1 : sp 0 < sp 1) (h2 : tp 0 < tp 1) (l1 : w0.heap.size ≤ sp 0) (l2 : w0.heap.size ≤ tp 0) (hA : Boxed OA) (hB : Boxed OB) :
    EXS w0 sp tp (fun _ => []) (fun _ => false) (fun _ => .slice none 0 0) (fun _ => []) (fun _ => false) (fun _ => .slice none 0 0) [(gb, OB), (ga, OA)] w := by
  have n0 : ∀ B, Own w B 5 (.slice none 0 0) (Bs []) := fun B => World.ownsRow_nil _ _ _ 1
  have s0 := hF.at_ (sp 0, _) (List.Mem.tail _ (List.Mem.tail _ (List.Mem.tail _ (List.Mem.tail _ (List.Mem.tail _ (List.Mem.head _))))))
  have s1 := hF.at_ (sp 1, _) (List.Mem.tail _ (List.Mem.tail _ (List.Mem.tail _ (List.Mem.tail _ (List.Mem.head _)))))
  have t0 := hF.at_ (tp 0, _) (List.Mem.tail _ (List.Mem.tail _ (List.Mem.head _)))
  have t1 := hF.at_ (tp 1, _) (List.Mem.tail _ (List.Mem.head _))
  have a0 := hF.at_ (ga, _) (List.Mem.tail _ (List.Mem.tail _ (List.Mem.tail _ (List.Mem.head _))))
  have b0 := hF.at_ (gb, _) (List.Mem.head _)
  refine ⟨hF.below, fun i hi => ?_, fun i hi => ?_, fun i hi _ => ⟨by decide, .inl (by decide)⟩, fun i j hi hj hne => ?_, fun i j hi hj hne => ?_, fun i j g _ _ _ e => (by cases e), fun i j g _ _ e => (by cases e), fun p hp => ?_⟩
  · match i, hi with
    | 0, _ => exact ⟨s0, n0 _, l1⟩
    | 1, _ => exact ⟨s1, n0 _, by omega⟩
  · match i, hi with
    | 0, _ => exact ⟨t0, n0 _, l2⟩
    | 1, _ => exact ⟨t1, n0 _, by omega⟩
  · rcases (show i = 0 ∧ j = 1 ∨ i = 1 ∧ j = 0 by omega) with ⟨rfl, rfl⟩ | ⟨rfl, rfl⟩ <;> omega
  · rcases (show i = 0 ∧ j = 1 ∨ i = 1 ∧ j = 0 by omega) with ⟨rfl, rfl⟩ | ⟨rfl, rfl⟩ <;> omega
  · rcases List.mem_cons.1 hp with rfl | hp
    · exact ⟨b0, hB⟩
    · obtain rfl := List.mem_singleton.1 hp
      exact ⟨a0, hA⟩
theorem boxed_of {cs : Array Value} {t : TypeId} {fr : Nat × Nat} (h1 : t ≠ 45) (h2 : t ≠ 47) (h3 : t ≠ 5) : Boxed (Obj.cells cs t fr) := ⟨_, _, _, rfl, h1, h2, h3⟩

set_option maxRecDepth 100000 in
set_option maxHeartbeats 6400000 in
theorem exact_run {Post : Value → World → Prop} (A : Option Addr) (cc : Nat) (os : List (Int × List UInt8)) (hL : os.length ≤ 9223372036854775807) (w0 : World) (hA : ElemsOf w0 2 (OpD w0) A os) (hpost : ∀ w', Below w0.heap.size w0 w' → Post (.bool true) w') :
    EndsRun Try.prog Post (solo (G (Frame.enter Try.prog 3 #[.slice A os.length cc] .normal) []) w0) #[] := by
  have HA := Go.Lib.hid hA
  clear hA
  have KK := kitF (P := Try.prog) (X := XEnds Try.prog Post) XEnds.back XEnds.at_
  have hF : FA w0 [] w0 := ⟨Below.refl _ _, fun p hp => by cases hp⟩
  refine runs_of_wpM Try.func3 rfl (by kernel_rfl) (by kernel_rfl) ?_
  simp only [Try.ntmps3, List.size_toArray, List.length_cons, List.length_nil, Nat.reduceAdd, Nat.reduceSub, Array.replicate_succ, Array.replicate_zero, List.push_toArray, List.append_toArray, List.nil_append, List.cons_append]
  refine wpM_seq KK ?_
  refine wpM_region KK ?_
  simp only [List.size_toArray, List.length_cons, List.length_nil, Nat.reduceAdd, Nat.zero_add, List.range, List.range.loop]
  refine opsN_k KK rfl (by rfl) (by rfl) ?_
  intro _ hR C hC
  replace hF := FA.rely hF hR
  clear hR
  go_simp
  refine hC _ _ ?_
  clear hC C
  try walk_nrm
  refine opsM_nil KK ?_
  try simp only [thenM, Exit.inBlock, if_true, if_false, reduceIte, Nat.reduceEqDiff]
  refine wpM_seq KK ?_
  refine wpM_seq KK ?_
  refine wpM_region KK ?_
  simp only [List.size_toArray, List.length_cons, List.length_nil, Nat.reduceAdd, Nat.zero_add, List.range, List.range.loop]
  refine opsM_fcall KK (vals := #[]) rfl (by rfl) rfl Try.func7 (by rfl) rfl (by first | rfl | simp) ?_
  refine callM_mono (awake_calls _) ?_
  rintro γ v w ⟨rfl, rfl, hB⟩
  replace hF := hF.next hB
  clear hB
  try walk_nrm
  refine opsN_k KK rfl (by rfl) (by rfl) ?_
  intro _ hR C hC
  replace hF := FA.rely hF hR
  clear hR
  go_simp
  refine hC _ _ ?_
  clear hC C
  try walk_nrm
  refine opsM_nil KK ?_
  try simp only [thenM, Exit.inBlock, if_true, if_false, reduceIte, Nat.reduceEqDiff]
  refine wpM_cond KK rfl ?_
  first | simp only [if_true, if_false, reduceIte, Bool.false_eq_true] | fail "COND"
  refine wpM_skip KK ?_
  try simp only [thenM, Exit.inBlock, if_true, if_false, reduceIte, Nat.reduceEqDiff]
  refine wpM_seq KK ?_
  refine wpM_region KK ?_
  simp only [List.size_toArray, List.length_cons, List.length_nil, Nat.reduceAdd, Nat.zero_add, List.range, List.range.loop]
  refine opsM_fcall KK (vals := #[]) rfl (by rfl) rfl Try.func8 (by rfl) rfl (by first | rfl | simp) ?_
  have hlt := hF.lt
  refine callM_mono (new_calls _) ?_
  rintro γ v w ⟨rfl, ⟨sp0, rfl, hS⟩, hB⟩
  have l_sp0 := Go.Lib.hid (Nat.le_trans hF.below.size hS.ge)
  replace hF := (hF.next hB).add hS.blk
  clear hlt hS hB
  try walk_nrm
  refine opsM_fcall KK (vals := #[]) rfl (by rfl) rfl Try.func8 (by rfl) rfl (by first | rfl | simp) ?_
  have hlt := hF.lt
  refine callM_mono (new_calls _) ?_
  rintro γ v w ⟨rfl, ⟨sp1, rfl, hS⟩, hB⟩
  have sp0_sp1 := Go.Lib.hid (show sp0 < sp1 from by have h1 := hlt (sp0, _) (List.Mem.head _); have h2 := hS.ge; simp only at h1; omega)
  have l_sp1 := Go.Lib.hid (Nat.le_trans hF.below.size hS.ge)
  replace hF := (hF.next hB).add hS.blk
  clear hlt hS hB
  try walk_nrm
  refine opsN_k KK rfl (by rfl) (by rfl) ?_
  intro _ hR C hC
  replace hF := FA.rely hF hR
  clear hR
  go_simp
  refine hC _ _ ?_
  clear hC C
  try walk_nrm
  refine opsN_k KK rfl (by rfl) (by rfl) ?_
  intro _ hR C hC
  replace hF := FA.rely hF hR
  clear hR
  go_simp
  refine hC _ _ ?_
  clear hC C
  try walk_nrm
  rename_i Vga
  have sp0_ga := Go.Lib.hid (show sp0 < Vga.heap.size from hF.lt (sp0, _) (List.Mem.tail _ (List.Mem.head _)))
  have sp1_ga := Go.Lib.hid (show sp1 < Vga.heap.size from hF.lt (sp1, _) (List.Mem.head _))
  have l_ga := Go.Lib.hid hF.below.size
  replace hF := hF.alloc (Obj.cells #[.pointer none, .pointer none, .pointer none] 26)
  generalize Vga.alloc (Obj.cells #[.pointer none, .pointer none, .pointer none] 26) = Wga at *
  generalize Vga.heap.size = ga at *
  refine opsN_k KK rfl (by rfl) (by rfl) ?_
  intro w1 hR C hC
  replace hF := FA.rely hF hR
  clear hR
  have fz : ∀ i, w1.frozen? ⟨ga, i, none⟩ = false := fun i => heap_frozen (hF.at_ (ga, _) (List.Mem.head _)) i
  have hz0 := hF.cell (g := ga) (i := 0) (cs := #[.pointer none, .pointer none, .pointer none]) (t := 26) (List.Mem.head _) rfl
  have hz1 := hF.cell (g := ga) (i := 1) (cs := #[.pointer none, .pointer none, .pointer none]) (t := 26) (List.Mem.head _) rfl
  have hz2 := hF.cell (g := ga) (i := 2) (cs := #[.pointer none, .pointer none, .pointer none]) (t := 26) (List.Mem.head _) rfl
  go_simp
  try (unfold stored; go_simp)
  have hd : ∀ p ∈ ([(sp1, Obj.cells #[.slice none 0 0, .bool false] 45 (0, 0)), (sp0, Obj.cells #[.slice none 0 0, .bool false] 45 (0, 0))] : List (Nat × Obj)), p.1 < ga := by
      simp only [List.forall_mem_cons]
      exact ⟨sp1_ga.out, sp0_ga.out, fun _ h => absurd h (List.not_mem_nil)⟩
  replace hF := hF.set 0 (.pointer (some ⟨sp0, 0, none⟩)) rfl l_ga.out hd
  replace hF := hF.set 1 (.pointer (some ⟨sp1, 0, none⟩)) rfl l_ga.out hd
  replace hF := hF.set 2 (.pointer none) rfl l_ga.out hd
  simp only [List.setIfInBounds_toArray, List.set_cons_zero, List.set_cons_succ] at hF
  refine hC _ _ ?_
  clear hC C hd fz hz0 hz1 hz2
  generalize (((w1.setCell ⟨ga, 0, none⟩ (.pointer (some ⟨sp0, 0, none⟩))).setCell ⟨ga, 1, none⟩ (.pointer (some ⟨sp1, 0, none⟩))).setCell ⟨ga, 2, none⟩ (.pointer none)) = Uga at *
  try walk_nrm
  refine opsM_nil KK ?_
  try simp only [thenM, Exit.inBlock, if_true, if_false, reduceIte, Nat.reduceEqDiff]
  refine wpM_seq KK ?_
  refine wpM_region KK ?_
  simp only [List.size_toArray, List.length_cons, List.length_nil, Nat.reduceAdd, Nat.zero_add, List.range, List.range.loop]
  refine opsM_fcall KK (vals := #[]) rfl (by rfl) rfl Try.func9 (by rfl) rfl (by first | rfl | simp) ?_
  have hlt := hF.lt
  refine callM_mono (rnew_calls _) ?_
  rintro γ v w ⟨rfl, ⟨tp0, rfl, hS⟩, hB⟩
  have sp0_tp0 := Go.Lib.hid (show sp0 < tp0 from by have h1 := hlt (sp0, _) (List.Mem.tail _ (List.Mem.tail _ (List.Mem.head _))); have h2 := hS.ge; simp only at h1; omega)
  have sp1_tp0 := Go.Lib.hid (show sp1 < tp0 from by have h1 := hlt (sp1, _) (List.Mem.tail _ (List.Mem.head _)); have h2 := hS.ge; simp only at h1; omega)
  have ga_tp0 := Go.Lib.hid (show ga < tp0 from by have h1 := hlt (ga, _) (List.Mem.head _); have h2 := hS.ge; simp only at h1; omega)
  have l_tp0 := Go.Lib.hid (Nat.le_trans hF.below.size hS.ge)
  replace hF := (hF.next hB).add hS.blk
  clear hlt hS hB
  try walk_nrm
  refine opsM_fcall KK (vals := #[]) rfl (by rfl) rfl Try.func9 (by rfl) rfl (by first | rfl | simp) ?_
  have hlt := hF.lt
  refine callM_mono (rnew_calls _) ?_
  rintro γ v w ⟨rfl, ⟨tp1, rfl, hS⟩, hB⟩
  have sp0_tp1 := Go.Lib.hid (show sp0 < tp1 from by have h1 := hlt (sp0, _) (List.Mem.tail _ (List.Mem.tail _ (List.Mem.tail _ (List.Mem.head _)))); have h2 := hS.ge; simp only at h1; omega)
  have sp1_tp1 := Go.Lib.hid (show sp1 < tp1 from by have h1 := hlt (sp1, _) (List.Mem.tail _ (List.Mem.tail _ (List.Mem.head _))); have h2 := hS.ge; simp only at h1; omega)
  have ga_tp1 := Go.Lib.hid (show ga < tp1 from by have h1 := hlt (ga, _) (List.Mem.tail _ (List.Mem.head _)); have h2 := hS.ge; simp only at h1; omega)
  have tp0_tp1 := Go.Lib.hid (show tp0 < tp1 from by have h1 := hlt (tp0, _) (List.Mem.head _); have h2 := hS.ge; simp only at h1; omega)
  have l_tp1 := Go.Lib.hid (Nat.le_trans hF.below.size hS.ge)
  replace hF := (hF.next hB).add hS.blk
  clear hlt hS hB
  try walk_nrm
  refine opsN_k KK rfl (by rfl) (by rfl) ?_
  intro _ hR C hC
  replace hF := FA.rely hF hR
  clear hR
  go_simp
  refine hC _ _ ?_
  clear hC C
  try walk_nrm
  refine opsN_k KK rfl (by rfl) (by rfl) ?_
  intro _ hR C hC
  replace hF := FA.rely hF hR
  clear hR
  go_simp
  refine hC _ _ ?_
  clear hC C
  try walk_nrm
  rename_i Vgb
  have sp0_gb := Go.Lib.hid (show sp0 < Vgb.heap.size from hF.lt (sp0, _) (List.Mem.tail _ (List.Mem.tail _ (List.Mem.tail _ (List.Mem.tail _ (List.Mem.head _))))))
  have sp1_gb := Go.Lib.hid (show sp1 < Vgb.heap.size from hF.lt (sp1, _) (List.Mem.tail _ (List.Mem.tail _ (List.Mem.tail _ (List.Mem.head _)))))
  have ga_gb := Go.Lib.hid (show ga < Vgb.heap.size from hF.lt (ga, _) (List.Mem.tail _ (List.Mem.tail _ (List.Mem.head _))))
  have tp0_gb := Go.Lib.hid (show tp0 < Vgb.heap.size from hF.lt (tp0, _) (List.Mem.tail _ (List.Mem.head _)))
  have tp1_gb := Go.Lib.hid (show tp1 < Vgb.heap.size from hF.lt (tp1, _) (List.Mem.head _))
  have l_gb := Go.Lib.hid hF.below.size
  replace hF := hF.alloc (Obj.cells #[.pointer none, .pointer none, .pointer none] 29)
  generalize Vgb.alloc (Obj.cells #[.pointer none, .pointer none, .pointer none] 29) = Wgb at *
  generalize Vgb.heap.size = gb at *
  refine opsN_k KK rfl (by rfl) (by rfl) ?_
  intro w1 hR C hC
  replace hF := FA.rely hF hR
  clear hR
  have fz : ∀ i, w1.frozen? ⟨gb, i, none⟩ = false := fun i => heap_frozen (hF.at_ (gb, _) (List.Mem.head _)) i
  have hz0 := hF.cell (g := gb) (i := 0) (cs := #[.pointer none, .pointer none, .pointer none]) (t := 29) (List.Mem.head _) rfl
  have hz1 := hF.cell (g := gb) (i := 1) (cs := #[.pointer none, .pointer none, .pointer none]) (t := 29) (List.Mem.head _) rfl
  have hz2 := hF.cell (g := gb) (i := 2) (cs := #[.pointer none, .pointer none, .pointer none]) (t := 29) (List.Mem.head _) rfl
  go_simp
  try (unfold stored; go_simp)
  have hd : ∀ p ∈ ([(tp1, Obj.cells #[.slice none 0 0, .bool false] 47 (0, 0)), (tp0, Obj.cells #[.slice none 0 0, .bool false] 47 (0, 0)), (ga, Obj.cells #[.pointer (some ⟨sp0, 0, none⟩), .pointer (some ⟨sp1, 0, none⟩), .pointer none] 26 (0, 0)), (sp1, Obj.cells #[.slice none 0 0, .bool false] 45 (0, 0)), (sp0, Obj.cells #[.slice none 0 0, .bool false] 45 (0, 0))] : List (Nat × Obj)), p.1 < gb := by
      simp only [List.forall_mem_cons]
      exact ⟨tp1_gb.out, tp0_gb.out, ga_gb.out, sp1_gb.out, sp0_gb.out, fun _ h => absurd h (List.not_mem_nil)⟩
  replace hF := hF.set 0 (.pointer (some ⟨tp0, 0, none⟩)) rfl l_gb.out hd
  replace hF := hF.set 1 (.pointer (some ⟨tp1, 0, none⟩)) rfl l_gb.out hd
  replace hF := hF.set 2 (.pointer none) rfl l_gb.out hd
  simp only [List.setIfInBounds_toArray, List.set_cons_zero, List.set_cons_succ] at hF
  refine hC _ _ ?_
  clear hC C hd fz hz0 hz1 hz2
  generalize (((w1.setCell ⟨gb, 0, none⟩ (.pointer (some ⟨tp0, 0, none⟩))).setCell ⟨gb, 1, none⟩ (.pointer (some ⟨tp1, 0, none⟩))).setCell ⟨gb, 2, none⟩ (.pointer none)) = Ugb at *
  try walk_nrm
  refine opsM_nil KK ?_
  try simp only [thenM, Exit.inBlock, if_true, if_false, reduceIte, Nat.reduceEqDiff]
  refine wpM_seq KK ?_
  refine wpM_seq KK ?_
  refine wpM_region KK ?_
  simp only [List.size_toArray, List.length_cons, List.length_nil, Nat.reduceAdd, Nat.zero_add, List.range, List.range.loop]
  refine opsN_k KK rfl (by rfl) (by rfl) ?_
  intro _ hR C hC
  replace hF := FA.rely hF hR
  clear hR
  go_simp
  refine hC _ _ ?_
  clear hC C
  try walk_nrm
  refine opsN_k KK rfl (by rfl) (by rfl) ?_
  intro _ hR C hC
  replace hF := FA.rely hF hR
  clear hR
  have hc := hF.cell (g := ga) (i := 0) (cs := #[.pointer (some ⟨sp0, 0, none⟩), .pointer (some ⟨sp1, 0, none⟩), .pointer none]) (t := 26) (List.Mem.tail _ (List.Mem.tail _ (List.Mem.tail _ (List.Mem.head _)))) rfl
  go_simp
  refine hC _ _ ?_
  clear hC C
  try walk_nrm
  clear hc
  refine opsN_k KK rfl (by rfl) (by rfl) ?_
  intro _ hR C hC
  replace hF := FA.rely hF hR
  clear hR
  go_simp
  refine hC _ _ ?_
  clear hC C
  try walk_nrm
  refine opsN_k KK rfl (by rfl) (by rfl) ?_
  intro _ hR C hC
  replace hF := FA.rely hF hR
  clear hR
  go_simp
  refine hC _ _ ?_
  clear hC C
  try walk_nrm
  refine opsN_k KK rfl (by rfl) (by rfl) ?_
  intro _ hR C hC
  replace hF := FA.rely hF hR
  clear hR
  go_simp
  refine hC _ _ ?_
  clear hC C
  try walk_nrm
  refine opsN_k KK rfl (by rfl) (by rfl) ?_
  intro _ hR C hC
  replace hF := FA.rely hF hR
  clear hR
  have hc := hF.cell (g := ga) (i := 1) (cs := #[.pointer (some ⟨sp0, 0, none⟩), .pointer (some ⟨sp1, 0, none⟩), .pointer none]) (t := 26) (List.Mem.tail _ (List.Mem.tail _ (List.Mem.tail _ (List.Mem.head _)))) rfl
  go_simp
  refine hC _ _ ?_
  clear hC C
  try walk_nrm
  clear hc
  refine opsN_k KK rfl (by rfl) (by rfl) ?_
  intro _ hR C hC
  replace hF := FA.rely hF hR
  clear hR
  go_simp
  refine hC _ _ ?_
  clear hC C
  try walk_nrm
  refine opsN_k KK rfl (by rfl) (by rfl) ?_
  intro _ hR C hC
  replace hF := FA.rely hF hR
  clear hR
  go_simp
  refine hC _ _ ?_
  clear hC C
  try walk_nrm
  refine opsM_nil KK ?_
  try simp only [thenM, Exit.inBlock, if_true, if_false, reduceIte, Nat.reduceEqDiff]
  refine wpM_cond KK rfl ?_
  first | simp only [Option.isNone_some, if_true, if_false, reduceIte, Bool.false_eq_true] | fail "COND"
  refine wpM_skip KK ?_
  try simp only [thenM, Exit.inBlock, if_true, if_false, reduceIte, Nat.reduceEqDiff]
  refine wpM_seq KK ?_
  refine wpM_region KK ?_
  simp only [List.size_toArray, List.length_cons, List.length_nil, Nat.reduceAdd, Nat.zero_add, List.range, List.range.loop]
  refine opsN_k KK rfl (by rfl) (by rfl) ?_
  intro _ hR C hC
  replace hF := FA.rely hF hR
  clear hR
  go_simp
  refine hC _ _ ?_
  clear hC C
  try walk_nrm
  refine opsM_nil KK ?_
  try simp only [thenM, Exit.inBlock, if_true, if_false, reduceIte, Nat.reduceEqDiff]
  refine wpM_seq KK ?_
  refine wpM_seq KK ?_
  refine wpM_region KK ?_
  simp only [List.size_toArray, List.length_cons, List.length_nil, Nat.reduceAdd, Nat.zero_add, List.range, List.range.loop]
  refine opsN_k KK rfl (by rfl) (by rfl) ?_
  intro _ hR C hC
  replace hF := FA.rely hF hR
  clear hR
  go_simp
  refine hC _ _ ?_
  clear hC C
  try walk_nrm
  refine opsM_nil KK ?_
  try simp only [thenM, Exit.inBlock, if_true, if_false, reduceIte, Nat.reduceEqDiff]
  obtain ⟨sp, hsp0, hsp1⟩ : ∃ sp : Nat → Nat, sp 0 = sp0 ∧ sp 1 = sp1 := ⟨fun i => if i = 0 then sp0 else sp1, rfl, rfl⟩
  obtain ⟨tp, htp0, htp1⟩ : ∃ tp : Nat → Nat, tp 0 = tp0 ∧ tp 1 = tp1 := ⟨fun i => if i = 0 then tp0 else tp1, rfl, rfl⟩
  subst hsp0 hsp1 htp0 htp1
  replace hF := exs_start hF sp0_sp1.out tp0_tp1.out l_sp0.out l_tp0.out (boxed_of (by decide) (by decide) (by decide)) (boxed_of (by decide) (by decide) (by decide))
  clear tp1_gb tp0_gb ga_gb sp1_gb sp0_gb tp0_tp1 ga_tp1 sp1_tp1 sp0_tp1 ga_tp0 sp1_tp0 sp0_tp0 sp1_ga sp0_ga sp0_sp1
  refine wpM_block KK ?_
  refine wpM_loop KK (fun (γ : Option (Duet × Proto)) (a : Act) (w : World) => ∃ (k : Nat) (m : Nat) (h : Nat → List UInt8) (bd : Nat → Bool) (v : Nat → Value) (u : Nat → Value) (Fx : Nat → Value), γ = none ∧ a = { tmps := #[.slice A os.length cc, Fx 1, Fx 2, .pointer (some ⟨ga, 0, none⟩), .pointer (some ⟨gb, 0, none⟩), .int .i64 (m : Int), .int .i64 (k : Int), Fx 7, Fx 8, Fx 9, Fx 10, Fx 11, Fx 12, Fx 13, Fx 14, Fx 15, Fx 16, Fx 17, Fx 18, Fx 19, Fx 20, Fx 21, Fx 22, Fx 23, Fx 24, Fx 25, Fx 26, Fx 27, Fx 28, Fx 29, Fx 30, Fx 31, Fx 32, Fx 33, Fx 34, Fx 35, Fx 36, Fx 37, Fx 38, Fx 39, Fx 40, Fx 41, Fx 42, Fx 43, Fx 44, Fx 45, Fx 46, Fx 47, Fx 48, Fx 49, Fx 50, Fx 51, Fx 52, Fx 53, Fx 54, Fx 55, Fx 56, Fx 57, Fx 58, Fx 59, Fx 60, Fx 61, Fx 62, Fx 63, Fx 64, Fx 65, Fx 66, Fx 67, Fx 68, Fx 69, Fx 70, Fx 71, Fx 72, Fx 73, Fx 74, Fx 75, Fx 76, Fx 77, Fx 78, Fx 79, Fx 80, Fx 81, Fx 82, Fx 83, Fx 84, Fx 85, Fx 86, Fx 87, Fx 88, Fx 89, Fx 90, Fx 91, Fx 92, Fx 93], defers := [] } ∧ k ≤ os.length ∧ Hid (m = sumD (os.take k)) ∧ m ≤ 16777216 ∧ Hid (∀ i, i < 2 → (h i).length ≤ 258) ∧ EXS w0 sp tp h bd v h bd u [(gb, Obj.cells #[.pointer (some ⟨tp 0, 0, none⟩), .pointer (some ⟨tp 1, 0, none⟩), .pointer none] 29 (0, 0)), (ga, Obj.cells #[.pointer (some ⟨sp 0, 0, none⟩), .pointer (some ⟨sp 1, 0, none⟩), .pointer none] 26 (0, 0))] w) (fun _ a _ => os.length - slotN a 6) ?startx ?roundx
  case startx => exact ⟨0, 0, _, _, _, _, (fun i => (#[undef, _, _, undef, undef, undef, undef, _, _, _, _, _, _, _, _, _, _, _, _, _, _, _, _, _, _, _, _, _, _, _, _, _, _, _, _, _, _, _, _, _, _, _, _, _, _, _, _, _, _, _, _, _, _, _, _, _, _, _, _, _, _, _, _, _, _, _, _, _, _, _, _, _, _, _, _, _, _, _, _, _, _, _, _, _, _, _, _, _, _, _, _, _, _, _] : Array Value).getD i undef), rfl, rfl, by omega, rfl, by omega, (fun _ _ => Nat.zero_le _), hF⟩
  case roundx =>
      clear hF
      intro γ a w hI
      obtain ⟨k, m, h, bd, v, u, Fx, rfl, rfl, hk, HM, hm, HB, hF⟩ := hI
      refine wpM_seq KK ?_
      refine wpM_seq KK ?_
      refine wpM_region KK ?_
      simp only [List.size_toArray, List.length_cons, List.length_nil, Nat.reduceAdd, Nat.zero_add, List.range, List.range.loop]
      by_cases hlt : k < os.length
      · have e1 : decide ((k : Int) < (os.length : Int)) = true := decide_eq_true (by omega)
        have i1 : (k : Int) < (os.length : Int) := by omega
        have HT := Go.Lib.hid (sumD_take os k hlt)
        obtain ⟨b, o, hAe, A1, c1, hc1, hc2, hcc, hlen, hr1⟩ := opRow HA.out k hlt
        have HC1 := Go.Lib.hid hc1
        have HC2 := Go.Lib.hid hc2
        have HR := Go.Lib.hid hr1
        have HCC := Go.Lib.hid hcc
        clear hc1 hc2 hr1 hcc
        generalize hop : os[k] = op at *
        clear hop
        obtain ⟨on, lb⟩ := op
        simp only at HT HC1 HC2 HR HCC hlen
        subst hAe
        refine opsN_k KK rfl (by rfl) (by rfl) ?_
        intro _ hR C hC
        replace hF := EXS.rely hF hR
        clear hR
        go_simp
        refine hC _ _ ?_
        clear hC C
        try walk_nrm
        refine opsN_k KK rfl (by rfl) (by rfl) ?_
        intro _ hR C hC
        replace hF := EXS.rely hF hR
        clear hR
        go_simp
        refine hC _ _ ?_
        clear hC C
        try walk_nrm
        refine opsN_k KK rfl (by rfl) (by rfl) ?_
        intro _ hR C hC
        replace hF := EXS.rely hF hR
        clear hR
        go_simp
        refine hC _ _ ?_
        clear hC C
        try walk_nrm
        refine opsN_k KK rfl (by rfl) (by rfl) ?_
        intro _ hR C hC
        replace hF := EXS.rely hF hR
        clear hR
        go_simp
        refine hC _ _ ?_
        clear hC C
        try walk_nrm
        refine opsM_nil KK ?_
        try simp only [thenM, Exit.inBlock, if_true, if_false, reduceIte, Nat.reduceEqDiff]
        refine wpM_cond KK rfl ?_
        first | simp only [if_true, if_false, reduceIte, Bool.false_eq_true] | fail "COND"
        refine wpM_skip KK ?_
        try simp only [thenM, Exit.inBlock, if_true, if_false, reduceIte, Nat.reduceEqDiff]
        refine wpM_seq KK ?_
        refine wpM_block KK ?_
        refine wpM_seq KK ?_
        refine wpM_region KK ?_
        simp only [List.size_toArray, List.length_cons, List.length_nil, Nat.reduceAdd, Nat.zero_add, List.range, List.range.loop]
        refine opsN_k KK rfl (by rfl) (by rfl) ?_
        intro _ hR C hC
        replace hF := EXS.rely hF hR
        clear hR
        go_simp
        refine hC _ _ ?_
        clear hC C
        try walk_nrm
        refine opsN_k KK rfl (by rfl) (by rfl) ?_
        intro _ hR C hC
        replace hF := EXS.rely hF hR
        clear hR
        go_simp
        refine hC _ _ ?_
        clear hC C
        try walk_nrm
        refine opsN_k KK rfl (by rfl) (by rfl) ?_
        intro _ hR C hC
        replace hF := EXS.rely hF hR
        clear hR
        go_simp
        refine hC _ _ ?_
        clear hC C
        try walk_nrm
        refine opsN_k KK rfl (by rfl) (by rfl) ?_
        intro _ hR C hC
        replace hF := EXS.rely hF hR
        clear hR
        have hc1 := below_cell hF.below HC1.out
        have hc2 := below_cell hF.below HC2.out
        go_simp
        refine hC _ _ ?_
        clear hC C
        try walk_nrm
        clear hc1 hc2
        refine opsN_k KK rfl (by rfl) (by rfl) ?_
        intro _ hR C hC
        replace hF := EXS.rely hF hR
        clear hR
        go_simp
        refine hC _ _ ?_
        clear hC C
        try walk_nrm
        rename_i Vgo
        have l_go := Go.Lib.hid hF.below.size
        have ga_go := Go.Lib.hid (hF.lt (ga, _) (List.Mem.tail _ (List.Mem.head _)))
        have gb_go := Go.Lib.hid (hF.lt (gb, _) (List.Mem.head _))
        replace hF := hF.alloc (Obj.cells #[.int .i64 0, .slice none 0 0] 32) (boxed_of (by decide) (by decide) (by decide))
        generalize Vgo.alloc (Obj.cells #[.int .i64 0, .slice none 0 0] 32) = Wgo at *
        generalize Vgo.heap.size = go at *
        refine opsN_k KK rfl (by rfl) (by rfl) ?_
        intro w1 hR C hC
        replace hF := EXS.rely hF hR
        clear hR
        have fz : ∀ i, w1.frozen? ⟨go, i, none⟩ = false := fun i => heap_frozen (hF.at_ (go, _) (List.Mem.head _)).1 i
        have hz0 := hF.cell (g := go) (i := 0) (cs := #[.int .i64 0, .slice none 0 0]) (t := 32) (List.Mem.head _) rfl
        have hz1 := hF.cell (g := go) (i := 1) (cs := #[.int .i64 0, .slice none 0 0]) (t := 32) (List.Mem.head _) rfl
        go_simp
        try (unfold stored; go_simp)
        have hd : ∀ p ∈ ([(gb, Obj.cells #[.pointer (some ⟨tp 0, 0, none⟩), .pointer (some ⟨tp 1, 0, none⟩), .pointer none] 29 (0, 0)), (ga, Obj.cells #[.pointer (some ⟨sp 0, 0, none⟩), .pointer (some ⟨sp 1, 0, none⟩), .pointer none] 26 (0, 0))] : List (Nat × Obj)), p.1 < go := by
          simp only [List.forall_mem_cons]
          exact ⟨gb_go.out, ga_go.out, fun _ h => absurd h (List.not_mem_nil)⟩
        replace hF := (hF.set 0 (.int .i64 on) rfl l_go.out hd).set 1 (.slice A1 lb.length c1) rfl l_go.out hd
        simp only [List.setIfInBounds_toArray, List.set_cons_zero, List.set_cons_succ] at hF
        refine hC _ _ ?_
        clear hC C hd fz hz0 hz1
        generalize (w1.setCell ⟨go, 0, none⟩ (.int .i64 on)).setCell ⟨go, 1, none⟩ (.slice A1 lb.length c1) = Ugo at *
        try walk_nrm
        refine opsM_nil KK ?_
        try simp only [thenM, Exit.inBlock, if_true, if_false, reduceIte, Nat.reduceEqDiff]
        obtain ⟨m2, hm2⟩ : ∃ m2, m2 = m + lb.length := ⟨_, rfl⟩
        have wm : IntKind.i64.wrap ((m : Int) + (lb.length : Int)) = (m2 : Int) := by rw [IntKind.wrap_i64]; omega
        have HM2 := Go.Lib.hid hm2
        clear hm2
        refine wpM_seq KK ?_
        refine wpM_region KK ?_
        simp only [List.size_toArray, List.length_cons, List.length_nil, Nat.reduceAdd, Nat.zero_add, List.range, List.range.loop]
        refine opsN_k KK rfl (by rfl) (by rfl) ?_
        intro _ hR C hC
        replace hF := EXS.rely hF hR
        clear hR
        go_simp
        refine hC _ _ ?_
        clear hC C
        try walk_nrm
        refine opsN_k KK rfl (by rfl) (by rfl) ?_
        intro _ hR C hC
        replace hF := EXS.rely hF hR
        clear hR
        go_simp
        refine hC _ _ ?_
        clear hC C
        try walk_nrm
        refine opsN_k KK rfl (by rfl) (by rfl) ?_
        intro _ hR C hC
        replace hF := EXS.rely hF hR
        clear hR
        have hc := hF.cell (g := go) (i := 1) (cs := #[.int .i64 on, .slice A1 lb.length c1]) (t := 32) (List.Mem.head _) rfl
        go_simp
        refine hC _ _ ?_
        clear hC C
        try walk_nrm
        clear hc
        refine opsN_k KK rfl (by rfl) (by rfl) ?_
        intro _ hR C hC
        replace hF := EXS.rely hF hR
        clear hR
        go_simp
        refine hC _ _ ?_
        clear hC C
        try walk_nrm
        refine opsN_k KK rfl (by rfl) (by rfl) ?_
        intro _ hR C hC
        replace hF := EXS.rely hF hR
        clear hR
        go_simp
        refine hC _ _ ?_
        clear hC C
        try walk_nrm
        refine opsN_k KK rfl (by rfl) (by rfl) ?_
        intro _ hR C hC
        replace hF := EXS.rely hF hR
        clear hR
        go_simp
        refine hC _ _ ?_
        clear hC C
        try walk_nrm
        refine opsM_nil KK ?_
        try simp only [thenM, Exit.inBlock, if_true, if_false, reduceIte, Nat.reduceEqDiff]
        refine wpM_seq KK ?_
        refine wpM_seq KK ?_
        refine wpM_region KK ?_
        simp only [List.size_toArray, List.length_cons, List.length_nil, Nat.reduceAdd, Nat.zero_add, List.range, List.range.loop]
        refine opsN_k KK rfl (by rfl) (by rfl) ?_
        intro _ hR C hC
        replace hF := EXS.rely hF hR
        clear hR
        go_simp
        refine hC _ _ ?_
        clear hC C
        try walk_nrm
        by_cases hbig : 16777216 < m2
        · have e2 : decide ((16777216 : Int) < (m2 : Int)) = true := decide_eq_true (by omega)
          refine opsN_k KK rfl (by rfl) (by rfl) ?_
          intro _ hR C hC
          replace hF := EXS.rely hF hR
          clear hR
          go_simp
          refine hC _ _ ?_
          clear hC C
          try walk_nrm
          refine opsM_nil KK ?_
          try simp only [thenM, Exit.inBlock, if_true, if_false, reduceIte, Nat.reduceEqDiff]
          refine wpM_cond KK rfl ?_
          first | simp only [if_true, if_false, reduceIte, Bool.false_eq_true] | fail "COND"
          refine wpM_seq KK ?_
          refine wpM_region KK ?_
          simp only [List.size_toArray, List.length_cons, List.length_nil, Nat.reduceAdd, Nat.zero_add, List.range, List.range.loop]
          refine opsN_k KK rfl (by rfl) (by rfl) ?_
          intro _ hR C hC
          replace hF := EXS.rely hF hR
          clear hR
          go_simp
          refine hC _ _ ?_
          clear hC C
          try walk_nrm
          refine opsM_nil KK ?_
          try simp only [thenM, Exit.inBlock, if_true, if_false, reduceIte, Nat.reduceEqDiff]
          refine wpM_ret KK ?_
          try simp only [thenM, Exit.inBlock, if_true, if_false, reduceIte, Nat.reduceEqDiff]
          exact ⟨rfl, .bool true, resultsC_tmp (t := 2) (by rfl) _, rfl, fun d => hpost _ (EXS.rely hF ⟨d, rfl⟩).below⟩
        have e2 : decide ((16777216 : Int) < (m2 : Int)) = false := decide_eq_false (by omega)
        refine opsN_k KK rfl (by rfl) (by rfl) ?_
        intro _ hR C hC
        replace hF := EXS.rely hF hR
        clear hR
        go_simp
        refine hC _ _ ?_
        clear hC C
        try walk_nrm
        refine opsM_nil KK ?_
        try simp only [thenM, Exit.inBlock, if_true, if_false, reduceIte, Nat.reduceEqDiff]
        refine wpM_cond KK rfl ?_
        first | simp only [if_true, if_false, reduceIte, Bool.false_eq_true] | fail "COND"
        refine wpM_skip KK ?_
        try simp only [thenM, Exit.inBlock, if_true, if_false, reduceIte, Nat.reduceEqDiff]
        have hp0 : (0 : Int) ≤ (pl3 on : Int) := Int.natCast_nonneg _
        have hp3 : (pl3 on : Int) < 3 := by have := pl3_lt on; omega
        by_cases hj : pl3 on < 2
        · have ha1 : (#[.pointer (some ⟨sp 0, 0, none⟩), .pointer (some ⟨sp 1, 0, none⟩), .pointer none] : Array Value)[pl3 on]? = some (.pointer (some ⟨sp (pl3 on), 0, none⟩)) := by rcases (show pl3 on = 0 ∨ pl3 on = 1 by omega) with e | e <;> rw [e] <;> rfl
          have ha2 : (#[.pointer (some ⟨tp 0, 0, none⟩), .pointer (some ⟨tp 1, 0, none⟩), .pointer none] : Array Value)[pl3 on]? = some (.pointer (some ⟨tp (pl3 on), 0, none⟩)) := by rcases (show pl3 on = 0 ∨ pl3 on = 1 by omega) with e | e <;> rw [e] <;> rfl
          refine wpM_seq KK ?_
          refine wpM_region KK ?_
          simp only [List.size_toArray, List.length_cons, List.length_nil, Nat.reduceAdd, Nat.zero_add, List.range, List.range.loop]
          refine opsN_k KK rfl (by rfl) (by rfl) ?_
          intro _ hR C hC
          replace hF := EXS.rely hF hR
          clear hR
          go_simp
          refine hC _ _ ?_
          clear hC C
          try walk_nrm
          refine opsN_k KK rfl (by rfl) (by rfl) ?_
          intro _ hR C hC
          replace hF := EXS.rely hF hR
          clear hR
          have hc := hF.cell (g := go) (i := 0) (cs := #[.int .i64 on, .slice A1 lb.length c1]) (t := 32) (List.Mem.head _) rfl
          go_simp
          refine hC _ _ ?_
          clear hC C
          try walk_nrm
          clear hc
          refine opsM_fcall KK (vals := #[.int .i64 on]) rfl (by rfl) rfl Try.func10 (by rfl) rfl (by simp [Act.eval]) ?_
          refine callM_mono (place_m on _) ?_
          rintro γ x w ⟨rfl, rfl, hd⟩
          replace hF := EXS.rely hF hd
          clear hd
          try walk_nrm
          refine opsN_k KK rfl (by rfl) (by rfl) ?_
          intro _ hR C hC
          replace hF := EXS.rely hF hR
          clear hR
          go_simp
          refine hC _ _ ?_
          clear hC C
          try walk_nrm
          refine opsN_k KK rfl (by rfl) (by rfl) ?_
          intro _ hR C hC
          replace hF := EXS.rely hF hR
          clear hR
          have hc := hF.cell (g := ga) (i := pl3 on) (cs := #[.pointer (some ⟨sp 0, 0, none⟩), .pointer (some ⟨sp 1, 0, none⟩), .pointer none]) (t := 26) (List.Mem.tail _ (List.Mem.tail _ (List.Mem.head _))) ha1
          go_simp
          refine hC _ _ ?_
          clear hC C
          try walk_nrm
          clear hc
          refine opsN_k KK rfl (by rfl) (by rfl) ?_
          intro _ hR C hC
          replace hF := EXS.rely hF hR
          clear hR
          go_simp
          refine hC _ _ ?_
          clear hC C
          try walk_nrm
          refine opsM_nil KK ?_
          try simp only [thenM, Exit.inBlock, if_true, if_false, reduceIte, Nat.reduceEqDiff]
          refine wpM_seq KK ?_
          refine wpM_region KK ?_
          simp only [List.size_toArray, List.length_cons, List.length_nil, Nat.reduceAdd, Nat.zero_add, List.range, List.range.loop]
          refine opsN_k KK rfl (by rfl) (by rfl) ?_
          intro _ hR C hC
          replace hF := EXS.rely hF hR
          clear hR
          go_simp
          refine hC _ _ ?_
          clear hC C
          try walk_nrm
          refine opsN_k KK rfl (by rfl) (by rfl) ?_
          intro _ hR C hC
          replace hF := EXS.rely hF hR
          clear hR
          have hc := hF.cell (g := go) (i := 0) (cs := #[.int .i64 on, .slice A1 lb.length c1]) (t := 32) (List.Mem.head _) rfl
          go_simp
          refine hC _ _ ?_
          clear hC C
          try walk_nrm
          clear hc
          refine opsM_fcall KK (vals := #[.int .i64 on]) rfl (by rfl) rfl Try.func10 (by rfl) rfl (by simp [Act.eval]) ?_
          refine callM_mono (place_m on _) ?_
          rintro γ x w ⟨rfl, rfl, hd⟩
          replace hF := EXS.rely hF hd
          clear hd
          try walk_nrm
          refine opsN_k KK rfl (by rfl) (by rfl) ?_
          intro _ hR C hC
          replace hF := EXS.rely hF hR
          clear hR
          go_simp
          refine hC _ _ ?_
          clear hC C
          try walk_nrm
          refine opsN_k KK rfl (by rfl) (by rfl) ?_
          intro _ hR C hC
          replace hF := EXS.rely hF hR
          clear hR
          have hc := hF.cell (g := gb) (i := pl3 on) (cs := #[.pointer (some ⟨tp 0, 0, none⟩), .pointer (some ⟨tp 1, 0, none⟩), .pointer none]) (t := 29) (List.Mem.tail _ (List.Mem.head _)) ha2
          go_simp
          refine hC _ _ ?_
          clear hC C
          try walk_nrm
          clear hc
          refine opsN_k KK rfl (by rfl) (by rfl) ?_
          intro _ hR C hC
          replace hF := EXS.rely hF hR
          clear hR
          go_simp
          refine hC _ _ ?_
          clear hC C
          try walk_nrm
          refine opsM_nil KK ?_
          try simp only [thenM, Exit.inBlock, if_true, if_false, reduceIte, Nat.reduceEqDiff]
          generalize pl3 on = j at *
          refine wpM_seq KK ?_
          refine wpM_region KK ?_
          simp only [List.size_toArray, List.length_cons, List.length_nil, Nat.reduceAdd, Nat.zero_add, List.range, List.range.loop]
          refine opsN_k KK rfl (by rfl) (by rfl) ?_
          intro _ hR C hC
          replace hF := EXS.rely hF hR
          clear hR
          go_simp
          refine hC _ _ ?_
          clear hC C
          try walk_nrm
          refine opsN_k KK rfl (by rfl) (by rfl) ?_
          intro _ hR C hC
          replace hF := EXS.rely hF hR
          clear hR
          go_simp
          refine hC _ _ ?_
          clear hC C
          try walk_nrm
          refine opsN_k KK rfl (by rfl) (by rfl) ?_
          intro _ hR C hC
          replace hF := EXS.rely hF hR
          clear hR
          have hc := hF.cell (g := go) (i := 1) (cs := #[.int .i64 on, .slice A1 lb.length c1]) (t := 32) (List.Mem.head _) rfl
          go_simp
          refine hC _ _ ?_
          clear hC C
          try walk_nrm
          clear hc
          refine opsM_fcall KK (vals := #[.pointer (some ⟨sp j, 0, none⟩), .slice A1 lb.length c1]) rfl (by rfl) rfl Try.func11 (by rfl) rfl (by simp [Act.eval]) ?_
          refine callM_mono (feed_w2 A1 c1 lb _ (hF.spl j hj) hF.below.size (cells_below hF.below HR.out) HCC.out (by have := HB.out j hj; have := HM2.out; omega)) ?_
          rintro γ r w ⟨rfl, hfed⟩
          obtain ⟨PA, pc, ps, h', b', v', rfl, heq, hF⟩ := hF.fed hj hfed
          have HQ := Go.Lib.hid heq
          clear hfed heq
          try walk_nrm
          refine opsN_k KK rfl (by rfl) (by rfl) ?_
          intro _ hR C hC
          replace hF := EXP.rely hF hR
          clear hR
          go_simp
          refine hC _ _ ?_
          clear hC C
          try walk_nrm
          refine opsN_k KK rfl (by rfl) (by rfl) ?_
          intro _ hR C hC
          replace hF := EXP.rely hF hR
          clear hR
          go_simp
          refine hC _ _ ?_
          clear hC C
          try walk_nrm
          refine opsN_k KK rfl (by rfl) (by rfl) ?_
          intro _ hR C hC
          replace hF := EXP.rely hF hR
          clear hR
          go_simp
          refine hC _ _ ?_
          clear hC C
          try walk_nrm
          refine opsN_k KK rfl (by rfl) (by rfl) ?_
          intro _ hR C hC
          replace hF := EXP.rely hF hR
          clear hR
          go_simp
          refine hC _ _ ?_
          clear hC C
          try walk_nrm
          refine opsN_k KK rfl (by rfl) (by rfl) ?_
          intro _ hR C hC
          replace hF := EXP.rely hF hR
          clear hR
          go_simp
          refine hC _ _ ?_
          clear hC C
          try walk_nrm
          refine opsM_nil KK ?_
          try simp only [thenM, Exit.inBlock, if_true, if_false, reduceIte, Nat.reduceEqDiff]
          refine wpM_seq KK ?_
          refine wpM_region KK ?_
          simp only [List.size_toArray, List.length_cons, List.length_nil, Nat.reduceAdd, Nat.zero_add, List.range, List.range.loop]
          refine opsN_k KK rfl (by rfl) (by rfl) ?_
          intro _ hR C hC
          replace hF := EXP.rely hF hR
          clear hR
          go_simp
          refine hC _ _ ?_
          clear hC C
          try walk_nrm
          refine opsN_k KK rfl (by rfl) (by rfl) ?_
          intro _ hR C hC
          replace hF := EXP.rely hF hR
          clear hR
          go_simp
          refine hC _ _ ?_
          clear hC C
          try walk_nrm
          refine opsN_k KK rfl (by rfl) (by rfl) ?_
          intro _ hR C hC
          replace hF := EXP.rely hF hR
          clear hR
          have hc := hF.hx.cell (g := go) (i := 1) (cs := #[.int .i64 on, .slice A1 lb.length c1]) (t := 32) (List.Mem.head _) rfl
          go_simp
          refine hC _ _ ?_
          clear hC C
          try walk_nrm
          clear hc
          refine opsM_fcall KK (vals := #[.pointer (some ⟨tp j, 0, none⟩), .slice A1 lb.length c1]) rfl (by rfl) rfl Try.func12 (by rfl) rfl (by simp [Act.eval]) ?_
          refine callM_mono (refFeed_m w0.heap.size (tp j) _ (u j) (h j) (bd j) A1 lb c1 (hF.hx.ref j hj) (hF.hx.whole j hj) (cells_below hF.hx.below HR.out) (cells_low HR.out) (by have := HM2.out; omega)) ?_
          rintro γ r w ⟨rfl, hfed⟩
          obtain ⟨QA, qc, qs, h2, b2, u', rfl, heq, hrb, hra, hF⟩ := hF.rfed hj hfed
          obtain ⟨rfl, rfl, rfl⟩ : ps = qs ∧ h' = h2 ∧ b' = b2 := by simpa using HQ.out.trans heq.symm
          replace hF : EXR w0 sp tp _ _ _ _ _ _ _ PA QA ps _ := ⟨hF, hra, hrb⟩
          clear hfed heq hra hrb
          try walk_nrm
          refine opsN_k KK rfl (by rfl) (by rfl) ?_
          intro _ hR C hC
          replace hF := EXR.rely hF hR
          clear hR
          go_simp
          refine hC _ _ ?_
          clear hC C
          try walk_nrm
          refine opsN_k KK rfl (by rfl) (by rfl) ?_
          intro _ hR C hC
          replace hF := EXR.rely hF hR
          clear hR
          go_simp
          refine hC _ _ ?_
          clear hC C
          try walk_nrm
          refine opsN_k KK rfl (by rfl) (by rfl) ?_
          intro _ hR C hC
          replace hF := EXR.rely hF hR
          clear hR
          go_simp
          refine hC _ _ ?_
          clear hC C
          try walk_nrm
          refine opsN_k KK rfl (by rfl) (by rfl) ?_
          intro _ hR C hC
          replace hF := EXR.rely hF hR
          clear hR
          go_simp
          refine hC _ _ ?_
          clear hC C
          try walk_nrm
          refine opsN_k KK rfl (by rfl) (by rfl) ?_
          intro _ hR C hC
          replace hF := EXR.rely hF hR
          clear hR
          go_simp
          refine hC _ _ ?_
          clear hC C
          try walk_nrm
          refine opsM_nil KK ?_
          try simp only [thenM, Exit.inBlock, if_true, if_false, reduceIte, Nat.reduceEqDiff]
          refine wpM_seq KK ?_
          refine wpM_region KK ?_
          simp only [List.size_toArray, List.length_cons, List.length_nil, Nat.reduceAdd, Nat.zero_add, List.range, List.range.loop]
          refine opsN_k KK rfl (by rfl) (by rfl) ?_
          intro _ hR C hC
          replace hF := EXR.rely hF hR
          clear hR
          go_simp
          refine hC _ _ ?_
          clear hC C
          try walk_nrm
          refine opsN_k KK rfl (by rfl) (by rfl) ?_
          intro _ hR C hC
          replace hF := EXR.rely hF hR
          clear hR
          go_simp
          refine hC _ _ ?_
          clear hC C
          try walk_nrm
          have hpl : ps.length ≤ 9223372036854775807 := by have := fed1_small2 (HB.out j hj) HQ.out; have := HM2.out; omega
          refine opsM_fcall KK (vals := #[.slice PA ps.length pc, .slice QA ps.length qc]) rfl (by rfl) rfl Try.func13 (by rfl) rfl (by simp [Act.eval]) ?_
          refine callM_mono (same_m PA QA pc qc ps ps _ hpl hF.ra hF.rb) ?_
          rintro γ x w ⟨rfl, hv1, hd⟩
          rw [beq_self_eq_true] at hv1
          subst hv1
          have hF := (hF.rely hd).hx
          clear hd
          try walk_nrm
          have nb : (b' != b') = false := by cases b' <;> rfl
          have nl : ((h'.length : Int) != (h'.length : Int)) = false := by simp
          have hsj := hF.spl j hj
          have hrj := hF.ref j hj
          rw [turnAt_same, turnAt_same, turnAt_same] at hsj hrj
          clear hsj hrj
          refine opsN_k KK rfl (by rfl) (by rfl) ?_
          intro _ hR C hC
          replace hF := EXS.rely hF hR
          clear hR
          go_simp
          refine hC _ _ ?_
          clear hC C
          try walk_nrm
          refine opsN_k KK rfl (by rfl) (by rfl) ?_
          intro _ hR C hC
          replace hF := EXS.rely hF hR
          clear hR
          go_simp
          refine hC _ _ ?_
          clear hC C
          try walk_nrm
          refine opsN_k KK rfl (by rfl) (by rfl) ?_
          intro _ hR C hC
          replace hF := EXS.rely hF hR
          clear hR
          go_simp
          refine hC _ _ ?_
          clear hC C
          try walk_nrm
          refine opsN_k KK rfl (by rfl) (by rfl) ?_
          intro _ hR C hC
          replace hF := EXS.rely hF hR
          clear hR
          go_simp
          refine hC _ _ ?_
          clear hC C
          try walk_nrm
          refine opsN_k KK rfl (by rfl) (by rfl) ?_
          intro _ hR C hC
          replace hF := EXS.rely hF hR
          clear hR
          go_simp
          refine hC _ _ ?_
          clear hC C
          try walk_nrm
          refine opsN_k KK rfl (by rfl) (by rfl) ?_
          intro _ hR C hC
          replace hF := EXS.rely hF hR
          clear hR
          go_simp
          refine hC _ _ ?_
          clear hC C
          try walk_nrm
          refine opsN_k KK rfl (by rfl) (by rfl) ?_
          intro _ hR C hC
          replace hF := EXS.rely hF hR
          clear hR
          go_simp
          refine hC _ _ ?_
          clear hC C
          try walk_nrm
          refine opsN_k KK rfl (by rfl) (by rfl) ?_
          intro _ hR C hC
          replace hF := EXS.rely hF hR
          clear hR
          go_simp
          refine hC _ _ ?_
          clear hC C
          try walk_nrm
          have hsj := hF.spl j hj
          rw [turnAt_same, turnAt_same, turnAt_same] at hsj
          refine opsM_fcall KK (vals := #[.pointer (some ⟨sp j, 0, none⟩)]) rfl (by rfl) rfl Try.func14 (by rfl) rfl (by simp [Act.eval]) ?_
          refine callM_mono (waiting_spl _ hsj) ?_
          rintro γ x w ⟨rfl, rfl, hB⟩
          replace hF := hF.next hB
          clear hB hsj
          try walk_nrm
          refine opsN_k KK rfl (by rfl) (by rfl) ?_
          intro _ hR C hC
          replace hF := EXS.rely hF hR
          clear hR
          go_simp
          refine hC _ _ ?_
          clear hC C
          try walk_nrm
          have hsj := hF.ref j hj
          rw [turnAt_same, turnAt_same, turnAt_same] at hsj
          refine opsM_fcall KK (vals := #[.pointer (some ⟨tp j, 0, none⟩)]) rfl (by rfl) rfl Try.func15 (by rfl) rfl (by simp [Act.eval]) ?_
          refine callM_mono (rwaiting_ref _ hsj) ?_
          rintro γ x w ⟨rfl, rfl, hB⟩
          replace hF := hF.next hB
          clear hB hsj
          try walk_nrm
          refine opsN_k KK rfl (by rfl) (by rfl) ?_
          intro _ hR C hC
          replace hF := EXS.rely hF hR
          clear hR
          go_simp
          refine hC _ _ ?_
          clear hC C
          try walk_nrm
          refine opsN_k KK rfl (by rfl) (by rfl) ?_
          intro _ hR C hC
          replace hF := EXS.rely hF hR
          clear hR
          go_simp
          refine hC _ _ ?_
          clear hC C
          try walk_nrm
          refine opsN_k KK rfl (by rfl) (by rfl) ?_
          intro _ hR C hC
          replace hF := EXS.rely hF hR
          clear hR
          go_simp
          refine hC _ _ ?_
          clear hC C
          try walk_nrm
          refine opsN_k KK rfl (by rfl) (by rfl) ?_
          intro _ hR C hC
          replace hF := EXS.rely hF hR
          clear hR
          go_simp
          refine hC _ _ ?_
          clear hC C
          try walk_nrm
          have hsj := hF.spl j hj
          rw [turnAt_same, turnAt_same, turnAt_same] at hsj
          refine opsM_fcall KK (vals := #[.pointer (some ⟨sp j, 0, none⟩)]) rfl (by rfl) rfl Try.func16 (by rfl) rfl (by simp [Act.eval]) ?_
          refine callM_mono (bad_calls _ hsj.blk) ?_
          rintro γ x w ⟨rfl, rfl, hB⟩
          replace hF := hF.next hB
          clear hB hsj
          try walk_nrm
          refine opsN_k KK rfl (by rfl) (by rfl) ?_
          intro _ hR C hC
          replace hF := EXS.rely hF hR
          clear hR
          go_simp
          refine hC _ _ ?_
          clear hC C
          try walk_nrm
          have hsj := hF.ref j hj
          rw [turnAt_same, turnAt_same, turnAt_same] at hsj
          refine opsM_fcall KK (vals := #[.pointer (some ⟨tp j, 0, none⟩)]) rfl (by rfl) rfl Try.func17 (by rfl) rfl (by simp [Act.eval]) ?_
          refine callM_mono (rbad_calls _ hsj.blk) ?_
          rintro γ x w ⟨rfl, rfl, hB⟩
          replace hF := hF.next hB
          clear hB hsj
          try walk_nrm
          refine opsN_k KK rfl (by rfl) (by rfl) ?_
          intro _ hR C hC
          replace hF := EXS.rely hF hR
          clear hR
          go_simp
          refine hC _ _ ?_
          clear hC C
          try walk_nrm
          refine opsN_k KK rfl (by rfl) (by rfl) ?_
          intro _ hR C hC
          replace hF := EXS.rely hF hR
          clear hR
          go_simp
          refine hC _ _ ?_
          clear hC C
          try walk_nrm
          refine opsM_nil KK ?_
          try simp only [thenM, Exit.inBlock, if_true, if_false, reduceIte, Nat.reduceEqDiff]
          refine wpM_cond KK rfl ?_
          first | simp only [if_true, if_false, reduceIte, Bool.false_eq_true] | fail "COND"
          refine wpM_skip KK ?_
          try simp only [thenM, Exit.inBlock, if_true, if_false, reduceIte, Nat.reduceEqDiff]
          have wk : IntKind.i64.wrap ((k : Int) + 1) = ((k + 1 : Nat) : Int) := by rw [IntKind.wrap_i64]; omega
          refine wpM_region KK ?_
          simp only [List.size_toArray, List.length_cons, List.length_nil, Nat.reduceAdd, Nat.zero_add, List.range, List.range.loop]
          refine opsN_k KK rfl (by rfl) (by rfl) ?_
          intro _ hR C hC
          replace hF := EXS.rely hF hR
          clear hR
          go_simp
          refine hC _ _ ?_
          clear hC C
          try walk_nrm
          refine opsN_k KK rfl (by rfl) (by rfl) ?_
          intro _ hR C hC
          replace hF := EXS.rely hF hR
          clear hR
          go_simp
          refine hC _ _ ?_
          clear hC C
          try walk_nrm
          refine opsN_k KK rfl (by rfl) (by rfl) ?_
          intro _ hR C hC
          replace hF := EXS.rely hF hR
          clear hR
          go_simp
          refine hC _ _ ?_
          clear hC C
          try walk_nrm
          refine opsM_nil KK ?_
          try simp only [thenM, Exit.inBlock, if_true, if_false, reduceIte, Nat.reduceEqDiff]
          refine ⟨⟨k + 1, m2, turnAt h j h', turnAt bd j b', turnAt v j v', turnAt u j u', (fun i => (#[undef, _, _, undef, undef, undef, undef, _, _, _, _, _, _, _, _, _, _, _, _, _, _, _, _, _, _, _, _, _, _, _, _, _, _, _, _, _, _, _, _, _, _, _, _, _, _, _, _, _, _, _, _, _, _, _, _, _, _, _, _, _, _, _, _, _, _, _, _, _, _, _, _, _, _, _, _, _, _, _, _, _, _, _, _, _, _, _, _, _, _, _, _, _, _, _] : Array Value).getD i undef), (by first | rfl | trivial), rfl, by omega, (by rw [RowKit.Hid, HT.out, HM2.out, HM.out]), by omega, small_turn HB.out (fed1_len (HB.out j hj) HQ.out), hF.drop (fun p hp => List.Mem.tail _ hp)⟩, ?_⟩
          show os.length - ((k : Int) + 1).toNat < os.length - (k : Int).toNat
          omega
        obtain hj2 : pl3 on = 2 := by have := pl3_lt on; omega
        skip
        refine wpM_seq KK ?_
        refine wpM_region KK ?_
        simp only [List.size_toArray, List.length_cons, List.length_nil, Nat.reduceAdd, Nat.zero_add, List.range, List.range.loop]
        refine opsN_k KK rfl (by rfl) (by rfl) ?_
        intro _ hR C hC
        replace hF := EXS.rely hF hR
        clear hR
        go_simp
        refine hC _ _ ?_
        clear hC C
        try walk_nrm
        refine opsN_k KK rfl (by rfl) (by rfl) ?_
        intro _ hR C hC
        replace hF := EXS.rely hF hR
        clear hR
        have hc := hF.cell (g := go) (i := 0) (cs := #[.int .i64 on, .slice A1 lb.length c1]) (t := 32) (List.Mem.head _) rfl
        go_simp
        refine hC _ _ ?_
        clear hC C
        try walk_nrm
        clear hc
        refine opsM_fcall KK (vals := #[.int .i64 on]) rfl (by rfl) rfl Try.func10 (by rfl) rfl (by simp [Act.eval]) ?_
        refine callM_mono (place_m on _) ?_
        rintro γ x w ⟨rfl, rfl, hd⟩
        replace hF := EXS.rely hF hd
        clear hd
        try walk_nrm
        refine opsN_k KK rfl (by rfl) (by rfl) ?_
        intro _ hR C hC
        replace hF := EXS.rely hF hR
        clear hR
        go_simp
        refine hC _ _ ?_
        clear hC C
        try walk_nrm
        refine opsN_k KK rfl (by rfl) (by rfl) ?_
        intro _ hR C hC
        replace hF := EXS.rely hF hR
        clear hR
        have hc := hF.cell (g := ga) (i := 2) (cs := #[.pointer (some ⟨sp 0, 0, none⟩), .pointer (some ⟨sp 1, 0, none⟩), .pointer none]) (t := 26) (List.Mem.tail _ (List.Mem.tail _ (List.Mem.head _))) rfl
        go_simp
        refine hC _ _ ?_
        clear hC C
        try walk_nrm
        clear hc
        refine opsN_k KK rfl (by rfl) (by rfl) ?_
        intro _ hR C hC
        replace hF := EXS.rely hF hR
        clear hR
        go_simp
        refine hC _ _ ?_
        clear hC C
        try walk_nrm
        refine opsM_nil KK ?_
        try simp only [thenM, Exit.inBlock, if_true, if_false, reduceIte, Nat.reduceEqDiff]
        refine wpM_seq KK ?_
        refine wpM_region KK ?_
        simp only [List.size_toArray, List.length_cons, List.length_nil, Nat.reduceAdd, Nat.zero_add, List.range, List.range.loop]
        refine opsN_k KK rfl (by rfl) (by rfl) ?_
        intro _ hR C hC
        replace hF := EXS.rely hF hR
        clear hR
        go_simp
        refine hC _ _ ?_
        clear hC C
        try walk_nrm
        refine opsN_k KK rfl (by rfl) (by rfl) ?_
        intro _ hR C hC
        replace hF := EXS.rely hF hR
        clear hR
        have hc := hF.cell (g := go) (i := 0) (cs := #[.int .i64 on, .slice A1 lb.length c1]) (t := 32) (List.Mem.head _) rfl
        go_simp
        refine hC _ _ ?_
        clear hC C
        try walk_nrm
        clear hc
        refine opsM_fcall KK (vals := #[.int .i64 on]) rfl (by rfl) rfl Try.func10 (by rfl) rfl (by simp [Act.eval]) ?_
        refine callM_mono (place_m on _) ?_
        rintro γ x w ⟨rfl, rfl, hd⟩
        replace hF := EXS.rely hF hd
        clear hd
        try walk_nrm
        refine opsN_k KK rfl (by rfl) (by rfl) ?_
        intro _ hR C hC
        replace hF := EXS.rely hF hR
        clear hR
        go_simp
        refine hC _ _ ?_
        clear hC C
        try walk_nrm
        refine opsN_k KK rfl (by rfl) (by rfl) ?_
        intro _ hR C hC
        replace hF := EXS.rely hF hR
        clear hR
        have hc := hF.cell (g := gb) (i := 2) (cs := #[.pointer (some ⟨tp 0, 0, none⟩), .pointer (some ⟨tp 1, 0, none⟩), .pointer none]) (t := 29) (List.Mem.tail _ (List.Mem.head _)) rfl
        go_simp
        refine hC _ _ ?_
        clear hC C
        try walk_nrm
        clear hc
        refine opsN_k KK rfl (by rfl) (by rfl) ?_
        intro _ hR C hC
        replace hF := EXS.rely hF hR
        clear hR
        go_simp
        refine hC _ _ ?_
        clear hC C
        try walk_nrm
        refine opsM_nil KK ?_
        try simp only [thenM, Exit.inBlock, if_true, if_false, reduceIte, Nat.reduceEqDiff]
        refine wpM_seq KK ?_
        refine wpM_region KK ?_
        simp only [List.size_toArray, List.length_cons, List.length_nil, Nat.reduceAdd, Nat.zero_add, List.range, List.range.loop]
        refine opsN_k KK rfl (by rfl) (by rfl) ?_
        intro _ hR C hC
        replace hF := EXS.rely hF hR
        clear hR
        go_simp
        refine hC _ _ ?_
        clear hC C
        try walk_nrm
        refine opsN_k KK rfl (by rfl) (by rfl) ?_
        intro _ hR C hC
        replace hF := EXS.rely hF hR
        clear hR
        go_simp
        refine hC _ _ ?_
        clear hC C
        try walk_nrm
        refine opsN_k KK rfl (by rfl) (by rfl) ?_
        intro _ hR C hC
        replace hF := EXS.rely hF hR
        clear hR
        have hc := hF.cell (g := go) (i := 1) (cs := #[.int .i64 on, .slice A1 lb.length c1]) (t := 32) (List.Mem.head _) rfl
        go_simp
        refine hC _ _ ?_
        clear hC C
        try walk_nrm
        clear hc
        refine opsM_fcall KK (vals := #[.pointer none, .slice A1 lb.length c1]) rfl (by rfl) rfl Try.func11 (by rfl) rfl (by simp [Act.eval]) ?_
        refine callM_mono (feed_nil _ _) ?_
        rintro γ r w ⟨rfl, rfl, hB⟩
        replace hF := hF.next hB
        clear hB
        try walk_nrm
        refine opsN_k KK rfl (by rfl) (by rfl) ?_
        intro _ hR C hC
        replace hF := EXS.rely hF hR
        clear hR
        go_simp
        refine hC _ _ ?_
        clear hC C
        try walk_nrm
        refine opsN_k KK rfl (by rfl) (by rfl) ?_
        intro _ hR C hC
        replace hF := EXS.rely hF hR
        clear hR
        go_simp
        refine hC _ _ ?_
        clear hC C
        try walk_nrm
        refine opsN_k KK rfl (by rfl) (by rfl) ?_
        intro _ hR C hC
        replace hF := EXS.rely hF hR
        clear hR
        go_simp
        refine hC _ _ ?_
        clear hC C
        try walk_nrm
        refine opsN_k KK rfl (by rfl) (by rfl) ?_
        intro _ hR C hC
        replace hF := EXS.rely hF hR
        clear hR
        go_simp
        refine hC _ _ ?_
        clear hC C
        try walk_nrm
        refine opsN_k KK rfl (by rfl) (by rfl) ?_
        intro _ hR C hC
        replace hF := EXS.rely hF hR
        clear hR
        go_simp
        refine hC _ _ ?_
        clear hC C
        try walk_nrm
        refine opsM_nil KK ?_
        try simp only [thenM, Exit.inBlock, if_true, if_false, reduceIte, Nat.reduceEqDiff]
        refine wpM_seq KK ?_
        refine wpM_region KK ?_
        simp only [List.size_toArray, List.length_cons, List.length_nil, Nat.reduceAdd, Nat.zero_add, List.range, List.range.loop]
        refine opsN_k KK rfl (by rfl) (by rfl) ?_
        intro _ hR C hC
        replace hF := EXS.rely hF hR
        clear hR
        go_simp
        refine hC _ _ ?_
        clear hC C
        try walk_nrm
        refine opsN_k KK rfl (by rfl) (by rfl) ?_
        intro _ hR C hC
        replace hF := EXS.rely hF hR
        clear hR
        go_simp
        refine hC _ _ ?_
        clear hC C
        try walk_nrm
        refine opsN_k KK rfl (by rfl) (by rfl) ?_
        intro _ hR C hC
        replace hF := EXS.rely hF hR
        clear hR
        have hc := hF.cell (g := go) (i := 1) (cs := #[.int .i64 on, .slice A1 lb.length c1]) (t := 32) (List.Mem.head _) rfl
        go_simp
        refine hC _ _ ?_
        clear hC C
        try walk_nrm
        clear hc
        refine opsM_fcall KK (vals := #[.pointer none, .slice A1 lb.length c1]) rfl (by rfl) rfl Try.func12 (by rfl) rfl (by simp [Act.eval]) ?_
        refine callM_mono (rfeed_nil _ _) ?_
        rintro γ r w ⟨rfl, rfl, hB⟩
        replace hF := hF.next hB
        clear hB
        try walk_nrm
        refine opsN_k KK rfl (by rfl) (by rfl) ?_
        intro _ hR C hC
        replace hF := EXS.rely hF hR
        clear hR
        go_simp
        refine hC _ _ ?_
        clear hC C
        try walk_nrm
        refine opsN_k KK rfl (by rfl) (by rfl) ?_
        intro _ hR C hC
        replace hF := EXS.rely hF hR
        clear hR
        go_simp
        refine hC _ _ ?_
        clear hC C
        try walk_nrm
        refine opsN_k KK rfl (by rfl) (by rfl) ?_
        intro _ hR C hC
        replace hF := EXS.rely hF hR
        clear hR
        go_simp
        refine hC _ _ ?_
        clear hC C
        try walk_nrm
        refine opsN_k KK rfl (by rfl) (by rfl) ?_
        intro _ hR C hC
        replace hF := EXS.rely hF hR
        clear hR
        go_simp
        refine hC _ _ ?_
        clear hC C
        try walk_nrm
        refine opsN_k KK rfl (by rfl) (by rfl) ?_
        intro _ hR C hC
        replace hF := EXS.rely hF hR
        clear hR
        go_simp
        refine hC _ _ ?_
        clear hC C
        try walk_nrm
        refine opsM_nil KK ?_
        try simp only [thenM, Exit.inBlock, if_true, if_false, reduceIte, Nat.reduceEqDiff]
        refine wpM_seq KK ?_
        refine wpM_region KK ?_
        simp only [List.size_toArray, List.length_cons, List.length_nil, Nat.reduceAdd, Nat.zero_add, List.range, List.range.loop]
        refine opsN_k KK rfl (by rfl) (by rfl) ?_
        intro _ hR C hC
        replace hF := EXS.rely hF hR
        clear hR
        go_simp
        refine hC _ _ ?_
        clear hC C
        try walk_nrm
        refine opsN_k KK rfl (by rfl) (by rfl) ?_
        intro _ hR C hC
        replace hF := EXS.rely hF hR
        clear hR
        go_simp
        refine hC _ _ ?_
        clear hC C
        try walk_nrm
        refine opsM_fcall KK (vals := #[.slice none 0 0, .slice none 0 0]) rfl (by rfl) rfl Try.func13 (by rfl) rfl (by simp [Act.eval]) ?_
        refine callM_mono (same_m none none 0 0 [] [] _ (by decide) (rowsB_nil _) (rowsB_nil _)) ?_
        rintro γ x w ⟨rfl, hv1, hd⟩
        rw [beq_self_eq_true] at hv1
        subst hv1
        replace hF := hF.rely hd
        clear hd
        try walk_nrm
        refine opsN_k KK rfl (by rfl) (by rfl) ?_
        intro _ hR C hC
        replace hF := EXS.rely hF hR
        clear hR
        go_simp
        refine hC _ _ ?_
        clear hC C
        try walk_nrm
        refine opsN_k KK rfl (by rfl) (by rfl) ?_
        intro _ hR C hC
        replace hF := EXS.rely hF hR
        clear hR
        go_simp
        refine hC _ _ ?_
        clear hC C
        try walk_nrm
        refine opsN_k KK rfl (by rfl) (by rfl) ?_
        intro _ hR C hC
        replace hF := EXS.rely hF hR
        clear hR
        go_simp
        refine hC _ _ ?_
        clear hC C
        try walk_nrm
        refine opsN_k KK rfl (by rfl) (by rfl) ?_
        intro _ hR C hC
        replace hF := EXS.rely hF hR
        clear hR
        go_simp
        refine hC _ _ ?_
        clear hC C
        try walk_nrm
        refine opsN_k KK rfl (by rfl) (by rfl) ?_
        intro _ hR C hC
        replace hF := EXS.rely hF hR
        clear hR
        go_simp
        refine hC _ _ ?_
        clear hC C
        try walk_nrm
        refine opsN_k KK rfl (by rfl) (by rfl) ?_
        intro _ hR C hC
        replace hF := EXS.rely hF hR
        clear hR
        go_simp
        refine hC _ _ ?_
        clear hC C
        try walk_nrm
        refine opsN_k KK rfl (by rfl) (by rfl) ?_
        intro _ hR C hC
        replace hF := EXS.rely hF hR
        clear hR
        go_simp
        refine hC _ _ ?_
        clear hC C
        try walk_nrm
        refine opsN_k KK rfl (by rfl) (by rfl) ?_
        intro _ hR C hC
        replace hF := EXS.rely hF hR
        clear hR
        go_simp
        refine hC _ _ ?_
        clear hC C
        try walk_nrm
        refine opsM_fcall KK (vals := #[.pointer none]) rfl (by rfl) rfl Try.func14 (by rfl) rfl (by simp [Act.eval]) ?_
        refine callM_mono (waiting_nil _) ?_
        rintro γ x w ⟨rfl, rfl, hB⟩
        replace hF := hF.next hB
        clear hB
        try walk_nrm
        refine opsN_k KK rfl (by rfl) (by rfl) ?_
        intro _ hR C hC
        replace hF := EXS.rely hF hR
        clear hR
        go_simp
        refine hC _ _ ?_
        clear hC C
        try walk_nrm
        refine opsM_fcall KK (vals := #[.pointer none]) rfl (by rfl) rfl Try.func15 (by rfl) rfl (by simp [Act.eval]) ?_
        refine callM_mono (rwaiting_nil _) ?_
        rintro γ x w ⟨rfl, rfl, hB⟩
        replace hF := hF.next hB
        clear hB
        try walk_nrm
        refine opsN_k KK rfl (by rfl) (by rfl) ?_
        intro _ hR C hC
        replace hF := EXS.rely hF hR
        clear hR
        go_simp
        refine hC _ _ ?_
        clear hC C
        try walk_nrm
        refine opsN_k KK rfl (by rfl) (by rfl) ?_
        intro _ hR C hC
        replace hF := EXS.rely hF hR
        clear hR
        go_simp
        refine hC _ _ ?_
        clear hC C
        try walk_nrm
        refine opsN_k KK rfl (by rfl) (by rfl) ?_
        intro _ hR C hC
        replace hF := EXS.rely hF hR
        clear hR
        go_simp
        refine hC _ _ ?_
        clear hC C
        try walk_nrm
        refine opsN_k KK rfl (by rfl) (by rfl) ?_
        intro _ hR C hC
        replace hF := EXS.rely hF hR
        clear hR
        go_simp
        refine hC _ _ ?_
        clear hC C
        try walk_nrm
        refine opsM_fcall KK (vals := #[.pointer none]) rfl (by rfl) rfl Try.func16 (by rfl) rfl (by simp [Act.eval]) ?_
        refine callM_mono (bad_nil _) ?_
        rintro γ x w ⟨rfl, rfl, hB⟩
        replace hF := hF.next hB
        clear hB
        try walk_nrm
        refine opsN_k KK rfl (by rfl) (by rfl) ?_
        intro _ hR C hC
        replace hF := EXS.rely hF hR
        clear hR
        go_simp
        refine hC _ _ ?_
        clear hC C
        try walk_nrm
        refine opsM_fcall KK (vals := #[.pointer none]) rfl (by rfl) rfl Try.func17 (by rfl) rfl (by simp [Act.eval]) ?_
        refine callM_mono (rbad_nil _) ?_
        rintro γ x w ⟨rfl, rfl, hB⟩
        replace hF := hF.next hB
        clear hB
        try walk_nrm
        refine opsN_k KK rfl (by rfl) (by rfl) ?_
        intro _ hR C hC
        replace hF := EXS.rely hF hR
        clear hR
        go_simp
        refine hC _ _ ?_
        clear hC C
        try walk_nrm
        refine opsN_k KK rfl (by rfl) (by rfl) ?_
        intro _ hR C hC
        replace hF := EXS.rely hF hR
        clear hR
        go_simp
        refine hC _ _ ?_
        clear hC C
        try walk_nrm
        refine opsM_nil KK ?_
        try simp only [thenM, Exit.inBlock, if_true, if_false, reduceIte, Nat.reduceEqDiff]
        refine wpM_cond KK rfl ?_
        first | simp only [if_true, if_false, reduceIte, Bool.false_eq_true] | fail "COND"
        refine wpM_skip KK ?_
        try simp only [thenM, Exit.inBlock, if_true, if_false, reduceIte, Nat.reduceEqDiff]
        have wk : IntKind.i64.wrap ((k : Int) + 1) = ((k + 1 : Nat) : Int) := by rw [IntKind.wrap_i64]; omega
        refine wpM_region KK ?_
        simp only [List.size_toArray, List.length_cons, List.length_nil, Nat.reduceAdd, Nat.zero_add, List.range, List.range.loop]
        refine opsN_k KK rfl (by rfl) (by rfl) ?_
        intro _ hR C hC
        replace hF := EXS.rely hF hR
        clear hR
        go_simp
        refine hC _ _ ?_
        clear hC C
        try walk_nrm
        refine opsN_k KK rfl (by rfl) (by rfl) ?_
        intro _ hR C hC
        replace hF := EXS.rely hF hR
        clear hR
        go_simp
        refine hC _ _ ?_
        clear hC C
        try walk_nrm
        refine opsN_k KK rfl (by rfl) (by rfl) ?_
        intro _ hR C hC
        replace hF := EXS.rely hF hR
        clear hR
        go_simp
        refine hC _ _ ?_
        clear hC C
        try walk_nrm
        refine opsM_nil KK ?_
        try simp only [thenM, Exit.inBlock, if_true, if_false, reduceIte, Nat.reduceEqDiff]
        refine ⟨⟨k + 1, m2, h, bd, v, u, (fun i => (#[undef, _, _, undef, undef, undef, undef, _, _, _, _, _, _, _, _, _, _, _, _, _, _, _, _, _, _, _, _, _, _, _, _, _, _, _, _, _, _, _, _, _, _, _, _, _, _, _, _, _, _, _, _, _, _, _, _, _, _, _, _, _, _, _, _, _, _, _, _, _, _, _, _, _, _, _, _, _, _, _, _, _, _, _, _, _, _, _, _, _, _, _, _, _, _, _] : Array Value).getD i undef), (by first | rfl | trivial), rfl, by omega, (by rw [RowKit.Hid, HT.out, HM2.out, HM.out]), by omega, HB, hF.drop (fun p hp => List.Mem.tail _ hp)⟩, ?_⟩
        show os.length - ((k : Int) + 1).toNat < os.length - (k : Int).toNat
        omega
      obtain rfl : k = os.length := by omega
      have e1 : decide ((os.length : Int) < (os.length : Int)) = false := decide_eq_false (by omega)
      refine opsN_k KK rfl (by rfl) (by rfl) ?_
      intro _ hR C hC
      replace hF := EXS.rely hF hR
      clear hR
      go_simp
      refine hC _ _ ?_
      clear hC C
      try walk_nrm
      refine opsN_k KK rfl (by rfl) (by rfl) ?_
      intro _ hR C hC
      replace hF := EXS.rely hF hR
      clear hR
      go_simp
      refine hC _ _ ?_
      clear hC C
      try walk_nrm
      refine opsN_k KK rfl (by rfl) (by rfl) ?_
      intro _ hR C hC
      replace hF := EXS.rely hF hR
      clear hR
      go_simp
      refine hC _ _ ?_
      clear hC C
      try walk_nrm
      refine opsN_k KK rfl (by rfl) (by rfl) ?_
      intro _ hR C hC
      replace hF := EXS.rely hF hR
      clear hR
      go_simp
      refine hC _ _ ?_
      clear hC C
      try walk_nrm
      refine opsM_nil KK ?_
      try simp only [thenM, Exit.inBlock, if_true, if_false, reduceIte, Nat.reduceEqDiff]
      refine wpM_cond KK rfl ?_
      first | simp only [if_true, if_false, reduceIte, Bool.false_eq_true] | fail "COND"
      refine wpM_exit KK ?_
      try simp only [thenM, Exit.inBlock, if_true, if_false, reduceIte, Nat.reduceEqDiff]
      refine wpM_seq KK ?_
      refine wpM_region KK ?_
      simp only [List.size_toArray, List.length_cons, List.length_nil, Nat.reduceAdd, Nat.zero_add, List.range, List.range.loop]
      refine opsN_k KK rfl (by rfl) (by rfl) ?_
      intro _ hR C hC
      replace hF := EXS.rely hF hR
      clear hR
      go_simp
      refine hC _ _ ?_
      clear hC C
      try walk_nrm
      refine opsM_nil KK ?_
      try simp only [thenM, Exit.inBlock, if_true, if_false, reduceIte, Nat.reduceEqDiff]
      refine wpM_ret KK ?_
      try simp only [thenM, Exit.inBlock, if_true, if_false, reduceIte, Nat.reduceEqDiff]
      exact ⟨rfl, .bool true, resultsC_tmp (t := 2) (by rfl) _, rfl, fun d => hpost _ (EXS.rely hF ⟨d, rfl⟩).below⟩
end Go.Proofs.Ytngmhkhncimknaa
