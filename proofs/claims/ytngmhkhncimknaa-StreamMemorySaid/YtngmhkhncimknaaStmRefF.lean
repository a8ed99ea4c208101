/- The reference's Feed, walked. -/
import Derived.Test.YtngmhkhncimknaaStmRefP
import Derived.Deep.RegionHeld3
namespace Go.Proofs.Ytngmhkhncimknaa
open Go Go.Conc Go.RowKit
set_option linter.unusedVariables false
set_option linter.unusedSimpArgs false
section
attribute [local go_sem] n8_self beq_n8 bne_n8

theorem lenN_wrap (a b : UInt8) : IntKind.i64.wrap (n8 a + IntKind.i64.wrap (256 * n8 b)) = (lenN a b : Int) := by
  have ha := n8_lt a
  have ha0 := n8_nonneg a
  have hb := n8_lt b
  have hb0 := n8_nonneg b
  rw [IntKind.wrap_i64, IntKind.wrap_i64]
  have : (lenN a b : Int) = n8 a + 256 * n8 b := by simp [lenN, n8]
  rw [this]
  omega

set_option maxRecDepth 100000 in
set_option maxHeartbeats 1600000 in
theorem rlength_calls (A : Option Addr) (c : Nat) (l : List UInt8) (w : World) (hl : 3 ≤ l.length) (hA : Cells w A (Bs l)) :
    Calls Try.prog 24 #[.slice A l.length c] w fun e w' => e = .returned (.int .i64 (lenN (l.getD 1 0) (l.getD 2 0) : Int)) ∧ LoneN w w' := by
  obtain ⟨b, o, rfl, hc⟩ := hA (by rw [Bs_length]; omega)
  have c1 := hc 1 (by rw [Bs_length]; omega)
  have c2 := hc 2 (by rw [Bs_length]; omega)
  have i1 : (1 : Int) < (l.length : Int) := by omega
  have i2 : (2 : Int) < (l.length : Int) := by omega
  have e1 : (Bs l)[1]'(by rw [Bs_length]; omega) = .int .u8 (n8 (l.getD 1 0)) := by simp [Bs, List.getD, List.getElem?_eq_getElem (show 1 < l.length by omega)]
  have e2 : (Bs l)[2]'(by rw [Bs_length]; omega) = .int .u8 (n8 (l.getD 2 0)) := by simp [Bs, List.getD, List.getElem?_eq_getElem (show 2 < l.length by omega)]
  rw [e1] at c1
  rw [e2] at c2
  clear e1 e2 hc hA
  rw [← lenN_wrap]
  generalize l.getD 1 0 = x at *
  generalize l.getD 2 0 = y at *
  have k1 := wrap64_n8 x
  have k2 := wrap64_n8 y
  go_enter Try.func24, Try.ntmps24
  go_wp2
  go_quiet (fail)
  go_wp2
  go_ret
  have hz : wrap64 (n8 x + wrap64 (256 * n8 y)) = IntKind.i64.wrap (n8 x + IntKind.i64.wrap (256 * n8 y)) := by rw [Go.IntWalk.i64_left, Go.IntWalk.i64_left]
  exact ⟨congrArg (fun z => Ending.returned (Value.int .i64 z)) hz, loneN_next (loneN_refl _) _⟩
end
section
attribute [local go_sem] n8_self beq_n8 bne_n8

/-- what the reference's Feed answers, and what it leaves -/
def FedT (n0 tp : Nat) (w : World) (hv : Value) (st : List UInt8 × Bool) (lb : List UInt8) (r : Value) (w' : World) : Prop :=
  ∃ ov us ps h' bad' hv', r = .tuple #[ov, .bool bad'] ∧ (ps, h', bad') = fed1 st lb ∧ (bad' = false → Whole0 h') ∧ RH n0 tp w hv.ownBlock h' bad' hv' ov us ps w'

theorem whole0_len {h : List UInt8} (hw : Whole0 h) : h.length ≤ 258 := by
  rcases hw.2 with h0 | h0
  · rcases frN_zero_or hw.1 with h1 | h1
    · match h, hw, h1 with
      | [], _, _ => simp
      | [_], _, _ => simp
      | [_, _], _, _ => simp
      | x :: a :: b :: r, hw, h1 =>
        have h2 := hw.1
        by_cases hx : x = 165
        · subst hx; simp [frN] at h1
        · simp [frOK, hx] at h2
    · omega
  · rcases frN_zero_or hw.1 with h1 | h1 <;> omega

theorem fed1_more {st : List UInt8 × Bool} {l : List UInt8} {x : UInt8} {ps : List (List UInt8)} {h : List UInt8} (hf : (ps, h, false) = fed1 st l) {qs : List (List UInt8)} {h' : List UInt8} {b : Bool} (hc : cutS (h ++ [x]) = (qs, h', b)) : (ps ++ qs, h', b) = fed1 st (l ++ [x]) := by
  unfold fed1 at hf ⊢
  cases hb : st.2 with
  | true => simp [hb] at hf
  | false =>
    simp only [hb, Bool.false_eq_true, if_false] at hf ⊢
    have := (cutS_append _ (st.1 ++ l) [x] rfl).2 (by rw [← hf])
    rw [← List.append_assoc, this, ← hf, hc]
theorem fed1_bad {st : List UInt8 × Bool} {l m : List UInt8} {ps : List (List UInt8)} {h : List UInt8} (hf : (ps, h, true) = fed1 st l) : (ps, h, true) = fed1 st (l ++ m) := by
  unfold fed1 at hf ⊢
  cases hb : st.2 with
  | true => simpa [hb] using hf
  | false =>
    simp only [hb, Bool.false_eq_true, if_false] at hf ⊢
    have h1 := (cutS_append _ (st.1 ++ l) m rfl).1 (by rw [← hf])
    have h2 := (cutS_sum _ (st.1 ++ l) rfl).2.2.1 (by rw [← hf])
    rw [← List.append_assoc, h1, ← hf] at *
    simp only at h2
    rw [h2]

theorem RefS.row {n0 tp : Nat} {h : List UInt8} {bad : Bool} {A : Option Addr} {n c : Nat} {w : World} (r : RefS n0 tp h bad (.slice A n c) w) : Cells w A (Bs h) := by
  obtain ⟨A', c', e, _, _, hc⟩ := own_slice r.own
  obtain ⟨rfl, _, _⟩ : A = A' ∧ n = (Bs h).length ∧ c = c' := by simpa using e
  exact hc
theorem RH.start {n0 tp : Nat} {w : World} {hv : Value} {h : List UInt8} {bad : Bool} (hR : RefS n0 tp h bad hv w) : RH n0 tp w hv.ownBlock h bad hv (.slice none 0 0) [] [] w :=
  ⟨hR, ⟨rfl, rfl, rfl, Nat.le_refl _, fun _ _ _ _ => rfl⟩, .inl rfl, World.ownsRow_nil _ _ _ 1, payR_nil _ _, heap_lt hR.blk, by have := heap_lt hR.blk; have := hR.ge; omega, fun g o n c h => absurd h (by simp)⟩

theorem RH.low {n0 tp : Nat} {w0 w : World} {hv0 : Value} {h : List UInt8} {bad : Bool} {hv ov : Value} {us : List Value} {ps : List (List UInt8)} (r : RH n0 tp w0 hv0.ownBlock h bad hv ov us ps w) {b i : Nat} {u : Value} (hc : w0.cell? ⟨b, i, none⟩ = some u) (hb : b < n0) (h0 : ∀ g, hv0.ownBlock = some g → n0 ≤ g) : w.cell? ⟨b, i, none⟩ = some u := by
  have hlt := World.block_lt_of_cell? w0 _ hc
  have hne : some b ≠ hv0.ownBlock := fun e => by have := h0 b e.symm; omega
  have := r.save.block b hlt (by have := r.ref.ge; omega) hne
  unfold World.cell? at hc ⊢
  rw [this]
  exact hc

theorem RH.kept {n0 tp : Nat} {w0 w w' : World} {ob : Option Nat} {h : List UInt8} {bad : Bool} {hv ov : Value} {us : List Value} {ps : List (List UInt8)} (r : RH n0 tp w0 ob h bad hv ov us ps w) (hg : w.grownBy w' ov.ownBlock) : w'.heap[tp]? = some (.cells #[hv, .bool bad] 47 (0, 0)) :=
  (hg.block tp (heap_lt r.ref.blk) fun e => absurd (isCells_inj ⟨_, _, r.ref.blk⟩ (own_block r.out e.symm).2.2) (by decide)).trans r.ref.blk
/-- the bytes given away as a payload -/
theorem RH.give {n0 tp : Nat} {w0 w w' : World} {ob : Option Nat} {h : List UInt8} {bad : Bool} {ov v' : Value} {us : List Value} {ps : List (List UInt8)} {g1 N d1 : Nat} (r : RH n0 tp w0 ob h bad (.slice (some ⟨g1, 0, none⟩) N d1) ov us ps w) (hN : N = h.length) (h3 : 3 ≤ N) (hd : N ≤ d1 ∧ d1 ≤ 9223372036854775807)
    (ho : Own w' w0.heap.size 30 v' (us ++ [.slice (some ⟨g1, 3, none⟩) (N - 3) (d1 - 3)])) (hg : w.grownBy w' ov.ownBlock) :
    RH n0 tp w0 ob [] bad (.slice none 0 0) v' (us ++ [.slice (some ⟨g1, 3, none⟩) (N - 3) (d1 - 3)]) (ps ++ [h.drop 3]) (w'.setCell ⟨tp, 0, none⟩ (.slice none 0 0)) := by
  have hov : ∀ {g e}, isCells w g e → e ≠ 30 → some g ≠ ov.ownBlock := fun hc he e => he (isCells_inj hc (own_block r.out e.symm).2.2)
  have htp : isCells w tp 47 := ⟨_, _, r.ref.blk⟩
  have h1 : w'.heap[tp]? = some (.cells #[.slice (some ⟨g1, 0, none⟩) N d1, .bool bad] 47 (0, 0)) := (hg.block tp (lt_of_isCells htp) (hov htp (by decide))).trans r.ref.blk
  have hset : ∀ i, i ≠ tp → (w'.setCell ⟨tp, 0, none⟩ (.slice none 0 0)).heap[i]? = w'.heap[i]? := fun i hi => heap_setCell_other w' ⟨tp, 0, none⟩ i _ hi
  have htp2 : (w'.setCell ⟨tp, 0, none⟩ (.slice none 0 0)).heap[tp]? = some (.cells #[.slice none 0 0, .bool bad] 47 (0, 0)) := by
    have := heap_setCell_same w' tp 0 _ _ (.slice none 0 0) h1
    simpa using this
  have hsz : (w'.setCell ⟨tp, 0, none⟩ (.slice none 0 0)).heap.size = w'.heap.size := by simp
  have hne : ∀ {g e}, isCells w' g e → e ≠ 47 → g ≠ tp := fun hc he e => he (by subst e; exact isCells_inj hc ⟨_, _, h1⟩)
  have hne2 : ∀ {g e}, isCells w g e → e ≠ 47 → g ≠ tp := fun hc he e => he (by subst e; exact isCells_inj hc htp)
  have hkeep : ∀ g, isCells w g 5 → (w'.setCell ⟨tp, 0, none⟩ (.slice none 0 0)).heap[g]? = w.heap[g]? := fun g hc => by
    rw [hset g (hne2 hc (by decide)), hg.block g (lt_of_isCells hc) (hov hc (by decide))]
  refine ⟨⟨htp2, World.ownsRow_nil _ _ _ 1, r.ref.ge⟩, ⟨hg.os.trans r.save.os, hg.tape.trans r.save.tape, hg.output.trans r.save.output, by rw [hsz]; exact Nat.le_trans r.save.size hg.size, fun i a b c => ?_⟩, .inr fun g hg => (by cases hg), ?_, ?_, r.tp, r.base, fun g o n c hm => ?_⟩
  · rw [hset i b, hg.block i (Nat.lt_of_lt_of_le a r.save.size) fun e => ?_]
    · exact r.save.block i a b c
    · have := (own_block r.out e.symm).1
      omega
  · exact own_same ho fun g hb => hset g (hne (own_block ho hb).2.2 (by decide))
  · have hp : isCells w g1 5 := (own_block r.ref.own (g := g1) rfl).2.2
    refine (r.rows.same (x' := none) fun g hc _ => ⟨hkeep g hc, fun e => (by cases e)⟩).snoc ⟨g1, 3, d1 - 3, ?_, ?_, by omega, ?_, fun e => (by cases e), ?_⟩
    · rw [List.length_drop, hN]
    · rw [List.length_drop]; omega
    · obtain ⟨a, b, hc⟩ := hp
      exact ⟨a, b, (hkeep g1 ⟨a, b, hc⟩).trans hc⟩
    · intro h0
      rw [Bs_drop, List.length_drop] at h0
      obtain ⟨b, o, e, hc⟩ := r.ref.row (by omega)
      cases e
      refine ⟨_, _, rfl, fun i hi => ?_⟩
      rw [Bs_drop, List.length_drop] at hi
      have h4 := hc (3 + i) (by omega)
      have h5 : (Bs (h.drop 3))[i]'(by rw [Bs_drop, List.length_drop]; exact hi) = (Bs h)[3 + i]'(by omega) := by simp [Bs]
      rw [h5, ← h4]
      unfold World.cell?
      rw [hkeep g1 hp, Nat.zero_add]
  · rcases List.mem_append.1 hm with hm | hm
    · exact r.src g o n c hm
    · obtain ⟨⟨rfl, _⟩, _⟩ : (g = g1 ∧ o = 3) ∧ n = N - 3 ∧ c = d1 - 3 := by simpa using hm
      rcases r.ob with e | e
      · exact .inl (by rw [← e]; rfl)
      · exact .inr (e _ rfl)

theorem infoRow : (Try.prog.info? 30).map (fun i => (i.zero, i.size, i.bytes)) = some (some (.slice none 0 0), 1, 24) := by kernel_rfl
theorem fed1_small {st : List UInt8 × Bool} {l : List UInt8} {ps : List (List UInt8)} {h : List UInt8} {b : Bool} (hw : st.2 = false → Whole0 st.1) (hf : (ps, h, b) = fed1 st l) : ps.length ≤ 258 + l.length := by
  unfold fed1 at hf
  cases hb : st.2 with
  | true =>
    simp only [hb, if_true] at hf
    obtain ⟨rfl, _⟩ := Prod.mk.inj hf
    simp
  | false =>
    simp only [hb, Bool.false_eq_true, if_false] at hf
    have h1 := cutS_len _ (st.1 ++ l) rfl
    rw [← hf, List.length_append] at h1
    have := whole0_len (hw hb)
    simp only at h1
    omega

set_option maxRecDepth 100000 in
set_option maxHeartbeats 3200000 in
theorem refFeed_calls (n0 tp : Nat) (w : World) (hv : Value) (h : List UInt8) (bad : Bool) (Ab : Option Addr) (lb : List UInt8) (cb : Nat) (hR : RefS n0 tp h bad hv w) (hw : bad = false → Whole0 h)
    (hA : Cells w Ab (Bs lb)) (hlow : 0 < lb.length → ∀ a, Ab = some a → a.block < n0) (hl : lb.length ≤ 16777216) :
    Calls Try.prog 12 #[.pointer (some ⟨tp, 0, none⟩), .slice Ab lb.length cb] w fun e w' => ∃ r, e = .returned r ∧ FedT n0 tp w hv (h, bad) lb r w' := by
  have HR0 := Go.Lib.hid (RH.start hR)
  have HW0 : Hid (bad = false → Whole0 h) := hw
  have HOB : Hid (∀ g, hv.ownBlock = some g → n0 ≤ g) := fun g hg => (own_block hR.own hg).1
  have HA := Go.Lib.hid hA
  have HL := Go.Lib.hid hlow
  clear hR hw hA hlow
  go_enter Try.func12, Try.ntmps12
  go_wp2
  go_loopw [6, 7] (fun ov i wr => ∃ (k : Nat) (ps : List (List UInt8)) (us : List Value) (hk : List UInt8) (bk : Bool) (hvk : Value), k ≤ lb.length ∧ i = .int .i64 (k : Int) ∧ Hid ((ps, hk, bk) = fed1 (h, bad) (lb.take k)) ∧ Hid (bk = false → Whole0 hk) ∧ Hid (RH n0 tp w hv.ownBlock hk bk hvk ov us ps wr)) (fun _ i _ => lb.length - (intOf i).toNat)
  case atStart =>
    refine ⟨0, [], [], h, bad, hv, by omega, rfl, ?_, HW0, HR0⟩
    show ([], h, bad) = fed1 (h, bad) []
    cases bad with
    | true => rfl
    | false =>
      have h1 := HW0.out rfl
      have h2 := cutS_rest h1.1 h1.2
      simp only [fed1, Bool.false_eq_true, if_false, List.append_nil]
      exact (Prod.ext h2.1 h2.2).symm
  case round =>
    obtain ⟨k, ps, us, hk, bk, hvk, hkl, rfl, HF, HW, HR⟩ := hrel
    have c1 : wr.cell? ⟨tp, 1, none⟩ = some (.bool bk) := by rw [cell_of_row wr tp 1 _ _ _ HR.out.ref.blk]; rfl
    by_cases hlt : k < lb.length
    · have hk1 : (k : Int) < (lb.length : Int) := by omega
      cases bk with
      | true =>
        go_wp2
        go_quiet (fail)
        go_wp2
        go_ret2
        refine ⟨_, rfl, _, us, ps, hk, true, hvk, rfl, ?_, (fun h => by cases h), HR.out.next (drewN_below _ _ _)⟩
        have := fed1_bad (m := lb.drop k) HF.out
        rwa [List.take_append_drop] at this
      | false =>
        obtain ⟨b, o, rfl, hc⟩ := HA.out.byte k hlt
        have hb0 : b < n0 := HL.out (by omega) _ rfl
        have hcr : wr.cell? ⟨b, o + k, none⟩ = some (.int .u8 (n8 lb[k])) := HR.out.low hc hb0 HOB.out
        have c0 : wr.cell? ⟨tp, 0, none⟩ = some hvk := by rw [cell_of_row wr tp 0 _ _ _ HR.out.ref.blk]; rfl
        have HB := Go.Lib.hid (byte1 (x := lb[k]) (HW.out rfl))
        have HT := Go.Lib.hid (show lb.take (k + 1) = lb.take k ++ [lb[k]] from (List.take_append_getElem hlt).symm)
        generalize lb[k] = x at *
        obtain ⟨v1, w1, hr, h1, HR1⟩ := HR.out.grow x (by have := whole0_len (HW.out rfl); omega) 30
        obtain ⟨N, hN⟩ : ∃ N, N = (hk ++ [x]).length := ⟨_, rfl⟩
        obtain ⟨g1, d1, rfl, hd1, hd2⟩ : ∃ g1 d1, v1 = .slice (some ⟨g1, 0, none⟩) N d1 ∧ N ≤ d1 ∧ d1 ≤ 9223372036854775807 := by
          rcases HR1.ref.own.2 with ⟨_, h0⟩ | ⟨g, cap, cur, rfl, _, _, h3, h4, _⟩
          · rw [Bs_length] at h0; simp at h0
          · rw [Bs_length, ← hN] at h3 ⊢
            exact ⟨g, cap, rfl, h3, h4⟩
        have hC1 := HR1.ref.row
        have HN := Go.Lib.hid hN
        have HN2 : Hid (N = hk.length + 1) := by rw [RowKit.Hid, hN]; simp
        have HD := Go.Lib.hid (And.intro hd1 hd2)
        clear hN
        have HR2 := Go.Lib.hid HR1
        have HR1' := Go.Lib.hid hr
        have fz := heap_frozen h1 0
        have c1' : w1.cell? ⟨tp, 0, none⟩ = some hvk := by rw [cell_of_row w1 tp 0 _ _ _ h1]; rfl
        have HH1 := Go.Lib.hid h1
        have ce1 : w1.cell? ⟨b, o + k, none⟩ = some (.int .u8 (n8 x)) := by
          have h2 := HR2.out.low hc hb0 HOB.out
          have h3 : tp ≠ b := by have := HR2.out.ref.ge; omega
          unfold World.cell? at h2 ⊢
          rw [heap_setCell_other w1 ⟨tp, 0, none⟩ b _ (Ne.symm h3)] at h2
          exact h2
        have hbw : Below wr.heap.size wr (wr.alloc (Obj.cells #[.int .u8 (n8 x)] 5)).drew := by
          have h1 := (Below.refl wr.heap.size wr).alloc (Nat.le_refl _) (Obj.cells #[.int .u8 (n8 x)] 5)
          exact ⟨h1.os, h1.tape, h1.output, h1.size, h1.block⟩
        have ca0 := below_cell hbw c0
        have ca1 := below_cell hbw hcr
        have hc0 := hc
        clear HR1 hr h1 hc hbw
        go_wp2
        refine wp_region_noPanic ?_
        refine wp_region_held_drew (S := fun w' => w'.cell? ⟨b, o + k, none⟩ = some (.int .u8 (n8 x))) (by kernel_rfl) hcr (fun hHeld => ?_)
        refine' wpAnyH_take (i := 0) (oi := _) (v := _) rfl (by kernel_rfl) (by kernel_rfl) (by kernel_rfl) (fun _ _ _ h => h) (Or.inl ⟨by rfl, ?hy1⟩) (by assumption) ?rest1
        case hy1 => (intro w hSw; (try dsimp only at hSw); go_simp; (try with_reducible rfl))
        try simp only [Act.put, List.setIfInBounds_toArray, List.set_cons_zero, List.set_cons_succ]
        refine' wpAnyH_take (i := 1) (oi := _) (v := _) rfl (by kernel_rfl) (by kernel_rfl) (by kernel_rfl) (fun _ _ _ h => h) (Or.inl ⟨by rfl, ?hy2⟩) (by assumption) ?rest2
        case hy2 => (intro w hSw; (try dsimp only at hSw); go_simp; (try with_reducible rfl))
        try simp only [Act.put, List.setIfInBounds_toArray, List.set_cons_zero, List.set_cons_succ]
        refine' wpAnyH_take (i := 2) (oi := _) (v := _) rfl (by kernel_rfl) (by kernel_rfl) (by kernel_rfl) (fun _ _ _ h => h) (Or.inl ⟨by rfl, ?hy3⟩) (by assumption) ?rest3
        case hy3 => (intro w hSw; (try dsimp only at hSw); go_simp; (try with_reducible rfl))
        try simp only [Act.put, List.setIfInBounds_toArray, List.set_cons_zero, List.set_cons_succ]
        refine' wpAnyH_take (i := 3) (oi := _) (v := _) rfl (by kernel_rfl) (by kernel_rfl) (by kernel_rfl) (fun _ _ _ h => h) (Or.inl ⟨by rfl, ?hy4⟩) (by assumption) ?rest4
        case hy4 => (intro w hSw; (try dsimp only at hSw); go_simp; (try with_reducible rfl))
        try simp only [Act.put, List.setIfInBounds_toArray, List.set_cons_zero, List.set_cons_succ]
        refine' wpAnyH_take (i := 5) (oi := _) (v := _) rfl (by kernel_rfl) (by kernel_rfl) (by kernel_rfl) (fun _ _ _ h => h) (Or.inl ⟨by rfl, ?hy5⟩) (by assumption) ?rest5
        case hy5 => (intro w hSw; (try dsimp only at hSw); go_simp; (try with_reducible rfl))
        try simp only [Act.put, List.setIfInBounds_toArray, List.set_cons_zero, List.set_cons_succ]
        refine' wpAnyH_take (i := 6) (oi := _) (v := _) rfl (by kernel_rfl) (by kernel_rfl) (by kernel_rfl) (fun _ _ _ h => h) (Or.inl ⟨by rfl, ?hy6⟩) (by assumption) ?rest6
        case hy6 => (intro w hSw; (try dsimp only at hSw); go_simp; (try with_reducible rfl))
        try simp only [Act.put, List.setIfInBounds_toArray, List.set_cons_zero, List.set_cons_succ]
        refine' wpAnyH_take (i := 7) (oi := _) (v := _) rfl (by kernel_rfl) (by kernel_rfl) (by kernel_rfl) (fun _ _ _ h => h) (Or.inl ⟨by rfl, ?hy7⟩) (by assumption) ?rest7
        case hy7 => (intro w hSw; (try dsimp only at hSw); go_simp; (try with_reducible rfl))
        try simp only [Act.put, List.setIfInBounds_toArray, List.set_cons_zero, List.set_cons_succ]
        refine' wpAnyH_take (i := 8) (oi := _) (v := _) rfl (by kernel_rfl) (by kernel_rfl) (by kernel_rfl) (fun _ _ _ h => h) (Or.inl ⟨by rfl, ?hy8⟩) (by assumption) ?rest8
        case hy8 => (intro w hSw; (try dsimp only at hSw); go_simp; (try with_reducible rfl))
        try simp only [Act.put, List.setIfInBounds_toArray, List.set_cons_zero, List.set_cons_succ]
        refine wpAnyH_ready (rs := [4, 9]) (by kernel_rfl) (by simp) ?_
        refine AllReadyH.cons rfl (fun K hK => ?_) ?_
        go_simp
        refine hK.out _ _ ?hS9 (fun hHeld => ?_)
        case hS9 => (first | exact hcr | exact ca1 | exact ce1 | exact HR2.out.low hc0 hb0 HOB.out)
        clear hK K
        try simp only [Act.put, List.setIfInBounds_toArray, List.set_cons_zero, List.set_cons_succ]
        refine wpAnyH_ready (rs := [9]) (by kernel_rfl) (by simp) ?_
        refine AllReadyH.cons rfl (fun K hK => ?_) ?_
        go_simp
        refine hK.out _ _ ?hS10 (fun hHeld => ?_)
        case hS10 => (first | exact hcr | exact ca1 | exact ce1 | exact HR2.out.low hc0 hb0 HOB.out)
        clear hK K
        try simp only [Act.put, List.setIfInBounds_toArray, List.set_cons_zero, List.set_cons_succ]
        refine wpAnyH_ready (rs := [10]) (by kernel_rfl) (by simp) ?_
        refine AllReadyH.cons rfl (fun K hK => ?_) ?_
        (refine step_append_eq (v := hvk) (xv := .slice (some ⟨wr.heap.size, 0, none⟩) 1 1) (v' := .slice (some ⟨g1, 0, none⟩) N d1) (w' := w1) rfl (.tmp 28) (.tmp 33) 30 rfl rfl rfl ?hr1 ?_; (case hr1 => exact HR1'.out))
        refine hK.out _ _ ?hS11 (fun hHeld => ?_)
        case hS11 => (first | exact hcr | exact ca1 | exact ce1 | exact HR2.out.low hc0 hb0 HOB.out)
        clear hK K
        try simp only [Act.put, List.setIfInBounds_toArray, List.set_cons_zero, List.set_cons_succ]
        refine' wpAnyH_take (i := 11) (oi := _) (v := _) rfl (by kernel_rfl) (by kernel_rfl) (by kernel_rfl) (fun _ _ _ h => h) (Or.inl ⟨by rfl, ?hy12⟩) (by assumption) ?rest12
        case hy12 => (intro w hSw; (try dsimp only at hSw); go_simp; (try with_reducible rfl))
        try simp only [Act.put, List.setIfInBounds_toArray, List.set_cons_zero, List.set_cons_succ]
        refine' wpAnyH_take (i := 12) (oi := _) (v := _) rfl (by kernel_rfl) (by kernel_rfl) (by kernel_rfl) (fun _ _ _ h => h) (Or.inl ⟨by rfl, ?hy13⟩) (by assumption) ?rest13
        case hy13 => (intro w hSw; (try dsimp only at hSw); go_simp; (try with_reducible rfl))
        try simp only [Act.put, List.setIfInBounds_toArray, List.set_cons_zero, List.set_cons_succ]
        refine wpAnyH_ready (rs := [13]) (by kernel_rfl) (by simp) ?_
        refine AllReadyH.cons rfl (fun K hK => ?_) ?_
        go_simp
        refine hK.out _ _ ?hS14 (fun hHeld => ?_)
        case hS14 => (first | exact hcr | exact ca1 | exact ce1 | exact HR2.out.low hc0 hb0 HOB.out)
        clear hK K
        try simp only [Act.put, List.setIfInBounds_toArray, List.set_cons_zero, List.set_cons_succ]
        refine wpAnyH_done (by kernel_rfl) ?_ _
        refine NoPanic.normal ?_
        rotate_left 1
        exact AllReadyH.nil
        exact AllReadyH.nil
        exact AllReadyH.nil
        refine AllReadyH.cons rfl (fun K hK => ?_) ?_
        go_simp
        refine hK.out _ _ ?hS15 (fun hHeld => ?_)
        case hS15 => (first | exact hcr | exact ca1 | exact ce1 | exact HR2.out.low hc0 hb0 HOB.out)
        clear hK K
        try simp only [Act.put, List.setIfInBounds_toArray, List.set_cons_zero, List.set_cons_succ]
        refine wpAnyH_ready (rs := [4]) (by kernel_rfl) (by simp) ?_
        refine AllReadyH.cons rfl (fun K hK => ?_) ?_
        go_simp
        refine hK.out _ _ ?hS16 (fun hHeld => ?_)
        case hS16 => (first | exact hcr | exact ca1 | exact ce1 | exact HR2.out.low hc0 hb0 HOB.out)
        clear hK K
        try simp only [Act.put, List.setIfInBounds_toArray, List.set_cons_zero, List.set_cons_succ]
        refine wpAnyH_ready (rs := [10]) (by kernel_rfl) (by simp) ?_
        refine AllReadyH.cons rfl (fun K hK => ?_) ?_
        (refine step_append_eq (v := hvk) (xv := .slice (some ⟨wr.heap.size, 0, none⟩) 1 1) (v' := .slice (some ⟨g1, 0, none⟩) N d1) (w' := w1) rfl (.tmp 28) (.tmp 33) 30 rfl rfl rfl ?hr2 ?_; (case hr2 => exact HR1'.out))
        refine hK.out _ _ ?hS17 (fun hHeld => ?_)
        case hS17 => (first | exact hcr | exact ca1 | exact ce1 | exact HR2.out.low hc0 hb0 HOB.out)
        clear hK K
        try simp only [Act.put, List.setIfInBounds_toArray, List.set_cons_zero, List.set_cons_succ]
        refine' wpAnyH_take (i := 11) (oi := _) (v := _) rfl (by kernel_rfl) (by kernel_rfl) (by kernel_rfl) (fun _ _ _ h => h) (Or.inl ⟨by rfl, ?hy18⟩) (by assumption) ?rest18
        case hy18 => (intro w hSw; (try dsimp only at hSw); go_simp; (try with_reducible rfl))
        try simp only [Act.put, List.setIfInBounds_toArray, List.set_cons_zero, List.set_cons_succ]
        refine' wpAnyH_take (i := 12) (oi := _) (v := _) rfl (by kernel_rfl) (by kernel_rfl) (by kernel_rfl) (fun _ _ _ h => h) (Or.inl ⟨by rfl, ?hy19⟩) (by assumption) ?rest19
        case hy19 => (intro w hSw; (try dsimp only at hSw); go_simp; (try with_reducible rfl))
        try simp only [Act.put, List.setIfInBounds_toArray, List.set_cons_zero, List.set_cons_succ]
        refine wpAnyH_ready (rs := [13]) (by kernel_rfl) (by simp) ?_
        refine AllReadyH.cons rfl (fun K hK => ?_) ?_
        go_simp
        refine hK.out _ _ ?hS20 (fun hHeld => ?_)
        case hS20 => (first | exact hcr | exact ca1 | exact ce1 | exact HR2.out.low hc0 hb0 HOB.out)
        clear hK K
        try simp only [Act.put, List.setIfInBounds_toArray, List.set_cons_zero, List.set_cons_succ]
        refine wpAnyH_done (by kernel_rfl) ?_ _
        refine NoPanic.normal ?_
        rotate_left 1
        exact AllReadyH.nil
        exact AllReadyH.nil
        exact AllReadyH.nil
        exact AllReadyH.nil
        all_goals
          generalize hW : w1.setCell ⟨tp, 0, none⟩ (.slice (some ⟨g1, 0, none⟩) N d1) = W2 at *
          have q0 : W2.cell? ⟨tp, 0, none⟩ = some (.slice (some ⟨g1, 0, none⟩) N d1) := by rw [cell_of_row W2 tp 0 _ _ _ HR2.out.ref.blk]; rfl
          have q1 : W2.cell? ⟨tp, 1, none⟩ = some (.bool false) := by rw [cell_of_row W2 tp 1 _ _ _ HR2.out.ref.blk]; rfl
          have qb : W2.cell? ⟨b, o + k, none⟩ = some (.int .u8 (n8 x)) := HR2.out.low hc0 hb0 HOB.out
          have f0 := heap_frozen HR2.out.ref.blk 0
          have f1 := heap_frozen HR2.out.ref.blk 1
          clear hW fz c1' ce1 ca0 ca1 c0 c1 hcr HH1 HR1'
          rcases HB.out with ⟨hl, hx, hc⟩ | ⟨hl, hx, hc⟩ | ⟨hl, hn, hc⟩ | ⟨hl, hn, hc⟩ | ⟨hl, hn, h2, hc⟩ | ⟨hl, hn, h2, hc⟩
          case bad1 =>
            have HF1 := fed1_more HF.out hc
            rw [List.append_nil] at HF1
            have HF2 := Go.Lib.hid HF1
            clear HF1
            have hN1 : N = 1 := by have := HN2.out; rw [hl] at this; simpa using this
            have e1 : ((N : Int) == 1) = true := by first | exact beq_iff_eq.2 (by omega) | exact beq_eq_false_iff_ne.2 (by omega)
            have e3 : ((N : Int) == 3) = false := by first | exact beq_iff_eq.2 (by omega) | exact beq_eq_false_iff_ne.2 (by omega)
            have p3 : ¬ ((3 : Int) < (N : Int)) := by omega
            have ex : (n8 x != 165) = true := by rw [bne, Bool.not_eq_true', beq_eq_false_iff_ne]; intro h0; exact hx (n8_inj h0)
            clear hc hx hl hN1
            go_wp2
            exact ⟨⟨k + 1, _, _, _, _, _, by omega, rfl, (by rw [RowKit.Hid, HT.out]; exact HF2.out), (fun h => by cases h), HR2.out.fault.drop⟩, by simp [intOf]; omega⟩
          case rest =>
            have HF1 := fed1_more HF.out hc
            rw [List.append_nil] at HF1
            have HF2 := Go.Lib.hid HF1
            clear HF1
            have WW : Hid (Whole0 (hk ++ [x])) := by
              have := whole0_rest _ (hk ++ [x]) rfl (by rw [hc])
              rwa [hc] at this
            have p3 : ¬ ((3 : Int) < (N : Int)) := by have := HN2.out; omega
            have e3 : ((N : Int) == 3) = false := by have := HN2.out; first | exact beq_iff_eq.2 (by omega) | exact beq_eq_false_iff_ne.2 (by omega)
            have hN1 := HN2.out
            by_cases h0 : hk = []
            · obtain rfl := hx h0
              have hN2 : N = 1 := by rw [hN1, h0]; rfl
              have e1 : ((N : Int) == 1) = true := by first | exact beq_iff_eq.2 (by omega) | exact beq_eq_false_iff_ne.2 (by omega)
              have ex : (n8 165 != 165) = false := by decide
              clear hc hx hl hN1 h0 hN2
              go_wp2
              exact ⟨⟨k + 1, _, _, _, _, _, by omega, rfl, (by rw [RowKit.Hid, HT.out]; exact HF2.out), (fun _ => WW.out), HR2.out⟩, by simp [intOf]; omega⟩
            · have hN2 : N = 2 := by have : 0 < hk.length := List.length_pos_iff.2 h0; omega
              have e1 : ((N : Int) == 1) = false := by first | exact beq_iff_eq.2 (by omega) | exact beq_eq_false_iff_ne.2 (by omega)
              clear hc hx hl hN1 h0 hN2
              go_wp2
              exact ⟨⟨k + 1, _, _, _, _, _, by omega, rfl, (by rw [RowKit.Hid, HT.out]; exact HF2.out), (fun _ => WW.out), HR2.out⟩, by simp [intOf]; omega⟩
          case bad3 =>
            have HF1 := fed1_more HF.out hc
            rw [List.append_nil] at HF1
            have HF2 := Go.Lib.hid HF1
            clear HF1
            have hc3 : 3 ≤ (hk ++ [x]).length := by simp; omega
            have HL0 : Hid (Calls Try.prog 24 #[.slice (some ⟨g1, 0, none⟩) N d1] W2 fun e w' => e = .returned (.int .i64 (lenN ((hk ++ [x]).getD 1 0) ((hk ++ [x]).getD 2 0) : Int)) ∧ LoneN W2 w') := by
              have := rlength_calls (some ⟨g1, 0, none⟩) d1 (hk ++ [x]) W2 hc3 HR2.out.ref.row
              rwa [← HN.out] at this
            have HLn : Hid (∀ n, Calls Try.prog 24 #[.slice (some ⟨g1, 0, none⟩) N d1] (W2.drewN n) fun e w' => e = .returned (.int .i64 (lenN ((hk ++ [x]).getD 1 0) ((hk ++ [x]).getD 2 0) : Int)) ∧ LoneN (W2.drewN n) w') := fun n => by
              have := rlength_calls (some ⟨g1, 0, none⟩) d1 (hk ++ [x]) (W2.drewN n) hc3 (cells_below (drewN_below _ _ n) HR2.out.ref.row)
              rwa [← HN.out] at this
            generalize hL : lenN ((hk ++ [x]).getD 1 0) ((hk ++ [x]).getD 2 0) = L at *
            clear hL
            have hN3 : N = 3 := by have := HN2.out; omega
            have e1 : ((N : Int) == 1) = false := by first | exact beq_iff_eq.2 (by omega) | exact beq_eq_false_iff_ne.2 (by omega)
            have e3 : ((N : Int) == 3) = true := by first | exact beq_iff_eq.2 (by omega) | exact beq_eq_false_iff_ne.2 (by omega)
            have p3 : ¬ ((3 : Int) < (N : Int)) := by omega
            by_cases h0 : L = 0
            · subst h0
              have z0 : (((0 : Nat) : Int) == 0) = true := rfl
              clear hc hl hN3 hn hc3
              go_wp2_with (go_at_call 24; (first | (with_reducible refine HL0.out.mono ?_) | (with_reducible refine (HLn.out _).mono ?_)); rintro e w7 ⟨rfl, n7, rfl⟩)
              exact ⟨⟨k + 1, _, _, _, _, _, by omega, rfl, (by rw [RowKit.Hid, HT.out]; exact HF2.out), (fun h => by cases h), (HR2.out.next (drewN_below _ _ _)).fault.drop⟩, by simp [intOf]; omega⟩
            · have z0 : ((L : Int) == 0) = false := beq_eq_false_iff_ne.2 (by omega)
              have z1 : (256 : Int) < (L : Int) := by omega
              clear hc hl hN3 hn hc3
              go_wp2_with (go_at_call 24; (first | (with_reducible refine HL0.out.mono ?_) | (with_reducible refine (HLn.out _).mono ?_)); rintro e w7 ⟨rfl, n7, rfl⟩)
              exact ⟨⟨k + 1, _, _, _, _, _, by omega, rfl, (by rw [RowKit.Hid, HT.out]; exact HF2.out), (fun h => by cases h), (HR2.out.next (drewN_below _ _ _)).fault.drop⟩, by simp [intOf]; omega⟩
          case rest3 =>
            have HF1 := fed1_more HF.out hc
            rw [List.append_nil] at HF1
            have HF2 := Go.Lib.hid HF1
            clear HF1
            have WW : Hid (Whole0 (hk ++ [x])) := by
              have := whole0_rest _ (hk ++ [x]) rfl (by rw [hc])
              rwa [hc] at this
            have hc3 : 3 ≤ (hk ++ [x]).length := by simp; omega
            have HL0 : Hid (Calls Try.prog 24 #[.slice (some ⟨g1, 0, none⟩) N d1] W2 fun e w' => e = .returned (.int .i64 (lenN ((hk ++ [x]).getD 1 0) ((hk ++ [x]).getD 2 0) : Int)) ∧ LoneN W2 w') := by
              have := rlength_calls (some ⟨g1, 0, none⟩) d1 (hk ++ [x]) W2 hc3 HR2.out.ref.row
              rwa [← HN.out] at this
            have HLn : Hid (∀ n, Calls Try.prog 24 #[.slice (some ⟨g1, 0, none⟩) N d1] (W2.drewN n) fun e w' => e = .returned (.int .i64 (lenN ((hk ++ [x]).getD 1 0) ((hk ++ [x]).getD 2 0) : Int)) ∧ LoneN (W2.drewN n) w') := fun n => by
              have := rlength_calls (some ⟨g1, 0, none⟩) d1 (hk ++ [x]) (W2.drewN n) hc3 (cells_below (drewN_below _ _ n) HR2.out.ref.row)
              rwa [← HN.out] at this
            generalize hL : lenN ((hk ++ [x]).getD 1 0) ((hk ++ [x]).getD 2 0) = L at *
            clear hL
            have hN3 : N = 3 := by have := HN2.out; omega
            have e1 : ((N : Int) == 1) = false := by first | exact beq_iff_eq.2 (by omega) | exact beq_eq_false_iff_ne.2 (by omega)
            have e3 : ((N : Int) == 3) = true := by first | exact beq_iff_eq.2 (by omega) | exact beq_eq_false_iff_ne.2 (by omega)
            have p3 : ¬ ((3 : Int) < (N : Int)) := by omega
            have z0 : ((L : Int) == 0) = false := beq_eq_false_iff_ne.2 (by omega)
            have z1 : ¬ ((256 : Int) < (L : Int)) := by omega
            clear hc hl hN3 hn hc3
            go_wp2_with (go_at_call 24; (first | (with_reducible refine HL0.out.mono ?_) | (with_reducible refine (HLn.out _).mono ?_)); rintro e w7 ⟨rfl, n7, rfl⟩)
            exact ⟨⟨k + 1, _, _, _, _, _, by omega, rfl, (by rw [RowKit.Hid, HT.out]; exact HF2.out), (fun _ => WW.out), (HR2.out.next (drewN_below _ _ _))⟩, by simp [intOf]; omega⟩
          case more =>
            have HF1 := fed1_more HF.out hc
            rw [List.append_nil] at HF1
            have HF2 := Go.Lib.hid HF1
            clear HF1
            have WW : Hid (Whole0 (hk ++ [x])) := by
              have := whole0_rest _ (hk ++ [x]) rfl (by rw [hc])
              rwa [hc] at this
            have hc3 : 3 ≤ (hk ++ [x]).length := by simp; omega
            have HL0 : Hid (Calls Try.prog 24 #[.slice (some ⟨g1, 0, none⟩) N d1] W2 fun e w' => e = .returned (.int .i64 (lenN ((hk ++ [x]).getD 1 0) ((hk ++ [x]).getD 2 0) : Int)) ∧ LoneN W2 w') := by
              have := rlength_calls (some ⟨g1, 0, none⟩) d1 (hk ++ [x]) W2 hc3 HR2.out.ref.row
              rwa [← HN.out] at this
            have HLn : Hid (∀ n, Calls Try.prog 24 #[.slice (some ⟨g1, 0, none⟩) N d1] (W2.drewN n) fun e w' => e = .returned (.int .i64 (lenN ((hk ++ [x]).getD 1 0) ((hk ++ [x]).getD 2 0) : Int)) ∧ LoneN (W2.drewN n) w') := fun n => by
              have := rlength_calls (some ⟨g1, 0, none⟩) d1 (hk ++ [x]) (W2.drewN n) hc3 (cells_below (drewN_below _ _ n) HR2.out.ref.row)
              rwa [← HN.out] at this
            generalize hL : lenN ((hk ++ [x]).getD 1 0) ((hk ++ [x]).getD 2 0) = L at *
            clear hL
            have hN3 := HN2.out
            have e1 : ((N : Int) == 1) = false := by first | exact beq_iff_eq.2 (by omega) | exact beq_eq_false_iff_ne.2 (by omega)
            have e3 : ((N : Int) == 3) = false := by first | exact beq_iff_eq.2 (by omega) | exact beq_eq_false_iff_ne.2 (by omega)
            have p3 : (3 : Int) < (N : Int) := by omega
            have wL : IntKind.i64.wrap (3 + (L : Int)) = 3 + (L : Int) := by rw [IntKind.wrap_i64]; omega
            have z0 : ((N : Int) == 3 + (L : Int)) = false := beq_eq_false_iff_ne.2 (by omega)
            clear hc hl hN3 hn hc3
            go_wp2_with (go_at_call 24; (first | (with_reducible refine HL0.out.mono ?_) | (with_reducible refine (HLn.out _).mono ?_)); rintro e w7 ⟨rfl, n7, rfl⟩)
            exact ⟨⟨k + 1, _, _, _, _, _, by omega, rfl, (by rw [RowKit.Hid, HT.out]; exact HF2.out), (fun _ => WW.out), (HR2.out.next (drewN_below _ _ _))⟩, by simp [intOf]; omega⟩
          case out =>
            have HF2 := Go.Lib.hid (fed1_more HF.out hc)
            have hc3 : 3 ≤ (hk ++ [x]).length := by simp; omega
            have HL0 : Hid (Calls Try.prog 24 #[.slice (some ⟨g1, 0, none⟩) N d1] W2 fun e w' => e = .returned (.int .i64 (lenN ((hk ++ [x]).getD 1 0) ((hk ++ [x]).getD 2 0) : Int)) ∧ LoneN W2 w') := by
              have := rlength_calls (some ⟨g1, 0, none⟩) d1 (hk ++ [x]) W2 hc3 HR2.out.ref.row
              rwa [← HN.out] at this
            generalize hL : lenN ((hk ++ [x]).getD 1 0) ((hk ++ [x]).getD 2 0) = L at *
            clear hL
            have hN3 := HN2.out
            have e1 : ((N : Int) == 1) = false := beq_eq_false_iff_ne.2 (by omega)
            have e3 : ((N : Int) == 3) = false := beq_eq_false_iff_ne.2 (by omega)
            have p3 : (3 : Int) < (N : Int) := by omega
            have p4 : (3 : Int) ≤ (N : Int) := by omega
            have wL : IntKind.i64.wrap (3 + (L : Int)) = 3 + (L : Int) := by rw [IntKind.wrap_i64]; omega
            have z0 : ((N : Int) == 3 + (L : Int)) = true := beq_iff_eq.2 (by omega)
            have hsz : ∀ n, w.heap.size ≤ (W2.drewN n).heap.size := fun _ => HR2.out.save.size
            have hus : us.length ≤ 16777474 := by
              have h6 := fed1_small HW0.out HF.out
              rw [List.length_take] at h6
              have := HR2.out.rows.1
              omega
            have hroom : ((us.length + 1) + (us.length + 1) / 4 + 192) * 24 ≤ 281474976710656 := by omega
            have hmax : us.length + 1 ≤ 9223372036854775807 := by omega
            have hN4 : 3 ≤ N := by omega
            clear hc hl hN3 hn hc3
            go_wp2_with (first
              | (go_at_call 24; (with_reducible refine HL0.out.mono ?_); rintro e w7 ⟨rfl, n7, rfl⟩)
              | (at_builtin; (with_reducible refine wpList_append_val (W := W2.drewN n7) (u := .slice (some ⟨g1, 3, none⟩) (N - 3) (d1 - 3)) (base := w.heap.size) (vs := us) (s := .tmp 89) (x := .tmp 95) (t := 34) (e := 30) (z := .slice none 0 0) (bytes := 24) (hinfo := infoRow) (ht := Try.underlying34) (hown := (HR2.out.next (drewN_below _ _ n7)).out) (hbase := hsz n7) (hgd := rfl) (ho := ?_) (hz := ?_) (hs := ?_) (hu := ?_) (hx := ?_) (hroom := hroom) (hmax := hmax) (h := ?_)); rfl; rfl; rfl; rfl; rfl; intro v6 w6 hown6 hgr6; have hk6 := (HR2.out.next (drewN_below _ _ n7)).kept hgr6; have c6 : w6.cell? ⟨tp, 0, none⟩ = some (.slice (some ⟨g1, 0, none⟩) N d1) := blk_cell hk6 0 _ rfl; have f6 := heap_frozen hk6 0; clear hk6; have HG6 := Go.Lib.hid ((HR2.out.next (drewN_below _ _ n7)).give HN.out hN4 HD.out hown6 hgr6); clear hown6 hgr6))
            exact ⟨⟨k + 1, _, _, _, _, _, by omega, rfl, (by rw [RowKit.Hid, HT.out]; exact HF2.out), (fun _ => ⟨by decide, .inl (by decide)⟩), HG6.out⟩, by simp [intOf]; omega⟩
    · have hk1 : ¬ ((k : Int) < (lb.length : Int)) := by omega
      obtain rfl : k = lb.length := by omega
      go_wp2
      go_quiet (fail)
      go_wp2
      go_ret2
      refine ⟨_, rfl, _, us, ps, hk, bk, hvk, rfl, ?_, HW.out, HR.out.next (drewN_below _ _ _)⟩
      have := HF.out
      rwa [List.take_length] at this
end
end Go.Proofs.Ytngmhkhncimknaa
