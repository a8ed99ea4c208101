/- Feed: what is held of the world while it collects the payloads; its operations beside the child. -/
import Derived.Test.YtngmhkhncimknaaStmA
namespace Go.Proofs.Ytngmhkhncimknaa
open Go Go.Conc Go.RowKit
set_option linter.unusedVariables false
set_option linter.unusedSimpArgs false

/-- the payloads: each a row of bytes in a block of its own -/
structure Pays (w : World) (B0 B1 : Nat) (vs : List Value) (ps : List (List UInt8)) : Prop where
  len : vs.length = ps.length
  own : ∀ i (h1 : i < vs.length) (h2 : i < ps.length), Own w B0 5 vs[i] (Bs ps[i])
  apart : ∀ i j (h1 : i < vs.length) (h2 : j < vs.length) g, i ≠ j → vs[i].ownBlock = some g → vs[j].ownBlock ≠ some g
  lt : ∀ i (h1 : i < vs.length) g, vs[i].ownBlock = some g → g < B1

theorem own_block {w : World} {B : Nat} {e : TypeId} {v : Value} {vs : List Value} (h : Own w B e v vs) {g : Nat} (hg : v.ownBlock = some g) : B ≤ g ∧ g < w.heap.size ∧ isCells w g e := by
  rcases h.2 with ⟨rfl, _⟩ | ⟨g', cap, cur, rfl, hb, hh, _⟩
  · simp [Value.ownBlock] at hg
  · simp [Value.ownBlock] at hg
    subst hg
    exact ⟨hb, heap_lt hh, ⟨_, _, hh⟩⟩
theorem own_same {w w' : World} {B : Nat} {e : TypeId} {v : Value} {vs : List Value} (h : Own w B e v vs) (hs : ∀ g, v.ownBlock = some g → w'.heap[g]? = w.heap[g]?) : Own w' B e v vs := by
  refine ⟨h.1, ?_⟩
  rcases h.2 with h2 | ⟨g, cap, cur, rfl, hg, hh, rest⟩
  · exact .inl h2
  · exact .inr ⟨g, cap, cur, rfl, hg, (hs g rfl).trans hh, rest⟩

theorem Pays.nil (w : World) (B0 B1 : Nat) : Pays w B0 B1 [] [] := ⟨rfl, fun i h => absurd h (by simp), fun i j h => absurd h (by simp), fun i h => absurd h (by simp)⟩
theorem Pays.same {w w' : World} {B0 B1 : Nat} {vs : List Value} {ps : List (List UInt8)} (h : Pays w B0 B1 vs ps) (hs : ∀ g, B0 ≤ g → isCells w g 5 → w'.heap[g]? = w.heap[g]?) : Pays w' B0 B1 vs ps :=
  ⟨h.len, fun i h1 h2 => own_same (h.own i h1 h2) fun g hg => hs g (own_block (h.own i h1 h2) hg).1 (own_block (h.own i h1 h2) hg).2.2, h.apart, h.lt⟩
theorem Pays.snoc {w : World} {B0 B1 B2 : Nat} {vs : List Value} {ps : List (List UInt8)} {v : Value} {p : List UInt8} (h : Pays w B0 B1 vs ps) (h01 : B0 ≤ B1) (h12 : B1 ≤ B2) (hv : Own w B1 5 v (Bs p)) (hlt : ∀ g, v.ownBlock = some g → g < B2) : Pays w B0 B2 (vs ++ [v]) (ps ++ [p]) := by
  have hl := h.len
  refine ⟨by simp [h.len], fun i h1 h2 => ?_, fun i j h1 h2 g hij hg => ?_, fun i h1 g hg => ?_⟩
  · simp only [List.getElem_append]
    by_cases hi : i < vs.length
    · rw [dif_pos hi, dif_pos (by omega)]
      exact h.own i hi (by omega)
    · rw [dif_neg hi, dif_neg (by omega)]
      simp only [List.getElem_singleton]
      exact own_low hv h01
  · simp only [List.getElem_append] at hg ⊢
    by_cases hi : i < vs.length
    · rw [dif_pos hi] at hg
      by_cases hj : j < vs.length
      · rw [dif_pos hj]
        exact h.apart i j hi hj g hij hg
      · rw [dif_neg hj]
        simp only [List.getElem_singleton]
        intro e
        have := h.lt i hi g hg
        have := (own_block hv e).1
        omega
    · rw [dif_neg hi] at hg
      simp only [List.getElem_singleton] at hg
      by_cases hj : j < vs.length
      · rw [dif_pos hj]
        intro e
        have := h.lt j hj g e
        have := (own_block hv hg).1
        omega
      · simp at h1 h2; omega
  · simp only [List.getElem_append] at hg
    by_cases hi : i < vs.length
    · rw [dif_pos hi] at hg
      have := h.lt i hi g hg
      omega
    · rw [dif_neg hi] at hg
      simp only [List.getElem_singleton] at hg
      exact hlt g hg

/-- what goroutine 0 holds of the world beside the child, its own row apart -/
structure HX (D : Duet) (w0 : World) (n0 : Nat) (L : List (Nat × Obj)) (B1 : Nat) (vs : List Value) (ps : List (List UInt8)) (w : World) : Prop where
  os : w.os = w0.os
  tape : w.tape = w0.tape
  output : w.output = w0.output
  old : ∀ i, i < n0 → i ≠ D.sp → w.heap[i]? = w0.heap[i]?
  at_ : ∀ p ∈ L, w.heap[p.1]? = some p.2
  low : ∀ p ∈ L, p.1 < D.base ∧ p.1 ≠ D.ch ∧ p.1 ≠ D.sp
  new : n0 ≤ D.base ∧ n0 ≤ D.ch
  base : D.base ≤ B1 ∧ B1 ≤ w.heap.size
  init : n0 ≤ w0.heap.size
  pays : Pays w D.base B1 vs ps

section
variable {D : Duet} {w0 : World} {n0 : Nat} {L : List (Nat × Obj)} {B1 : Nat} {vs : List Value} {ps : List (List UInt8)} {w w₁ : World}
theorem HX.rely (h : HX D w0 n0 L B1 vs ps w) (hw0 : n0 ≤ w0.heap.size) (r : RelB D w w₁) : HX D w0 n0 L B1 vs ps w₁ := by
  have hb := h.base
  have hn := h.new
  have c1 := D.ch_lt
  have c2 := D.sp_lt
  have hs : ∀ i, i < w.heap.size → i ≠ D.ch → i ≠ D.sp → w₁.heap[i]? = w.heap[i]? := r.keep
  refine ⟨r.os.trans h.os, r.tape.trans h.tape, r.output.trans h.output, fun i hi hsp => ?_, fun p hp => ?_, h.low, h.new, ⟨h.base.1, Nat.le_trans h.base.2 r.size⟩, h.init, h.pays.same fun g hg hc => hs g (lt_of_isCells hc) (by omega) (by omega)⟩
  · rw [hs i (by omega) (by omega) hsp]; exact h.old i hi hsp
  · rw [hs p.1 (heap_lt (h.at_ p hp)) (h.low p hp).2.1 (h.low p hp).2.2]; exact h.at_ p hp
theorem HX.own (hD : Du D) (h : HX D w0 n0 L B1 vs ps w) (r : RelA D w w₁) : HX D w0 n0 L B1 vs ps w₁ := by
  have hb := h.base
  have hn := h.new
  have c1 := D.ch_lt
  refine ⟨r.os.trans h.os, r.tape.trans h.tape, r.output.trans h.output, fun i hi hsp => ?_, fun p hp => ?_, h.low, h.new, ⟨h.base.1, Nat.le_trans h.base.2 r.size⟩, h.init, h.pays.same fun g hg hc => r.keep g (lt_of_isCells hc) (by omega) fun ⟨_, hc'⟩ => D.ne (isCells_inj hc' (hD.B ▸ hc))⟩
  · rw [r.keep i (by omega) (by omega) fun ⟨hb, _⟩ => by omega]; exact h.old i hi hsp
  · rw [r.keep p.1 (heap_lt (h.at_ p hp)) (h.low p hp).2.1 fun ⟨hb, _⟩ => by have := (h.low p hp).1; omega]; exact h.at_ p hp
theorem ownA_relB (hb : D.base ≤ w.heap.size) {B : Nat} (hB : D.base ≤ B) {e : TypeId} {v : Value} {xs : List Value} (h : Own w B e v xs) (r : RelB D w w₁) : Own w₁ B e v xs := own_same h fun g hg => by
  have h1 := own_block h hg
  have := D.ch_lt
  have := D.sp_lt
  exact r.keep g h1.2.1 (by omega) (by omega)
/-- goroutine 0's own append -/
theorem relA_grown (hD : Du D) (hch : ∀ b, chanIs w D.ch b → D.ch < D.base) {v : Value} {xs : List Value} (hown : Own w D.base 30 v xs) (hg : w.grownBy w₁ v.ownBlock) (hn : NewOf w w₁ 30) (hk : ∀ i t', isCells w i t' → isCells w₁ i t') : RelA D w w₁ := by
  have c1 := D.ch_lt
  have hne : ∀ i, i < w.heap.size → ¬ (D.base ≤ i ∧ isCells w i D.tA) → w₁.heap[i]? = w.heap[i]? := fun i hi hno => hg.block i hi fun e => hno (by
    have h1 := own_block hown e.symm
    exact ⟨h1.1, hD.A ▸ h1.2.2⟩)
  refine ⟨hg.os, hg.output, hg.tape, hg.size, fun i hi _ hno => hne i hi hno, fun i hi => hk i _ hi, fun i h1 h2 => hD.A ▸ hn i h1 h2, fun b ⟨s, r, t, hc⟩ => ⟨s, r, t, ?_⟩⟩
  rw [hne D.ch (heap_lt hc) fun ⟨hb, _⟩ => by omega]
  exact hc
theorem relA_alloc (hD : Du D) (cs : Array Value) : RelA D w (w.alloc (.cells cs 30)) := by
  have hk : ∀ i, i < w.heap.size → (w.alloc (.cells cs 30)).heap[i]? = w.heap[i]? := fun i hi => heap_before w _ i _ (by omega) rfl
  refine ⟨rfl, rfl, rfl, by simp, fun i hi _ _ => hk i hi, fun i ⟨a, b, h⟩ => ⟨a, b, (hk i (heap_lt h)).trans h⟩, fun i h1 h2 => by rw [hD.A]; exact new_alloc w cs _ i h1 h2, fun b ⟨s, r, t, hc⟩ => ⟨s, r, t, (hk _ (heap_lt hc)).trans hc⟩⟩
theorem gA_still (w : World) (ms : Proto) : gF (some (D, ms)) w w #[] := ⟨RelA.at_ w w.drawn, evIn_none⟩
theorem gN_still (w w' : World) : gF none w w' #[] := fun e he => by simp at he

/-- .. and its own row -/
def HA (D : Duet) (w0 : World) (n0 : Nat) (L : List (Nat × Obj)) (B1 : Nat) (vs : List Value) (ps : List (List UInt8)) (vout : Value) (us : List Value) (w : World) : Prop := HX D w0 n0 L B1 vs ps w ∧ Own w D.base 30 vout us
theorem HA.rely {vout : Value} {us : List Value} {ms : Proto} (h : HA D w0 n0 L B1 vs ps vout us w) (r : rF (some (D, ms)) w w₁) : HA D w0 n0 L B1 vs ps vout us w₁ := ⟨h.1.rely h.1.init r.2, ownA_relB r.1 (Nat.le_refl _) h.2 r.2⟩
theorem HA.at_ {vout : Value} {us : List Value} (h : HA D w0 n0 L B1 vs ps vout us w) (d : Nat) : HA D w0 n0 L B1 vs ps vout us (w.at d) := ⟨h.1.rely h.1.init (RelB.at_ w d), ownA_relB (Nat.le_trans h.1.base.1 h.1.base.2) (Nat.le_refl _) h.2 (RelB.at_ w d)⟩
theorem HX.cell (h : HX D w0 n0 L B1 vs ps w) {g i : Nat} {cs : Array Value} {t : TypeId} {v : Value} (hp : (g, Obj.cells cs t (0, 0)) ∈ L) (hv : cs[i]? = some v) : w.cell? ⟨g, i, none⟩ = some v := by
  rw [cell_of_row w g i _ _ _ (h.at_ _ hp)]
  exact hv
theorem HX.ev (h : HX D w0 n0 L B1 vs ps w) (Z : Loc → Prop) {g : Nat} {o : Obj} (hp : (g, o) ∈ L) (i : Nat) : calm ⟨.cell ⟨g, i, none⟩, false, false⟩ ∧ ∀ b, (MemAct.ofEvent ⟨.cell ⟨g, i, none⟩, false, false⟩).touch? = some b → b.loc.isMemory = true → Zones.within Z (zoneS D) b := by
  refine ⟨⟨by simp, by simp⟩, fun b hb _ => ?_⟩
  simp only [MemAct.ofEvent, MemAct.touch?, Option.some.injEq] at hb
  subst hb
  exact .inr ⟨⟨_, rfl, (h.low _ hp).1, (h.low _ hp).2.2⟩, rfl⟩
/-- a message has come -/
theorem HX.got (h : HX D w0 n0 L B1 vs ps w) {v : Value} {p : List UInt8} (hv : Own w B1 5 v (Bs p)) : HX D w0 n0 L w.heap.size (vs ++ [v]) (ps ++ [p]) w :=
  ⟨h.os, h.tape, h.output, h.old, h.at_, h.low, h.new, ⟨Nat.le_trans h.base.1 h.base.2, Nat.le_refl _⟩, h.init, h.pays.snoc h.base.1 h.base.2 hv fun g hg => (own_block hv hg).2.1⟩

/-- a block of one value that goroutine 0 has just made -/
structure NB (D : Duet) (g : Nat) (v : Value) (w : World) : Prop where
  blk : w.heap[g]? = some (.cells #[v] 30 (0, 0))
  ge : D.base ≤ g
theorem NB.relB {g : Nat} {v : Value} (h : NB D g v w) (r : RelB D w w₁) : NB D g v w₁ := by
  have := D.ch_lt
  have := D.sp_lt
  have := h.ge
  exact ⟨by rw [r.keep g (heap_lt h.blk) (by omega) (by omega)]; exact h.blk, h.ge⟩
def HB2 (D : Duet) (w0 : World) (n0 : Nat) (L : List (Nat × Obj)) (B1 : Nat) (vs : List Value) (ps : List (List UInt8)) (vout : Value) (us : List Value) (g : Nat) (v : Value) (w : World) : Prop := HA D w0 n0 L B1 vs ps vout us w ∧ NB D g v w
theorem HB2.rely {vout : Value} {us : List Value} {ms : Proto} {g : Nat} {v : Value} (h : HB2 D w0 n0 L B1 vs ps vout us g v w) (r : rF (some (D, ms)) w w₁) : HB2 D w0 n0 L B1 vs ps vout us g v w₁ := ⟨h.1.rely r, h.2.relB r.2⟩
/-- goroutine 0 is alone again -/
def HD (D : Duet) (w0 : World) (n0 : Nat) (L : List (Nat × Obj)) (B1 : Nat) (vs : List Value) (ps : List (List UInt8)) (vout : Value) (us : List Value) (rest : List UInt8) (bad : Bool) (w : World) : Prop := HA D w0 n0 L B1 vs ps vout us w ∧ FinB D rest bad B1 w
theorem HD.rely {vout : Value} {us : List Value} {rest : List UInt8} {bad : Bool} (h : HD D w0 n0 L B1 vs ps vout us rest bad w) (r : rF none w w₁) : HD D w0 n0 L B1 vs ps vout us rest bad w₁ := by
  obtain ⟨d, rfl⟩ := r
  exact ⟨h.1.at_ d, h.2⟩
/-- append of one value to the row -/
theorem append_one {P : Program} (hD : Du D) {B1 : Nat} {vout : Value} {us : List Value} {g : Nat} {v : Value} (hown : Own w D.base 30 vout us) (hn : NB D g v w) (hb : D.base ≤ w.heap.size) (h1 : v.oneCell' = true) (hlen : us.length ≤ 1000000000) (ty : TypeId)
    (ht : P.underlying 34 = some (.slice 30)) (hinfo : (P.info? 30).map (fun i => (i.zero, i.size, i.bytes)) = some (some (.slice none 0 0), 1, 24)) :
    ∃ v' w', (Builtin.append_ #[34, 34] ty #[vout, .slice (some ⟨g, 0, none⟩) 1 1]).run P w = .ok v' w' ∧ Own w' D.base 30 v' (us ++ [v]) ∧ RelA D w w' ∧
      ∀ e ∈ (Builtin.append_ #[34, 34] ty #[vout, .slice (some ⟨g, 0, none⟩) 1 1]).events P w #[], (∃ ad, e.loc = .cell ad ∧ zoneA D w' (.cell ad)) ∨ ∃ m, e = ⟨.mark m, false, true⟩ ∧ Neutral m := by
  obtain ⟨i, hi, hz0, hz1, hz2⟩ := info_parts hinfo
  have hnews : ∀ j u, [v][j]? = some u → w.cell? ((⟨g, 0, none⟩ : Addr).add j) = some u := fun j u hu => by
    cases j with
    | zero =>
      simp at hu
      subst hu
      rw [Addr.add_mid, cell_of_row w g _ _ _ _ hn.blk]
      rfl
    | succ j => simp at hu
  have h1' : ∀ u ∈ [v], u.oneCell' = true := fun u hu => by obtain rfl := List.mem_singleton.1 hu; exact h1
  obtain ⟨v', w', hr, h2, h3, _, h5, h6⟩ := run_append_new (P := P) w D.base 34 ty 30 i (.slice none 0 0) 1 24 ht hi hz0 hz1 hz2 rfl (by decide) vout us.length us hown ⟨g, 0, none⟩ 1 1 [v] rfl hnews h1' (by unfold maxLen; omega) (by omega) hb
  have hrel := relA_grown hD (fun b _ => D.ch_lt) hown h3 h5 h6
  refine ⟨v', w', hr, by unfold Own; simpa using h2, hrel, fun e he => ?_⟩
  rcases events_append_where (P := P) w D.base 34 ty 30 i (.slice none 0 0) 1 24 ht hi hz0 hz1 hz2 vout us.length us hown ⟨g, 0, none⟩ 1 1 [v] rfl hnews h1' (by unfold maxLen; omega) (by omega) e he with ⟨ad, hl, ⟨_, h⟩ | h⟩ | h
  · refine .inl ⟨ad, hl, ad, rfl, by rw [h]; exact hn.ge, ?_⟩
    rw [h, hD.A]
    exact h6 _ _ ⟨_, _, hn.blk⟩
  · have h7 := own_block hown h.symm
    refine .inl ⟨ad, hl, ad, rfl, h7.1, ?_⟩
    rw [hD.A]
    exact h6 _ _ h7.2.2
  · exact .inr h
end
end Go.Proofs.Ytngmhkhncimknaa
