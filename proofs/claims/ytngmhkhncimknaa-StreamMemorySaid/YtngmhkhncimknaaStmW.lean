/- Feed, with all that it keeps and makes; rows of payloads, one behind the other. -/
import Derived.Test.YtngmhkhncimknaaStmLone
namespace Go.Proofs.Ytngmhkhncimknaa
open Go Go.Conc Go.RowKit
set_option linter.unusedVariables false
set_option linter.unusedSimpArgs false

theorem Pays.append {w : World} {B0 B1 B2 : Nat} {vs us : List Value} {ps qs : List (List UInt8)} (h : Pays w B0 B1 vs ps) (g : Pays w B1 B2 us qs) (h01 : B0 ≤ B1) (h12 : B1 ≤ B2) : Pays w B0 B2 (vs ++ us) (ps ++ qs) := by
  have hl := h.len
  have hk := g.len
  refine ⟨by simp [hl, hk], fun i h1 h2 => ?_, fun i j h1 h2 b hij hb => ?_, fun i h1 b hb => ?_⟩
  · simp only [List.getElem_append]
    by_cases hi : i < vs.length
    · rw [dif_pos hi, dif_pos (by omega)]
      exact h.own i hi (by omega)
    · rw [dif_neg hi, dif_neg (by omega)]
      simp only [hl]
      simp only [List.length_append] at h1 h2
      exact own_low (g.own (i - ps.length) (by omega) (by omega)) h01
  · simp only [List.length_append] at h1 h2
    simp only [List.getElem_append] at hb ⊢
    by_cases hi : i < vs.length
    · rw [dif_pos hi] at hb
      by_cases hj : j < vs.length
      · rw [dif_pos hj]
        exact h.apart i j hi hj b hij hb
      · rw [dif_neg hj]
        intro e
        have := h.lt i hi b hb
        have := (own_block (g.own (j - vs.length) (by omega) (by omega)) e).1
        omega
    · rw [dif_neg hi] at hb
      by_cases hj : j < vs.length
      · rw [dif_pos hj]
        intro e
        have := h.lt j hj b e
        have := (own_block (g.own (i - vs.length) (by omega) (by omega)) hb).1
        omega
      · rw [dif_neg hj]
        exact g.apart (i - vs.length) (j - vs.length) (by omega) (by omega) b (by omega) hb
  · simp only [List.length_append] at h1
    simp only [List.getElem_append] at hb
    by_cases hi : i < vs.length
    · rw [dif_pos hi] at hb
      have := h.lt i hi b hb
      omega
    · rw [dif_neg hi] at hb
      exact g.lt (i - vs.length) (by omega) b hb

theorem Pays.up {w : World} {B0 B1 B2 : Nat} {vs : List Value} {ps : List (List UInt8)} (h : Pays w B0 B1 vs ps) (h12 : B1 ≤ B2) : Pays w B0 B2 vs ps :=
  ⟨h.len, h.own, h.apart, fun i h1 g hg => Nat.lt_of_lt_of_le (h.lt i h1 g hg) h12⟩
theorem Pays.low {w : World} {B0 B1 B2 : Nat} {vs : List Value} {ps : List (List UInt8)} (h : Pays w B1 B2 vs ps) (h01 : B0 ≤ B1) : Pays w B0 B2 vs ps :=
  ⟨h.len, fun i h1 h2 => own_low (h.own i h1 h2) h01, h.apart, h.lt⟩

/-- a row of payloads reads as rows of bytes -/
theorem rows_of {w : World} {B B0 B1 : Nat} {v : Value} {vs : List Value} {ps : List (List UInt8)} (h : Own w B 30 v vs) (hp : Pays w B0 B1 vs ps) : ∃ A c, v = .slice A ps.length c ∧ ps.length ≤ c ∧ c ≤ 9223372036854775807 ∧ RowsB w A ps := by
  obtain ⟨A, c, rfl, h2, h3, h4⟩ := own_slice h
  rw [hp.len] at h2
  refine ⟨A, c, by rw [hp.len], h2, h3, vs, hp.len, h4, fun i a b => ?_⟩
  obtain ⟨A', c', e, q1, q2, q3⟩ := own_slice (hp.own i a b)
  rw [Bs_length] at q1 e
  exact ⟨A', c', e, q1, q2, q3⟩

/-- all but one block is as it was -/
structure Save (sp : Nat) (w w' : World) : Prop where
  os : w'.os = w.os
  tape : w'.tape = w.tape
  output : w'.output = w.output
  size : w.heap.size ≤ w'.heap.size
  block : ∀ i, i < w.heap.size → i ≠ sp → w'.heap[i]? = w.heap[i]?
theorem Save.of_below {sp : Nat} {w w' : World} (h : Below w.heap.size w w') : Save sp w w' := ⟨h.os, h.tape, h.output, h.size, fun i hi _ => h.block i hi⟩
theorem Save.below {sp n0 : Nat} {w w' : World} (h : Save sp w w') (hn : n0 ≤ sp) (h0 : n0 ≤ w.heap.size) : Below n0 w w' := ⟨h.os, h.tape, h.output, h.size, fun i hi => h.block i (by omega) (by omega)⟩

/-- what Feed answers, and what it leaves -/
def FedW (w : World) (n0 sp : Nat) (hv : List UInt8) (bad : Bool) (lb : List UInt8) (r : Value) (w' : World) : Prop :=
  ∃ B0 pv vs ps hv' bad' rv, w.heap.size ≤ B0 ∧ r = .tuple #[pv, .bool bad'] ∧ Fed hv bad lb ps hv' bad' ∧ Own w' B0 30 pv vs ∧ Pays w' B0 w'.heap.size vs ps ∧ Spl n0 sp hv' bad' rv w' ∧ Save sp w w'

theorem feed_w {Post : Value → World → Prop} {n0 sp : Nat} {hv : List UInt8} {bad : Bool} {v : Value} (Ab : Option Addr) (cb : Nat) (lb : List UInt8) (w : World) (hs : Spl n0 sp hv bad v w) (h0 : n0 ≤ w.heap.size) (hAb : Cells w Ab (Bs lb)) (hcb : lb.length ≤ cb ∧ cb ≤ 9223372036854775807) (hlen : hv.length + lb.length ≤ 1000000000) :
    callM Try.prog (XF Try.prog (XEnds Try.prog Post)) 11 #[.pointer (some ⟨sp, 0, none⟩), .slice Ab lb.length cb] (fun γ r w' => γ = none ∧ FedW w n0 sp hv bad lb r w') none w := by
  cases bad with
  | false =>
    refine callM_mono (feed_good Ab cb lb w hs hAb hcb hlen) ?_
    rintro γ r w' ⟨rfl, B0, B1, vout, vs, rv, q1, q2, rfl, ho, hp, hsp, hrv, hold, hos, htp, hout, hsz⟩
    have hB1 : Pays w' B0 w'.heap.size vs (cutS (hv ++ lb)).1 := ⟨hp.len, hp.own, hp.apart, fun i h1 g hg => by
      have h2 : i < (cutS (hv ++ lb)).1.length := by rw [← hp.len]; exact h1
      exact (own_block (hp.own i h1 h2) hg).2.1⟩
    exact ⟨rfl, B0, vout, vs, _, _, _, rv, q1, rfl, .inl ⟨rfl, rfl⟩, ho, hB1, ⟨hsp, own_low hrv (by omega), hs.ge⟩, ⟨hos, htp, hout, hsz, hold⟩⟩
  | true =>
    refine callM_mono (feed_bad (.slice Ab lb.length cb) w hs.blk) ?_
    rintro γ r w' ⟨rfl, rfl, hB⟩
    exact ⟨rfl, w.heap.size, .slice none 0 0, [], [], hv, true, v, Nat.le_refl _, rfl, .inr ⟨rfl, rfl, rfl, rfl⟩, (World.ownsRow_nil w' _ _ 1), Pays.nil _ _ _, hs.below hB, .of_below hB⟩

/-- append(rows, more...) -/
theorem run_append_rows {P : Program} (w : World) (base : Nat) (t ty e : TypeId) (ht : P.underlying t = some (.slice e)) (hinfo : (P.info? e).map (fun i => (i.zero, i.size, i.bytes)) = some (some (.slice none 0 0), 1, 24)) (v x : Value) (us vs : List Value) {b2 : Nat}
    (hown : Own w base e v us) (hx : Own w b2 e x vs) (h1 : ∀ u ∈ vs, u.oneCell' = true) (hroom : us.length + vs.length ≤ 4000000000000) (hbase : base ≤ w.heap.size) :
    ∃ v' w', (Builtin.append_ #[t, t] ty #[v, x]).run P w = .ok v' w' ∧ Own w' base e v' (us ++ vs) ∧ w.grownBy w' v.ownBlock := by
  obtain ⟨i, hi, hz0, hz1, hz2⟩ := info_parts hinfo
  obtain ⟨A, c, rfl, _, _, hA⟩ := own_slice hx
  rcases Nat.eq_zero_or_pos vs.length with h0 | h0
  · obtain rfl := List.eq_nil_of_length_eq_zero h0
    refine ⟨v, w, ?_, by simpa using hown, ⟨rfl, rfl, rfl, Nat.le_refl _, fun _ _ _ => rfl⟩⟩
    rcases hown.2 with ⟨rfl, _⟩ | ⟨g, cap, cur, rfl, _, hg, hn, _⟩
    · cases A <;> simp [Builtin.append_, run_underlying ht, sizeOf, typeInfo, hi, Builtin.lenOf, Builtin.firstCells, loadCells, loadCellsFrom]
    · cases A <;> simp [Builtin.append_, run_underlying ht, sizeOf, typeInfo, hi, Builtin.lenOf, Builtin.firstCells, loadCells, loadCellsFrom, storeCells, hn]
  · obtain ⟨ad, rfl, hc⟩ := cells_src hA h0
    obtain ⟨v', w', hr, h2, h3, _⟩ := run_append_own (P := P) w base t ty e i (.slice none 0 0) 1 24 ht hi hz0 hz1 hz2 rfl (by decide) v us.length us hown ad vs.length c vs (by simp) hc h1 (by unfold maxLen; omega) (by omega) hbase
    refine ⟨v', w', hr, ?_, h3⟩
    unfold Own
    simpa using h2
end Go.Proofs.Ytngmhkhncimknaa
