/- all: the payloads of bytes that come in pieces. -/
import Derived.Test.YtngmhkhncimknaaDoorStmW
import Derived.Test.YtngmhkhncimknaaDoorStmPl
namespace Go.Proofs.YtngmhkhncimknaaDoor
open Go Go.Conc Go.RowKit
set_option linter.unusedVariables false
set_option linter.unusedSimpArgs false

theorem resultsC_tmp3 {P : Program} {fn : Func} {t u s : Tmp} (h : fn.results = #[.tmp t, .tmp u, .tmp s]) (tmps : Array Value) : ResultsC P fn tmps (.tuple #[tmps.getD t undef, tmps.getD u undef, tmps.getD s undef]) := fun w => ⟨by simp [results, h], by simp [results, h]⟩

/-- a splitter, and what has come out of it -/
structure AllH (w0 : World) (sp : Nat) (hv : List UInt8) (bad : Bool) (v vout : Value) (vs : List Value) (ps : List (List UInt8)) (w : World) : Prop where
  below : Below w0.heap.size w0 w
  spl : Spl w0.heap.size sp hv bad v w
  out : Own w w0.heap.size 23 vout vs
  pays : Pays w w0.heap.size w.heap.size vs ps
/-- .. and what came last -/
structure AllP (w0 : World) (sp : Nat) (hv : List UInt8) (bad : Bool) (v vout : Value) (vs : List Value) (ps : List (List UInt8)) (pv : Value) (us : List Value) (qs : List (List UInt8)) (w : World) : Prop where
  below : Below w0.heap.size w0 w
  spl : Spl w0.heap.size sp hv bad v w
  out : Own w w0.heap.size 23 vout vs
  more : Own w w0.heap.size 23 pv us
  pays : Pays w w0.heap.size w.heap.size (vs ++ us) (ps ++ qs)
  len : vs.length = ps.length ∧ us.length = qs.length

theorem at_below {w0 w : World} (h : Below w0.heap.size w0 w) (d : Nat) : Below w0.heap.size w0 (w.at d) := ⟨h.os, h.tape, h.output, h.size, h.block⟩
theorem at_spl {n0 sp : Nat} {hv : List UInt8} {bad : Bool} {v : Value} {w : World} (h : Spl n0 sp hv bad v w) (d : Nat) : Spl n0 sp hv bad v (w.at d) := ⟨h.blk, h.own, h.ge⟩
theorem at_pays {B0 B1 : Nat} {vs : List Value} {ps : List (List UInt8)} {w : World} (h : Pays w B0 B1 vs ps) (d : Nat) : Pays (w.at d) B0 B1 vs ps := ⟨h.len, h.own, h.apart, h.lt⟩

section
variable {w0 w w' : World} {sp : Nat} {hv : List UInt8} {bad : Bool} {v vout : Value} {vs : List Value} {ps : List (List UInt8)} {pv : Value} {us : List Value} {qs : List (List UInt8)}
theorem AllH.rely (h : AllH w0 sp hv bad v vout vs ps w) (r : ∃ d, w' = w.at d) : AllH w0 sp hv bad v vout vs ps w' := by
  obtain ⟨d, rfl⟩ := r
  exact ⟨at_below h.below d, at_spl h.spl d, h.out, at_pays h.pays d⟩
theorem AllP.rely (h : AllP w0 sp hv bad v vout vs ps pv us qs w) (r : ∃ d, w' = w.at d) : AllP w0 sp hv bad v vout vs ps pv us qs w' := by
  obtain ⟨d, rfl⟩ := r
  exact ⟨at_below h.below d, at_spl h.spl d, h.out, h.more, at_pays h.pays d, h.len⟩
theorem AllH.next (h : AllH w0 sp hv bad v vout vs ps w) (hb : Below w.heap.size w w') : AllH w0 sp hv bad v vout vs ps w' :=
  ⟨h.below.trans (hb.mono h.below.size), h.spl.below hb, own_drewless h.out hb, (h.pays.same fun g _ hc => hb.block g (lt_of_isCells hc)).up hb.size⟩

theorem spl_ne {n0 : Nat} {b : Nat} {e : TypeId} {x : Value} {xs : List Value} {B : Nat} (h : Spl n0 sp hv bad v w) (ho : Own w B e x xs) (he : e ≠ 42) (hb : x.ownBlock = some b) : b ≠ sp := by
  rintro rfl
  obtain ⟨_, _, hc⟩ := (own_block ho hb).2.2
  rw [h.blk] at hc
  simp only [Option.some.injEq, Obj.cells.injEq] at hc
  exact he hc.2.1.symm
theorem own_save {B : Nat} {e : TypeId} {x : Value} {xs : List Value} {n0 : Nat} (h : Own w B e x xs) (hs : Spl n0 sp hv bad v w) (he : e ≠ 42) (hv : Save sp w w') : Own w' B e x xs :=
  own_same h fun g hg => hv.block g (own_block h hg).2.1 (spl_ne hs h he hg)

theorem AllH.fed {lb : List UInt8} {r : Value} (h : AllH w0 sp hv bad v vout vs ps w) (hf : FedW w w0.heap.size sp hv bad lb r w') :
    ∃ pv us qs hv' bad' rv, r = .tuple #[pv, .bool bad'] ∧ (qs, hv', bad') = fed1 (hv, bad) lb ∧ AllP w0 sp hv' bad' rv vout vs ps pv us qs w' := by
  obtain ⟨B0, pv, us, qs, hv', bad', rv, hB, rfl, hfed, hown, hpays, hspl, hsave⟩ := hf
  refine ⟨pv, us, qs, hv', bad', rv, rfl, fed_eq hfed, ⟨h.below.trans (hsave.below h.spl.ge h.below.size), hspl, own_save h.out h.spl (by decide) hsave, own_low hown (Nat.le_trans h.below.size hB), ?_, h.pays.len, hpays.len⟩⟩
  have hz : w.heap.size ≤ w'.heap.size := hsave.size
  have hB2 : B0 ≤ w'.heap.size ∨ us = [] := by
    rcases us with _ | ⟨u, us⟩
    · exact .inr rfl
    · left
      have hl := hpays.len
      rcases own_slice hown with ⟨A, c, rfl, _, _, hc⟩
      obtain ⟨b, o, rfl, _⟩ := hc (by simp)
      have := own_block hown (g := b) (by rcases hown.2 with ⟨h1, _⟩ | ⟨g', cap, cur, h1, _⟩ <;> simp_all [Value.ownBlock])
      omega
  have hp1 : Pays w' w0.heap.size w.heap.size vs ps := h.pays.same fun g hg hc => hsave.block g (lt_of_isCells hc) (by
    rintro rfl
    obtain ⟨_, _, hc⟩ := hc
    rw [h.spl.blk] at hc
    simp only [Option.some.injEq, Obj.cells.injEq] at hc
    exact absurd hc.2.1 (by decide))
  rcases hB2 with hB2 | rfl
  · exact (hp1.up hB).append hpays (Nat.le_trans h.below.size hB) hB2
  · have e : qs = [] := List.eq_nil_of_length_eq_zero (by rw [← hpays.len]; rfl)
    subst e
    rw [List.append_nil, List.append_nil]
    exact hp1.up hz

theorem pays_one {B0 B1 : Nat} (h : Pays w B0 B1 vs ps) : ∀ u ∈ vs, u.oneCell' = true := by
  intro u hu
  obtain ⟨i, hi, rfl⟩ := List.mem_iff_getElem.1 hu
  obtain ⟨A, c, e, _⟩ := own_slice (h.own i hi (by rw [← h.len]; exact hi))
  rw [e]; rfl
theorem own_grown2 {B B' : Nat} {e e' : TypeId} {x y : Value} {xs ys : List Value} (h : Own w B e x xs) (ho : Own w B' e' y ys) (he : e ≠ e') (hg : w.grownBy w' y.ownBlock) : Own w' B e x xs :=
  own_same h fun g hb => hg.block g (own_block h hb).2.1 fun e1 => he (isCells_inj (own_block h hb).2.2 (own_block ho e1.symm).2.2)

/-- append(out, p...) -/
theorem AllP.grown {v' : Value} (h : AllP w0 sp hv bad v vout vs ps pv us qs w) (ho : Own w' w0.heap.size 23 v' (vs ++ us)) (hg : w.grownBy w' vout.ownBlock) : AllH w0 sp hv bad v v' (vs ++ us) (ps ++ qs) w' := by
  refine ⟨below_grown h.below h.out hg (Nat.le_refl _) h.below.size, ⟨?_, own_grown2 h.spl.own h.out (by decide) hg, h.spl.ge⟩, ho, (h.pays.same fun g _ hc => hg.block g (lt_of_isCells hc) fun e => ?_).up hg.size⟩
  · rw [hg.block sp (heap_lt h.spl.blk) fun e => spl_ne h.spl h.out (by decide) e.symm rfl]
    exact h.spl.blk
  · exact absurd (isCells_inj hc (own_block h.out e.symm).2.2) (by decide)
end

end Go.Proofs.YtngmhkhncimknaaDoor
