/- PROVED: StreamFaults, of the given program: for every list of payloads, every fault and every list of further pieces the law returns true, and each argument reads behind the call as it read before. CONDITIONS: the errors of package api hold what the program's text lays (the card ties it). -/
import Derived.Test.YtngmhkhncimknaaDoorStmFt
import Derived.Test.YtngmhkhncimknaaDoorStmRow2
namespace Go.Proofs.YtngmhkhncimknaaDoor.streamFaults
open Go Go.Conc Go.RowKit Go.ChangeShapes Go.WideShapes Go.ChangeAt
open Go.ChangeMaps (open_string shut_string)
set_option linter.unusedVariables false
set_option linter.unusedSimpArgs false
set_option linter.unusedVariables false

set_option maxRecDepth 100000 in
theorem contract (H : Type) (enc : TypeId × Value → H) (W : World) (base : Nat) (args : Array Value) (ds gs : List (DataW H)) (before : List MemPlace)
    (hval : ∀ (j : Nat) t v, Tryd.f4.params[j]? = some t → args[j]? = some v → Value.okWide Tryd.prog W .any base t v)
    (hW : DataW.Whole enc Tryd.prog Tryd.f4.params.toList Rows.streamFaultsSpec.vars false W args.toList ds gs before)
    (hreach : (DataW.weightsEach Tryd.prog (Tryd.f4.params.toList ++ (OpenSpec.ofChange Rows.streamFaultsSpec).bare.plain.varTypes Tryd.prog) (ds ++ gs)).all (· ≤ reachBytes) = true)
    (hL : laidMetH Tryd.prog Rows.streamFaultsRow.laid W) :
    EndsRun Tryd.prog (fun v W' => Rows.streamFaultsSpec.post enc Tryd.prog Tryd.f4 false true false false W args v W') (solo (G (Frame.enter Tryd.prog 4 args .normal) []) W) #[] := by
  have hW' := hW
  obtain ⟨p, q, hA, hV, rfl, hfz, hnd⟩ := hW
  rw [Tryd.params4] at hA hval hreach
  obtain ⟨v0, vs0, d0, ds0, p0, q0, hargs, rfl, rfl, h0, r0⟩ := trodAll_cons hA
  obtain ⟨v1, vs1, d1, ds1, p1, q1, rfl, rfl, rfl, h1, r1⟩ := trodAll_cons r0
  obtain ⟨v2, vs2, d2, ds2, p2, q2, rfl, rfl, rfl, h2, r2⟩ := trodAll_cons r1
  obtain ⟨rfl, rfl, rfl⟩ := trodAll_nil r2
  obtain rfl : args = #[v0, v1, v2] := by cases args; simp_all
  obtain ⟨rfl, rfl⟩ := trodVars_none hV
  obtain ⟨a0, l0, k0, rfl⟩ := okWide_slice Tryd.underlying22 (hval 0 22 v0 rfl rfl)
  obtain ⟨a1, l1, k1, rfl⟩ := okWide_slice Tryd.underlying23 (hval 1 23 v1 rfl rfl)
  obtain ⟨a2, l2, k2, rfl⟩ := okWide_slice Tryd.underlying22 (hval 2 22 v2 rfl rfl)
  obtain ⟨fuel0, hf0⟩ := h0
  obtain ⟨fuel1, hf1⟩ := h1
  obtain ⟨fuel2, hf2⟩ := h2
  obtain ⟨A0, c0, x0, e0, hl0, hc0, hx0, hn0, hb0⟩ := pw_rows Tryd.underlying22 Tryd.underlying23 Tryd.underlying5 cellsBytes cellsU8 bytesRow bytesU8 hf0 (light_arg hreach (j := 0) rfl rfl)
  obtain ⟨A1, b, e1, ⟨Ab, cb, e2, hb1, hb2, hb3⟩, hb4⟩ := pw_bytes Tryd.underlying23 Tryd.underlying5 cellsU8 bytesU8 hf1 (light_arg hreach (j := 1) rfl rfl)
  obtain ⟨A2, c2, x2, e3, hl2, hc2, hx2, hn2, hb5⟩ := pw_rows Tryd.underlying22 Tryd.underlying23 Tryd.underlying5 cellsBytes cellsU8 bytesRow bytesU8 hf2 (light_arg hreach (j := 2) rfl rfl)
  obtain ⟨rfl, rfl, rfl⟩ : a0 = A0 ∧ l0 = x0.length ∧ k0 = c0 := by simpa [Value.cells] using e0
  subst e2
  obtain ⟨rfl, rfl, rfl⟩ : a1 = Ab ∧ l1 = b.length ∧ k1 = cb := by simpa [Value.cells] using e1
  obtain ⟨rfl, rfl, rfl⟩ : a2 = A2 ∧ l2 = x2.length ∧ k2 = c2 := by simpa [Value.cells] using e3
  obtain ⟨e1, e2, hE⟩ := errF_of hL (by kernel_rfl)
  exact faults_run a0 k0 x0 a1 k1 b a2 k2 x2 e1 e2 (by omega) (fun l hl => by have := hb0 l hl; omega) (by omega) (fun l hl => by have := hb5 l hl; omega) ⟨hb1, hb2⟩ W hx0 hb3 hx2 hE fun W' hb => law_post laidOut (by kernel_rfl) rfl Tryd.underlying4 hW' rfl rfl hb

theorem laid_met (os : Os) : laidMet Tryd.prog Rows.streamFaultsRow.laid ((frWorld os).forCall (fun _ _ => 0) ⟨#[], #[.slice none 0 0, .slice none 0 0, .slice none 0 0], []⟩).memory :=
  laidMet_laidAll _ (by kernel_rfl) (by kernel_rfl)
theorem reads (os : Os) {H : Type} (enc : TypeId × Value → H) : ∃ places, DataW.whole enc Tryd.prog ((frWorld os).forCall (fun _ _ => 0) ⟨#[], #[.slice none 0 0, .slice none 0 0, .slice none 0 0], []⟩).memory Tryd.f4.params.toList Rows.streamFaultsSpec.vars false (#[.slice none 0 0, .slice none 0 0, .slice none 0 0] : Array Value).toList 8 = some ([.nil, .nil, .nil], [], places) :=
  ⟨[], by kernel_rfl⟩

set_option maxRecDepth 100000 in
theorem lifted (os : Os) (started : os.Started) (H : Type) (enc : TypeId × Value → H) (F : Stop.Interp) :
    ReturnsInLeavingWide {} Tryd.checked os 4 .any ((OpenSpec.ofChange Rows.streamFaultsSpec).preRow enc Tryd.prog Tryd.f4 Rows.streamFaultsRow.domain false Rows.streamFaultsRow.laid) (((OpenSpec.ofChange Rows.streamFaultsSpec).at F).post enc Tryd.prog Tryd.f4 false true false false) := by
  obtain ⟨places, hx⟩ := reads os enc
  refine leaving_laid (C := Tryd.checked) (s := (OpenSpec.ofChange Rows.streamFaultsSpec)) own started Tryd.func4
    (witness_row_atRef (enc := enc) (C := Tryd.checked) false (frWorld os) #[.slice none 0 0, .slice none 0 0, .slice none 0 0] rfl (by kernel_rfl) (by kernel_rfl) (by kernel_rfl)
      (OpenSpec.preRow_of_cond 8 hx (by kernel_rfl) (fun k hk => by cases hk) (by kernel_rfl) (laid_met os))) ?_
  intro W base args ds gs before hval hW hcond hreach hL
  exact contract H enc W base args ds gs before hval hW hreach hL

theorem said : Rows.StreamFaultsSaid :=
  OpenClaim.holds_of_wide_leaving 4 Tryd.f4 rfl rfl rfl rfl rfl rfl rfl ⟨rfl, rfl, rfl, rfl, rfl⟩ rfl rfl rfl rfl rfl (by kernel_rfl) Tryd.func4 (by kernel_rfl)
    (of_decide_eq_true (by kernel_rfl)) (by unfold Func.isWrapper; first | (rw [if_pos (by decide +kernel)]; kernel_rfl) | (rw [if_neg (by decide +kernel)]; exact ⟨rfl, rfl⟩))
    (fun os started H enc _ => by rw [OpenClaim.pre_eq_preRow]; exact lifted os started H enc fun _ _ _ => 0)
theorem plain (f : FuncId) (fn : Func) (hf : Tryd.pinned.checked.prog.funcNamed "turnstile/turnstilelaw21.StreamFaults" = some f) (hfn : Tryd.pinned.checked.prog.funcs[f]? = some fn) :
    false = Tryd.pinned.checked.prog.looks [] ∧ ∀ (j : Nat) t, fn.params[j]? = some t → Tryd.pinned.checked.prog.wantsStandIn t = false := by
  obtain rfl : f = 4 := Option.some.inj ((show Tryd.prog.funcNamed "turnstile/turnstilelaw21.StreamFaults" = some 4 by kernel_rfl).symm.trans hf) |>.symm
  obtain rfl : fn = Tryd.f4 := (Option.some.inj (Tryd.func4.symm.trans hfn)).symm
  refine ⟨by kernel_rfl, fun j t ht => ?_⟩
  rw [Tryd.params4] at ht
  have hall : #[22, 23, 22].all (fun t => !Tryd.prog.wantsStandIn t) = true := by kernel_rfl
  have := Array.all_eq_true_iff_forall_mem.1 hall t (Array.mem_of_getElem? ht)
  have h2 : Tryd.prog.wantsStandIn t = false := by simpa using this
  exact h2

theorem card : Rows.StreamFaultsCardSaid :=
  holds_tied_goes .later _ _ _ _ said (by kernel_rfl) streamFaults_row_tie rfl ⟨rfl, rfl⟩ (by kernel_rfl) rfl plain (by kernel_rfl)
#print axioms card
end Go.Proofs.YtngmhkhncimknaaDoor.streamFaults
