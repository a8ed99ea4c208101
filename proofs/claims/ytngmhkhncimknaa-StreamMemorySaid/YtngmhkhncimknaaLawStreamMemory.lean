/- PROVED: StreamMemory, of the given program: for every list of lists of bytes the law returns true, and the argument reads behind the call as it read before. CONDITIONS: none. -/
import Derived.Test.YtngmhkhncimknaaStmMw
import Derived.Test.YtngmhkhncimknaaStmRow
namespace Go.Proofs.Ytngmhkhncimknaa.streamMemory
open Go Go.Conc Go.RowKit Go.ChangeShapes Go.WideShapes Go.ChangeAt
open Go.ChangeMaps (open_string shut_string)
set_option linter.unusedVariables false
set_option linter.unusedSimpArgs false
set_option linter.unusedVariables false

set_option maxRecDepth 100000 in
theorem contract (H : Type) (enc : TypeId × Value → H) (W : World) (base : Nat) (args : Array Value) (ds gs : List (DataW H)) (before : List MemPlace)
    (hval : ∀ (j : Nat) t v, Try.f4.params[j]? = some t → args[j]? = some v → Value.okWide Try.prog W .any base t v)
    (hW : DataW.Whole enc Try.prog Try.f4.params.toList Rows.streamMemorySpec.vars false W args.toList ds gs before)
    (hreach : (DataW.weightsEach Try.prog (Try.f4.params.toList ++ (OpenSpec.ofChange Rows.streamMemorySpec).bare.plain.varTypes Try.prog) (ds ++ gs)).all (· ≤ reachBytes) = true) :
    EndsRun Try.prog (fun v W' => Rows.streamMemorySpec.post enc Try.prog Try.f4 false true false false W args v W') (solo (G (Frame.enter Try.prog 4 args .normal) []) W) #[] := by
  have hW' := hW
  obtain ⟨p, q, hA, hV, rfl, hfz, hnd⟩ := hW
  rw [Try.params4] at hA hval hreach
  obtain ⟨v0, vs0, d0, ds0, p0, q0, hargs, rfl, rfl, h0, r0⟩ := trodAll_cons hA
  obtain ⟨rfl, rfl, rfl⟩ := trodAll_nil r0
  obtain rfl : args = #[v0] := by cases args; simp_all
  obtain ⟨rfl, rfl⟩ := trodVars_none hV
  obtain ⟨a0, l0, k0, rfl⟩ := okWide_slice Try.underlying34 (hval 0 34 v0 rfl rfl)
  obtain ⟨fuel0, hf0⟩ := h0
  obtain ⟨A0, c0, x0, e0, hl0, hc0, hx0, hn0, hb0⟩ := pw_rows Try.underlying34 Try.underlying30 Try.underlying5 cellsBytes cellsU8 bytesRow bytesU8 hf0 (light_arg hreach (j := 0) rfl rfl)
  have len0 := slice_datum Try.underlying34 hf0 _ _ _ rfl
  obtain ⟨rfl, rfl, rfl⟩ : a0 = A0 ∧ l0 = x0.length ∧ k0 = c0 := by simpa [Value.cells] using e0
  have hr0 := reach_slice (j := 0) hreach rfl rfl Try.underlying34 len0
  exact memory_run a0 k0 x0 (by omega) (fun l hl => by have := hb0 l hl; omega) W hx0 fun W' hb => law_post laidOut (by kernel_rfl) rfl Try.underlying4 hW' rfl rfl hb

theorem laid_met (os : Os) : laidMet Try.prog Rows.streamMemoryRow.laid ((stmWorld os).forCall (fun _ _ => 0) ⟨#[], #[.slice none 0 0], []⟩).memory :=
  laidMet_of_run' (l := []) 8 (by kernel_rfl) (by kernel_rfl)
theorem reads (os : Os) {H : Type} (enc : TypeId × Value → H) : ∃ places, DataW.whole enc Try.prog ((stmWorld os).forCall (fun _ _ => 0) ⟨#[], #[.slice none 0 0], []⟩).memory Try.f4.params.toList Rows.streamMemorySpec.vars false (#[.slice none 0 0] : Array Value).toList 8 = some ([.nil], [], places) :=
  ⟨[], by kernel_rfl⟩

set_option maxRecDepth 100000 in
theorem lifted (os : Os) (started : os.Started) (H : Type) (enc : TypeId × Value → H) (F : Stop.Interp) :
    ReturnsInLeavingWide {} Try.checked os 4 .any ((OpenSpec.ofChange Rows.streamMemorySpec).preRow enc Try.prog Try.f4 [] false []) (((OpenSpec.ofChange Rows.streamMemorySpec).at F).post enc Try.prog Try.f4 false true false false) := by
  obtain ⟨places, hx⟩ := reads os enc
  refine leaving_of_runs (C := Try.checked) (s := (OpenSpec.ofChange Rows.streamMemorySpec)) own started Try.func4
    (witness_row_at (enc := enc) (C := Try.checked) false (stmWorld os) #[.slice none 0 0] rfl (by kernel_rfl) (by kernel_rfl) (by kernel_rfl)
      (OpenSpec.preRow_of_cond 8 hx (by kernel_rfl) (fun k hk => by cases hk) (by kernel_rfl) (laid_met os))) ?_
  intro W base args ds gs before hval hW hcond hreach
  exact contract H enc W base args ds gs before hval hW hreach

theorem said : Rows.StreamMemorySaid :=
  OpenClaim.holds_of_wide_leaving 4 Try.f4 rfl rfl rfl rfl rfl rfl rfl ⟨rfl, rfl, rfl, rfl, rfl⟩ rfl rfl rfl rfl rfl (by kernel_rfl) Try.func4 (by kernel_rfl)
    (of_decide_eq_true (by kernel_rfl)) (by unfold Func.isWrapper; first | (rw [if_pos (by decide +kernel)]; kernel_rfl) | (rw [if_neg (by decide +kernel)]; exact ⟨rfl, rfl⟩))
    (fun os started H enc _ => by rw [OpenClaim.pre_eq_preRow]; exact lifted os started H enc fun _ _ _ => 0)
#print axioms said
end Go.Proofs.Ytngmhkhncimknaa.streamMemory
