/- PROVED: StreamExact, of the given program: for every list of calls the law returns true, and the argument reads behind the call as it read before. CONDITIONS: none. -/
import Derived.Test.YtngmhkhncimknaaStmExW
import Derived.Test.YtngmhkhncimknaaStmRow
namespace Go.Proofs.Ytngmhkhncimknaa.streamExact
open Go Go.Conc Go.RowKit Go.ChangeShapes Go.WideShapes Go.ChangeAt
open Go.ChangeMaps (open_string shut_string)
set_option linter.unusedVariables false
set_option linter.unusedSimpArgs false
set_option linter.unusedVariables false

theorem cellsOpD : Try.prog.cellsOf 32 = 2 := by kernel_rfl
theorem cellsInt : Try.prog.cellsOf 3 = 1 := by kernel_rfl
set_option maxRecDepth 100000 in
theorem p_opd {H : Type} {enc : TypeId × Value → H} {w : World} {spare : Nat → Bool} {held : Bool} {fuel : Nat} {cs : List Value} {x : DataW H × List MemPlace}
    (h : DataW.trod enc Try.prog w 0 spare held fuel 32 cs = some x) (hw : Light Try.prog 32 x.1) : ∃ o, OpD w cs o := by
  obtain ⟨xs, n, _, hx, hl, hxl, hf⟩ := DataW.trod_struct Try.underlying32 h
  rw [cellsOpD] at hl
  match cs, hl with
  | [v0, v1], _ =>
    match xs, hxl with
    | [y0, y1], _ =>
      have f0 : DataW.trod enc Try.prog w 0 spare held n 3 [v0] = some y0 := trod_field hf 0 _ rfl 3 0 rfl rfl 1 cellsInt
      have f1 : DataW.trod enc Try.prog w 0 spare held n 30 [v1] = some y1 := trod_field hf 1 _ rfl 30 1 rfl rfl 1 cellsBytes
      have hx' := congrArg Prod.fst hx
      have w1 : Light Try.prog 30 y1.1 := light_field (p := []) (xs := [y0, y1]) Try.underlying32 hx' hw 1 _ rfl _ rfl
      obtain ⟨kind, e0, hk⟩ := p_i64 Try.underlying3 f0
      obtain ⟨vb, b, e3, ⟨Ab, cb, rfl, hb1, hb2, hb3⟩, hb4⟩ := pw_bytes Try.underlying30 Try.underlying5 cellsU8 bytesU8 f1 w1
      simp only [List.cons.injEq, and_true] at e0 e3
      subst e0 e3
      exact ⟨⟨kind, b⟩, Ab, cb, rfl, ⟨hb1, hb2⟩, hb4, hb3⟩
set_option maxRecDepth 100000 in
theorem contract (H : Type) (enc : TypeId × Value → H) (W : World) (base : Nat) (args : Array Value) (ds gs : List (DataW H)) (before : List MemPlace)
    (hval : ∀ (j : Nat) t v, Try.f3.params[j]? = some t → args[j]? = some v → Value.okWide Try.prog W .any base t v)
    (hW : DataW.Whole enc Try.prog Try.f3.params.toList Rows.streamExactSpec.vars false W args.toList ds gs before)
    (hreach : (DataW.weightsEach Try.prog (Try.f3.params.toList ++ (OpenSpec.ofChange Rows.streamExactSpec).bare.plain.varTypes Try.prog) (ds ++ gs)).all (· ≤ reachBytes) = true) :
    EndsRun Try.prog (fun v W' => Rows.streamExactSpec.post enc Try.prog Try.f3 false true false false W args v W') (solo (G (Frame.enter Try.prog 3 args .normal) []) W) #[] := by
  have hW' := hW
  obtain ⟨p, q, hA, hV, rfl, hfz, hnd⟩ := hW
  rw [Try.params3] at hA hval hreach
  obtain ⟨v0, vs0, d0, ds0, p0, q0, hargs, rfl, rfl, h0, r0⟩ := trodAll_cons hA
  obtain ⟨rfl, rfl, rfl⟩ := trodAll_nil r0
  obtain rfl : args = #[v0] := by cases args; simp_all
  obtain ⟨rfl, rfl⟩ := trodVars_none hV
  obtain ⟨a0, l0, k0, rfl⟩ := okWide_slice Try.underlying22 (hval 0 22 v0 rfl rfl)
  obtain ⟨fuel0, hf0⟩ := h0
  obtain ⟨A0, c0, x0, e0, hl0, hc0, hx0, hn0⟩ := pw_slice (R := OpD W) Try.underlying22 cellsOpD (by decide) (fun n cs x _ h hw => p_opd h hw) hf0 (light_arg hreach (j := 0) rfl rfl)
  have len0 := slice_datum Try.underlying22 hf0 _ _ _ rfl
  obtain ⟨rfl, rfl, rfl⟩ : a0 = A0 ∧ l0 = x0.length ∧ k0 = c0 := by simpa [Value.cells] using e0
  exact exact_run a0 k0 x0 (Nat.le_trans hl0 hc0) W hx0 fun W' hb => law_post laidOut (by kernel_rfl) rfl Try.underlying4 hW' rfl rfl hb

theorem laid_met (os : Os) : laidMet Try.prog Rows.streamExactRow.laid ((stmWorld os).forCall (fun _ _ => 0) ⟨#[], #[.slice none 0 0], []⟩).memory :=
  laidMet_of_run' (l := []) 8 (by kernel_rfl) (by kernel_rfl)
theorem reads (os : Os) {H : Type} (enc : TypeId × Value → H) : ∃ places, DataW.whole enc Try.prog ((stmWorld os).forCall (fun _ _ => 0) ⟨#[], #[.slice none 0 0], []⟩).memory Try.f3.params.toList Rows.streamExactSpec.vars false (#[.slice none 0 0] : Array Value).toList 8 = some ([.nil], [], places) :=
  ⟨[], by kernel_rfl⟩

set_option maxRecDepth 100000 in
theorem lifted (os : Os) (started : os.Started) (H : Type) (enc : TypeId × Value → H) (F : Stop.Interp) :
    ReturnsInLeavingWide {} Try.checked os 3 .any ((OpenSpec.ofChange Rows.streamExactSpec).preRow enc Try.prog Try.f3 [] false []) (((OpenSpec.ofChange Rows.streamExactSpec).at F).post enc Try.prog Try.f3 false true false false) := by
  obtain ⟨places, hx⟩ := reads os enc
  refine leaving_of_runs (C := Try.checked) (s := (OpenSpec.ofChange Rows.streamExactSpec)) own started Try.func3
    (witness_row_at (enc := enc) (C := Try.checked) false (stmWorld os) #[.slice none 0 0] rfl (by kernel_rfl) (by kernel_rfl) (by kernel_rfl)
      (OpenSpec.preRow_of_cond 8 hx (by kernel_rfl) (fun k hk => by cases hk) (by kernel_rfl) (laid_met os))) ?_
  intro W base args ds gs before hval hW hcond hreach
  exact contract H enc W base args ds gs before hval hW hreach

theorem said : Rows.StreamExactSaid :=
  OpenClaim.holds_of_wide_leaving 3 Try.f3 rfl rfl rfl rfl rfl rfl rfl ⟨rfl, rfl, rfl, rfl, rfl⟩ rfl rfl rfl rfl rfl (by kernel_rfl) Try.func3 (by kernel_rfl)
    (of_decide_eq_true (by kernel_rfl)) (by unfold Func.isWrapper; first | (rw [if_pos (by decide +kernel)]; kernel_rfl) | (rw [if_neg (by decide +kernel)]; exact ⟨rfl, rfl⟩))
    (fun os started H enc _ => by rw [OpenClaim.pre_eq_preRow]; exact lifted os started H enc fun _ _ _ => 0)
#print axioms said
end Go.Proofs.Ytngmhkhncimknaa.streamExact
