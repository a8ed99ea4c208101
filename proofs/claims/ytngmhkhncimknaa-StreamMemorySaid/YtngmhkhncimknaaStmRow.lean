/- From one good run at every start to the row of a law that leaves goroutines behind it. -/
import Derived.Test.YtngmhkhncimknaaStmRun
import Derived.Test.YtngmhkhncimknaaOpen2
import Derived.Test.YtngmhkhncimknaaRows
import Derived.Deep.DeepHandedRow
import Derived.LaidLaws
import Derived.Conc.LeavingOf
namespace Go.Proofs.Ytngmhkhncimknaa
open Go Go.Conc Go.RowKit Go.ChangeShapes Go.WideShapes Go.ChangeAt
set_option linter.unusedVariables false
set_option linter.unusedSimpArgs false
set_option linter.unusedVariables false

theorem own : ownKnob Try.prog.godebug = none := by kernel_rfl
theorem laidOut : laidOutB Try.prog = true := by kernel_rfl
theorem cellsU8 : Try.prog.cellsOf 5 = 1 := by kernel_rfl
theorem cellsBytes : Try.prog.cellsOf 30 = 1 := by kernel_rfl
theorem cellsRows : Try.prog.cellsOf 34 = 1 := by kernel_rfl
theorem bytesRow : Try.prog.bytesOf 30 = 24 := by kernel_rfl
theorem bytesU8 : Try.prog.bytesOf 5 = 1 := by kernel_rfl

theorem EndsRun.mono {P : Program} {Post Post' : Value → World → Prop} {m : Machine} {t : Trace} (h : EndsRun P Post m t) (hp : ∀ v w, Post v w → Post' v w) : EndsRun P Post' m t := by
  obtain ⟨N, last, o, w', t', h1, h2, h3, h4⟩ := h
  exact ⟨N, last, o, w', t', h1, h2, h3, Conc.Good.mono h4 fun v x => hp v w' x⟩

/-- THE FORM of a row that leaves goroutines behind, from a good run at every start that its reading lets in -/
theorem leaving_of_runs {H : Type} {enc : TypeId × Value → H} {C : Checked} {os : Os} {f : FuncId} {fn : Func} {s : OpenSpec} {F : Stop.Interp}
    (own : ownKnob C.prog.godebug = none) (started : os.Started) (hfn : C.prog.funcs[f]? = some fn)
    (witness : ∃ (w : World) (tape : Tape) (i : Input), w.os = os ∧ (w.forCall tape i).Shaped C.prog ∧ i.vars = [] ∧ Input.okWide C.prog (w.forCall tape i) .any w.heap.size f i ∧
      s.preRow enc C.prog fn [] false [] (w.forCall tape i).memory i.args ∧ ({} : Assume).holds C.prog (lone (Frame.enter C.prog f i.args .normal) [] (w.forCall tape i)))
    (runs : ∀ (W : World) (base : Nat) (args : Array Value) (ds gs : List (DataW H)) (before : List MemPlace),
      (∀ (j : Nat) t v, fn.params[j]? = some t → args[j]? = some v → Value.okWide C.prog W .any base t v) →
      DataW.Whole enc C.prog fn.params.toList s.vars false W args.toList ds gs before →
      (∀ k, s.cond = some k → k H (ds ++ gs) = true) →
      (DataW.weightsEach C.prog (fn.params.toList ++ s.bare.plain.varTypes C.prog) (ds ++ gs)).all (· ≤ reachBytes) = true →
      EndsRun C.prog (fun v W' => (s.at F).post enc C.prog fn false true false false W args v W') (solo (G (Frame.enter C.prog f args .normal) []) W) #[]) :
    ReturnsInLeavingWide {} C os f .any (s.preRow enc C.prog fn [] false []) ((s.at F).post enc C.prog fn false true false false) := by
  refine returnsInLeavingWide_of_good own started witness fun w tape i _ _ _ hok hpre _ => ?_
  obtain ⟨_, _, _, g, hg, _, _, _, _, hval⟩ := hok
  obtain rfl : g = fn := Option.some.inj (hg.symm.trans hfn)
  obtain ⟨ds, gs, before, hw, _, hk⟩ := OpenSpec.pre_parts hpre.1.1
  obtain ⟨M, last, o, w', t', h1, h2, h3, h4⟩ := runs (w.forCall tape i) w.heap.size i.args ds gs before hval (DataW.Whole.of_heap (w' := w.forCall tape i) (by rfl) hw) hk (hpre.2.weights hw)
  exact ⟨M, last, o, w', t', h1, h2, h3, h4.mono fun v hp => ChangeSpec.post_blind hp⟩

/-- a world for the witness -/
noncomputable def stmWorld (os : Os) : World := World.holding Try.prog os ⟨#[], #[], []⟩
end Go.Proofs.Ytngmhkhncimknaa
