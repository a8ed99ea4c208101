/- Every operation that the checked kinds hold is mild, and calls none but functions of S. -/
import Derived.Test.YtngmhkhncimknaaStmOps2
import Derived.Test.YtngmhkhncimknaaStmOps3
namespace Go.Proofs.Ytngmhkhncimknaa
open Go
set_option linter.unusedVariables false
set_option linter.unusedSimpArgs false

def opOK (S : FuncId → Bool) (o : Oper) : Bool :=
  match o.op with
  | .move _ | .assign _ | .pick .. | .alloc _ | .box .. | .build .. | .buildSlice .. | .load .. | .store .. | .nilCheck _ | .binOp .. | .unOp .. | .convert .. | .makeInterface .. | .makeSlice ..
  | .slice .. | .fieldAddr .. | .field .. | .indexAddr .. | .index .. | .extract .. | .panic _ => true
  | .call c => match c.callee with
    | .value (.func f) => S f
    | .builtin .append | .builtin .len | .builtin .cap | .builtin .copy => true
    | _ => false
  | _ => false

/-- a function of S can be entered -/
structure Enters (P : Program) (S : FuncId → Bool) : Prop where
  has : ∀ f, S f = true → ∃ fn c, P.funcs[f]? = some fn ∧ fn.body = some c ∧ (fn.name == "runtime.NumGoroutine") = false

section
variable {P : Program} {S : FuncId → Bool}
theorem leafV {s : Sem Value} (h : mild P Tt s) : mild P (LeafS S) (do pure (.value (← s)) : Sem Next) := mild_seq h fun _ => mild_pure trivial
theorem leafU {s : Sem Unit} (h : mild P Tt s) : mild P (LeafS S) (do s; pure .skip : Sem Next) := mild_seq h fun _ => mild_pure trivial

theorem mild_callFunc (hS : Enters P S) {f : FuncId} (hf : S f = true) (args : Array Value) : mild P (LeafS S) (callFunc f args) := by
  obtain ⟨fn, c, h1, h2, h3⟩ := hS.has f hf
  show mild P (LeafS S) (match P.funcs[f]? with
    | none => stuck "call: no such function"
    | some fn => _)
  rw [h1]
  have hb : fn.body.isNone = false := by rw [h2]; rfl
  simp only [h3, hb, Bool.false_eq_true, if_false]
  exact hf

theorem mild_execOp (hS : Enters P S) {ρ : Operand → Value} (hρ : ∀ f, ρ (.func f) = .func (.func f) #[] #[]) {o : Oper} (ho : opOK S o = true) : mild P (LeafS S) (execOp ρ o) := by
  unfold execOp
  unfold opOK at ho
  cases hop : o.op <;> rw [hop] at ho <;> dsimp only at ho ⊢ <;> (try (cases ho; done)) <;>
    first
      | (with_reducible refine leafV ?_; mild_all; done)
      | (with_reducible refine leafU ?_; mild_all; done)
      | exact (trivial : True)
      | skip
  case pick c a b => exact mild_seq (mild_asBool _) fun _ => mild_pure trivial
  case nilCheck x =>
    split
    · exact mild_runtimePanic _
    · exact mild_runtimePanic _
    · exact mild_runtimePanic _
    · split
      · exact mild_runtimePanic _
      · exact mild_seq mild_program fun _ => mild_seq (mild_nilAhead ..) fun _ => mild_ite (mild_seq mild_unsupported fun _ => mild_pure trivial) (mild_pure trivial)
      · exact mild_pure trivial
    · exact mild_pure trivial
  case call c =>
    cases hc : c.callee with
    | value f =>
      rw [hc] at ho
      cases f <;> dsimp only at ho <;> (try (cases ho; done))
      rename_i f
      unfold resolve
      simp only [hc, hρ, Deferred.ofValue]
      exact mild_callFunc hS ho _
    | builtin b =>
      rw [hc] at ho
      unfold resolve
      cases b <;> dsimp only at ho <;> (try (cases ho; done)) <;> simp only [hc] <;> exact leafV (by mild_all)
    | invoke r n => rw [hc] at ho; cases ho

end
end Go.Proofs.Ytngmhkhncimknaa
