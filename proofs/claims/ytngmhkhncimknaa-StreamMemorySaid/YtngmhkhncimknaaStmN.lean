/- Goroutine 0 alone: rules that need no guarantee; appends of bytes. -/
import Derived.Test.YtngmhkhncimknaaStmFeed
import Derived.Deep.Upon
namespace Go.Proofs.Ytngmhkhncimknaa
open Go Go.Conc Go.RowKit
set_option linter.unusedVariables false
set_option linter.unusedSimpArgs false

section
variable {P : Program} {X : Goroutine → World → Prop} {Q : Option (Duet × Proto) → Exit → Act → World → Prop} {a : Act} {w : World} {fn : FuncId}

theorem no_enters : Enters P (fun _ => false) := ⟨fun f h => by cases h⟩

/-- an operation of a kind that makes no call -/
theorem opsN_k (K : KitM P true rF gF (XF P X)) {ops : Array Oper} {i : Nat} {l : List Nat} {o : Oper} (ho : ops[i]? = some o) (hw : Region.wanted o (yielded ops a.tmps) = true) (hok : opOK (fun _ => false) o = true)
    (h : ∀ w₁, (∃ d, w₁ = w.at d) → ∀ C : Act → World → Prop, (∀ a' w', opsM P (XF P X) fn ops Q l none a' w' → C a' w') → uponK o a C ((execOp a.eval o).run P w₁)) : opsM P (XF P X) fn ops Q (i :: l) none a w := by
  refine opsM_cons K ho hw fun w₁ h₁ => ?_
  have hq : ∀ e ∈ listed P fn a o w₁, calm e := fun e he => by
    have hm := (run_turn _ (mild_execOp no_enters (ρ := a.eval) (fun f => rfl) hok) w₁ #[]).quiet e (by
      have := mem_listed he
      simpa using this)
    rcases hm with hm | hm
    · simp at hm
    · exact hm
  exact h w₁ h₁ _ fun a' w' q => ⟨hq, q⟩
end
end Go.Proofs.Ytngmhkhncimknaa
