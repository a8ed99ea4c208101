/- Lone contracts in a law that leaves goroutines behind: a contract shown for one goroutine, as a call in the law. -/
import Derived.Test.YtngmhkhncimknaaStmRun
import Derived.Test.YtngmhkhncimknaaHeap2
import Derived.WalkKit
import Derived.RowKit3
import Derived.Outline
import Derived.Laws.Bits64
import Derived.Laws.IdiomStrings
import Derived.Lib.BufferRead
import Derived.WalkLawsBesides
import Derived.Lib.Hide
import Derived.KernelRfl
import Derived.Lib.SlBytesConst
import Derived.Lib.SmallJoins
import Derived.StillTailTactics
import Derived.Deep.QuietTactic
import Derived.BigQuiet
import Derived.WalkSpells
namespace Go.Proofs.Ytngmhkhncimknaa
open Go Go.Conc Go.RowKit
set_option linter.unusedVariables false
set_option linter.unusedSimpArgs false

theorem drewN_below (B : Nat) (w : World) (n : Nat) : Below B w (w.drewN n) := ⟨rfl, rfl, rfl, Nat.le_refl _, fun _ _ => rfl⟩
/-- nothing but the tape of orders moved on -/
def LoneN (w w' : World) : Prop := ∃ n, w' = w.drewN n
theorem loneN_refl (w : World) : LoneN w w := ⟨0, rfl⟩
theorem loneN_next {w w' : World} (h : LoneN w w') (m : Nat) : LoneN w (w'.drewN m) := by
  obtain ⟨n, rfl⟩ := h
  exact ⟨n + m, World.drewN_drewN _ _ _⟩
theorem loneN_below {w w' : World} (h : LoneN w w') (B : Nat) : Below B w w' := by
  obtain ⟨n, rfl⟩ := h
  exact drewN_below _ _ _

theorem cells_heap {w w1 : World} (h : w1.heap = w.heap) {A : Option Addr} {vs : List Value} (hc : Cells w A vs) : Cells w1 A vs := by
  intro h0
  obtain ⟨b, o, e, hx⟩ := hc h0
  exact ⟨b, o, e, fun i hi => by rw [← hx i hi]; unfold World.cell?; rw [h]⟩
theorem rowsB_heap {w w1 : World} (h : w1.heap = w.heap) {A : Option Addr} {ls : List (List UInt8)} (hr : RowsB w A ls) : RowsB w1 A ls := by
  obtain ⟨vs, h1, h2, h3⟩ := hr
  refine ⟨vs, h1, cells_heap h h2, fun i a b => ?_⟩
  obtain ⟨A', c', e, q1, q2, q3⟩ := h3 i a b
  exact ⟨A', c', e, q1, q2, cells_heap h q3⟩

/-- a row of bytes, as a string -/
theorem lone_str {w : World} {A : Option Addr} {c : Nat} {l : List UInt8} (h : Cells w A (Bs l)) : (convert 30 9 (.slice A l.length c)).run Try.prog w = .ok (.string ⟨l.toArray⟩) w := by
  cases A with
  | none =>
    have h0 : l = [] := by
      rcases l with _ | ⟨x, l⟩
      · rfl
      · obtain ⟨b, o, hx, _⟩ := h (by simp [Bs]); cases hx
    subst h0
    exact Go.Lib.run_convert_nil_bytes w _ _ 5 c Try.underlying30 Try.underlying5 Try.underlying9
  | some a =>
    refine run_convert_bytes_back w _ _ 5 a c l Try.underlying30 Try.underlying5 Try.underlying9 (fun j hj => ?_)
    obtain ⟨b, o, hx, hc⟩ := h (by rw [Bs_length]; omega)
    cases hx
    have := hc j (by rw [Bs_length]; exact hj)
    rw [Addr.add_mid, this]
    simp [Bs, n8]

theorem stepOf_none (g : Nat) : Try.prog.stepOf g = none := by
  unfold Program.stepOf
  rw [Array.findIdx?_eq_none_iff]
  have h : Try.prog.funcs.all (fun f => match f.body with | none => true | some c => (readies c).isEmpty) = true := by kernel_rfl
  intro f hf
  have h1 := Array.all_eq_true_iff_forall_mem.1 h f hf
  cases hb : f.body with
  | none => simp
  | some c =>
    rw [hb] at h1
    simp only at h1
    have h2 : readies c = [] := by simpa using h1
    simp [h2]
theorem laid0_all (w : World) : Laid0 Try.prog w := fun g f h => by rw [stepOf_none] at h; cases h

/-- a set of functions that call none but one another -/
theorem shut_of {P : Program} (l : List FuncId) (h : l.all (fun f => match P.funcs[f]? with
    | some fn => (match fn.body with
      | some c => !(fn.name == "runtime.NumGoroutine") && codeOK (fun x => l.contains x) c && fn.results.all isTmp
      | none => false)
    | none => false) = true) (ha : P.follows .staticDataAhead = true) : Shut P (fun x => l.contains x) := by
  refine ⟨fun f hf => ?_, ha⟩
  have h1 := List.all_eq_true.1 h f (by simpa using hf)
  cases hfn : P.funcs[f]? with
  | none => simp [hfn] at h1
  | some fn =>
    cases hb : fn.body with
    | none => simp [hfn, hb] at h1
    | some c =>
      simp only [hfn, hb, Bool.and_eq_true, Bool.not_eq_true'] at h1
      exact ⟨fn, c, rfl, hb, h1.1.1, h1.1.2, h1.2⟩

/-- a lone contract, as a call of the law's goroutine -/
theorem callM_of_calls {Post : Value → World → Prop} {S : FuncId → Bool} (hS : Shut Try.prog S) {f : FuncId} (hf : S f = true) {args : Array Value} {w : World} {R : Value → World → Prop}
    (h : ∀ w1, w1.heap = w.heap → w1.os = w.os → w1.output = w.output → Calls Try.prog f args w1 fun e w' => ∃ v, e = .returned v ∧ R v (turn w' w.tape w'.drawn))
    (hR : ∀ v w' d, R v w' → R v (w'.at d)) :
    callM Try.prog (XF Try.prog (XEnds Try.prog Post)) f args (fun γ v w' => γ = none ∧ R v w') none w :=
  callF_of_callX (callX_of_calls (R := fun v w' => R v (turn w' w.tape w'.drawn)) (kit_ends hS (by kernel_rfl)) hf (laid0_all w) (fun t d _ => (h (turn w t d) rfl rfl rfl).mono fun e w' q => by
    obtain ⟨v, rfl, hv⟩ := q
    exact hv) fun v w' d q => hR v _ d q)
end Go.Proofs.Ytngmhkhncimknaa
