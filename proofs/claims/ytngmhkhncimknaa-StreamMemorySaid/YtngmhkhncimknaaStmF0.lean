/- How the child begins and how it ends. -/
import Derived.Test.YtngmhkhncimknaaStmCut
import Derived.Conc.DeferLaws
import Derived.Conc.TokenWalk
namespace Go.Proofs.Ytngmhkhncimknaa
open Go Go.Conc Go.RowKit
set_option linter.unusedVariables false
set_option linter.unusedSimpArgs false

/-- the frame below the child's function -/
def ground (P : Program) (ds : List Deferred) : Frame := { (default : Frame) with fn := P.funcs.size, defers := ds, mode := .panicking [goexitEntry] }
def closing (ts : Array TypeId) (ty : TypeId) (cn : Array Bool) (ch : Nat) : Deferred := { target := .builtin .close ts ty cn, args := #[.chan (some ch)] }

section
variable {P : Program} {b : Frame} {a : Act} {cs : List Frame} {ds : List Deferred} {w : World} {todo : List Item} {ch : Nat}

theorem close_step {ts : Array TypeId} {ty : TypeId} {cn : Array Bool} {s r : Nat} {tm : Bool} (hd : a.defers = closing ts ty cn ch :: ds) (hc : w.heap[ch]? = some (.chan 0 #[] false s r tm)) :
    stepG P false (gor { b.at a todo with mode := .returning } cs) w = .go (gor { b.at ⟨a.tmps, ds⟩ todo with mode := .returning } cs) (w.setChan ch 0 #[] true s r tm) #[⟨.obj ch, false, true⟩, ⟨.obj ch, true, true⟩] := by
  have h3 : seen P b.fn #[⟨.obj ch, false, true⟩, ⟨.obj ch, true, true⟩] = #[⟨.obj ch, false, true⟩, ⟨.obj ch, true, true⟩] := by
    simp [seen]
  have hb : ((builtin .close ts ty cn #[.chan (some ch)]).run P w) = .ok (.value (.tuple #[])) (w.setChan ch 0 #[] true s r tm) := by
    simp [builtin, run_close_open _ _ hc, World.setChan]
  have he : ((builtin .close ts ty cn #[.chan (some ch)]).events P w #[]) = #[⟨.obj ch, false, true⟩, ⟨.obj ch, true, true⟩] := by
    simp [builtin, run_close_open _ _ hc, events_close_open _ _ hc]
  simp [gor, stepG, unwind, callDeferred, Frame.at, hd, closing, invoke, hb, he, h3, GStep.after]

theorem quits_end {fc : Func} (hn : b.kind = .deferred) (hf : P.funcs[b.fn]? = some fc) (hr : fc.results = #[]) (hd : a.defers = []) :
    QuitsIn P 2 (gor { b.at a todo with mode := .returning } [ground P []]) := by
  have hs := fun (w : World) => results_none hr a.tmps P w
  have he := fun (w : World) => events_results_none (P := P) (w := w) hr a.tmps #[]
  refine .inr ⟨rfl, gor (ground P []) [], fun w => ?_, .inr ⟨rfl, { frame := ground P [], callers := [], status := .finished, dying := none }, fun w => ?_, rfl⟩⟩
  · simp [gor, stepG, unwind, doReturn, Frame.at, hn, hd, hf, hs w, he w, seen, GStep.after, ground, goexitEntry]
  · have hc : Frame.catches P { (default : Frame) with fn := P.funcs.size, defers := [], mode := .panicking [{ v := undef, recovered := false, goexit := true }] } = false := by
      simp only [Frame.catches, none_fn]
      rfl
    simp [gor, stepG, unwind, ground, hc, goexitEntry]
end

theorem RelB.shut {D : Duet} {w : World} {s r s' r' : Nat} {tm tm' : Bool} (h : w.heap[D.ch]? = some (.chan 0 #[] false s r tm)) : RelB D w (w.setChan D.ch 0 #[] true s' r' tm') := by
  have hlt := heap_lt h
  have hg := fun i => getElem?_setChan w D.ch 0 s' r' #[] true tm' i hlt
  refine ⟨rfl, rfl, rfl, by simp [World.setChan], fun i _ hc _ => by rw [hg, if_neg hc], fun t ⟨a, b, hi⟩ => ⟨a, b, by rw [hg, if_neg (fun e => D.ch_sp e.symm)]; exact hi⟩, fun i h1 h2 => absurd h2 (by simp [World.setChan]; omega), fun _ => ⟨s', r', tm', by rw [hg, if_pos rfl]⟩⟩

/-- the child's function is on its way out, the close still to be made -/
theorem XB.ends {P : Program} {D : Duet} {f : World → Prop} (hf : Stable (RelA D) f) {b : Frame} {a : Act} {todo : List Item} {w : World} {fc : Func} {ts : Array TypeId} {ty : TypeId} {cn : Array Bool} (hk : b.kind = .deferred) (hfn : P.funcs[b.fn]? = some fc) (hr : fc.results = #[])
    (hd : a.defers = [closing ts ty cn D.ch]) (hc : chanIs w D.ch false) (hfin : ∀ w₁ s r tm, RelA D w w₁ → f (w₁.setChan D.ch 0 #[] true s r tm)) :
    XB P D (.stop f) (gor { b.at a todo with mode := .returning } [ground P []]) w := by
  refine XB.close hf (n := 2) rfl (by simp [mayWake, gor]) fun w₁ h₁ => ?_
  obtain ⟨s, r, tm, hc₁⟩ := h₁.chan _ hc
  refine ⟨_, _, _, close_step hd hc₁, RelB.shut hc₁, ⟨s, r, tm, by rw [getElem?_setChan _ _ _ _ _ _ _ _ _ (heap_lt hc₁), if_pos rfl]⟩, hfin w₁ _ _ _ h₁, evIn_one ⟨⟨by simp, by simp⟩, fun b hb _ => ?_⟩, quits_end hk hfn hr rfl, .inl rfl⟩
  simp only [MemAct.ofEvent, MemAct.touch?, Option.some.injEq] at hb
  subst hb
  exact .inl (.inr rfl)

/-- the child's first step -/
theorem XB.begins {P : Program} {D : Duet} {ms : Proto} {f : FuncId} {fc : Func} {c : Code} {vals caps : Array Value} {w : World} (hf : P.funcs[f]? = some fc) (hname : (fc.name == "runtime.NumGoroutine") = false) (hb : fc.body = some c)
    (h : XB P D ms (gor (Frame.enter P f (vals ++ caps) .deferred) [ground P []]) w) : XB P D ms (gor (ground P [{ target := .fn (.func f) caps, args := vals }]) []) w := by
  have h1 : ¬ fc.name = "runtime.NumGoroutine" := by simpa using hname
  refine kitB.go rfl (fun w => ?_) h
  simp [gor, stepG, unwind, callDeferred, ground, invoke, callFunc, hf, h1, hb, GStep.after, seen_none]
end Go.Proofs.Ytngmhkhncimknaa
