/- Feed and the goroutine that it started: what each may do to the world beside the other. -/
import Derived.Test.YtngmhkhncimknaaStmTrace
namespace Go.Proofs.Ytngmhkhncimknaa
open Go Go.Conc
set_option linter.unusedVariables false
set_option linter.unusedSimpArgs false

/-- the child's number, the channel's block, the heap's size at the go statement, the block that the child writes at its end, the types of the blocks that each makes -/
structure Duet where
  c : Nat
  ch : Nat
  base : Nat
  sp : Nat
  tA : TypeId
  tB : TypeId
  ne : tA ≠ tB
  c0 : c ≠ 0
  sp_lt : sp < base
  ch_lt : ch < base
  ch_sp : ch ≠ sp

def isCells (w : World) (i : Nat) (t : TypeId) : Prop := ∃ cs fz, w.heap[i]? = some (Obj.cells cs t fz)
def chanIs (w : World) (ch : Nat) (closed : Bool) : Prop := ∃ s r tm, w.heap[ch]? = some (Obj.chan 0 #[] closed s r tm)

theorem isCells_inj {w : World} {i : Nat} {t t' : TypeId} (h : isCells w i t) (h' : isCells w i t') : t = t' := by
  obtain ⟨_, _, h⟩ := h
  obtain ⟨_, _, h'⟩ := h'
  rw [h] at h'
  simp only [Option.some.injEq, Obj.cells.injEq] at h'
  exact h'.2.1

/-- what goroutine 0 may have done -/
structure RelA (D : Duet) (w w' : World) : Prop where
  os : w'.os = w.os
  output : w'.output = w.output
  tape : w'.tape = w.tape
  size : w.heap.size ≤ w'.heap.size
  keep : ∀ i : Nat, i < w.heap.size → i ≠ D.ch → ¬ (D.base ≤ i ∧ isCells w i D.tA) → w'.heap[i]? = w.heap[i]?
  own : ∀ i, isCells w i D.tA → isCells w' i D.tA
  new : ∀ i, w.heap.size ≤ i → i < w'.heap.size → isCells w' i D.tA
  chan : ∀ b, chanIs w D.ch b → chanIs w' D.ch b

/-- what the child may have done -/
structure RelB (D : Duet) (w w' : World) : Prop where
  os : w'.os = w.os
  output : w'.output = w.output
  tape : w'.tape = w.tape
  size : w.heap.size ≤ w'.heap.size
  keep : ∀ i : Nat, i < w.heap.size → i ≠ D.ch → i ≠ D.sp → w'.heap[i]? = w.heap[i]?
  own : ∀ t, isCells w D.sp t → isCells w' D.sp t
  new : ∀ i, w.heap.size ≤ i → i < w'.heap.size → isCells w' i D.tB
  chan : chanIs w D.ch true → chanIs w' D.ch true

section
variable {D : Duet} {w w' w'' : World}

theorem lt_of_isCells {i : Nat} {t : TypeId} (h : isCells w i t) : i < w.heap.size := by
  obtain ⟨_, _, h⟩ := h
  exact (Array.getElem?_eq_some_iff.1 h).1

theorem RelA.at_ (w : World) (d : Nat) : RelA D w (w.at d) :=
  ⟨rfl, rfl, rfl, Nat.le_refl _, fun _ _ _ _ => rfl, fun _ h => h, fun i h1 h2 => absurd h2 (Nat.not_lt.2 h1), fun _ h => h⟩
theorem RelB.at_ (w : World) (d : Nat) : RelB D w (w.at d) :=
  ⟨rfl, rfl, rfl, Nat.le_refl _, fun _ _ _ _ => rfl, fun _ h => h, fun i h1 h2 => absurd h2 (Nat.not_lt.2 h1), fun h => h⟩

theorem RelA.trans (h : RelA D w w') (k : RelA D w' w'') : RelA D w w'' := by
  refine ⟨k.os.trans h.os, k.output.trans h.output, k.tape.trans h.tape, Nat.le_trans h.size k.size, fun i hi hc hn => ?_, fun i hi => k.own i (h.own i hi), fun i h1 h2 => ?_, fun b hb => k.chan b (h.chan b hb)⟩
  · have e := h.keep i hi hc hn
    rw [← e]
    refine k.keep i (Nat.lt_of_lt_of_le hi h.size) hc fun ⟨hb, cs, fz, hcs⟩ => hn ⟨hb, cs, fz, by rw [← e]; exact hcs⟩
  · rcases Nat.lt_or_ge i w'.heap.size with hlt | hge
    · exact k.own i (h.new i h1 hlt)
    · exact k.new i hge h2
theorem RelB.trans (hb : D.base ≤ w.heap.size) (h : RelB D w w') (k : RelB D w' w'') : RelB D w w'' := by
  refine ⟨k.os.trans h.os, k.output.trans h.output, k.tape.trans h.tape, Nat.le_trans h.size k.size, fun i hi hc hn => ?_, fun t ht => k.own t (h.own t ht), fun i h1 h2 => ?_, fun hx => k.chan (h.chan hx)⟩
  · rw [← h.keep i hi hc hn]
    exact k.keep i (Nat.lt_of_lt_of_le hi h.size) hc hn
  · rcases Nat.lt_or_ge i w'.heap.size with hlt | hge
    · have hc := h.new i h1 hlt
      have h3 := D.ch_lt
      have h4 := D.sp_lt
      have e := k.keep i hlt (by omega) (by omega)
      obtain ⟨cs, fz, hcs⟩ := hc
      exact ⟨cs, fz, by rw [e]; exact hcs⟩
    · exact k.new i hge h2
end

/-- a set of worlds that a rely does not leave -/
def Stable (R : World → World → Prop) (W : World → Prop) : Prop := ∀ w w', W w → R w w' → W w'

/-- the zones in a world -/
def zoneA (D : Duet) (w : World) (l : Loc) : Prop := ∃ a, l = .cell a ∧ D.base ≤ a.block ∧ isCells w a.block D.tA
def zoneB (D : Duet) (w : World) (l : Loc) : Prop := (∃ a, l = .cell a ∧ ((D.base ≤ a.block ∧ isCells w a.block D.tB) ∨ a.block = D.sp)) ∨ l = .obj D.ch
def zoneS (D : Duet) (l : Loc) : Prop := ∃ a, l = .cell a ∧ a.block < D.base ∧ a.block ≠ D.sp
def zones (D : Duet) (w : World) : Zones where
  A := zoneA D w
  B := zoneB D w
  sh := zoneS D
  ab := by
    rintro l ⟨a, rfl, h1, h2⟩ (⟨b, hb, h3⟩ | hb)
    · obtain rfl : a = b := by simpa using hb
      rcases h3 with ⟨_, h4⟩ | h4
      · exact D.ne (isCells_inj h2 h4)
      · have := D.sp_lt; omega
    · cases hb
  as := by
    rintro l ⟨a, rfl, h1, _⟩ ⟨b, hb, h3, _⟩
    obtain rfl : a = b := by simpa using hb
    omega
  bs := by
    rintro l (⟨a, rfl, h3⟩ | rfl) ⟨b, hb, h4, h5⟩
    · obtain rfl : a = b := by simpa using hb
      rcases h3 with ⟨h6, _⟩ | h6
      · omega
      · exact h5 h6
    · cases hb

/-- what a step's events may name -/
def evIn (Z sh : Loc → Prop) (es : Array Event) : Prop := ∀ e ∈ es, calm e ∧ ∀ b, (MemAct.ofEvent e).touch? = some b → b.loc.isMemory = true → Zones.within Z sh b

/-- a message: what a value reads as -/
abbrev Msg := Value → World → Prop
/-- what is still to be sent; what comes next may hang on the value and on the world in which it was handed over -/
inductive Proto
  | stop (f : World → Prop) : Proto
  | msg (m : Msg) (k : Value → World → Proto) : Proto

/-- the child's script: from 'g', in a world of W, it sends these messages, one by one, closes, and leaves -/
inductive SB (P : Program) (D : Duet) : Goroutine → (World → Prop) → Proto → Prop
  | step {g : Goroutine} {W : World → Prop} {ms : Proto} (G' : World → Goroutine) (w' : World → World) (es : World → Array Event) (W' : World → World → Prop)
      (run : g.status = .running) (stab : Stable (RelA D) W) (hs : ∀ w, W w → stepG P false g w = .go (G' w) (w' w) (es w)) (rel : ∀ w, W w → RelB D w (w' w)) (open_ : ∀ w, W w → chanIs w D.ch false → chanIs (w' w) D.ch false)
      (ev : ∀ w, W w → evIn (zoneB D (w' w)) (zoneS D) (es w)) (hW : ∀ w, W w → W' w (w' w)) (next : ∀ w, W w → SB P D (G' w) (W' w) ms) : SB P D g W ms
  | send {g : Goroutine} {W : World → Prop} {m : Msg} {k : Value → World → Proto} (g₂ : Goroutine) (v z : Value) (sh : CommShape) (W' : World → World → Prop)
      (run : g.status = .running) (stab : Stable (RelA D) W) (hs : ∀ w, W w → stepG P false g w = .comm g₂ #[scase D.ch v z] true sh w #[]) (hm : ∀ w, W w → m v w) (hW : ∀ w, W w → W' w w)
      (next : ∀ w, W w → SB P D (g₂.finishComm P #[scase D.ch v z] sh 0 undef false) (W' w) (k v w)) : SB P D g W (.msg m k)
  | close {g : Goroutine} {W : World → Prop} {f : World → Prop} (hf : Stable (RelA D) f) (G' : World → Goroutine) (w' : World → World) (es : World → Array Event) (n : Nat)
      (run : g.status = .running) (stab : Stable (RelA D) W) (hs : ∀ w, W w → stepG P false g w = .go (G' w) (w' w) (es w)) (rel : ∀ w, W w → RelB D w (w' w)) (shut : ∀ w, W w → chanIs (w' w) D.ch true) (fin : ∀ w, W w → f (w' w)) (wakes : mayWake P g = true)
      (ev : ∀ w, W w → ∃ e₁, es w = #[e₁, ⟨.obj D.ch, true, true⟩] ∧ evIn (zoneB D (w' w)) (zoneS D) #[e₁]) (quits : ∀ w, W w → QuitsIn P n (G' w)) (st : ∀ w, W w → (G' w).status = .running ∨ (G' w).status = .finished) : SB P D g W (.stop f)

/-- goroutine 0's script: it receives these messages, whatever they are made of, finds the channel closed, and stands where X holds -/
inductive SA (P : Program) (D : Duet) (X : Goroutine → World → Prop) : Goroutine → (World → Prop) → Proto → Prop
  | step {g : Goroutine} {W : World → Prop} {ms : Proto} (G' : World → Goroutine) (w' : World → World) (es : World → Array Event) (W' : World → World → Prop)
      (run : g.status = .running) (stab : Stable (RelB D) W) (hs : ∀ w, W w → stepG P true g w = .go (G' w) (w' w) (es w)) (rel : ∀ w, W w → RelA D w (w' w))
      (ev : ∀ w, W w → evIn (zoneA D (w' w)) (zoneS D) (es w)) (hW : ∀ w, W w → W' w (w' w)) (next : ∀ w, W w → SA P D X (G' w) (W' w) ms) : SA P D X g W ms
  | recv {g : Goroutine} {W : World → Prop} {m : Msg} {k : Value → World → Proto} (g₂ : Goroutine) (z : Value) (sh : CommShape) (W' : Value → World → World → Prop)
      (run : g.status = .running) (stab : Stable (RelB D) W) (hs : ∀ w, W w → stepG P true g w = .comm g₂ #[rcase D.ch z] true sh w #[]) (hW : ∀ v w, W w → m v w → W' v w w)
      (next : ∀ v w, W w → m v w → SA P D X (g₂.finishComm P #[rcase D.ch z] sh 0 v true) (W' v w) (k v w)) : SA P D X g W (.msg m k)
  | done {g : Goroutine} {W : World → Prop} {f : World → Prop} (g₂ : Goroutine) (z : Value) (sh : CommShape)
      (run : g.status = .running) (same : g₂.frame = g.frame ∧ g₂.callers = g.callers ∧ g₂.dying = g.dying) (stab : Stable (RelB D) W) (hs : ∀ w, W w → stepG P true g w = .comm g₂ #[rcase D.ch z] true sh w #[])
      (next : ∀ w, W w → f w → X (g₂.finishComm P #[rcase D.ch z] sh 0 z false) w) : SA P D X g W (.stop f)
end Go.Proofs.Ytngmhkhncimknaa
