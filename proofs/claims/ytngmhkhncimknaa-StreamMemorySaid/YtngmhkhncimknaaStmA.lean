/- Goroutine 0 through Feed: alone, then beside the child, then alone again: one judgement for all. -/
import Derived.Test.YtngmhkhncimknaaStmF1
namespace Go.Proofs.Ytngmhkhncimknaa
open Go Go.Conc Go.RowKit
set_option linter.unusedVariables false
set_option linter.unusedSimpArgs false

section
variable {P : Program} {X : Goroutine → World → Prop}

def XF (P : Program) (X : Goroutine → World → Prop) : Option (Duet × Proto) → Goroutine → World → Prop
  | none => X
  | some (D, ms) => XA P D X (some ms)
def rF : Option (Duet × Proto) → World → World → Prop
  | none, w, w₁ => ∃ d, w₁ = w.at d
  | some (D, _), w, w₁ => D.base ≤ w.heap.size ∧ RelB D w w₁
def gF : Option (Duet × Proto) → World → World → Array Event → Prop
  | none, _, _, es => ∀ e ∈ es, calm e
  | some (D, _), w, w', es => RelA D w w' ∧ evIn (zoneA D w') (zoneS D) es

theorem kitF (hX : Back P X) (hat : ∀ g w d, X g (w.at d) ↔ X g w) : KitM P true rF gF (XF P X) where
  terms := fun γ => by
    cases γ with
    | none => exact ⟨fun a b c ⟨d, h⟩ ⟨d', h'⟩ => ⟨d', by rw [h', h]; rfl⟩, fun w e he => by simp at he⟩
    | some p => exact (kitA (D := p.1) hX hat).terms (some p.2)
  rely := fun γ g w w₁ h hr => by
    cases γ with
    | none => obtain ⟨d, rfl⟩ := hr; exact (hat g w d).2 h
    | some p => exact (kitA (D := p.1) hX hat).rely (some p.2) g w w₁ h hr
  stop := fun γ g w h => by
    cases γ with
    | none => exact h w ⟨w.drawn, rfl⟩
    | some p => exact (kitA (D := p.1) hX hat).stop (some p.2) g w h
  back := fun γ g w hr h => by
    cases γ with
    | none =>
      refine hX g w hr fun d => ?_
      have := h (w.at d) ⟨d, rfl⟩
      revert this
      cases hst : stepG P true g (w.at d) <;> simp only [GStep.goes, false_implies]
      exact fun x => ⟨_, _, _, rfl, x.1, x.2⟩
    | some p => exact (kitA (D := p.1) hX hat).back (some p.2) g w hr h

variable {D : Duet} {Q : Option (Duet × Proto) → Exit → Act → World → Prop} {a : Act} {w : World} {fn : FuncId}

theorem opsF_recv {m : Msg} {km : Value → World → Proto} {ops : Array Oper} {i : Nat} {l : List Nat} {o : Oper} {z : Value} (ho : ops[i]? = some o) (hw : Region.wanted o (yielded ops a.tmps) = true)
    (hrun : ∀ w₁, (execOp a.eval o).run P w₁ = .ok (.comm #[rcase D.ch z] true (.recv true)) w₁) (hev : ∀ w₁, (execOp a.eval o).events P w₁ #[] = #[])
    (next : ∀ v w₁, D.base ≤ w.heap.size → RelB D w w₁ → m v w₁ → opsM P (XF P X) fn ops Q l (some (D, km v w₁)) (a.put o.dst (.tuple #[v, .bool true])) w₁) : opsM P (XF P X) fn ops Q (i :: l) (some (D, .msg m km)) a w := by
  intro b k cs hb hk hK
  show XA P D X (some (.msg m km)) _ w
  intro hbase
  refine XA.recv (g := G (b.at a (.inRegion ops (i :: l) :: k)) cs) (g₂ := G (b.at a (.inRegion ops (i :: l) :: k)) cs) (z := z) (sh := .recv true) rfl (fun w₁ _ => by rw [stepG_comm ho hw (not_early hk) (hrun w₁), listed_nil (hev w₁)]) (fun v w₁ h₁ hm => ?_) hbase
  have hf := Frame.finish_at b a ops i l k (.tuple #[v, .bool true])
  rw [ho] at hf
  have := next v w₁ hbase h₁ hm b k cs hb hk hK
  have e : (G (b.at a (.inRegion ops (i :: l) :: k)) cs).finishComm P #[rcase D.ch z] (.recv true) 0 v true = gor (b.at (a.put o.dst (.tuple #[v, .bool true])) (.inRegion ops l :: k)) cs := by
    rw [finishComm_recv]
    unfold Go.Conc.served
    simp only [G, gor, recvd, if_true, hf, Option.bind_some]
  rw [e]
  exact this

theorem opsF_done {f : World → Prop} {ops : Array Oper} {i : Nat} {l : List Nat} {o : Oper} {z : Value} (ho : ops[i]? = some o) (hw : Region.wanted o (yielded ops a.tmps) = true)
    (hrun : ∀ w₁, (execOp a.eval o).run P w₁ = .ok (.comm #[rcase D.ch z] true (.recv true)) w₁) (hev : ∀ w₁, (execOp a.eval o).events P w₁ #[] = #[])
    (next : ∀ w₁, D.base ≤ w.heap.size → RelB D w w₁ → f w₁ → opsM P (XF P X) fn ops Q l none (a.put o.dst (.tuple #[z, .bool false])) w₁) : opsM P (XF P X) fn ops Q (i :: l) (some (D, .stop f)) a w := by
  intro b k cs hb hk hK
  show XA P D X (some (.stop f)) _ w
  intro hbase
  refine XA.done (g := G (b.at a (.inRegion ops (i :: l) :: k)) cs) (g₂ := G (b.at a (.inRegion ops (i :: l) :: k)) cs) (z := z) (sh := .recv true) rfl ⟨rfl, rfl, rfl⟩ (fun w₁ _ => by rw [stepG_comm ho hw (not_early hk) (hrun w₁), listed_nil (hev w₁)]) (fun w₁ h₁ hfw => ?_) hbase
  have hf := Frame.finish_at b a ops i l k (.tuple #[z, .bool false])
  rw [ho] at hf
  have := next w₁ hbase h₁ hfw b k cs hb hk hK
  have e : (G (b.at a (.inRegion ops (i :: l) :: k)) cs).finishComm P #[rcase D.ch z] (.recv true) 0 z false = gor (b.at (a.put o.dst (.tuple #[z, .bool false])) (.inRegion ops l :: k)) cs := by
    rw [finishComm_recv]
    unfold Go.Conc.served
    simp only [G, gor, recvd, if_true, hf, Option.bind_some]
  rw [e]
  exact this

/-- a lone call, through the bridge -/
theorem callF_of_callX {f : FuncId} {args : Array Value} {Rp : Value → World → Prop} (h : callX P X f args Rp w) : callM P (XF P X) f args (fun γ v w' => γ = none ∧ Rp v w') none w :=
  fun c cs hK => h c cs fun v w' q => hK none v w' ⟨rfl, q⟩
theorem callX_of_callF {f : FuncId} {args : Array Value} {Rp : Value → World → Prop} (h : callM P (XF P X) f args (fun γ v w' => γ = none ∧ Rp v w') none w) : callX P X f args Rp w :=
  fun c cs hK => h c cs fun γ' v w' ⟨e, q⟩ => by subst e; exact hK v w' q
end

section
variable {P : Program} {Post : Value → World → Prop} {Q : Option (Duet × Proto) → Exit → Act → World → Prop} {a : Act} {w : World} {fn : FuncId}

/-- the go statement -/
theorem opsF_go {ops : Array Oper} {i : Nat} {l : List Nat} {o : Oper} {f : Fn} {caps vals : Array Value} (ho : ops[i]? = some o) (hw : Region.wanted o (yielded ops a.tmps) = true)
    (hrun : ∀ w₁, (execOp a.eval o).run P w₁ = .ok (.spawn { target := .fn f caps, args := vals }) w₁) (hev : ∀ w₁, (execOp a.eval o).events P w₁ #[] = #[])
    (next : ∀ c, c ≠ 0 → ∃ D : Duet, D.c = c ∧ D.base ≤ w.heap.size ∧ chanIs w D.ch false ∧ ∃ ms, opsM P (XF P (XEnds P Post)) fn ops Q l (some (D, ms)) (a.put o.dst undef) w ∧ XB P D ms (gor (ground P [{ target := .fn f caps, args := vals }]) []) w) :
    opsM P (XF P (XEnds P Post)) fn ops Q (i :: l) none a w := by
  intro b k cs hb hk hK
  have hf := Frame.finish_at b a ops i l k undef
  rw [ho] at hf
  have hk' : (b.kind == CallKind.early) = false := by simpa using not_early hk
  refine XEnds.spawn (g := G (b.at a (.inRegion ops (i :: l) :: k)) cs) (g' := gor (b.at (a.put o.dst undef) (.inRegion ops l :: k)) cs) (child := gor (ground P [{ target := .fn f caps, args := vals }]) []) rfl (fun d => ?_) fun c hc => ?_
  · refine Eq.trans (stepG_oper ho hw) ?_
    rw [show (b.at (a.put o.dst undef) (.inRegion ops l :: k)) = (b.at a (.inRegion ops (i :: l) :: k)).finish undef from hf.symm]
    simp [stepG.apply, hrun, hev, gor, ground, Frame.at, hk', GStep.after, seen_none]
  · obtain ⟨D, h1, h2, h3, ms, h4, h5⟩ := next c hc
    exact ⟨D, h1, h2, h3, ms, h4 b k cs hb hk hK, h5⟩
end
end Go.Proofs.Ytngmhkhncimknaa
