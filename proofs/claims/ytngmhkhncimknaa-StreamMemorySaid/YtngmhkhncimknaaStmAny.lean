/- A region whose order is drawn, by a condition on what has been done so far; 'defer'. -/
import Derived.Test.YtngmhkhncimknaaStmF0
namespace Go.Proofs.Ytngmhkhncimknaa
open Go Go.Conc Go.RowKit
set_option linter.unusedVariables false
set_option linter.unusedSimpArgs false

def upd1 (L : Nat → Bool) (i : Nat) : Nat → Bool := fun j => if j = i then true else L j
def lst (l : Array Bool) (j : Nat) : Bool := l.getD j false

theorem lst_set {l : Array Bool} {i : Nat} (h : i < l.size) : lst (l.setIfInBounds i true) = upd1 (lst l) i := by
  funext j
  unfold lst upd1
  by_cases hj : j = i
  · subst hj
    simp [h]
  · rw [if_neg hj, getD_set_ne false (fun e => hj e.symm)]

section
variable {P : Program} {main : Bool} {Γ : Type} {R : Γ → World → World → Prop} {D : Γ → World → World → Array Event → Prop} {X : Γ → Goroutine → World → Prop}
variable {Q : Γ → Exit → Act → World → Prop} {fn : FuncId} {ops : Array Oper}

/-- nothing more may come up -/
def AllDone (ops : Array Oper) (L : Nat → Bool) : Prop := ∀ i o, ops[i]? = some o → L i = false → ∃ e ∈ o.after, Region.binds .any e = true ∧ L e.on = false

theorem opsM_any (K : KitM P main R D X) (Inv : (Nat → Bool) → Γ → Act → World → Prop)
    (step : ∀ L i o γ a w, Inv L γ a w → L i = false → ops[i]? = some o → (∀ e ∈ o.after, Region.binds .any e = true → L e.on = true) → ∀ l Q', (∀ γ' a' w', Inv (upd1 L i) γ' a' w' → opsM P X fn ops Q' l γ' a' w') → opsM P X fn ops Q' (i :: l) γ a w)
    (done : ∀ L γ a w, Inv L γ a w → AllDone ops L → Q γ .normal a w) :
    ∀ (fuel t : Nat) (listed : Array Bool) (γ : Γ) (a : Act) (w : World), listed.size = ops.size → listed.toList.count false ≤ fuel → Inv (lst listed) γ a w → opsM P X fn ops Q (Region.linearise.go .any ops fuel t listed []) γ a w := by
  have hdone : ∀ (listed : Array Bool) (γ : Γ) (a : Act) (w : World), listed.size = ops.size → Inv (lst listed) γ a w → Region.ready .any ops listed = [] → opsM P X fn ops Q [] γ a w := fun listed γ a w hs hI hr => by
    refine opsM_nil K (done _ γ a w hI fun i o ho hL => ?_)
    refine Classical.byContradiction fun hno => ?_
    have : i ∈ Region.ready .any ops listed := mem_ready.2 ⟨by
      have hlt : i < listed.size := by rw [hs]; exact (Array.getElem?_eq_some_iff.1 ho).1
      unfold lst at hL
      simpa [Array.getD, hlt] using hL, o, ho, fun e he hb => by
      cases hx : listed.getD e.on false with
      | true => rfl
      | false => exact absurd ⟨e, he, hb, hx⟩ hno⟩
    rw [hr] at this; cases this
  intro fuel
  induction fuel with
  | zero =>
    intro t listed γ a w hs hc hI
    simp only [Region.linearise.go, List.reverse_nil]
    refine hdone listed γ a w hs hI (List.eq_nil_iff_forall_not_mem.2 fun i hi => ?_)
    obtain ⟨h1, o, ho, _⟩ := mem_ready.1 hi
    have hlt : i < listed.size := by rw [hs]; exact (Array.getElem?_eq_some_iff.1 ho).1
    have h2 : listed[i] = false := by simpa [Array.getD, hlt] using h1
    have : 0 < listed.toList.count false := List.count_pos_iff.2 (by rw [← h2]; exact Array.mem_toList_iff.2 (Array.getElem_mem hlt))
    omega
  | succ fuel ih =>
    intro t listed γ a w hs hc hI
    simp only [Region.linearise.go]
    change opsM P X fn ops Q (match (Region.ready .any ops listed)[t % (Region.ready .any ops listed).length]? with
      | some i => Region.linearise.go .any ops fuel (t / (Region.ready .any ops listed).length) (listed.setIfInBounds i true) [i]
      | none => [].reverse) γ a w
    cases hi : (Region.ready .any ops listed)[t % (Region.ready .any ops listed).length]? with
    | none =>
      refine hdone listed γ a w hs hI ?_
      cases hr : Region.ready .any ops listed with
      | nil => rfl
      | cons x xs =>
        rw [hr] at hi
        have hlt : t % (x :: xs).length < (x :: xs).length := Nat.mod_lt _ (by simp)
        simp at hi
        simp at hlt
        omega
    | some i =>
      simp only []
      rw [linearise_go_acc, List.reverse_singleton, List.singleton_append]
      obtain ⟨h1, o, ho, hdep⟩ := mem_ready.1 (List.mem_of_getElem? hi)
      have hlt : i < listed.size := by rw [hs]; exact (Array.getElem?_eq_some_iff.1 ho).1
      have h2 : listed[i] = false := by simpa [Array.getD, hlt] using h1
      refine step (lst listed) i o γ a w hI (by unfold lst; simpa [Array.getD, hlt] using h2) ho hdep _ _ fun γ' a' w' hI' => ih _ _ γ' a' w' (by simpa using hs) ?_ (by rw [lst_set hlt]; exact hI')
      have hl' : i < listed.toList.length := by simpa using hlt
      have h3 : listed.toList[i] = false := by simpa using h2
      have hpos : 0 < listed.toList.count false := List.count_pos_iff.2 (by rw [← h3]; exact List.getElem_mem hl')
      rw [Array.toList_setIfInBounds, List.count_set hl', h3]
      simp
      simp at hpos hc
      omega

/-- a region whose order is drawn -/
theorem wpM_any (K : KitM P main R D X) {γ : Γ} {a : Act} {w : World} (hd : LetsDraw (D γ)) {id : Nat} (hm : P.follows .mixedOrders = true) (Inv : (Nat → Bool) → Γ → Act → World → Prop)
    (step : ∀ L i o γ a w, Inv L γ a w → L i = false → ops[i]? = some o → (∀ e ∈ o.after, Region.binds .any e = true → L e.on = true) → ∀ l Q', (∀ γ' a' w', Inv (upd1 L i) γ' a' w' → opsM P X fn ops Q' l γ' a' w') → opsM P X fn ops Q' (i :: l) γ a w)
    (done : ∀ L γ a w, Inv L γ a w → AllDone ops L → Q γ .normal a w) (h₀ : ∀ w₁, R γ w w₁ → Inv (fun _ => false) γ a { w₁ with drawn := w₁.drawn + 1 }) : wpM P X fn (.region id ops true) Q γ a w :=
  wpM_region_draw K hd fun w₁ h₁ t => by
    simp only [Region.schedule, hm, Bool.true_or, if_true, Region.linearise]
    refine opsM_any K Inv step done _ _ _ _ _ _ (by simp) ?_ ?_
    · simp
    · have : lst (Array.replicate ops.size false) = fun _ => false := by
        funext j
        unfold lst
        by_cases hj : j < ops.size <;> simp [Array.getD, hj]
      rw [this]
      exact h₀ w₁ h₁

/-- 'defer' of a built-in function -/
theorem opsM_defer (K : KitM P main R D X) {γ : Γ} {a : Act} {w : World} {i : Nat} {l : List Nat} {o : Oper} {c : Call} {d : Deferred} (ho : ops[i]? = some o) (hw : Region.wanted o (yielded ops a.tmps) = true)
    (hop : o.op = .defer c) (hres : resolve a.eval c o.type = pure d)
    (h : opsM P X fn ops Q l γ (Act.put ⟨a.tmps, d :: a.defers⟩ o.dst undef) w) : opsM P X fn ops Q (i :: l) γ a w := by
  intro b k cs hb hk hK
  refine K.go rfl (fun w => ?_) (h b k cs hb hk hK)
  have hr : (execOp a.eval o).run P w = .ok (.defer d) w := by
    unfold execOp
    simp [hop, hres]
  have he : (execOp a.eval o).events P w #[] = #[] := by
    unfold execOp
    simp [hop, hres]
  have hfin : (b.at ⟨a.tmps, d :: a.defers⟩ (.inRegion ops (i :: l) :: k)).finish undef = b.at (Act.put ⟨a.tmps, d :: a.defers⟩ o.dst undef) (.inRegion ops l :: k) := by rw [Frame.finish_at, ho]; rfl
  have hk' : (b.kind == CallKind.early) = false := by simpa using not_early hk
  refine Eq.trans (stepG_oper ho hw) ?_
  rw [← hfin]
  simp [stepG.apply, hr, he, gor, Frame.at, hk', GStep.after, seen_none]
end
end Go.Proofs.Ytngmhkhncimknaa
