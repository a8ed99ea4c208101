/- Walking code of goroutine 0 beside leavers: 'wpX' has the rules of 'Code.wp', and takes over what is shown by 'Code.wp'. -/
import Derived.Test.YtngmhkhncimknaaStmPath
namespace Go.Proofs.Ytngmhkhncimknaa
open Go Go.Conc
set_option linter.unusedVariables false
set_option linter.unusedSimpArgs false

structure Kit (P : Program) (S : FuncId → Bool) (X : Goroutine → World → Prop) : Prop where
  shut : Shut P S
  back : Back P X
  inits : P.inits.idxOf? P.funcs.size = none
  at_ : ∀ g w d, X g (w.at d) ↔ X g w

def AfterX (X : Goroutine → World → Prop) (b : Frame) (k : List Item) (cs : List Frame) : Exit → Act → World → Prop
  | .normal, a, w => X (gor (b.at a k) cs) w
  | .exit id, a, w => ∃ k', exitTo id k = some k' ∧ X (gor (b.at a k') cs) w
  | .ret, a, w => ∀ todo, X (gor { b.at a todo with mode := .returning } cs) w
  | _, _, _ => False

def okBase (P : Program) (b : Frame) : Prop := b.kind = .normal ∧ ∃ fn, P.funcs[b.fn]? = some fn ∧ fn.results.all isTmp = true

def wpX (P : Program) (X : Goroutine → World → Prop) (c : Code) (Q : Exit → Act → World → Prop) (a : Act) (w : World) : Prop :=
  ∀ b k cs, okBase P b → (∀ e a' w', Q e a' w' → AfterX X b k cs e a' w') → X (gor (b.at a (.code c :: k)) cs) w

def opsX (P : Program) (X : Goroutine → World → Prop) (ops : Array Oper) (Q : Exit → Act → World → Prop) (l : List Nat) (a : Act) (w : World) : Prop :=
  ∀ b k cs, okBase P b → (∀ e a' w', Q e a' w' → AfterX X b k cs e a' w') → X (gor (b.at a (.inRegion ops l :: k)) cs) w

def callX (P : Program) (X : Goroutine → World → Prop) (f : FuncId) (args : Array Value) (R : Value → World → Prop) (w : World) : Prop :=
  ∀ c cs, (∀ v w', R v w' → X (gor (c.finish v) cs) w') → X (gor (Frame.enter P f args .normal) (c :: cs)) w

section
variable {P : Program} {S : FuncId → Bool} {X : Goroutine → World → Prop} {Q : Exit → Act → World → Prop} {a : Act} {w : World}

theorem Kit.go (K : Kit P S X) {g g' : Goroutine} (hr : g.status = .running) (hs : ∀ w, stepG P true g w = .go g' w #[]) (h : X g' w) : X g w :=
  K.back g w hr fun d => ⟨g', w.at d, #[], hs _, by simp, (K.at_ g' w d).2 h⟩

theorem wpX_mono {c : Code} {Q' : Exit → Act → World → Prop} (h : wpX P X c Q a w) (hq : ∀ e a w, Q e a w → Q' e a w) : wpX P X c Q' a w :=
  fun b k cs hb hK => h b k cs hb fun e a' w' q => hK e a' w' (hq _ _ _ q)

theorem wpX_skip (K : Kit P S X) (h : Q .normal a w) : wpX P X .skip Q a w := fun b k cs _ hK => K.go rfl (fun w => stepG_skip) (hK _ _ _ h)
theorem wpX_exit (K : Kit P S X) {id : Nat} (h : Q (.exit id) a w) : wpX P X (.exit id) Q a w := fun b k cs _ hK => by
  obtain ⟨k', hk, hx⟩ := hK _ _ _ h
  exact K.go rfl (fun w => stepG_exit hk) hx
theorem wpX_ret (K : Kit P S X) (h : Q .ret a w) : wpX P X .ret Q a w := fun b k cs _ hK =>
  K.go rfl (fun w => by simp [gor, stepG, stepG.exec, Frame.at]) (hK _ _ _ h (.code .ret :: k))
theorem wpX_seq (K : Kit P S X) {x y : Code} (h : wpX P X x (Exit.then (wpX P X y Q) Q) a w) : wpX P X (.seq x y) Q a w := fun b k cs hb hK =>
  K.go rfl (fun w => stepG_seq) (h b (.code y :: k) cs hb fun e a' w' q => by
    cases e with
    | normal => exact q b k cs hb hK
    | exit id => exact hK _ _ _ q
    | ret => exact hK _ _ _ q
    | goto l => exact hK _ _ _ q
    | panic ch => exact hK _ _ _ q
    | outgrown => exact hK _ _ _ q)
theorem wpX_cond (K : Kit P S X) {c : Operand} {x y : Code} {t : Bool} (hc : a.eval c = .bool t) (h : wpX P X (if t then x else y) Q a w) : wpX P X (.cond c x y) Q a w := fun b k cs hb hK =>
  K.go rfl (fun w => stepG_cond hc) (h b k cs hb hK)
theorem wpX_block (K : Kit P S X) {id : Nat} {c : Code} (h : wpX P X c (Exit.inBlock id Q) a w) : wpX P X (.block id c) Q a w := fun b k cs hb hK =>
  K.go rfl (fun w => stepG_block) (h b (.inBlock id :: k) cs hb fun e a' w' q => by
    cases e with
    | normal => exact K.go rfl (fun w => stepG_inBlock) (hK _ _ _ q)
    | exit id' =>
      by_cases hid : id' = id
      · simp only [Exit.inBlock, hid, if_true] at q
        exact ⟨k, by simp [exitTo, hid], hK _ _ _ q⟩
      · simp only [Exit.inBlock, hid, if_false] at q
        obtain ⟨k', hk, hx⟩ := hK _ _ _ q
        have : (id == id') = false := by simp; exact fun h => hid h.symm
        exact ⟨k', by simp [exitTo, this, hk], hx⟩
    | ret => exact hK _ _ _ q
    | goto l => exact hK _ _ _ q
    | panic ch => exact hK _ _ _ q
    | outgrown => exact hK _ _ _ q)
theorem wpX_loop (K : Kit P S X) {c : Code} (I : Act → World → Prop) (μ : Act → World → Nat) (h₀ : I a w)
    (round : ∀ a w, I a w → wpX P X c (Exit.then (fun a' w' => I a' w' ∧ μ a' w' < μ a w) Q) a w) : wpX P X (.loop c) Q a w := by
  intro b k cs hb hK
  have key : ∀ n a w, μ a w = n → I a w → X (gor (b.at a (.code c :: .inLoop c :: k)) cs) w := by
    intro n
    induction n using Nat.strongRecOn with
    | _ n ih =>
      intro a w hn hI
      refine round a w hI b (.inLoop c :: k) cs hb fun e a' w' q => ?_
      cases e with
      | normal => exact K.go rfl (fun w => stepG_inLoop) (ih _ (hn ▸ q.2) a' w' rfl q.1)
      | exit id => exact hK _ _ _ q
      | ret => exact hK _ _ _ q
      | goto l => exact hK _ _ _ q
      | panic ch => exact hK _ _ _ q
      | outgrown => exact hK _ _ _ q
  exact K.go rfl (fun w => stepG_loop) (key _ a w rfl h₀)
theorem wpX_region (K : Kit P S X) {id : Nat} {ops : Array Oper} (h : opsX P X ops Q (List.range ops.size) a w) : wpX P X (.region id ops false) Q a w := fun b k cs hb hK =>
  K.go rfl (fun w => stepG_region) (h b k cs hb hK)
theorem opsX_nil (K : Kit P S X) {ops : Array Oper} (h : Q .normal a w) : opsX P X ops Q [] a w := fun b k cs _ hK => K.go rfl (fun w => stepG_region_end) (hK _ _ _ h)

/-- an operation that yields a value -/
theorem opsX_value (K : Kit P S X) {ops : Array Oper} {i : Nat} {l : List Nat} {o : Oper} {v : Value} {w₁ : World} (ho : ops[i]? = some o) (hw : Region.wanted o (yielded ops a.tmps) = true) (hok : opOK S o = true)
    (hr : ∀ d, (execOp a.eval o).run P (w.at d) = .ok (.value v) (w₁.at d)) (h : opsX P X ops Q l (a.put o.dst v) w₁) : opsX P X ops Q (i :: l) a w := by
  intro b k cs hb hK
  refine K.back _ _ rfl fun d => ?_
  have hst := stepG_value (P := P) (main := true) (b := b) (k := k) (cs := cs) (rest := l) ho hw (by rw [hb.1]; simp) (hr d)
  refine ⟨_, _, _, hst, fun e he => ?_, (K.at_ _ _ d).2 (h b k cs hb hK)⟩
  have hm := (run_turn _ (mild_execOp K.shut.enters (ρ := a.eval) (fun f => rfl) hok) (w.at d) #[]).quiet e (seen_sub P _ _ e he)
  rcases hm with hm | hm
  · simp at hm
  · exact hm
theorem opsX_skip (K : Kit P S X) {ops : Array Oper} {i : Nat} {l : List Nat} {o : Oper} {w₁ : World} (ho : ops[i]? = some o) (hw : Region.wanted o (yielded ops a.tmps) = true) (hok : opOK S o = true)
    (hr : ∀ d, (execOp a.eval o).run P (w.at d) = .ok .skip (w₁.at d)) (h : opsX P X ops Q l (a.put o.dst undef) w₁) : opsX P X ops Q (i :: l) a w := by
  intro b k cs hb hK
  refine K.back _ _ rfl fun d => ?_
  have hst := stepG_none (P := P) (main := true) (b := b) (k := k) (cs := cs) (rest := l) ho hw (by rw [hb.1]; simp) (hr d)
  refine ⟨_, _, _, hst, fun e he => ?_, (K.at_ _ _ d).2 (h b k cs hb hK)⟩
  have hm := (run_turn _ (mild_execOp K.shut.enters (ρ := a.eval) (fun f => rfl) hok) (w.at d) #[]).quiet e (seen_sub P _ _ e he)
  rcases hm with hm | hm
  · simp at hm
  · exact hm

/-- an operation that is not wanted -/
theorem opsX_pass (K : Kit P S X) {ops : Array Oper} {i : Nat} {l : List Nat} {o : Oper} (ho : ops[i]? = some o) (hw : Region.wanted o (yielded ops a.tmps) = false) (h : opsX P X ops Q l (a.put o.dst undef) w) : opsX P X ops Q (i :: l) a w := by
  intro b k cs hb hK
  refine K.go rfl (fun w => ?_) (h b k cs hb hK)
  have hf := Frame.finish_at b a ops i l k undef
  rw [ho] at hf
  simp only [Option.bind_some] at hf
  rw [← hf]
  have hw2 : ((ops[i]?).map (Region.wanted · (yielded ops a.tmps))).getD false = false := by rw [ho]; exact hw
  simp only [Frame.at] at *
  simp [gor, stepG, stepG.exec, hw2]

/-- a call of a Go function -/
theorem opsX_call (K : Kit P S X) {ops : Array Oper} {i : Nat} {l : List Nat} {o : Oper} {f : FuncId} {args : Array Value} (ho : ops[i]? = some o) (hw : Region.wanted o (yielded ops a.tmps) = true)
    (hr : ∀ w, (execOp a.eval o).runT P w #[] = (.ok (.enter f args) w, #[])) (h : callX P X f args (fun v w' => opsX P X ops Q l (a.put o.dst v) w') w) : opsX P X ops Q (i :: l) a w := by
  intro b k cs hb hK
  refine K.go (g' := gor (Frame.enter P f args .normal) (b.at a (.inRegion ops (i :: l) :: k) :: cs)) rfl (fun w => ?_) (h _ cs fun v w' q => ?_)
  · have := stepG_oper (P := P) (main := true) (b := b) (k := k) (cs := cs) (w := w) (rest := l) ho hw
    refine Eq.trans this ?_
    have hk : (b.kind == CallKind.early) = false := by rw [hb.1]; rfl
    have hse : seen P b.fn #[] = #[] := by simp [seen]
    simp only [stepG.apply, hr, if_true, Frame.at, hk, Bool.false_eq_true, if_false, hse]
    simp [GStep.after, gor]
  · have hf := Frame.finish_at b a ops i l k v
    rw [ho] at hf
    rw [hf]
    exact q b k cs hb hK

theorem callX_mono {f : FuncId} {args : Array Value} {R R' : Value → World → Prop} (h : callX P X f args R w) (hr : ∀ v w', R v w' → R' v w') : callX P X f args R' w :=
  fun c cs hK => h c cs fun v w' q => hK v w' (hr v w' q)

/-- a lone contract of a checked function -/
theorem callX_of_calls (K : Kit P S X) {f : FuncId} (hf : S f = true) {args : Array Value} (hlaid : Laid0 P w) {R R' : Value → World → Prop}
    (h : ∀ t d, Rows0 t w.tape → Calls P f args (turn w t d) fun | .returned v, w' => R v w' | _, _ => False) (hR : ∀ v w' d, R v w' → R' v (turn w' w.tape d)) : callX P X f args R' w :=
  fun c cs hK => X_calls K.shut K.back K.inits hf hlaid h fun v w' d q => hK v _ (hR v w' d q)

/-- a piece of checked code, as it is shown alone -/
theorem wpX_of_wp (K : Kit P S X) {c : Code} (hc : codeOK S c = true) (hd : a.defers = []) (hlaid : Laid0 P w) {Q' : Exit → Act → World → Prop} (h : ∀ t d, Rows0 t w.tape → c.wp P Q' a (turn w t d))
    (hQ : ∀ e a' w', Q' e a' w' → (e = .normal ∨ e = .ret) ∧ ∀ d, Q e a' (turn w' w.tape d)) : wpX P X c Q a w := by
  intro b k cs hb hK
  have key := bridge (P := P) (S := S) (X := X) (ch := true) (kk := k) (cs := cs) (l := []) (fr := b.at a [.code c]) (w := w) K.shut K.back K.inits (fun e => by cases e)
    ⟨rfl, hb.1, hd, hb.2, by intro x hx; obtain rfl : x = .code c := by simpa [Frame.at] using hx
                             exact hc⟩ (by intro g hg; cases hg) hlaid
    (fun fr' w' => ∃ e a', Q' e a' w' ∧ ((e = .normal ∧ fr' = b.at a' (stops true)) ∨ (e = .ret ∧ ∃ todo, fr' = { b.at a' todo with mode := .returning }))) (fun t ht => ?_) ?_
  · simpa [stk, tl, addLast, addk, Frame.at] using key
  · obtain ⟨e, a', w', q, harr⟩ := h t 0 ht b (stops true) [sentry P]
    have e0 : loneS true (sentry P) (b.at a [.code c]) [] (turn w t 0) = lone (b.at a (.code c :: stops true)) [sentry P] (turn w t 0) := rfl
    rcases (hQ e a' w' q).1 with rfl | rfl
    · obtain ⟨n, hn⟩ := harr
      exact ⟨n, _, w', by rw [e0]; exact hn, .normal, a', q, .inl ⟨rfl, rfl⟩⟩
    · obtain ⟨todo, n, hn⟩ := harr
      exact ⟨n, _, w', by rw [e0]; exact hn, .ret, a', q, .inr ⟨rfl, todo, rfl⟩⟩
  · rintro fr' w' hin ⟨e, a', q, hh⟩ d
    have hq := (hQ e a' w' q).2 d
    obtain ⟨f, tmps, todo, defers, mode, kind, round⟩ := fr'
    obtain ⟨hr, hk, hdf, _, _⟩ := hin
    dsimp only at hr hk hdf
    subst hr hk hdf
    rcases hh with ⟨rfl, hfr⟩ | ⟨rfl, todo', hfr⟩
    · simp only [addk, Frame.at, Frame.mk.injEq] at hfr
      obtain ⟨rfl, rfl, h3, h4, rfl, h6, _⟩ := hfr
      have ht0 : todo = [] := by simpa using h3
      subst ht0
      have := hK _ _ _ hq
      simp only [AfterX, Frame.at] at this
      rw [← h4, ← h6] at this
      exact this
    · simp only [addk, Frame.at, Frame.mk.injEq] at hfr
      obtain ⟨rfl, rfl, _, h4, rfl, h6, _⟩ := hfr
      have := hK _ _ _ hq (todo ++ k)
      simp only [AfterX, Frame.at] at this
      rw [← h4, ← h6] at this
      exact this
end
end Go.Proofs.Ytngmhkhncimknaa
