/- Walking code of one of two goroutines that pass messages: the rules of 'Code.wp', with a ghost that says which phase it is and what is left to be sent; what is shown by the kit's walk in company is taken over. -/
import Derived.Test.YtngmhkhncimknaaStmBoth
import Derived.Conc.CompanyMem
namespace Go.Proofs.Ytngmhkhncimknaa
open Go Go.Conc
open Go.ConcN (sumTo upd sumTo_upd upd_ne upd_same)
set_option linter.unusedVariables false
set_option linter.unusedSimpArgs false

structure KitM (P : Program) (main : Bool) {Γ : Type} (R : Γ → World → World → Prop) (D : Γ → World → World → Array Event → Prop) (X : Γ → Goroutine → World → Prop) : Prop where
  terms : ∀ γ, Terms (R γ) (D γ)
  back : ∀ γ g w, g.status = .running → (∀ w₁, R γ w w₁ → (stepG P main g w₁).goes fun g' w' es => D γ w₁ w' es ∧ X γ g' w') → X γ g w
  rely : ∀ γ g w w₁, X γ g w → R γ w w₁ → X γ g w₁
  stop : ∀ γ g w, (∀ w₁, R γ w w₁ → X γ g w₁) → X γ g w

section
variable {P : Program} {main : Bool} {Γ : Type} {R : Γ → World → World → Prop} {D : Γ → World → World → Array Event → Prop} {X : Γ → Goroutine → World → Prop}

theorem KitM.go (K : KitM P main R D X) {γ : Γ} {g g' : Goroutine} {w : World} (hr : g.status = .running) (hs : ∀ w, stepG P main g w = .go g' w #[]) (h : X γ g' w) : X γ g w :=
  K.back γ g w hr fun w₁ h₁ => by rw [hs]; exact ⟨(K.terms γ).idle _, K.rely _ _ _ _ h h₁⟩

theorem KitM.goes (K : KitM P main R D X) {γ : Γ} : ∀ {n : Nat} {g : Goroutine} {w : World}, Goes P main (R γ) (D γ) (X γ) n g w → X γ g w
  | 0, g, w, h => K.stop γ g w h
  | n + 1, g, w, h => h.elim (K.stop γ g w) fun ⟨hs, h⟩ => K.back γ g w hs fun w₁ h₁ => by
      have := h w₁ h₁
      revert this
      cases stepG P main g w₁ <;> simp only [GStep.goes, imp_self]
      exact fun ⟨d, x⟩ => ⟨d, K.goes x⟩

/-- how a frame of this function came up: a function that answers something was called -/
def okKind (P : Program) (fn : FuncId) (k : CallKind) : Prop := k ≠ .early ∧ ((∃ fc, P.funcs[fn]? = some fc ∧ fc.results.size ≠ 0) → k = .normal)
theorem not_early {P : Program} {fn : FuncId} {k : CallKind} (h : okKind P fn k) : k ≠ .early := h.1

def wpM (P : Program) {Γ : Type} (X : Γ → Goroutine → World → Prop) (fn : FuncId) (c : Code) (Q : Γ → Exit → Act → World → Prop) (γ : Γ) (a : Act) (w : World) : Prop :=
  ∀ b k cs, b.fn = fn → okKind P fn b.kind → (∀ γ' e a' w', Q γ' e a' w' → AfterX (X γ') b k cs e a' w') → X γ (gor (b.at a (.code c :: k)) cs) w

def opsM (P : Program) {Γ : Type} (X : Γ → Goroutine → World → Prop) (fn : FuncId) (ops : Array Oper) (Q : Γ → Exit → Act → World → Prop) (l : List Nat) (γ : Γ) (a : Act) (w : World) : Prop :=
  ∀ b k cs, b.fn = fn → okKind P fn b.kind → (∀ γ' e a' w', Q γ' e a' w' → AfterX (X γ') b k cs e a' w') → X γ (gor (b.at a (.inRegion ops l :: k)) cs) w

def callM (P : Program) {Γ : Type} (X : Γ → Goroutine → World → Prop) (f : FuncId) (args : Array Value) (Rp : Γ → Value → World → Prop) (γ : Γ) (w : World) : Prop :=
  ∀ c cs, (∀ γ' v w', Rp γ' v w' → X γ' (gor (c.finish v) cs) w') → X γ (gor (Frame.enter P f args .normal) (c :: cs)) w

/-- 'Exit.then' and 'Exit.inBlock' with the ghost -/
def thenM {Γ : Type} (K : Γ → Act → World → Prop) (Q : Γ → Exit → Act → World → Prop) (γ : Γ) : Exit → Act → World → Prop
  | .normal, a, w => K γ a w
  | e, a, w => Q γ e a w

variable {Q : Γ → Exit → Act → World → Prop} {γ : Γ} {a : Act} {w : World} {fn : FuncId}

theorem wpM_mono {c : Code} {Q' : Γ → Exit → Act → World → Prop} (h : wpM P X fn c Q γ a w) (hq : ∀ γ e a w, Q γ e a w → Q' γ e a w) : wpM P X fn c Q' γ a w :=
  fun b k cs hb hk hK => h b k cs hb hk fun γ' e a' w' q => hK γ' e a' w' (hq _ _ _ _ q)
theorem wpM_rely (K : KitM P main R D X) {c : Code} {w₁ : World} (h : wpM P X fn c Q γ a w) (hr : R γ w w₁) : wpM P X fn c Q γ a w₁ :=
  fun b k cs hb hk hK => K.rely _ _ _ _ (h b k cs hb hk hK) hr
theorem opsM_rely (K : KitM P main R D X) {ops : Array Oper} {l : List Nat} {w₁ : World} (h : opsM P X fn ops Q l γ a w) (hr : R γ w w₁) : opsM P X fn ops Q l γ a w₁ :=
  fun b k cs hb hk hK => K.rely _ _ _ _ (h b k cs hb hk hK) hr
theorem wpM_skip (K : KitM P main R D X) (h : Q γ .normal a w) : wpM P X fn .skip Q γ a w := fun b k cs _ _ hK => K.go rfl (fun w => stepG_skip) (hK _ _ _ _ h)
theorem wpM_exit (K : KitM P main R D X) {id : Nat} (h : Q γ (.exit id) a w) : wpM P X fn (.exit id) Q γ a w := fun b k cs _ _ hK => by
  obtain ⟨k', hk, hx⟩ := hK _ _ _ _ h
  exact K.go rfl (fun w => stepG_exit hk) hx
theorem wpM_ret (K : KitM P main R D X) (h : Q γ .ret a w) : wpM P X fn .ret Q γ a w := fun b k cs _ _ hK =>
  K.go rfl (fun w => by simp [gor, stepG, stepG.exec, Frame.at]) (hK _ _ _ _ h (.code .ret :: k))
theorem wpM_seq (K : KitM P main R D X) {x y : Code} (h : wpM P X fn x (thenM (wpM P X fn y Q) Q) γ a w) : wpM P X fn (.seq x y) Q γ a w := fun b k cs hb hk hK =>
  K.go rfl (fun w => stepG_seq) (h b (.code y :: k) cs hb hk fun γ' e a' w' q => by
    cases e with
    | normal => exact q b k cs hb hk hK
    | exit id => exact hK _ _ _ _ q
    | ret => exact hK _ _ _ _ q
    | goto l => exact hK _ _ _ _ q
    | panic ch => exact hK _ _ _ _ q
    | outgrown => exact hK _ _ _ _ q)
theorem wpM_cond (K : KitM P main R D X) {c : Operand} {x y : Code} {t : Bool} (hc : a.eval c = .bool t) (h : wpM P X fn (if t then x else y) Q γ a w) : wpM P X fn (.cond c x y) Q γ a w := fun b k cs hb hk hK =>
  K.go rfl (fun w => stepG_cond hc) (h b k cs hb hk hK)
theorem wpM_block (K : KitM P main R D X) {id : Nat} {c : Code} (h : wpM P X fn c (fun γ => Exit.inBlock id (Q γ)) γ a w) : wpM P X fn (.block id c) Q γ a w := fun b k cs hb hk hK =>
  K.go rfl (fun w => stepG_block) (h b (.inBlock id :: k) cs hb hk fun γ' e a' w' q => by
    cases e with
    | normal => exact K.go rfl (fun w => stepG_inBlock) (hK _ _ _ _ q)
    | exit id' =>
      by_cases hid : id' = id
      · simp only [Exit.inBlock, hid, if_true] at q
        exact ⟨k, by simp [exitTo, hid], hK _ _ _ _ q⟩
      · simp only [Exit.inBlock, hid, if_false] at q
        obtain ⟨k', hk, hx⟩ := hK _ _ _ _ q
        have : (id == id') = false := by simp; exact fun h => hid h.symm
        exact ⟨k', by simp [exitTo, this, hk], hx⟩
    | ret => exact hK _ _ _ _ q
    | goto l => exact hK _ _ _ _ q
    | panic ch => exact hK _ _ _ _ q
    | outgrown => exact hK _ _ _ _ q)
theorem wpM_loop (K : KitM P main R D X) {c : Code} (I : Γ → Act → World → Prop) (μ : Γ → Act → World → Nat) (h₀ : I γ a w)
    (round : ∀ γ a w, I γ a w → wpM P X fn c (thenM (fun γ' a' w' => I γ' a' w' ∧ μ γ' a' w' < μ γ a w) Q) γ a w) : wpM P X fn (.loop c) Q γ a w := by
  intro b k cs hb hk hK
  have key : ∀ n γ a w, μ γ a w = n → I γ a w → X γ (gor (b.at a (.code c :: .inLoop c :: k)) cs) w := by
    intro n
    induction n using Nat.strongRecOn with
    | _ n ih =>
      intro γ a w hn hI
      refine round γ a w hI b (.inLoop c :: k) cs hb hk fun γ' e a' w' q => ?_
      cases e with
      | normal => exact K.go rfl (fun w => stepG_inLoop) (ih _ (hn ▸ q.2) γ' a' w' rfl q.1)
      | exit id => exact hK _ _ _ _ q
      | ret => exact hK _ _ _ _ q
      | goto l => exact hK _ _ _ _ q
      | panic ch => exact hK _ _ _ _ q
      | outgrown => exact hK _ _ _ _ q
  exact K.go rfl (fun w => stepG_loop) (key _ γ a w rfl h₀)
theorem wpM_region (K : KitM P main R D X) {id : Nat} {ops : Array Oper} (h : opsM P X fn ops Q (List.range ops.size) γ a w) : wpM P X fn (.region id ops false) Q γ a w := fun b k cs hb hk hK =>
  K.go rfl (fun w => stepG_region) (h b k cs hb hk hK)
theorem wpM_region_draw (K : KitM P main R D X) (hd : LetsDraw (D γ)) {id : Nat} {ops : Array Oper}
    (h : ∀ w₁, R γ w w₁ → ∀ t, opsM P X fn ops Q (Region.schedule (P.follows .mixedOrders) ops t) γ a { w₁ with drawn := w₁.drawn + 1 }) : wpM P X fn (.region id ops true) Q γ a w := fun b k cs hb hk hK =>
  K.back _ _ _ rfl fun w₁ h₁ => by
    have := stepG_region_draw (P := P) (main := main) (b := b) (a := a) (k := k) (cs := cs) (w := w₁) (id := id) (ops := ops)
    rw [show stepG P main (gor (b.at a (.code (.region id ops true) :: k)) cs) w₁ = _ from this]
    exact ⟨hd _, h w₁ h₁ _ b k cs hb hk hK⟩
theorem opsM_nil (K : KitM P main R D X) {ops : Array Oper} (h : Q γ .normal a w) : opsM P X fn ops Q [] γ a w := fun b k cs _ _ hK => K.go rfl (fun w => stepG_region_end) (hK _ _ _ _ h)

/-- an operation that yields a value or nothing -/
theorem opsM_cons (K : KitM P main R D X) {ops : Array Oper} {i : Nat} {l : List Nat} {o : Oper} (ho : ops[i]? = some o) (hw : Region.wanted o (yielded ops a.tmps) = true)
    (h : ∀ w₁, R γ w w₁ → uponK o a (fun a' w' => D γ w₁ w' (listed P fn a o w₁) ∧ opsM P X fn ops Q l γ a' w') ((execOp a.eval o).run P w₁)) : opsM P X fn ops Q (i :: l) γ a w := by
  intro b k cs hb hk hK
  refine K.back _ _ _ rfl fun w₁ h₁ => goes_oper ho hw (not_early hk) ?_
  have := h w₁ h₁
  revert this
  cases (execOp a.eval o).run P w₁ with
  | ok x w' => cases x <;> first | exact fun ⟨d, g⟩ => ⟨hb ▸ d, g b k cs hb hk hK⟩ | exact id
  | halt _ _ => exact id

/-- .. with what follows behind a variable -/
theorem opsM_cons_k (K : KitM P main R D X) {ops : Array Oper} {i : Nat} {l : List Nat} {o : Oper} (ho : ops[i]? = some o) (hw : Region.wanted o (yielded ops a.tmps) = true)
    (h : ∀ w₁, R γ w w₁ → ∀ C : Act → World → Prop, (∀ a' w', D γ w₁ w' (listed P fn a o w₁) ∧ opsM P X fn ops Q l γ a' w' → C a' w') → uponK o a C ((execOp a.eval o).run P w₁)) : opsM P X fn ops Q (i :: l) γ a w :=
  opsM_cons K ho hw fun w₁ h₁ => h w₁ h₁ _ fun _ _ x => x

theorem opsM_pass (K : KitM P main R D X) {ops : Array Oper} {i : Nat} {l : List Nat} {o : Oper} (ho : ops[i]? = some o) (hw : Region.wanted o (yielded ops a.tmps) = false) (h : opsM P X fn ops Q l γ (a.put o.dst undef) w) : opsM P X fn ops Q (i :: l) γ a w :=
  fun b k cs hb hk hK => K.go rfl (fun w => stepG_unwanted ho hw) (h b k cs hb hk hK)

/-- a call of a Go function -/
theorem opsM_call (K : KitM P main R D X) {ops : Array Oper} {i : Nat} {l : List Nat} {o : Oper} {f : FuncId} {args : Array Value} (ho : ops[i]? = some o) (hw : Region.wanted o (yielded ops a.tmps) = true)
    (hr : ∀ w, (execOp a.eval o).runT P w #[] = (.ok (.enter f args) w, #[])) (h : callM P X f args (fun γ' v w' => opsM P X fn ops Q l γ' (a.put o.dst v) w') γ w) : opsM P X fn ops Q (i :: l) γ a w := by
  intro b k cs hb hk hK
  refine K.go (g' := gor (Frame.enter P f args .normal) (b.at a (.inRegion ops (i :: l) :: k) :: cs)) rfl (fun w => ?_) (h _ cs fun γ' v w' q => ?_)
  · have := stepG_oper (P := P) (main := main) (b := b) (k := k) (cs := cs) (w := w) (rest := l) ho hw
    refine Eq.trans this ?_
    have hk' : (b.kind == CallKind.early) = false := by simpa using not_early hk
    have hse : seen P b.fn #[] = #[] := by simp [seen]
    simp only [stepG.apply, hr, if_true, Frame.at, hk', Bool.false_eq_true, if_false, hse]
    simp [GStep.after, gor]
  · have hf := Frame.finish_at b a ops i l k v
    rw [ho] at hf
    rw [hf]
    exact q b k cs hb hk hK

/-- .. as it is written -/
theorem opsM_fcall (K : KitM P main R D X) {ops : Array Oper} {i : Nat} {l : List Nat} {o : Oper} {f : FuncId} {fc : Func} {c : Code} {args : Array Operand} {ats : Array TypeId} {vals : Array Value} (ho : ops[i]? = some o) (hw : Region.wanted o (yielded ops a.tmps) = true)
    (hop : o.op = .call { callee := .value (.func f), args, argTypes := ats }) (hf : P.funcs[f]? = some fc) (hname : (fc.name == "runtime.NumGoroutine") = false) (hb : fc.body = some c) (hv : args.map a.eval = vals)
    (h : callM P X f vals (fun γ' v w' => opsM P X fn ops Q l γ' (a.put o.dst v) w') γ w) : opsM P X fn ops Q (i :: l) γ a w := by
  intro b k cs hbf hk hK
  subst hv
  refine K.back _ _ _ rfl fun w₁ h₁ => goes_call ho hw (not_early hk) hop hf hname hb ⟨(K.terms γ).idle _, ?_⟩
  rw [← enter_at _ hf hb]
  refine K.rely _ _ _ _ (h _ cs fun γ' v w' q => ?_) h₁
  have hf := Frame.finish_at b a ops i l k v
  rw [ho] at hf
  rw [hf]
  exact q b k cs hbf hk hK

theorem callM_mono {f : FuncId} {args : Array Value} {Rp Rp' : Γ → Value → World → Prop} (h : callM P X f args Rp γ w) (hr : ∀ γ v w', Rp γ v w' → Rp' γ v w') : callM P X f args Rp' γ w :=
  fun c cs hK => h c cs fun γ' v w' q => hK γ' v w' (hr γ' v w' q)

/-- what the body of a callee must achieve -/
def bodyPostM (P : Program) (fn : Func) (Rp : Γ → Value → World → Prop) (γ : Γ) : Exit → Act → World → Prop
  | .normal, a, w | .ret, a, w => a.defers = [] ∧ ∃ v, ResultsC P fn a.tmps v ∧ Rp γ v w
  | _, _, _ => False

theorem callM_of_wpM (K : KitM P main R D X) {f : FuncId} {fn : Func} {c : Code} {args : Array Value} {Rp : Γ → Value → World → Prop} (hf : P.funcs[f]? = some fn) (hb : fn.body = some c)
    (h : wpM P X f c (bodyPostM P fn Rp) γ { tmps := args ++ Array.replicate (fn.ntmps - args.size) undef, defers := [] } w) : callM P X f args Rp γ w := by
  intro c' cs hK
  have hleave : ∀ γ' (a' : Act) (w' : World) (todo : List Item), (a'.defers = [] ∧ ∃ v, ResultsC P fn a'.tmps v ∧ Rp γ' v w') → X γ' (gor { (base f).at a' todo with mode := .returning } (c' :: cs)) w' := by
    rintro γ' a' w' todo ⟨hd, v, hr, hp⟩
    exact K.go rfl (fun w₁ => stepG_leave (b := base f) rfl hd hf (hr w₁).1 (hr w₁).2) (hK γ' v w' hp)
  rw [enter_at args hf hb]
  refine h (base f) [] _ rfl ⟨by simp [base], fun _ => rfl⟩ fun γ' e a' w' q => ?_
  cases e with
  | normal => exact K.go rfl (fun w => stepG_end) (hleave γ' a' w' [] q)
  | ret => exact fun todo => hleave γ' a' w' todo q
  | exit id => exact q.elim
  | goto l => exact q.elim
  | panic ch => exact q.elim
  | outgrown => exact q.elim

/-- a piece of code as the kit's walk in company shows it -/
theorem wpM_of_wpC (K : KitM P main R D X) {c : Code} {n : Nat} {Q' : Exit → Act → World → Prop} (h : c.wpC P main (R γ) (D γ) fn n Q' a w) (hQ : ∀ e a' w', Q' e a' w' → Q γ e a' w') : wpM P X fn c Q γ a w := by
  intro b k cs hb hk hK
  refine K.goes (n := 0 + n) (h b k cs (X γ) 0 hb (not_early hk) fun e a' w' q => ?_)
  have := hK _ _ _ _ (hQ _ _ _ q)
  cases e with
  | normal => exact fun w₁ h₁ => K.rely _ _ _ _ this h₁
  | exit id => obtain ⟨k', hk', hx⟩ := this; exact ⟨k', hk', fun w₁ h₁ => K.rely _ _ _ _ hx h₁⟩
  | ret => exact fun todo w₁ h₁ => K.rely _ _ _ _ (this todo) h₁
  | goto l => exact this
  | panic ch => exact this
  | outgrown => exact this
theorem opsM_of_opsC (K : KitM P main R D X) {ops : Array Oper} {l : List Nat} {n : Nat} {Q' : Exit → Act → World → Prop} (h : OpsC P main (R γ) (D γ) fn ops l n Q' a w) (hQ : ∀ e a' w', Q' e a' w' → Q γ e a' w') : opsM P X fn ops Q l γ a w := by
  intro b k cs hb hk hK
  refine K.goes (n := 0 + n) (h b k cs (X γ) 0 hb (not_early hk) fun e a' w' q => ?_)
  have := hK _ _ _ _ (hQ _ _ _ q)
  cases e with
  | normal => exact fun w₁ h₁ => K.rely _ _ _ _ this h₁
  | exit id => obtain ⟨k', hk', hx⟩ := this; exact ⟨k', hk', fun w₁ h₁ => K.rely _ _ _ _ hx h₁⟩
  | ret => exact fun todo w₁ h₁ => K.rely _ _ _ _ (this todo) h₁
  | goto l => exact this
  | panic ch => exact this
  | outgrown => exact this
theorem callM_of_callsC (K : KitM P main R D X) {f : FuncId} {args : Array Value} {n : Nat} {Rp : Value → World → Prop} {Rp' : Γ → Value → World → Prop} (h : CallsC P main (R γ) (D γ) f args n w Rp) (hR : ∀ v w', Rp v w' → Rp' γ v w') : callM P X f args Rp' γ w := by
  obtain ⟨fn, c, hf, _, hb, hwp⟩ := h
  refine callM_of_wpM K hf hb (wpM_of_wpC K hwp fun e a' w' q => ?_)
  cases e <;> first | exact ⟨q.1, q.2.choose, q.2.choose_spec.1, hR _ _ q.2.choose_spec.2⟩ | exact q
end

/-! ### the child -/
section
variable {P : Program} {D : Duet}

def XB (P : Program) (D : Duet) (ms : Proto) (g : Goroutine) (w : World) : Prop := ∃ W, W w ∧ SB P D g W ms
def gB (D : Duet) (w w' : World) (es : Array Event) : Prop := RelB D w w' ∧ (chanIs w D.ch false → chanIs w' D.ch false) ∧ evIn (zoneB D w') (zoneS D) es

theorem stable_relA (w : World) : Stable (RelA D) (RelA D w) := fun _ _ h k => h.trans k
theorem SB.stable {g : Goroutine} {W : World → Prop} {ms : Proto} (h : SB P D g W ms) : Stable (RelA D) W := by cases h <;> assumption
theorem evIn_none {Z sh : Loc → Prop} : evIn Z sh #[] := fun e he => by simp at he

theorem kitB : KitM P false (fun _ : Proto => RelA D) (fun _ => gB D) (XB P D) where
  terms := fun _ => ⟨fun _ _ _ h k => h.trans k, fun w => ⟨RelB.at_ w w.drawn, id, evIn_none⟩⟩
  rely := fun ms g w w₁ ⟨W, hW, h⟩ hr => ⟨W, h.stable _ _ hW hr, h⟩
  stop := fun ms g w h => h w (RelA.at_ w w.drawn)
  back := fun ms g w hr h => by
    have h' : ∀ w₁ : {x // RelA D w x}, ∃ g' w' es, stepG P false g w₁.1 = .go g' w' es ∧ gB D w₁.1 w' es ∧ XB P D ms g' w' := fun ⟨w₁, h₁⟩ => by
      have := h w₁ h₁
      revert this
      cases hst : stepG P false g w₁ <;> simp only [GStep.goes, false_implies]
      exact fun x => ⟨_, _, _, rfl, x⟩
    have h2 : ∀ w₁ : World, ∃ x : Goroutine × World × Array Event × (World → Prop), RelA D w w₁ → stepG P false g w₁ = .go x.1 x.2.1 x.2.2.1 ∧ gB D w₁ x.2.1 x.2.2.1 ∧ x.2.2.2 x.2.1 ∧ SB P D x.1 x.2.2.2 ms := fun w₁ => by
      by_cases hh : RelA D w w₁
      · obtain ⟨g', w', es, h1, h2, W, h3, h4⟩ := h' ⟨w₁, hh⟩
        exact ⟨(g', w', es, W), fun _ => ⟨h1, h2, h3, h4⟩⟩
      · exact ⟨(g, w, #[], fun _ => True), fun x => absurd x hh⟩
    let F := fun w₁ => (h2 w₁).choose
    have hF := fun w₁ => (h2 w₁).choose_spec
    exact ⟨RelA D w, RelA.at_ w w.drawn, .step (fun w₁ => (F w₁).1) (fun w₁ => (F w₁).2.1) (fun w₁ => (F w₁).2.2.1) (fun w₁ => (F w₁).2.2.2) hr (stable_relA w) (fun w₁ hw => (hF w₁ hw).1) (fun w₁ hw => (hF w₁ hw).2.1.1) (fun w₁ hw => (hF w₁ hw).2.1.2.1)
      (fun w₁ hw => (hF w₁ hw).2.1.2.2) (fun w₁ hw => (hF w₁ hw).2.2.1) (fun w₁ hw => (hF w₁ hw).2.2.2)⟩

/-- the child sends -/
theorem XB.send {m : Msg} {km : Value → World → Proto} {g g₂ : Goroutine} {v z : Value} {sh : CommShape} {w : World} (run : g.status = .running)
    (hs : ∀ w₁, RelA D w w₁ → stepG P false g w₁ = .comm g₂ #[scase D.ch v z] true sh w₁ #[]) (hm : ∀ w₁, RelA D w w₁ → m v w₁) (next : ∀ w₁, RelA D w w₁ → XB P D (km v w₁) (g₂.finishComm P #[scase D.ch v z] sh 0 undef false) w₁) : XB P D (.msg m km) g w := by
  have h2 : ∀ w₁ : World, ∃ W : World → Prop, RelA D w w₁ → W w₁ ∧ SB P D (g₂.finishComm P #[scase D.ch v z] sh 0 undef false) W (km v w₁) := fun w₁ => by
    by_cases hh : RelA D w w₁
    · obtain ⟨W, h1, h2⟩ := next w₁ hh
      exact ⟨W, fun _ => ⟨h1, h2⟩⟩
    · exact ⟨fun _ => True, fun x => absurd x hh⟩
  exact ⟨RelA D w, RelA.at_ w w.drawn, .send g₂ v z sh (fun w₁ => (h2 w₁).choose) run (stable_relA w) hs hm (fun w₁ h => ((h2 w₁).choose_spec h).1) (fun w₁ h => ((h2 w₁).choose_spec h).2)⟩

/-- the child closes the channel -/
theorem XB.close {f : World → Prop} (hf : Stable (RelA D) f) {g : Goroutine} {w : World} {n : Nat} (run : g.status = .running) (wakes : mayWake P g = true)
    (h : ∀ w₁, RelA D w w₁ → ∃ g' w' e₁, stepG P false g w₁ = .go g' w' #[e₁, ⟨.obj D.ch, true, true⟩] ∧ RelB D w₁ w' ∧ chanIs w' D.ch true ∧ f w' ∧ evIn (zoneB D w') (zoneS D) #[e₁] ∧ QuitsIn P n g' ∧ (g'.status = .running ∨ g'.status = .finished)) : XB P D (.stop f) g w := by
  have h2 : ∀ w₁ : World, ∃ x : Goroutine × World × Event, RelA D w w₁ → stepG P false g w₁ = .go x.1 x.2.1 #[x.2.2, ⟨.obj D.ch, true, true⟩] ∧ RelB D w₁ x.2.1 ∧ chanIs x.2.1 D.ch true ∧ f x.2.1 ∧ evIn (zoneB D x.2.1) (zoneS D) #[x.2.2] ∧ QuitsIn P n x.1 ∧ (x.1.status = .running ∨ x.1.status = .finished) := fun w₁ => by
    by_cases hh : RelA D w w₁
    · obtain ⟨g', w', e₁, h1⟩ := h w₁ hh
      exact ⟨(g', w', e₁), fun _ => h1⟩
    · exact ⟨(g, w, ⟨.output, false, false⟩), fun x => absurd x hh⟩
  have hF := fun w₁ => (h2 w₁).choose_spec
  exact ⟨RelA D w, RelA.at_ w w.drawn, .close hf (fun w₁ => (h2 w₁).choose.1) (fun w₁ => (h2 w₁).choose.2.1) (fun w₁ => #[(h2 w₁).choose.2.2, ⟨.obj D.ch, true, true⟩]) n run (stable_relA w) (fun w₁ h => (hF w₁ h).1) (fun w₁ h => (hF w₁ h).2.1) (fun w₁ h => (hF w₁ h).2.2.1) (fun w₁ h => (hF w₁ h).2.2.2.1) wakes
    (fun w₁ h => ⟨_, rfl, (hF w₁ h).2.2.2.2.1⟩) (fun w₁ h => (hF w₁ h).2.2.2.2.2.1) (fun w₁ h => (hF w₁ h).2.2.2.2.2.2)⟩
end

section
variable {P : Program} {D : Duet} {Q : Proto → Exit → Act → World → Prop} {a : Act} {w : World} {fn : FuncId}
/-- the operation 'send' -/
theorem opsM_send {m : Msg} {km : Value → World → Proto} {ops : Array Oper} {i : Nat} {l : List Nat} {o : Oper} {ch x : Operand} {v : Value} (ho : ops[i]? = some o) (hw : Region.wanted o (yielded ops a.tmps) = true)
    (hop : o.op = .send ch x) (hc : a.eval ch = .chan (some D.ch)) (hv : a.eval x = v) (hm : ∀ w₁, RelA D w w₁ → m v w₁) (next : ∀ w₁, RelA D w w₁ → opsM P (XB P D) fn ops Q l (km v w₁) (a.put o.dst undef) w₁) : opsM P (XB P D) fn ops Q (i :: l) (.msg m km) a w := by
  intro b k cs hb hk hK
  have hrun : ∀ w₁, (execOp a.eval o).run P w₁ = .ok (.comm #[scase D.ch v (.tuple #[])] true .send) w₁ := fun w₁ => by simp [execOp, hop, hc, hv, scase]
  have hev : ∀ w₁, listed P b.fn a o w₁ = #[] := fun w₁ => listed_nil (by simp [execOp, hop])
  refine XB.send (g := G (b.at a (.inRegion ops (i :: l) :: k)) cs) (g₂ := G (b.at a (.inRegion ops (i :: l) :: k)) cs) (v := v) (z := .tuple #[]) (sh := .send) rfl (fun w₁ _ => by rw [stepG_comm ho hw (not_early hk) (hrun w₁), hev]) hm fun w₁ h₁ => ?_
  have hf := Frame.finish_at b a ops i l k undef
  rw [ho] at hf
  have := next w₁ h₁ b k cs hb hk hK
  have e : (G (b.at a (.inRegion ops (i :: l) :: k)) cs).finishComm P #[scase D.ch v (.tuple #[])] .send 0 undef false = gor (b.at (a.put o.dst undef) (.inRegion ops l :: k)) cs := by
    rw [finishComm_send]
    unfold Go.Conc.served
    simp only [G, gor, hf, Option.bind_some]
  rw [e]
  exact this
end

/-! ### goroutine 0 -/
section
variable {P : Program} {D : Duet} {X : Goroutine → World → Prop}

def rA (D : Duet) : Option Proto → World → World → Prop
  | some _, w, w₁ => D.base ≤ w.heap.size ∧ RelB D w w₁
  | none, w, w₁ => ∃ d, w₁ = w.at d
def gA (D : Duet) : Option Proto → World → World → Array Event → Prop
  | some _, w, w', es => RelA D w w' ∧ evIn (zoneA D w') (zoneS D) es
  | none, _, _, es => ∀ e ∈ es, calm e
def XA (P : Program) (D : Duet) (X : Goroutine → World → Prop) : Option Proto → Goroutine → World → Prop
  | some ms, g, w => D.base ≤ w.heap.size → ∃ W, W w ∧ SA P D X g W ms
  | none, g, w => X g w

theorem stable_relB {w : World} (hb : D.base ≤ w.heap.size) : Stable (RelB D) (RelB D w) := fun _ _ h k => RelB.trans hb h k
theorem SA.stable {g : Goroutine} {W : World → Prop} {ms : Proto} (h : SA P D X g W ms) : Stable (RelB D) W := by cases h <;> assumption

theorem kitA (hX : Back P X) (hat : ∀ g w d, X g (w.at d) ↔ X g w) : KitM P true (rA D) (gA D) (XA P D X) where
  terms := fun γ => by
    cases γ with
    | none => exact ⟨fun a b c ⟨d, h⟩ ⟨d', h'⟩ => ⟨d', by rw [h', h]; rfl⟩, fun w e he => by simp at he⟩
    | some ms => exact ⟨fun a b c h k => ⟨h.1, RelB.trans h.1 h.2 k.2⟩, fun w => ⟨RelA.at_ w w.drawn, evIn_none⟩⟩
  rely := fun γ g w w₁ h hr => by
    cases γ with
    | none => obtain ⟨d, rfl⟩ := hr; exact (hat g w d).2 h
    | some ms =>
      intro _
      obtain ⟨W, hW, hs⟩ := h hr.1
      exact ⟨W, hs.stable _ _ hW hr.2, hs⟩
  stop := fun γ g w h => by
    cases γ with
    | none => exact h w ⟨w.drawn, rfl⟩
    | some ms => exact fun hb => h w ⟨hb, RelB.at_ w w.drawn⟩ hb
  back := fun γ g w hr h => by
    cases γ with
    | none =>
      refine hX g w hr fun d => ?_
      have := h (w.at d) ⟨d, rfl⟩
      revert this
      cases hst : stepG P true g (w.at d) <;> simp only [GStep.goes, false_implies]
      exact fun x => ⟨_, _, _, rfl, x.1, x.2⟩
    | some ms =>
      intro hb
      have h2 : ∀ w₁ : World, ∃ x : Goroutine × World × Array Event × (World → Prop), RelB D w w₁ → stepG P true g w₁ = .go x.1 x.2.1 x.2.2.1 ∧ gA D (some ms) w₁ x.2.1 x.2.2.1 ∧ x.2.2.2 x.2.1 ∧ SA P D X x.1 x.2.2.2 ms := fun w₁ => by
        by_cases hh : RelB D w w₁
        · have := h w₁ ⟨hb, hh⟩
          revert this
          cases hst : stepG P true g w₁ <;> simp only [GStep.goes, false_implies]
          rename_i g' w' es
          intro x
          obtain ⟨W, h3, h4⟩ := x.2 (Nat.le_trans (Nat.le_trans hb hh.size) x.1.1.size)
          exact ⟨(g', w', es, W), fun _ => ⟨rfl, x.1, h3, h4⟩⟩
        · exact ⟨(g, w, #[], fun _ => True), fun x => absurd x hh⟩
      have hF := fun w₁ => (h2 w₁).choose_spec
      exact ⟨RelB D w, RelB.at_ w w.drawn, .step (fun w₁ => (h2 w₁).choose.1) (fun w₁ => (h2 w₁).choose.2.1) (fun w₁ => (h2 w₁).choose.2.2.1) (fun w₁ => (h2 w₁).choose.2.2.2) hr (stable_relB hb) (fun w₁ hw => (hF w₁ hw).1) (fun w₁ hw => (hF w₁ hw).2.1.1)
        (fun w₁ hw => (hF w₁ hw).2.1.2) (fun w₁ hw => (hF w₁ hw).2.2.1) (fun w₁ hw => (hF w₁ hw).2.2.2)⟩

/-- goroutine 0 receives a message -/
theorem XA.recv {m : Msg} {km : Value → World → Proto} {g g₂ : Goroutine} {z : Value} {sh : CommShape} {w : World} (run : g.status = .running)
    (hs : ∀ w₁, RelB D w w₁ → stepG P true g w₁ = .comm g₂ #[rcase D.ch z] true sh w₁ #[]) (next : ∀ v w₁, RelB D w w₁ → m v w₁ → XA P D X (some (km v w₁)) (g₂.finishComm P #[rcase D.ch z] sh 0 v true) w₁) : XA P D X (some (.msg m km)) g w := by
  intro hb
  have h2 : ∀ (v : Value) (w₁ : World), ∃ W : World → Prop, RelB D w w₁ → m v w₁ → W w₁ ∧ SA P D X (g₂.finishComm P #[rcase D.ch z] sh 0 v true) W (km v w₁) := fun v w₁ => by
    by_cases hh : RelB D w w₁ ∧ m v w₁
    · obtain ⟨W, h1, h2⟩ := next v w₁ hh.1 hh.2 (Nat.le_trans hb hh.1.size)
      exact ⟨W, fun _ _ => ⟨h1, h2⟩⟩
    · exact ⟨fun _ => True, fun x y => absurd ⟨x, y⟩ hh⟩
  exact ⟨RelB D w, RelB.at_ w w.drawn, .recv g₂ z sh (fun v w₁ => (h2 v w₁).choose) run (stable_relB hb) hs (fun v w₁ h k => ((h2 v w₁).choose_spec h k).1) (fun v w₁ h k => ((h2 v w₁).choose_spec h k).2)⟩

/-- goroutine 0 finds the channel closed -/
theorem XA.done {f : World → Prop} {g g₂ : Goroutine} {z : Value} {sh : CommShape} {w : World} (run : g.status = .running) (same : g₂.frame = g.frame ∧ g₂.callers = g.callers ∧ g₂.dying = g.dying)
    (hs : ∀ w₁, RelB D w w₁ → stepG P true g w₁ = .comm g₂ #[rcase D.ch z] true sh w₁ #[]) (next : ∀ w₁, RelB D w w₁ → f w₁ → X (g₂.finishComm P #[rcase D.ch z] sh 0 z false) w₁) : XA P D X (some (.stop f)) g w :=
  fun hb => ⟨RelB D w, RelB.at_ w w.drawn, .done g₂ z sh run same (stable_relB hb) hs next⟩
end

section
variable {P : Program} {D : Duet} {X : Goroutine → World → Prop} {Q : Option Proto → Exit → Act → World → Prop} {a : Act} {w : World} {fn : FuncId}
/-- the operation 'recv', with its second value: a message -/
theorem opsM_recv {m : Msg} {km : Value → World → Proto} {ops : Array Oper} {i : Nat} {l : List Nat} {o : Oper} {z : Value} (ho : ops[i]? = some o) (hw : Region.wanted o (yielded ops a.tmps) = true)
    (hrun : ∀ w₁, (execOp a.eval o).run P w₁ = .ok (.comm #[rcase D.ch z] true (.recv true)) w₁) (hev : ∀ w₁, (execOp a.eval o).events P w₁ #[] = #[])
    (next : ∀ v w₁, RelB D w w₁ → m v w₁ → opsM P (XA P D X) fn ops Q l (some (km v w₁)) (a.put o.dst (.tuple #[v, .bool true])) w₁) : opsM P (XA P D X) fn ops Q (i :: l) (some (.msg m km)) a w := by
  intro b k cs hb hk hK
  refine XA.recv (g := G (b.at a (.inRegion ops (i :: l) :: k)) cs) (g₂ := G (b.at a (.inRegion ops (i :: l) :: k)) cs) (z := z) (sh := .recv true) rfl (fun w₁ _ => by rw [stepG_comm ho hw (not_early hk) (hrun w₁), listed_nil (hev w₁)]) fun v w₁ h₁ hm => ?_
  have hf := Frame.finish_at b a ops i l k (.tuple #[v, .bool true])
  rw [ho] at hf
  have := next v w₁ h₁ hm b k cs hb hk hK
  have e : (G (b.at a (.inRegion ops (i :: l) :: k)) cs).finishComm P #[rcase D.ch z] (.recv true) 0 v true = gor (b.at (a.put o.dst (.tuple #[v, .bool true])) (.inRegion ops l :: k)) cs := by
    rw [finishComm_recv]
    unfold Go.Conc.served
    simp only [G, gor, recvd, if_true, hf, Option.bind_some]
  rw [e]
  exact this
/-- .. the channel is closed -/
theorem opsM_done {f : World → Prop} {ops : Array Oper} {i : Nat} {l : List Nat} {o : Oper} {z : Value} (ho : ops[i]? = some o) (hw : Region.wanted o (yielded ops a.tmps) = true)
    (hrun : ∀ w₁, (execOp a.eval o).run P w₁ = .ok (.comm #[rcase D.ch z] true (.recv true)) w₁) (hev : ∀ w₁, (execOp a.eval o).events P w₁ #[] = #[])
    (next : ∀ w₁, RelB D w w₁ → f w₁ → opsM P (XA P D X) fn ops Q l none (a.put o.dst (.tuple #[z, .bool false])) w₁) : opsM P (XA P D X) fn ops Q (i :: l) (some (.stop f)) a w := by
  intro b k cs hb hk hK
  refine XA.done (g := G (b.at a (.inRegion ops (i :: l) :: k)) cs) (g₂ := G (b.at a (.inRegion ops (i :: l) :: k)) cs) (z := z) (sh := .recv true) rfl ⟨rfl, rfl, rfl⟩ (fun w₁ _ => by rw [stepG_comm ho hw (not_early hk) (hrun w₁), listed_nil (hev w₁)]) fun w₁ h₁ hfw => ?_
  have hf := Frame.finish_at b a ops i l k (.tuple #[z, .bool false])
  rw [ho] at hf
  have := next w₁ h₁ hfw b k cs hb hk hK
  have e : (G (b.at a (.inRegion ops (i :: l) :: k)) cs).finishComm P #[rcase D.ch z] (.recv true) 0 z false = gor (b.at (a.put o.dst (.tuple #[z, .bool false])) (.inRegion ops l :: k)) cs := by
    rw [finishComm_recv]
    unfold Go.Conc.served
    simp only [G, gor, recvd, if_true, hf, Option.bind_some]
  rw [e]
  exact this
end

/-! ### the go statement -/
section
variable {P : Program} {Post : Value → World → Prop}

theorem XEnds.drive {g : Goroutine} {w : World} (hrun : g.status = .running)
    (F : ∀ d gs sl t q, gs[0]? = some g → Leavers P t gs q → PastE t → ∃ m' ops, runT P (crowd gs (w.at d) sl) 0 = (.next m', ops) ∧ EndsRun P Post m' (t ++ ops)) : XEnds P Post g w := by
  have key : ∀ M d gs sl t q, sumTo gs.size q = M → gs[0]? = some g → Leavers P t gs q → PastE t → EndsRun P Post (crowd gs (w.at d) sl) t := by
    intro M
    induction M using Nat.strongRecOn with
    | _ M ih =>
      intro d0 gs sl t q hM h0 hL hP
      have haw : ∀ g ∈ gs, awake g := by
        intro x hx
        obtain ⟨i, hi, rfl⟩ := Array.mem_iff_getElem.1 hx
        rcases Nat.eq_zero_or_pos i with rfl | hpos
        · have : gs[0] = g := by simpa [Array.getElem?_eq_getElem hi] using h0
          rw [this]; exact awake_of (.inl hrun)
        · exact awake_of ((hL.old i _ hpos (Array.getElem?_eq_getElem hi)).status.elim .inl fun x => .inr (.inr x))
      obtain ⟨i, x, d, sl', hi, hx, hst⟩ := crowd_pick (P := P) (w := w.at d0) (sl := sl) haw ⟨0, g, h0, hrun⟩
      rcases Nat.eq_zero_or_pos i with rfl | hpos
      · obtain ⟨m', ops, hr, hE⟩ := F d gs sl' t q h0 hL hP
        exact EndsRun.step (hst.trans hr) hE
      · have hq := hL.old i x hpos hi
        have hi0 : (i == 0) = false := by simp; omega
        have hlt : i < gs.size := (Array.getElem?_eq_some_iff.1 hi).1
        cases hqi : q i with
        | zero => rw [hqi] at hq; rw [hq.1] at hx; cases hx
        | succ k =>
          rw [hqi] at hq
          rcases hq with ⟨hf, _⟩ | ⟨_, g', es, hm, hstp, hq'⟩
          · rw [hf] at hx; cases hx
          have hrunT := runT_crowd_go (P := P) (sl := sl') (i := i) hi (by rw [hi0]; exact hstp ((w.at d0).at d))
          have hsz : ((gs.map (woken P x g' ((w.at d0).at d))).setIfInBounds i g').size = gs.size := by simp
          have hsum : sumTo gs.size (upd q i k) + (k + 1) = sumTo gs.size q + k := by
            have := sumTo_upd q k id hlt
            simpa [hqi] using this
          refine EndsRun.step (hst.trans hrunT) (ih (sumTo gs.size (upd q i k)) (by omega) d _ sl' _ (upd q i k) (by rw [hsz]) ?_ ⟨fun j y hj hy => ?_, fun j hj => ?_⟩ ?_)
          · have hne : i ≠ 0 := by omega
            rw [Array.getElem?_setIfInBounds_ne hne, Array.getElem?_map, h0]
            simp [woken_run hrun]
          · by_cases hji : i = j
            · subst hji
              rw [Array.getElem?_setIfInBounds_self_of_lt (by simpa using hlt)] at hy
              obtain rfl := Option.some.inj hy
              rw [upd_same, Deaf_own]
              exact hq'
            · rw [Array.getElem?_setIfInBounds_ne hji, Array.getElem?_map] at hy
              obtain ⟨z, hz, rfl⟩ := Option.map_eq_some_iff.1 hy
              have hqj := hL.old j z hj hz
              rw [woken_quitsD hqj, upd_ne q k (Ne.symm hji), Deaf_other t hji _ (fun op hop => by obtain ⟨e, _, rfl⟩ := Go.Conc.mem_ofEvents hop; rfl)]
              exact hqj
          · rw [Deaf_other t (g' := i) (by simp at hj; omega) _ (fun op hop => by obtain ⟨e, _, rfl⟩ := Go.Conc.mem_ofEvents hop; rfl)]
            exact hL.above j (by simpa using hj)
          · obtain ⟨B, hp⟩ := hP
            exact ⟨B, hp.mute (by omega) hm⟩
  exact fun d gs sl t q h0 hL hP => key _ d gs sl t q rfl h0 hL hP

/-- GOROUTINE 0 STARTS THE CHILD: whatever number it is given, the two walk on together -/
theorem XEnds.spawn {g g' child : Goroutine} {w : World} (hrun : g.status = .running) (hs : ∀ d, stepG P true g (w.at d) = .spawn g' child (w.at d) #[])
    (next : ∀ c, c ≠ 0 → ∃ D : Duet, D.c = c ∧ D.base ≤ w.heap.size ∧ chanIs w D.ch false ∧ ∃ ms, XA P D (XEnds P Post) (some ms) g' w ∧ XB P D ms child w) : XEnds P Post g w := by
  refine XEnds.drive hrun fun d gs sl t q h0 hL hP => ?_
  have hlt : 0 < gs.size := (Array.getElem?_eq_some_iff.1 h0).1
  obtain ⟨D, hc, hb, hch, ms, hA, WB, hWB, hB⟩ := next gs.size (by omega)
  obtain ⟨WA, hWA, hA⟩ := hA hb
  refine ⟨_, _, runT_crowd_spawn (P := P) (sl := sl) (i := 0) h0 (hs d), ?_⟩
  rw [ofEvents_none]
  have hf := PastE.fork hP (c := D.c) D.c0 (by rw [hc]; exact hL.above _ (Nat.le_refl _)) (zones D (w.at d)) (x := { g := 0, fn := g.frame.fn, pos := g.frame.place, act := .go gs.size }) (y := { g := gs.size, fn := child.frame.fn, pos := g.frame.place, act := .start }) ⟨rfl, by rw [hc]⟩ ⟨hc.symm, rfl⟩
  have e : t ++ ((#[] : Trace).push { g := 0, fn := g.frame.fn, pos := g.frame.place, act := .go gs.size } |>.push { g := gs.size, fn := child.frame.fn, pos := g.frame.place, act := .start }) = t ++ #[{ g := 0, fn := g.frame.fn, pos := g.frame.place, act := .go gs.size }] ++ #[{ g := gs.size, fn := child.frame.fn, pos := g.frame.place, act := .start }] := by
    apply Array.ext'
    simp
  rw [e]
  have hd : ∀ j, Deaf (t ++ #[({ g := 0, fn := g.frame.fn, pos := g.frame.place, act := .go gs.size } : MemOp)] ++ #[({ g := gs.size, fn := child.frame.fn, pos := g.frame.place, act := .start } : MemOp)]) j = Deaf t j := fun j => by
    rw [deaf_push_mute _ _ _ (by simp), deaf_push_mute _ _ _ (by simp)]
  refine (both_runs hB).2 _ _ hA (w.at d) _ sl _ q (hA.stable _ _ hWA (RelB.at_ w d)) (hB.stable _ _ hWB (RelA.at_ w d)) ⟨?_, ?_, ⟨fun j y hj hjc hy => ?_, fun j hj => ?_, ?_⟩, hf, hch, hb⟩
  · rw [Array.getElem?_push_lt (by simpa using hlt)]
    simp
  · rw [hc, Array.getElem?_push]
    simp
  · rw [hd]
    rw [Array.getElem?_push] at hy
    simp only [Array.size_setIfInBounds] at hy
    rw [if_neg (by rw [← hc]; exact hjc), Array.getElem?_setIfInBounds_ne (by omega)] at hy
    exact hL.old j y hj hy
  · rw [hd]
    exact hL.above j (by simp at hj; omega)
  · rw [hc]; simp
end
end Go.Proofs.Ytngmhkhncimknaa
