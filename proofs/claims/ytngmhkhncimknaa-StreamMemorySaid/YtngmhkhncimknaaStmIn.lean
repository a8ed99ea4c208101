/- One step of a goroutine that stands in checked functions: it goes on, in checked functions, or the run ends; the same on another tape, if the draws agree; whatever waits below. -/
import Derived.Test.YtngmhkhncimknaaStmOps4
namespace Go.Proofs.Ytngmhkhncimknaa
open Go
set_option linter.unusedVariables false
set_option linter.unusedSimpArgs false

def codeOK (S : FuncId → Bool) : Code → Bool
  | .skip | .label _ | .exit _ | .ret => true
  | .region _ ops _ => ops.all (opOK S)
  | .seq a b | .cond _ a b => codeOK S a && codeOK S b
  | .block _ c | .loop c => codeOK S c
  | _ => false

def itemOK (S : FuncId → Bool) : Item → Prop
  | .code c | .inLoop c => codeOK S c = true
  | .inRegion ops _ => ops.all (opOK S) = true
  | .inBlock _ => True
  | _ => False

def isTmp : ResultVar → Bool
  | .tmp _ => true
  | _ => false

/-- the functions of S, checked: they call none but one another -/
structure Shut (P : Program) (S : FuncId → Bool) : Prop where
  has : ∀ f, S f = true → ∃ fn c, P.funcs[f]? = some fn ∧ fn.body = some c ∧ (fn.name == "runtime.NumGoroutine") = false ∧ codeOK S c = true ∧ fn.results.all isTmp = true
  ahead : P.follows .staticDataAhead = true

theorem Shut.enters {P : Program} {S : FuncId → Bool} (h : Shut P S) : Enters P S := ⟨fun f hf => by obtain ⟨fn, c, a, b, d, _⟩ := h.has f hf; exact ⟨fn, c, a, b, d⟩⟩

/-- a frame of such a function -/
structure InF (P : Program) (S : FuncId → Bool) (fr : Frame) : Prop where
  round : fr.roundOf = none
  kind : fr.kind = .normal
  defers : fr.defers = []
  fn : ∃ fn, P.funcs[fr.fn]? = some fn ∧ fn.results.all isTmp = true
  todo : ∀ x ∈ fr.todo, itemOK S x

/-- a variable that is laid by a step of initialisation has been laid -/
def Laid0 (P : Program) (w : World) : Prop := ∀ g f, P.stepOf g = some f → ∃ c e fz, w.heap[g]? = some (Obj.cells c e fz)
theorem Laid0.stay {P : Program} {w w' : World} (h : Laid0 P w) (hs : CellsStay w w') : Laid0 P w' := fun g f hg => by
  obtain ⟨c, e, fz, hc⟩ := h g f hg
  obtain ⟨c', fz', h'⟩ := hs g c e fz hc
  exact ⟨c', e, fz', h'⟩

def calm (e : Event) : Prop := e.loc ≠ .mark .disable ∧ e.loc ≠ .mark .enable

def gor (fr : Frame) (cs : List Frame) : Goroutine := { frame := fr, callers := cs, status := .running, dying := none }

/-- a frame with more behind what it has to do -/
def addk (kk : List Item) (fr : Frame) : Frame := { fr with todo := fr.todo ++ kk }
theorem addk_nil (fr : Frame) : addk [] fr = fr := by simp [addk]
def tl (kk : List Item) : List Frame → List Item
  | [] => kk
  | _ :: _ => []
def addLast (kk : List Item) : List Frame → List Frame
  | [] => []
  | x :: l => addk (tl kk l) x :: addLast kk l
theorem tl_nil (l : List Frame) : tl [] l = [] := by cases l <;> rfl
theorem addLast_nil : ∀ l : List Frame, addLast [] l = l
  | [] => rfl
  | x :: l => by simp [addLast, tl_nil, addk_nil, addLast_nil l]
/-- the frames of a stack; kk stands behind what the last one has to do; cs waits below -/
def stk (kk : List Item) (cs : List Frame) (fr : Frame) (l : List Frame) : Goroutine := gor (addk (tl kk l) fr) (addLast kk l ++ cs)
theorem stk_nil (cs : List Frame) (fr : Frame) (l : List Frame) : stk [] cs fr l = gor fr (l ++ cs) := by simp [stk, tl_nil, addk_nil, addLast_nil]

/-- frames that wait -/
def InL (P : Program) (S : FuncId → Bool) (l : List Frame) : Prop := ∀ g ∈ l, InF P S g ∧ g.todo ≠ []

structure Stepped (P : Program) (S : FuncId → Bool) (fr : Frame) (l : List Frame) (w : World) (r : Option (Frame × List Frame)) (w' : World) (es : Array Event) (k : Nat) : Prop where
  inn : ∀ fr' l', r = some (fr', l') → InF P S fr' ∧ InL P S l'
  stay : CellsStay w w'
  tape : w'.tape = w.tape
  drawn : w'.drawn = w.drawn + k
  calm : ∀ e ∈ es, calm e
  out : ∀ (t : Nat → Question → Nat) (d : Nat), (∀ j, j < k → t (d + j) = w.tape (w.drawn + j)) → ∀ fr' l', r = some (fr', l') → ∀ kk cs, (kk = [] ∨ l ≠ [] ∨ fr.todo ≠ []) →
    stepG P true (stk kk cs fr l) (turn w t d) = .go (stk kk cs fr' l') (turn w' t (d + k)) es
  dead : ∀ (t : Nat → Question → Nat) (d : Nat), (∀ j, j < k → t (d + j) = w.tape (w.drawn + j)) → r = none → ∀ kk cs, (∀ id, exitTo id kk = none) → ∃ o w'' es', stepG P true (stk kk cs fr l) (turn w t d) = .ended o w'' es'

section
variable {P : Program} {S : FuncId → Bool} {fr : Frame} {l : List Frame} {w : World}

/-- a step that looks at no world and lists nothing -/
theorem Stepped.plain {fr' : Frame} (h : InF P S fr' ∧ InL P S l) (hs : ∀ (w : World) kk cs, stepG P true (gor (addk kk fr) cs) w = .go (gor (addk kk fr') cs) w #[]) : Stepped P S fr l w (some (fr', l)) w #[] 0 :=
  ⟨fun a b e => by obtain ⟨rfl, rfl⟩ := Prod.mk.inj (Option.some.inj e); exact h, CellsStay.refl w, rfl, rfl, by simp, fun t d _ a b e kk cs _ => by obtain ⟨rfl, rfl⟩ := Prod.mk.inj (Option.some.inj e); exact hs _ _ _, fun t d _ e => (by cases e)⟩
theorem tl_exit {kk : List Item} (h : ∀ id, exitTo id kk = none) : ∀ (l : List Frame) (id : Nat), exitTo id (tl kk l) = none
  | [], id => h id
  | _ :: _, _ => rfl
theorem Stepped.stop (hs : ∀ (w : World) kk cs, (∀ id, exitTo id kk = none) → ∃ o w'' es', stepG P true (gor (addk kk fr) cs) w = .ended o w'' es') : Stepped P S fr l w none w #[] 0 :=
  ⟨fun a b e => (by cases e), CellsStay.refl w, rfl, rfl, by simp, fun t d _ a b e => (by cases e), fun t d _ _ kk cs hkk => hs _ _ _ (tl_exit hkk l)⟩

theorem seen_sub (P : Program) (fn : FuncId) (es : Array Event) : ∀ e ∈ seen P fn es, e ∈ es := by
  intro e he
  dsimp only [seen] at he
  rw [← Array.foldl_toList] at he
  have key : ∀ (l : List Event) (x : Bool × Array Event), e ∈ (l.foldl (fun (x : Bool × Array Event) e => match e.loc with
      | .mark (.extern f) => ((P.funcs[f]?).any (·.norace), x.2)
      | _ => (x.1, if x.1 && !e.sync then x.2 else x.2.push e)) x).2 → e ∈ x.2 ∨ e ∈ l := by
    intro l
    induction l with
    | nil => exact fun x h => .inl h
    | cons a l ih =>
      intro x h
      rcases ih _ h with h | h
      · dsimp only at h
        split at h
        · exact .inl h
        · dsimp only at h
          split at h
          · exact .inl h
          · rcases Array.mem_push.1 h with h | rfl
            · exact .inl h
            · exact .inr (by simp)
      · exact .inr (by simp [h])
  rcases key es.toList _ he with h | h
  · simp at h
  · exact Array.mem_toList_iff.1 h

theorem InF.to (h : InF P S fr) {todo : List Item} {tmps : Array Value} (ht : ∀ x ∈ todo, itemOK S x) : InF P S { fr with todo, tmps } := ⟨h.round, h.kind, h.defers, h.fn, ht⟩
theorem InF.mode (h : InF P S fr) {m : FrameMode} : InF P S { fr with mode := m } := ⟨h.round, h.kind, h.defers, h.fn, h.todo⟩
theorem InF.finish (h : InF P S fr) (v : Value) : InF P S (fr.finish v) := by
  unfold Frame.finish
  have ht := h.todo
  split
  · rename_i ops i rest k hk
    rw [hk] at ht
    refine h.to fun x hx => ?_
    rcases List.mem_cons.1 hx with rfl | hx
    · exact ht (.inRegion ops (i :: rest)) (by simp)
    · exact ht x (by simp [hx])
  · rename_i l k hk; rw [hk] at ht; exact (ht _ (List.mem_cons_self ..)).elim
  · rename_i k hk; rw [hk] at ht; exact (ht _ (List.mem_cons_self ..)).elim
  · rename_i k hk; rw [hk] at ht; exact (ht _ (List.mem_cons_self ..)).elim
  · rename_i k hk; rw [hk] at ht; exact (ht _ (List.mem_cons_self ..)).elim
  · exact h
theorem InF.raise (h : InF P S fr) (v : List PanicEntry) : InF P S (fr.raise v) := by
  unfold Frame.raise
  split
  · exact h.mode
  · exact h.mode
theorem InF.enter (hS : Shut P S) {f : FuncId} (hf : S f = true) (args : Array Value) : InF P S (Frame.enter P f args .normal) := by
  obtain ⟨fn, c, h1, h2, _, h4, h5⟩ := hS.has f hf
  refine ⟨rfl, rfl, rfl, ⟨fn, h1, h5⟩, fun x hx => ?_⟩
  simp only [Frame.enter, h1, Option.bind_some, h2, Option.getD_some, List.mem_singleton] at hx
  subst hx
  exact h4
theorem exitTo_append {id : Nat} (kk : List Item) : ∀ {k k' : List Item}, exitTo id k = some k' → exitTo id (k ++ kk) = some (k' ++ kk)
  | [], _, h => by cases h
  | y :: k, k', h => by
    cases y <;> simp only [exitTo, List.cons_append] at h ⊢ <;> first
      | exact exitTo_append kk h
      | (split at h
         · rename_i hh; rw [if_pos hh]; obtain rfl := Option.some.inj h; rfl
         · rename_i hh; rw [if_neg hh]; exact exitTo_append kk h)
theorem exitTo_none {id : Nat} (kk : List Item) : ∀ {k : List Item}, exitTo id k = none → exitTo id kk = none → exitTo id (k ++ kk) = none
  | [], _, h => h
  | y :: k, h, hk => by
    cases y <;> simp only [exitTo, List.cons_append] at h ⊢ <;> first
      | exact exitTo_none kk h hk
      | (split at h
         · cases h
         · rename_i hh; rw [if_neg hh]; exact exitTo_none kk h hk)
theorem addk_finish (kk : List Item) (fr : Frame) (v : Value) (h : fr.todo ≠ []) : (addk kk fr).finish v = addk kk (fr.finish v) := by
  obtain ⟨f, tmps, todo, defers, mode, kind, round⟩ := fr
  cases todo with
  | nil => exact absurd rfl h
  | cons x k =>
    cases x <;> try rfl
    rename_i ops is
    cases is <;> rfl
theorem addk_raise (kk : List Item) (fr : Frame) (v : List PanicEntry) : (addk kk fr).raise v = addk kk (fr.raise v) := by
  obtain ⟨f, tmps, todo, defers, mode, kind, round⟩ := fr
  cases mode <;> rfl
theorem exitTo_ok {id : Nat} : ∀ {k k' : List Item}, exitTo id k = some k' → (∀ x ∈ k, itemOK S x) → ∀ x ∈ k', itemOK S x
  | [], _, h, _ => by cases h
  | y :: k, k', h, hk => by
    have hk2 : ∀ x ∈ k, itemOK S x := fun x hx => hk x (by simp [hx])
    cases y <;> simp only [exitTo] at h <;> first
      | exact exitTo_ok h hk2
      | (split at h
         · obtain rfl := Option.some.inj h; exact hk2
         · exact exitTo_ok h hk2)

theorem itemsOK {c : Code} {y : Item} {k : List Item} (hc : codeOK S c = true) (hy : itemOK S y) (hk : ∀ x ∈ k, itemOK S x) : ∀ x ∈ .code c :: y :: k, itemOK S x := by
  intro x hx
  rcases List.mem_cons.1 hx with rfl | hx
  · exact hc
  · rcases List.mem_cons.1 hx with rfl | hx
    · exact hy
    · exact hk x hx

/-- the operation itself -/
theorem step_op (hS : Shut P S) (h : InF P S fr) (hl : InL P S l) (hw : Laid0 P w) {o : Oper} (ho : opOK S o = true) (htodo : ∃ ops i is k0, fr.todo = .inRegion ops (i :: is) :: k0)
    (hst : ∀ (w : World) kk cs, stepG P true (gor (addk kk fr) cs) w = stepG.apply P true (addk kk fr) cs none (execOp fr.eval o) w) : ∃ r w' es k, Stepped P S fr l w r w' es k := by
  have hm : mild P (LeafS S) (execOp fr.eval o) := mild_execOp hS.enters (fun f => rfl) ho
  obtain ⟨leaf, tape, stay, quiet, k, hd, hturn⟩ := run_turn _ hm w #[]
  have hq : ∀ es : Array Event, es = ((execOp fr.eval o).runT P w #[]).2 → ∀ e ∈ seen P fr.fn es, calm e := fun es hes e he => by
    have := seen_sub P fr.fn es e he
    rw [hes] at this
    rcases quiet e this with h | h
    · simp at h
    · exact h
  generalize hrun : (execOp fr.eval o).runT P w #[] = x at *
  obtain ⟨r, es⟩ := x
  have hk2 : ∀ kk, ((addk kk fr).kind == CallKind.early) = false := fun kk => by show (fr.kind == CallKind.early) = false; rw [h.kind]; rfl
  have hfn : ∀ kk, (addk kk fr).fn = fr.fn := fun kk => rfl
  have hne : fr.todo ≠ [] := by obtain ⟨ops, i, is, k0, e⟩ := htodo; rw [e]; simp
  cases r with
  | ok n w1 =>
    dsimp only [rworld, rOk, LeafS] at leaf tape stay hd
    cases n with
    | value v =>
      refine ⟨some (fr.finish v, l), w1, seen P fr.fn es, k, fun a b e => by obtain ⟨rfl, rfl⟩ := Prod.mk.inj (Option.some.inj e); exact ⟨h.finish v, hl⟩, stay, tape, hd, hq es rfl, fun t d hj a b e kk cs _ => ?_, fun _ _ _ e => (by cases e)⟩
      obtain ⟨rfl, rfl⟩ := Prod.mk.inj (Option.some.inj e)
      simp only [stk, hst, stepG.apply, hturn t d hj, rturn, if_true, hk2, hfn, Bool.false_eq_true, if_false, GStep.after, addk_finish _ _ _ hne]
      simp [gor]
    | skip =>
      refine ⟨some (fr.finish undef, l), w1, seen P fr.fn es, k, fun a b e => by obtain ⟨rfl, rfl⟩ := Prod.mk.inj (Option.some.inj e); exact ⟨h.finish undef, hl⟩, stay, tape, hd, hq es rfl, fun t d hj a b e kk cs _ => ?_, fun _ _ _ e => (by cases e)⟩
      obtain ⟨rfl, rfl⟩ := Prod.mk.inj (Option.some.inj e)
      simp only [stk, hst, stepG.apply, hturn t d hj, rturn, if_true, hk2, hfn, Bool.false_eq_true, if_false, GStep.after, addk_finish _ _ _ hne]
      simp [gor]
    | enter f args =>
      refine ⟨some (Frame.enter P f args .normal, fr :: l), w1, seen P fr.fn es, k, fun a b e => by obtain ⟨rfl, rfl⟩ := Prod.mk.inj (Option.some.inj e); exact ⟨InF.enter hS leaf args, fun g hg => (List.mem_cons.1 hg).elim (fun e => by subst e; exact ⟨h, hne⟩) (hl g)⟩, stay, tape, hd, hq es rfl, fun t d hj a b e kk cs _ => ?_, fun _ _ _ e => (by cases e)⟩
      obtain ⟨rfl, rfl⟩ := Prod.mk.inj (Option.some.inj e)
      simp only [stk, hst, stepG.apply, hturn t d hj, rturn, if_true, hk2, hfn, Bool.false_eq_true, if_false, GStep.after]
      obtain ⟨ops, i, is, k0, e⟩ := htodo
      have et : (addk (tl kk l) fr).todo = .inRegion ops (i :: is) :: (k0 ++ tl kk l) := by simp [addk, e]
      rw [et]
      simp [gor, addLast, tl, addk_nil]
    | _ => exact leaf.elim
  | halt x w1 =>
    dsimp only [rworld, rOk] at leaf tape stay hd
    rcases leaf with leaf | ⟨g, c, e, rfl, hg⟩
    · cases x with
      | panic v =>
        refine ⟨some (fr.raise [{ v, recovered := false }], l), w1, seen P fr.fn es, k, fun a b e => by obtain ⟨rfl, rfl⟩ := Prod.mk.inj (Option.some.inj e); exact ⟨h.raise _, hl⟩, stay, tape, hd, hq es rfl, fun t d hj a b e kk cs _ => ?_, fun _ _ _ e => (by cases e)⟩
        obtain ⟨rfl, rfl⟩ := Prod.mk.inj (Option.some.inj e)
        simp only [stk, hst, stepG.apply, hturn t d hj, rturn, if_true, hk2, hfn, Bool.false_eq_true, if_false, GStep.after, addk_raise]
        simp [gor]
      | stuck m =>
        refine ⟨none, w1, seen P fr.fn es, k, fun a b e => (by cases e), stay, tape, hd, hq es rfl, fun t d _ a b e => (by cases e), fun t d hj _ kk cs _ => ?_⟩
        simp only [stk, hst, stepG.apply, hturn t d hj, rturn, if_true, hk2, Bool.false_eq_true, if_false, GStep.after]
        exact ⟨_, _, _, rfl⟩
      | unsupported u =>
        refine ⟨none, w1, seen P fr.fn es, k, fun a b e => (by cases e), stay, tape, hd, hq es rfl, fun t d _ a b e => (by cases e), fun t d hj _ kk cs _ => ?_⟩
        simp only [stk, hst, stepG.apply, hturn t d hj, rturn, if_true, hk2, Bool.false_eq_true, if_false, GStep.after]
        cases u <;> first | exact leaf.elim | exact ⟨_, _, _, rfl⟩
      | _ => exact leaf.elim
    · refine ⟨none, w1, seen P fr.fn es, k, fun a b e => (by cases e), stay, tape, hd, hq es rfl, fun t d _ a b e => (by cases e), fun t d hj _ kk cs _ => ?_⟩
      have hno : P.stepOf g = none := by
        cases hs : P.stepOf g with
        | none => rfl
        | some f =>
          obtain ⟨c', e', fz, hc⟩ := (hw.stay stay) g f hs
          rw [hg] at hc; cases hc
      simp only [stk, hst, stepG.apply, hturn t d hj, rturn, if_true, hk2, Bool.false_eq_true, if_false, GStep.after, early, hS.ahead, Bool.not_true, hno]
      exact ⟨_, _, _, rfl⟩

/-- a step in its mode 'run' -/
theorem step_run (hS : Shut P S) (h : InF P S fr) (hl : InL P S l) (hm : fr.mode = .run) (hw : Laid0 P w) : ∃ r w' es k, Stepped P S fr l w r w' es k := by
  obtain ⟨fn, tmps, todo, defers, mode, kind, round⟩ := fr
  obtain ⟨hr, hk, hd, hf, ht⟩ := h
  dsimp only at hr hk hd hf ht hm
  subst hr hk hd hm
  have h : InF P S { fn, tmps, todo, defers := [], mode := .run, kind := .normal, roundOf := none } := ⟨rfl, rfl, rfl, hf, ht⟩
  cases todo with
  | nil =>
    refine ⟨some ({ fn, tmps, todo := [], defers := [], mode := .returning, kind := .normal, roundOf := none }, l), w, #[], 0, fun a b e => by obtain ⟨rfl, rfl⟩ := Prod.mk.inj (Option.some.inj e); exact ⟨h.mode (m := .returning), hl⟩, CellsStay.refl w, rfl, rfl, by simp, fun t d _ a b e kk cs hkk => ?_, fun _ _ _ e => (by cases e)⟩
    obtain ⟨rfl, rfl⟩ := Prod.mk.inj (Option.some.inj e)
    have htl : tl kk l = [] := by
      rcases hkk with rfl | hl0 | h0
      · exact tl_nil l
      · cases l with
        | nil => exact absurd rfl hl0
        | cons _ _ => rfl
      · exact absurd rfl h0
    simp [stk, htl, addk_nil, gor, stepG, stepG.exec]
  | cons x k =>
    have hx := ht x (by simp)
    have hk : ∀ x ∈ k, itemOK S x := fun x hx => ht x (by simp [hx])
    cases x with
    | code c =>
      cases c with
      | skip => exact ⟨_, _, _, _, .plain ⟨h.to (tmps := tmps) hk, hl⟩ fun w kk cs => by simp [gor, addk, stepG, stepG.exec]⟩
      | label n => exact ⟨_, _, _, _, .plain ⟨h.to (tmps := tmps) hk, hl⟩ fun w kk cs => by simp [gor, addk, stepG, stepG.exec]⟩
      | ret => exact ⟨_, _, _, _, .plain ⟨h.mode (m := .returning), hl⟩ fun w kk cs => by simp [gor, addk, stepG, stepG.exec]⟩
      | seq a b =>
        have hab : codeOK S a = true ∧ codeOK S b = true := by simpa [itemOK, codeOK] using hx
        exact ⟨_, _, _, _, .plain ⟨h.to (tmps := tmps) (todo := .code a :: .code b :: k) (by simpa [itemOK, hab.1, hab.2] using hk), hl⟩ fun w kk cs => by simp [gor, addk, stepG, stepG.exec]⟩
      | cond c a b =>
        have hab : codeOK S a = true ∧ codeOK S b = true := by simpa [itemOK, codeOK] using hx
        by_cases hb : ∃ t, Frame.eval { fn, tmps, todo := .code (.cond c a b) :: k, defers := [], mode := .run, kind := .normal, roundOf := none } c = .bool t
        · obtain ⟨t, hb⟩ := hb
          have hb' : ∀ td, Frame.eval { fn, tmps, todo := td, defers := [], mode := .run, kind := .normal, roundOf := none } c = .bool t := fun td => by rw [← hb]; cases c <;> rfl
          exact ⟨_, _, _, _, .plain ⟨h.to (tmps := tmps) (todo := .code (if t then a else b) :: k) (by cases t <;> simpa [itemOK, hab.1, hab.2] using hk), hl⟩ fun w kk cs => by simp [gor, addk, stepG, stepG.exec, hb']⟩
        · refine ⟨_, _, _, _, .stop fun w kk cs hkk => ?_⟩
          simp only [gor, addk, List.cons_append, stepG, stepG.exec]
          split
          · rename_i b hb'; exact absurd ⟨b, by rw [← hb']; cases c <;> rfl⟩ hb
          · exact ⟨_, _, _, rfl⟩
      | block id c => exact ⟨_, _, _, _, .plain ⟨h.to (tmps := tmps) (todo := .code c :: .inBlock id :: k) (itemsOK (show codeOK S c = true by simpa [itemOK, codeOK] using hx) trivial hk), hl⟩ fun w kk cs => by simp [gor, addk, stepG, stepG.exec]⟩
      | loop c => exact ⟨_, _, _, _, .plain ⟨h.to (tmps := tmps) (todo := .code c :: .inLoop c :: k) (itemsOK (show codeOK S c = true by simpa [itemOK, codeOK] using hx) (show codeOK S c = true by simpa [itemOK, codeOK] using hx) hk), hl⟩ fun w kk cs => by simp [gor, addk, stepG, stepG.exec]⟩
      | exit id =>
        cases he : exitTo id k with
        | none =>
          refine ⟨_, _, _, _, .stop fun w kk cs hkk => ?_⟩
          simp [gor, addk, stepG, stepG.exec, exitTo_none kk he (hkk id)]
        | some k' => exact ⟨_, _, _, _, .plain ⟨h.to (tmps := tmps) (exitTo_ok he hk), hl⟩ fun w kk cs => by simp [gor, addk, stepG, stepG.exec, exitTo_append kk he]⟩
      | region id ops draw =>
        have hops : ops.all (opOK S) = true := hx
        cases draw with
        | false => exact ⟨_, _, _, _, .plain ⟨h.to (tmps := tmps) (todo := .inRegion ops (List.range ops.size) :: k) (by simp only [List.mem_cons, forall_eq_or_imp]; exact ⟨hops, hk⟩), hl⟩ fun w kk cs => by simp [gor, addk, stepG, stepG.exec]⟩
        | true =>
          refine ⟨some ({ fn, tmps, todo := .inRegion ops (Region.schedule (P.follows .mixedOrders) ops (w.tape w.drawn (.order fn id))) :: k, defers := [], mode := .run, kind := .normal, roundOf := none }, l), { w with drawn := w.drawn + 1 }, #[], 1, ?_⟩
          refine ⟨fun a b e => by obtain ⟨rfl, rfl⟩ := Prod.mk.inj (Option.some.inj e); exact ⟨h.to (tmps := tmps) (by simp only [List.mem_cons, forall_eq_or_imp]; exact ⟨hops, hk⟩), hl⟩, CellsStay.refl w, rfl, rfl, by simp, fun t d hj a b e kk cs _ => ?_, fun _ _ _ e => (by cases e)⟩
          obtain ⟨rfl, rfl⟩ := Prod.mk.inj (Option.some.inj e)
          have := hj 0 (by omega)
          simp only [Nat.add_zero] at this
          simp [stk, gor, addk, stepG, stepG.exec, choose, Sem.run, Question.forced, Question.cut, turn, this]
      | _ => exact (Bool.noConfusion hx)
    | inLoop c => exact ⟨_, _, _, _, .plain ⟨h.to (tmps := tmps) (todo := .code c :: .inLoop c :: k) (itemsOK (show codeOK S c = true by exact hx) hx hk), hl⟩ fun w kk cs => by simp [gor, addk, stepG, stepG.exec]⟩
    | inBlock id => exact ⟨_, _, _, _, .plain ⟨h.to (tmps := tmps) hk, hl⟩ fun w kk cs => by simp [gor, addk, stepG, stepG.exec]⟩
    | inRegion ops is =>
      have hops : ops.all (opOK S) = true := hx
      cases is with
      | nil => exact ⟨_, _, _, _, .plain ⟨h.to (tmps := tmps) hk, hl⟩ fun w kk cs => by simp [gor, addk, stepG, stepG.exec]⟩
      | cons i is =>
        by_cases hwant : ((ops[i]?).map (Region.wanted · (yielded ops tmps))).getD false = true
        · cases ho : ops[i]? with
          | none => rw [ho] at hwant; cases hwant
          | some o =>
            rw [ho] at hwant
            have hok : opOK S o = true := Array.all_eq_true_iff_forall_mem.1 hops o (Array.mem_of_getElem? ho)
            have hw2 : Region.wanted o (yielded ops tmps) = true := hwant
            exact step_op hS h hl hw hok ⟨ops, i, is, k, rfl⟩ fun w kk cs => by
              have he : ∀ td, Frame.eval { fn, tmps, todo := td, defers := [], mode := .run, kind := .normal, roundOf := none } = Frame.eval { fn, tmps, todo := .inRegion ops (i :: is) :: k, defers := [], mode := .run, kind := .normal, roundOf := none } := fun td => by funext x; cases x <;> rfl
              simp [gor, addk, he (.inRegion ops (i :: is) :: (k ++ kk)), stepG, stepG.exec, stepG.oper, Frame.oper?, ho, hw2]
        · have hw2 : ((ops[i]?).map (Region.wanted · (yielded ops tmps))).getD false = false := by simpa using hwant
          exact ⟨_, _, _, _, .plain ⟨h.finish undef, hl⟩ fun w kk cs => by rw [← addk_finish _ _ _ (by simp)]; simp [gor, addk, stepG, stepG.exec, hw2]⟩
    | _ => exact hx.elim

def valOf (tmps : Array Value) : ResultVar → Value
  | .tmp t => tmps.getD t undef
  | _ => undef
theorem mapM_tmps (tmps : Array Value) (f : ResultVar → Sem Value) (hf : ∀ t, f (.tmp t) = pure (tmps.getD t undef)) : ∀ l : List ResultVar, l.all isTmp = true → l.mapM f = pure (l.map (valOf tmps)) := by
  intro l
  induction l with
  | nil => exact fun _ => List.mapM_nil
  | cons x l ih =>
    intro hx
    simp only [List.all_cons, Bool.and_eq_true] at hx
    cases x with
    | cell a t => cases hx.1
    | tmp t => rw [List.mapM_cons, ih hx.2, hf]; rfl
theorem results_pure {fn : Func} (h : fn.results.all isTmp = true) (tmps : Array Value) : ∃ v, results fn tmps = Sem.pure v := by
  unfold results
  rw [Array.mapM_eq_mapM_toList, mapM_tmps tmps _ (fun t => rfl) fn.results.toList (by rw [Array.all_toList]; exact h)]
  exact ⟨_, rfl⟩

/-- a step in the modes 'returning' and 'panicking', where a caller of the same kind waits -/
theorem step_back (hS : Shut P S) (h : InF P S fr) {c : Frame} (hl : InL P S (c :: l)) (hm : fr.mode ≠ .run) : ∃ r w' es k, Stepped P S fr (c :: l) w r w' es k := by
  obtain ⟨fn, h1, h5⟩ := h.fn
  obtain ⟨hc, hcne⟩ := hl c (by simp)
  have hl2 : InL P S l := fun g hg => hl g (by simp [hg])
  obtain ⟨f, tmps, todo, defers, mode, kind, round⟩ := fr
  obtain ⟨hr, hk, hd, hf, ht⟩ := h
  dsimp only at hr hk hd hf ht hm h1
  subst hr hk hd
  cases mode with
  | run => exact absurd rfl hm
  | panicking ch =>
    refine ⟨some (c.raise ch, l), w, #[], 0, fun a b e => by obtain ⟨rfl, rfl⟩ := Prod.mk.inj (Option.some.inj e); exact ⟨hc.raise ch, hl2⟩, CellsStay.refl w, rfl, rfl, by simp, fun t d _ a b e kk cs _ => ?_, fun _ _ _ e => (by cases e)⟩
    obtain ⟨rfl, rfl⟩ := Prod.mk.inj (Option.some.inj e)
    simp only [stk, addLast, ← addk_raise]
    simp [tl, addk_nil, gor, stepG, unwind, Frame.catches, h1]
  | returning =>
    obtain ⟨v, hres⟩ := results_pure h5 tmps
    have hse : seen P f #[] = #[] := by simp [seen]
    have hev : ∀ w, Sem.events P (Sem.pure v) w #[] = #[] := fun w => rfl
    refine ⟨some (c.finish v, l), w, #[], 0, fun a b e => by obtain ⟨rfl, rfl⟩ := Prod.mk.inj (Option.some.inj e); exact ⟨hc.finish v, hl2⟩, CellsStay.refl w, rfl, rfl, by simp, fun t d _ a b e kk cs _ => ?_, fun _ _ _ e => (by cases e)⟩
    obtain ⟨rfl, rfl⟩ := Prod.mk.inj (Option.some.inj e)
    simp only [stk, addLast, ← addk_finish _ _ _ hcne]
    simp [tl, addk_nil, gor, stepG, unwind, h1, hres, Sem.runT, Sem.run, hse, hev, GStep.after, doReturn]
end
end Go.Proofs.Ytngmhkhncimknaa
