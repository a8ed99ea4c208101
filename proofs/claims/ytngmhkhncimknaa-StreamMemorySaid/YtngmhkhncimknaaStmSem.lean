/- What an operation does on another tape: a computation that asks the kernel nothing answers alike on two worlds that differ in the tape alone, if the draws that it takes agree. -/
import Derived.Conc.Own
namespace Go.Proofs.Ytngmhkhncimknaa
open Go
set_option linter.unusedVariables false
set_option linter.unusedSimpArgs false

/-- the world on another tape, at another draw -/
def turn (w : World) (t : Nat → Question → Nat) (d : Nat) : World := { w with tape := t, drawn := d }

theorem turn_turn (w : World) (t t' : Nat → Question → Nat) (d d' : Nat) : turn (turn w t d) t' d' = turn w t' d' := rfl
theorem turn_self (w : World) : turn w w.tape w.drawn = w := rfl

/-- halts that end nothing but the frame or the run -/
def okHalt : Halt → Prop
  | .unsupported (.initOrder _) => False
  | .panic _ | .unsupported _ | .stuck _ => True
  | _ => False
/-- .. or it is met at a package-level variable that still waits -/
def okEnd (h : Halt) (w : World) : Prop := okHalt h ∨ ∃ g c e, h = .unsupported (.initOrder g) ∧ w.heap[g]? = some (Obj.pending c e)

/-- it asks the kernel nothing, says neither 'disable' nor 'enable', neither blocks nor ends the run by itself, and what it answers is in L -/
def mild {α : Type} (P : Program) (L : α → Prop) : Sem α → Prop
  | .pure a => L a
  | .load _ _ k => ∀ v, mild P L (k v)
  | .store _ _ _ k => mild P L k
  | .new _ k => ∀ r, mild P L (k r)
  | .shape _ k => ∀ s, mild P L (k s)
  | .freeze _ _ k => mild P L k
  | .frozen _ k => ∀ b, mild P L (k b)
  | .getObj _ k => ∀ o, mild P L (k o)
  | .setObj _ _ k => mild P L k
  | .choose _ k => ∀ n, mild P L (k n)
  | .sys c k => c = .env ∧ ∀ r, mild P L (k r)
  | .program k => mild P L (k P)
  | .mark m k => (m ≠ .disable ∧ m ≠ .enable) ∧ mild P L k
  | .halt h => okHalt h

theorem mild_bind {α β : Type} {P : Program} {L : α → Prop} {M : β → Prop} {f : α → Sem β} (hf : ∀ a, L a → mild P M (f a)) : ∀ {s : Sem α}, mild P L s → mild P M (s.bind f)
  | .pure a, h => hf a h
  | .load _ _ k, h => fun v => mild_bind hf (s := k v) (h v)
  | .store _ _ _ k, h => mild_bind hf (s := k) h
  | .new _ k, h => fun v => mild_bind hf (s := k v) (h v)
  | .shape _ k, h => fun v => mild_bind hf (s := k v) (h v)
  | .freeze _ _ k, h => mild_bind hf (s := k) h
  | .frozen _ k, h => fun v => mild_bind hf (s := k v) (h v)
  | .getObj _ k, h => fun v => mild_bind hf (s := k v) (h v)
  | .setObj _ _ k, h => mild_bind hf (s := k) h
  | .choose _ k, h => fun v => mild_bind hf (s := k v) (h v)
  | .sys _ k, h => ⟨h.1, fun r => mild_bind hf (s := k r) (h.2 r)⟩
  | .program k, h => mild_bind hf (s := k P) h
  | .mark _ k, h => ⟨h.1, mild_bind hf (s := k) h.2⟩
  | .halt _, h => h

theorem mild_mono {α : Type} {P : Program} {L M : α → Prop} (hf : ∀ a, L a → M a) : ∀ {s : Sem α}, mild P L s → mild P M s
  | .pure a, h => hf a h
  | .load _ _ k, h => fun v => mild_mono hf (s := k v) (h v)
  | .store _ _ _ k, h => mild_mono hf (s := k) h
  | .new _ k, h => fun v => mild_mono hf (s := k v) (h v)
  | .shape _ k, h => fun v => mild_mono hf (s := k v) (h v)
  | .freeze _ _ k, h => mild_mono hf (s := k) h
  | .frozen _ k, h => fun v => mild_mono hf (s := k v) (h v)
  | .getObj _ k, h => fun v => mild_mono hf (s := k v) (h v)
  | .setObj _ _ k, h => mild_mono hf (s := k) h
  | .choose _ k, h => fun v => mild_mono hf (s := k v) (h v)
  | .sys _ k, h => ⟨h.1, fun r => mild_mono hf (s := k r) (h.2 r)⟩
  | .program k, h => mild_mono hf (s := k P) h
  | .mark _ k, h => ⟨h.1, mild_mono hf (s := k) h.2⟩
  | .halt _, h => h

def rworld {α : Type} : Result α → World
  | .ok _ w | .halt _ w => w
def rturn {α : Type} : Result α → (Nat → Question → Nat) → Nat → Result α
  | .ok a w, t, d => .ok a (turn w t d)
  | .halt h w, t, d => .halt h (turn w t d)
def rOk {α : Type} (L : α → Prop) : Result α → Prop
  | .ok a _ => L a
  | .halt h w => okEnd h w

/-- cells stay cells, whatever is made or written -/
def CellsStay (w w' : World) : Prop := ∀ (g : Nat) (c : Array Value) (e : TypeId) (fz : Nat × Nat), w.heap[g]? = some (Obj.cells c e fz) → ∃ c' fz', w'.heap[g]? = some (Obj.cells c' e fz')
theorem CellsStay.refl (w : World) : CellsStay w w := fun _ c _ fz h => ⟨c, fz, h⟩
theorem CellsStay.trans {a b c : World} (h : CellsStay a b) (k : CellsStay b c) : CellsStay a c := fun g x e fz hx => by
  obtain ⟨x', f', h'⟩ := h g x e fz hx
  exact k g x' e f' h'

theorem seen_turn (P : Program) (w : World) (t : Nat → Question → Nat) (d : Nat) (a : Addr) (u : TypeId) (k : Addr) (b : Bool) : (turn w t d).seen P a u k b = w.seen P a u k b := rfl
theorem viewLoad_turn (P : Program) (w : World) (t : Nat → Question → Nat) (d : Nat) (a : Addr) (u : TypeId) (k : Addr) (b : Bool) : (turn w t d).viewLoad P a u k b = w.viewLoad P a u k b := rfl
theorem farLoad_turn (P : Program) (w : World) (t : Nat → Question → Nat) (d : Nat) (a : Addr) (b : Bool) : (turn w t d).farLoad P a b = w.farLoad P a b := rfl

def xturn {ε α : Type} : Except ε (World × α) → (Nat → Question → Nat) → Nat → Except ε (World × α)
  | .ok (w, a), t, d => .ok (turn w t d, a)
  | .error e, _, _ => .error e


theorem viewStore_turn (P : Program) (w : World) (t : Nat → Question → Nat) (d : Nat) (a : Addr) (u : TypeId) (k : Addr) (v : Value) (b : Bool) :
    (turn w t d).viewStore P a u k v b = xturn (w.viewStore P a u k v b) t d := by
  unfold World.viewStore
  rw [seen_turn]
  cases ht : tight P P.depth u with
  | false => rfl
  | true =>
    cases hs : w.seen P a u k b with
    | error e => rfl
    | ok x =>
      obtain ⟨c, e, fz, first, like, cells⟩ := x
      cases hb : v.bytes? with
      | none => simp only [Bind.bind, Except.bind, Bool.not_true, Bool.false_eq_true, if_false, hb]; rfl
      | some bytes =>
        by_cases hl : some bytes.length ≠ like.bytes?.map (·.length)
        · simp only [Bind.bind, Except.bind, Bool.not_true, Bool.false_eq_true, if_false, hb, if_pos hl]; rfl
        · simp only [Bind.bind, Except.bind, Bool.not_true, Bool.false_eq_true, if_false, hb, if_neg hl]
          generalize List.foldlM (m := Except String) _ c cells = r
          cases r <;> rfl

theorem farStore_turn (P : Program) (w : World) (t : Nat → Question → Nat) (d : Nat) (a : Addr) (v : Value) (b : Bool) :
    (turn w t d).farStore P a v b = xturn (w.farStore P a v b) t d := by
  unfold World.farStore
  show (match w.heap[a.block]? with | some (.view at_ u) => _ | _ => _) = _
  cases h : w.heap[a.block]? with
  | none => rfl
  | some o =>
    cases o <;> try rfl
    rename_i at_ u
    simp only [viewStore_turn]
    cases w.viewStore P at_ u a v b <;> rfl


/-- what is said of a run: see 'run_turn' -/
structure Ran {α : Type} (P : Program) (L : α → Prop) (s : Sem α) (w : World) (es : Array Event) : Prop where
  leaf : rOk L (s.runT P w es).1
  tape : (rworld (s.runT P w es).1).tape = w.tape
  stay : CellsStay w (rworld (s.runT P w es).1)
  quiet : ∀ e ∈ (s.runT P w es).2, e ∈ es ∨ (e.loc ≠ .mark .disable ∧ e.loc ≠ .mark .enable)
  turned : ∃ k, (rworld (s.runT P w es).1).drawn = w.drawn + k ∧ ∀ (t : Nat → Question → Nat) (d : Nat), (∀ j, j < k → t (d + j) = w.tape (w.drawn + j)) →
    s.runT P (turn w t d) es = (rturn (s.runT P w es).1 t (d + k), (s.runT P w es).2)

theorem Ran.here {α : Type} {P : Program} {L : α → Prop} {s : Sem α} {w : World} {es : Array Event} (r : Result α) (hw : rworld r = w) (hr : rOk L r) (h : ∀ w', (∀ (t : Nat → Question → Nat) d, w' = turn w t d → s.runT P w' es = (rturn r t d, es))) (h0 : s.runT P w es = (r, es)) : Ran P L s w es := by
  refine ⟨by rw [h0]; exact hr, by rw [h0, hw], by rw [h0, hw]; exact CellsStay.refl w, by rw [h0]; exact fun e he => .inl he, 0, by rw [h0, hw]; rfl, fun t d _ => ?_⟩
  rw [h0]; exact h _ t d rfl

/-- it goes on with s' in w', having listed more -/
theorem Ran.on {α : Type} {P : Program} {L : α → Prop} {s s' : Sem α} {w w' : World} {es es' : Array Event} (h : Ran P L s' w' es') (h0 : s.runT P w es = s'.runT P w' es')
    (ht : ∀ t d, s.runT P (turn w t d) es = s'.runT P (turn w' t d) es') (hd : w'.drawn = w.drawn) (hta : w'.tape = w.tape) (hs : CellsStay w w')
    (hq : ∀ e ∈ es', e ∈ es ∨ (e.loc ≠ .mark .disable ∧ e.loc ≠ .mark .enable)) : Ran P L s w es := by
  obtain ⟨a, b, c, d, k, e, f⟩ := h
  refine ⟨by rw [h0]; exact a, by rw [h0, b, hta], by rw [h0]; exact hs.trans c, by rw [h0]; exact fun x hx => (d x hx).elim (hq x) .inr, k, by rw [h0, e, hd], fun t dd hj => ?_⟩
  rw [ht, h0]
  exact f t dd (by rw [hta, hd]; exact hj)

theorem cellsStay_modify (w : World) (b : Nat) (f : Obj → Obj) (hf : ∀ c e fz, ∃ c' fz', f (Obj.cells c e fz) = Obj.cells c' e fz') : CellsStay w { w with heap := w.heap.modify b f } := by
  intro g c e fz h
  by_cases hg : b = g
  · subst hg
    obtain ⟨c', fz', hh⟩ := hf c e fz
    exact ⟨c', fz', by simp [Array.getElem?_modify, h, hh]⟩
  · exact ⟨c, fz, by simp [Array.getElem?_modify, hg, h]⟩

theorem cellsStay_set (w : World) (b : Nat) (o : Obj) (hf : (∃ c e fz, o = Obj.cells c e fz ∧ ∃ c' fz', w.heap[b]? = some (Obj.cells c' e fz')) ∨ ∀ c e fz, w.heap[b]? ≠ some (Obj.cells c e fz)) : CellsStay w { w with heap := w.heap.setIfInBounds b o } := by
  intro g c e fz h
  by_cases hg : b = g
  · subst hg
    rcases hf with ⟨c₁, e₁, f₁, rfl, c', fz', hh⟩ | hf
    · rw [h] at hh
      obtain ⟨_, rfl, _⟩ : c = c' ∧ e = e₁ ∧ fz = fz' := by simpa using hh
      have hlt := (Array.getElem?_eq_some_iff.1 h).1
      exact ⟨c₁, f₁, by simp [hlt]⟩
    · exact absurd h (hf c e fz)
  · exact ⟨c, fz, by simp [Array.getElem?_setIfInBounds, hg, h]⟩

theorem cellsStay_push (w : World) (o : Obj) : CellsStay w { w with heap := w.heap.push o } := by
  intro g c e fz h
  have hlt := (Array.getElem?_eq_some_iff.1 h).1
  exact ⟨c, fz, by simp only [Array.getElem?_push]; rw [if_neg (by omega)]; exact h⟩


theorem noCell_ok (w : World) (a : Addr) (m : String) : okEnd (w.noCell a m) w := by
  unfold World.noCell
  cases hb : w.heap[a.block]? with
  | none => exact .inl trivial
  | some o =>
    cases o <;> first | exact .inl trivial | exact .inr ⟨_, _, _, rfl, hb⟩
theorem farLoad_ok {P : Program} {w : World} {a : Addr} {b : Bool} {h : Halt} (he : w.farLoad P a b = .error h) : okEnd h w := by
  unfold World.farLoad at he
  cases hb : w.heap[a.block]? with
  | none => rw [hb] at he; (simp only [Except.error.injEq] at he; subst he; exact noCell_ok ..)
  | some o =>
    rw [hb] at he
    cases o <;> (try ((simp only [Except.error.injEq] at he; subst he; exact noCell_ok ..)))
    rename_i at_ u
    cases hv : w.viewLoad P at_ u a b <;> simp [hv] at he
    subst he; exact .inl trivial
theorem farStore_ok {P : Program} {w : World} {a : Addr} {v : Value} {b : Bool} {h : Halt} (he : w.farStore P a v b = .error h) : okEnd h w := by
  unfold World.farStore at he
  cases hb : w.heap[a.block]? with
  | none => rw [hb] at he; (simp only [Except.error.injEq] at he; subst he; exact noCell_ok ..)
  | some o =>
    rw [hb] at he
    cases o <;> (try ((simp only [Except.error.injEq] at he; subst he; exact noCell_ok ..)))
    rename_i at_ u
    cases hv : w.viewStore P at_ u a v b <;> simp [hv] at he
    subst he; exact .inl trivial

theorem seen_cells {P : Program} {w : World} {at_ : Addr} {u : TypeId} {k : Addr} {b : Bool} {c e fz first like cells} (h : w.seen P at_ u k b = .ok (c, e, fz, first, like, cells)) : w.heap[at_.block]? = some (Obj.cells c e fz) := by
  unfold World.seen at h
  simp only [Bind.bind, Except.bind] at h
  split at h <;> (try cases h)
  split at h <;> (try cases h)
  split at h <;> (try cases h)
  split at h <;> (try cases h)
  split at h <;> (try cases h)
  rename_i hc
  split at h <;> (try cases h)
  split at h <;> (try cases h)
  split at h <;> (try cases h)
  split at h <;> (try cases h)
  all_goals repeat' (split at h <;> try (cases h; done))
  all_goals first | exact hc | (simp only [pure, Except.pure, Except.ok.injEq, Prod.mk.injEq] at h; obtain ⟨rfl, rfl, rfl, _⟩ := h; exact hc)


theorem viewStore_stay {P : Program} {w w' : World} {at_ : Addr} {u : TypeId} {k : Addr} {v : Value} {b : Bool} {l} (h : w.viewStore P at_ u k v b = .ok (w', l)) : ∃ c e fz c' , w.heap[at_.block]? = some (Obj.cells c e fz) ∧ w' = { w with heap := w.heap.setIfInBounds at_.block (Obj.cells c' e fz) } := by
  unfold World.viewStore at h
  cases ht : tight P P.depth u with
  | false => rw [ht] at h; cases h
  | true =>
    rw [ht] at h
    cases hs : w.seen P at_ u k b with
    | error e => rw [hs] at h; cases h
    | ok x =>
      obtain ⟨c, e, fz, first, like, cells⟩ := x
      rw [hs] at h
      cases hb : v.bytes? with
      | none => simp only [Bind.bind, Except.bind, Bool.not_true, Bool.false_eq_true, if_false, hb] at h; cases h
      | some bytes =>
        by_cases hl : some bytes.length ≠ like.bytes?.map (·.length)
        · simp only [Bind.bind, Except.bind, Bool.not_true, Bool.false_eq_true, if_false, hb, if_pos hl] at h; cases h
        · simp only [Bind.bind, Except.bind, Bool.not_true, Bool.false_eq_true, if_false, hb, if_neg hl] at h
          revert h
          generalize List.foldlM (m := Except String) _ c cells = r
          intro h
          cases r with
          | error _ => cases h
          | ok c' =>
            simp only [pure, Except.pure, Except.ok.injEq, Prod.mk.injEq] at h
            exact ⟨c, e, fz, c', seen_cells hs, h.1.symm⟩

theorem farStore_stay {P : Program} {w w' : World} {a : Addr} {v : Value} {b : Bool} {l} (h : w.farStore P a v b = .ok (w', l)) : CellsStay w w' ∧ w'.tape = w.tape ∧ w'.drawn = w.drawn := by
  unfold World.farStore at h
  cases hb : w.heap[a.block]? with
  | none => rw [hb] at h; cases h
  | some o =>
    rw [hb] at h
    cases o <;> (try cases h)
    rename_i at_ u
    cases hv : w.viewStore P at_ u a v b with
    | error e => simp [hv] at h
    | ok x =>
      obtain ⟨x1, x2⟩ := x
      simp only [hv, Except.ok.injEq, Prod.mk.injEq] at h
      obtain ⟨rfl, rfl⟩ := h
      obtain ⟨c, e, fz, c', hc, rfl⟩ := viewStore_stay hv
      exact ⟨cellsStay_set w _ _ (.inl ⟨c', e, fz, rfl, c, fz, hc⟩), rfl, rfl⟩

theorem sys_env (w : World) (t : Nat → Question → Nat) (d : Nat) : (turn w t d).sys .env = (.strings w.os.env, turn w t d) := by
  simp [World.sys, Kernel.perform, Kernel.lengthOf, Kernel.named, Kernel.ofKernel, Kernel.stamps, Kernel.each, Kernel.env, World.ask, turn, pure, bind, Ask.bind]

theorem run_turn {α : Type} {P : Program} {L : α → Prop} : ∀ (s : Sem α), mild P L s → ∀ (w : World) (es : Array Event), Ran P L s w es := by
  intro s
  induction s with
  | pure a => exact fun h w es => .here (.ok a w) rfl h (fun w' t d e => by subst e; rfl) rfl
  | halt x => exact fun h w es => .here (.halt x w) rfl (.inl h) (fun w' t d e => by subst e; rfl) rfl
  | load m a k ih =>
    intro h w es
    cases hc : w.cell? a with
    | some v =>
      refine (ih v (h v) w (es.push ⟨.cell a, false, m == .atomic⟩)).on ?_ (fun t d => ?_) rfl rfl (CellsStay.refl w) ?_
      · simp only [Sem.runT, hc]
      · have hc' : (turn w t d).cell? a = some v := hc
        simp only [Sem.runT, hc']
      · intro e he
        rcases Array.mem_push.1 he with he | rfl
        · exact .inl he
        · exact .inr ⟨by simp, by simp⟩
    | none =>
      have hc' : ∀ t d, (turn w t d).cell? a = none := fun t d => hc
      cases hf : w.farLoad P a (m == .atomic) with
      | error x => exact .here (.halt x w) rfl (farLoad_ok hf) (fun w' t d e => by subst e; simp only [Sem.runT, hc', farLoad_turn, hf, rturn]) (by simp only [Sem.runT, hc, hf])
      | ok x =>
        obtain ⟨v, touched⟩ := x
        refine (ih v (h v) w (es ++ touched.toArray.map (⟨.cell ·, false, m == .atomic⟩))).on ?_ (fun t d => ?_) rfl rfl (CellsStay.refl w) ?_
        · simp only [Sem.runT, hc, hf]
        · simp only [Sem.runT, hc', farLoad_turn, hf]
        · intro e he
          rcases Array.mem_append.1 he with he | he
          · exact .inl he
          · obtain ⟨x, _, rfl⟩ := Array.mem_map.1 he
            exact .inr ⟨by simp, by simp⟩
  | store m a v k ih =>
    intro h w es
    by_cases hagg : ∃ x, v = .agg x ∨ v = .tuple x
    · obtain ⟨x, rfl | rfl⟩ := hagg
      · exact .here (.halt (.stuck "store: not the value of one cell") w) rfl (.inl trivial) (fun w' t d e => by subst e; simp only [Sem.runT, rturn]) (by simp only [Sem.runT])
      · exact .here (.halt (.stuck "store: not the value of one cell") w) rfl (.inl trivial) (fun w' t d e => by subst e; simp only [Sem.runT, rturn]) (by simp only [Sem.runT])
    · have hr : ∀ (w : World) (es : Array Event), (Sem.store m a v k).runT P w es = (match w.cell? a with
          | some _ => if w.frozen? a then (.halt (.unsupported (.unsafePointer "a write to bytes that a string shares")) w, es) else k.runT P (w.setCell a v) (es.push ⟨.cell a, true, m == .atomic⟩)
          | none => match w.farStore P a v (m == .atomic) with
            | .ok (w, touched) => k.runT P w (es ++ touched.toArray.map (⟨.cell ·, true, m == .atomic⟩))
            | .error h => (.halt h w, es)) := by
        intro w es
        cases v <;> first | rfl | exact absurd ⟨_, .inl rfl⟩ hagg | exact absurd ⟨_, .inr rfl⟩ hagg
      cases hc : w.cell? a with
      | some o =>
        have hc' : ∀ t d, (turn w t d).cell? a = some o := fun t d => hc
        by_cases hz : w.frozen? a = true
        · have hz' : ∀ t d, (turn w t d).frozen? a = true := fun t d => hz
          exact .here (.halt (.unsupported (.unsafePointer "a write to bytes that a string shares")) w) rfl (.inl trivial) (fun w' t d e => by subst e; simp only [hr, hc', hz', if_true, rturn]) (by simp only [hr, hc, hz, if_true])
        · have hz' : ∀ t d, ¬ (turn w t d).frozen? a = true := fun t d => hz
          refine (ih h (w.setCell a v) (es.push ⟨.cell a, true, m == .atomic⟩)).on ?_ (fun t d => ?_) rfl rfl (cellsStay_modify w _ _ fun c e fz => ⟨_, _, rfl⟩) ?_
          · simp only [hr, hc, if_neg hz]
          · simp only [hr, hc', if_neg (hz' t d)]; rfl
          · intro e he
            rcases Array.mem_push.1 he with he | rfl
            · exact .inl he
            · exact .inr ⟨by simp, by simp⟩
      | none =>
        have hc' : ∀ t d, (turn w t d).cell? a = none := fun t d => hc
        cases hf : w.farStore P a v (m == .atomic) with
        | error x => exact .here (.halt x w) rfl (farStore_ok hf) (fun w' t d e => by subst e; simp only [hr, hc', farStore_turn, hf, rturn, xturn]) (by simp only [hr, hc, hf])
        | ok x =>
          obtain ⟨w1, touched⟩ := x
          obtain ⟨hs, ht, hd⟩ := farStore_stay hf
          refine (ih h w1 (es ++ touched.toArray.map (⟨.cell ·, true, m == .atomic⟩))).on ?_ (fun t d => ?_) hd ht hs ?_
          · simp only [hr, hc, hf]
          · simp only [hr, hc', farStore_turn, hf, xturn]
          · intro e he
            rcases Array.mem_append.1 he with he | he
            · exact .inl he
            · obtain ⟨x, _, rfl⟩ := Array.mem_map.1 he
              exact .inr ⟨by simp, by simp⟩
  | new o k ih =>
    intro h w es
    exact (ih w.heap.size (h _) { w with heap := w.heap.push o } es).on rfl (fun t d => rfl) rfl rfl (cellsStay_push w o) fun e he => .inl he
  | shape r k ih =>
    intro h w es
    exact (ih (w.shape? r) (h _) w es).on rfl (fun t d => rfl) rfl rfl (CellsStay.refl w) fun e he => .inl he
  | freeze a n k ih =>
    intro h w es
    have e0 : ∀ t d, (turn w t d).freeze a n = turn (w.freeze a n) t d := fun t d => by unfold World.freeze; by_cases hn : n = 0 <;> simp [hn, turn]
    have e1 : (w.freeze a n).drawn = w.drawn ∧ (w.freeze a n).tape = w.tape ∧ CellsStay w (w.freeze a n) := by
      unfold World.freeze
      by_cases hn : n = 0
      · simp only [hn, if_true]; exact ⟨trivial, trivial, CellsStay.refl w⟩
      · simp only [hn, if_false]; exact ⟨trivial, trivial, cellsStay_modify w _ _ fun c e fz => ⟨_, _, rfl⟩⟩
    exact (ih h (w.freeze a n) es).on rfl (fun t d => by show k.runT P ((turn w t d).freeze a n) es = _; rw [e0]) e1.1 e1.2.1 e1.2.2 fun e he => .inl he
  | frozen a k ih =>
    intro h w es
    exact (ih (w.frozen? a) (h _) w es).on rfl (fun t d => rfl) rfl rfl (CellsStay.refl w) fun e he => .inl he
  | getObj r k ih =>
    intro h w es
    have hh : ∀ t d, (turn w t d).heap = w.heap := fun t d => rfl
    cases hc : w.heap[r]? with
    | none => exact .here (.halt (.stuck "getObj: no such block") w) rfl (.inl trivial) (fun w' t d e => by subst e; simp only [Sem.runT, hh, hc, rturn]) (by simp only [Sem.runT, hc])
    | some o =>
      by_cases ho : ∃ c e fz, o = Obj.cells c e fz
      · obtain ⟨c, e, fz, rfl⟩ := ho
        exact .here (.halt (.stuck "getObj: a row of cells") w) rfl (.inl trivial) (fun w' t d e => by subst e; simp only [Sem.runT, hh, hc, rturn]) (by simp only [Sem.runT, hc])
      · refine (ih o (h _) w (es.push ⟨.obj r, false, o.isChan⟩)).on ?_ (fun t d => ?_) rfl rfl (CellsStay.refl w) ?_
        · cases o <;> first | exact absurd ⟨_, _, _, rfl⟩ ho | simp only [Sem.runT, hc]
        · cases o <;> first | exact absurd ⟨_, _, _, rfl⟩ ho | simp only [Sem.runT, hh, hc]
        · intro e he
          rcases Array.mem_push.1 he with he | rfl
          · exact .inl he
          · exact .inr ⟨by simp, by simp⟩
  | setObj r x k ih =>
    intro h w es
    have hh : ∀ t d, (turn w t d).heap = w.heap := fun t d => rfl
    cases hc : w.heap[r]? with
    | none => exact .here (.halt (.stuck "setObj: no such block") w) rfl (.inl trivial) (fun w' t d e => by subst e; simp only [Sem.runT, hh, hc, rturn]) (by simp only [Sem.runT, hc])
    | some o =>
      by_cases ho : ∃ c e fz, o = Obj.cells c e fz
      · obtain ⟨c, e, fz, rfl⟩ := ho
        exact .here (.halt (.stuck "setObj: a row of cells") w) rfl (.inl trivial) (fun w' t d e => by subst e; simp only [Sem.runT, hh, hc, rturn]) (by simp only [Sem.runT, hc])
      · refine (ih h { w with heap := w.heap.setIfInBounds r x } (es.push ⟨.obj r, true, x.isChan⟩)).on ?_ (fun t d => ?_) rfl rfl (cellsStay_set w r x (.inr fun c e fz hx => ho ⟨c, e, fz, by rw [hc] at hx; exact Option.some.inj hx⟩)) ?_
        · cases o <;> first | exact absurd ⟨_, _, _, rfl⟩ ho | simp only [Sem.runT, hc]
        · cases o <;> first | exact absurd ⟨_, _, _, rfl⟩ ho | (simp only [Sem.runT, hh, hc]; rfl)
        · intro e he
          rcases Array.mem_push.1 he with he | rfl
          · exact .inl he
          · exact .inr ⟨by simp, by simp⟩
  | choose q k ih =>
    intro h w es
    by_cases hq : q.forced = true
    · exact (ih 0 (h _) w es).on (by simp only [Sem.runT, hq, if_true]) (fun t d => by simp only [Sem.runT, hq, if_true]) rfl rfl (CellsStay.refl w) fun e he => .inl he
    · obtain ⟨a, b, c, d, n, e, f⟩ := ih (q.cut (w.tape w.drawn q)) (h _) { w with drawn := w.drawn + 1 } es
      have h0 : (Sem.choose q k).runT P w es = (k (q.cut (w.tape w.drawn q))).runT P { w with drawn := w.drawn + 1 } es := by simp only [Sem.runT, if_neg hq]
      refine ⟨by rw [h0]; exact a, by rw [h0]; exact b, by rw [h0]; exact c, by rw [h0]; exact d, n + 1, by rw [h0, e]; show w.drawn + 1 + n = _; omega, fun t dd hj => ?_⟩
      have h1 : (Sem.choose q k).runT P (turn w t dd) es = (k (q.cut (t dd q))).runT P (turn w t (dd + 1)) es := by simp only [Sem.runT, if_neg hq]; rfl
      have h2 : t dd = w.tape w.drawn := by simpa using hj 0 (by omega)
      rw [h1, h0, h2]
      have := f t (dd + 1) (fun j hj' => by have := hj (j + 1) (by omega); rw [show dd + 1 + j = dd + (j + 1) by omega, this]; show _ = w.tape (w.drawn + 1 + j); rw [show w.drawn + 1 + j = w.drawn + (j + 1) by omega])
      rw [show dd + (n + 1) = dd + 1 + n by omega]
      exact this
  | sys c k ih =>
    intro h w es
    obtain ⟨rfl, h⟩ := h
    have e0 := sys_env w w.tape w.drawn
    rw [turn_self] at e0
    refine (ih (.strings w.os.env) (h _) w (es.push ⟨.output, true, false⟩)).on (by simp only [Sem.runT, e0]) (fun t d => by simp only [Sem.runT, sys_env]) rfl rfl (CellsStay.refl w) fun e he => ?_
    rcases Array.mem_push.1 he with he | rfl
    · exact .inl he
    · exact .inr ⟨by simp, by simp⟩
  | program k ih =>
    intro h w es
    exact (ih P h w es).on rfl (fun t d => rfl) rfl rfl (CellsStay.refl w) fun e he => .inl he
  | mark m k ih =>
    intro h w es
    refine (ih h.2 w (es.push ⟨.mark m, false, true⟩)).on rfl (fun t d => rfl) rfl rfl (CellsStay.refl w) fun e he => ?_
    rcases Array.mem_push.1 he with he | rfl
    · exact .inl he
    · exact .inr ⟨by simpa using h.1.1, by simpa using h.1.2⟩

end Go.Proofs.Ytngmhkhncimknaa
