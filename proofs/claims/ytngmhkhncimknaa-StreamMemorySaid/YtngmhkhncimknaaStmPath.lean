/- The bridge: what a goroutine does that is alone on whatever tape, goroutine 0 does beside others that turn nothing but the count of draws. -/
import Derived.Test.YtngmhkhncimknaaStmIn
import Derived.Conc.Beside
namespace Go.Proofs.Ytngmhkhncimknaa
open Go Go.Conc
set_option linter.unusedVariables false
set_option linter.unusedSimpArgs false

/-- what is kept of goroutine 0's state by its own steps, backwards: if on whatever draw the next step goes on calmly and leads where it holds, it holds -/
def Back (P : Program) (X : Goroutine → World → Prop) : Prop :=
  ∀ g w, g.status = .running → (∀ d, ∃ g' w' es, stepG P true g (w.at d) = .go g' w' es ∧ (∀ e ∈ es, calm e) ∧ X g' w') → X g w

/-- the tape holds no row that w's does not hold -/
def Rows0 (t t0 : Nat → Question → Nat) : Prop := ∀ m, ∃ n, t m = t0 n

theorem at_turn (w : World) (d : Nat) : w.at d = turn w w.tape d := rfl

section
variable {P : Program} {S : FuncId → Bool} {X : Goroutine → World → Prop} {ch : Bool} {kk : List Item} {cs : List Frame} {τ : Nat → Question → Nat}

abbrev St := Frame × List Frame × World

/-- a state of checked frames at which X fails -/
structure Bad (P : Program) (S : FuncId → Bool) (X : Goroutine → World → Prop) (ch : Bool) (kk : List Item) (cs : List Frame) (τ : Nat → Question → Nat) (σ : St) : Prop where
  fr : InF P S σ.1
  l : InL P S σ.2.1
  laid : Laid0 P σ.2.2
  tape : σ.2.2.tape = τ
  not : ¬ X (stk kk cs σ.1 σ.2.1) σ.2.2

/-- the checked frames are left: the last of them is on its way back, or (a piece of code) it has nothing more to do -/
def Left (ch : Bool) (σ : St) : Prop := σ.2.1 = [] ∧ (σ.1.mode ≠ .run ∨ (ch = true ∧ σ.1.todo = []))

/-- what follows a state: at draw d, having taken k draws: a bad state, or (none) the run's end; or nothing, if the last checked frame is being left -/
def Follows (P : Program) (S : FuncId → Bool) (X : Goroutine → World → Prop) (ch : Bool) (kk : List Item) (cs : List Frame) (τ : Nat → Question → Nat) (σ : St) (x : Nat × Option St × Nat) : Prop :=
  (Left ch σ ∧ x.2.1 = none) ∨
  (¬ Left ch σ ∧ ∃ r w' es, Stepped P S σ.1 σ.2.1 (σ.2.2.at x.1) r w' es x.2.2 ∧ ((r = none ∧ x.2.1 = none) ∨ ∃ fr' l', r = some (fr', l') ∧ x.2.1 = some (fr', l', w') ∧ Bad P S X ch kk cs τ (fr', l', w')))

theorem follows_of (hS : Shut P S) (hX : Back P X) (hck : ch = false → kk = []) {σ : St} (h : Bad P S X ch kk cs τ σ) : ∃ x, Follows P S X ch kk cs τ σ x := by
  obtain ⟨fr, l, w⟩ := σ
  obtain ⟨hf, hl, hlaid, ht, hn⟩ := h
  dsimp only at hf hl hlaid ht hn
  by_cases hpop : Left ch (fr, l, w)
  · exact ⟨(0, none, 0), .inl ⟨hpop, rfl⟩⟩
  · have hst : ∀ d, ∃ r w' es k, Stepped P S fr l (w.at d) r w' es k := fun d => by
      have hlaid' : Laid0 P (w.at d) := hlaid
      by_cases hm : fr.mode = .run
      · exact step_run hS hf hl hm hlaid'
      · cases l with
        | nil => exact absurd ⟨rfl, .inl hm⟩ hpop
        | cons c l => exact step_back hS hf hl hm
    refine Classical.byContradiction fun hno => hn (hX _ _ rfl fun d => ?_)
    obtain ⟨r, w', es, k, hs⟩ := hst d
    have hside : kk = [] ∨ l ≠ [] ∨ fr.todo ≠ [] := by
      by_cases hl0 : l = []
      · by_cases ht0 : fr.todo = []
        · left; refine hck ?_
          cases ch with
          | false => rfl
          | true => exact absurd ⟨hl0, .inr ⟨rfl, ht0⟩⟩ hpop
        · exact .inr (.inr ht0)
      · exact .inr (.inl hl0)
    cases r with
    | none => exact absurd ⟨(d, none, k), .inr ⟨hpop, none, w', es, hs, .inl ⟨rfl, rfl⟩⟩⟩ hno
    | some p =>
      obtain ⟨fr', l'⟩ := p
      have ho := hs.out w.tape d (fun j _ => rfl) fr' l' rfl kk cs hside
      have htp : w'.tape = τ := hs.tape.trans ht
      have hw' : turn w' w.tape (d + k) = w' := by
        have h1 : w'.tape = w.tape := hs.tape
        have h2 : w'.drawn = d + k := hs.drawn
        rw [← h1, ← h2]; rfl
      rw [hw'] at ho
      refine ⟨stk kk cs fr' l', w', es, ho, hs.calm, Classical.byContradiction fun hb => ?_⟩
      obtain ⟨i1, i2⟩ := hs.inn fr' l' rfl
      exact hno ⟨(d, some (fr', l', w'), k), .inr ⟨hpop, _, w', es, hs, .inr ⟨fr', l', rfl, rfl, ⟨i1, i2, hlaid.stay hs.stay, htp, hb⟩⟩⟩⟩

open Classical in
/-- .. chosen -/
noncomputable def nxt (P : Program) (S : FuncId → Bool) (X : Goroutine → World → Prop) (ch : Bool) (kk : List Item) (cs : List Frame) (τ : Nat → Question → Nat) (σ : St) : Nat × Option St × Nat :=
  if h : ∃ x, Follows P S X ch kk cs τ σ x then h.choose else (0, none, 0)

noncomputable def path (P : Program) (S : FuncId → Bool) (X : Goroutine → World → Prop) (ch : Bool) (kk : List Item) (cs : List Frame) (τ : Nat → Question → Nat) (σ : St) : Nat → St
  | 0 => σ
  | i + 1 => (nxt P S X ch kk cs τ (path P S X ch kk cs τ σ i)).2.1.getD (path P S X ch kk cs τ σ i)

/-- draws taken ahead of step i -/
noncomputable def drawsTo (P : Program) (S : FuncId → Bool) (X : Goroutine → World → Prop) (ch : Bool) (kk : List Item) (cs : List Frame) (τ : Nat → Question → Nat) (σ : St) : Nat → Nat
  | 0 => 0
  | i + 1 => drawsTo P S X ch kk cs τ σ i + (if (nxt P S X ch kk cs τ (path P S X ch kk cs τ σ i)).2.1.isSome then (nxt P S X ch kk cs τ (path P S X ch kk cs τ σ i)).2.2 else 0)

theorem nxt_ok (hS : Shut P S) (hX : Back P X) (hck : ch = false → kk = []) {σ : St} (h : Bad P S X ch kk cs τ σ) : Follows P S X ch kk cs τ σ (nxt P S X ch kk cs τ σ) := by
  have he := follows_of hS hX hck h
  unfold nxt
  rw [dif_pos he]
  exact he.choose_spec

theorem path_bad (hS : Shut P S) (hX : Back P X) (hck : ch = false → kk = []) {σ : St} (h : Bad P S X ch kk cs τ σ) : ∀ i, Bad P S X ch kk cs τ (path P S X ch kk cs τ σ i)
  | 0 => h
  | i + 1 => by
    have hb := path_bad hS hX hck h i
    have hf := nxt_ok hS hX hck hb
    show Bad P S X ch kk cs τ ((nxt P S X ch kk cs τ (path P S X ch kk cs τ σ i)).2.1.getD _)
    rcases hf with ⟨_, hx⟩ | ⟨_, r, w', es, _, ⟨_, hx⟩ | ⟨fr', l', _, hx, hb'⟩⟩
    · rw [hx]; exact hb
    · rw [hx]; exact hb
    · rw [hx]; exact hb'

section
variable (P S X ch kk cs τ) (σ : St)
noncomputable abbrev live (i : Nat) : Bool := (nxt P S X ch kk cs τ (path P S X ch kk cs τ σ i)).2.1.isSome
noncomputable abbrev drawAt (i : Nat) : Nat := (nxt P S X ch kk cs τ (path P S X ch kk cs τ σ i)).1
noncomputable abbrev takes (i : Nat) : Nat := (nxt P S X ch kk cs τ (path P S X ch kk cs τ σ i)).2.2

theorem drawsTo_succ (i : Nat) : drawsTo P S X ch kk cs τ σ (i + 1) = drawsTo P S X ch kk cs τ σ i + (if live P S X ch kk cs τ σ i then takes P S X ch kk cs τ σ i else 0) := rfl

theorem drawsTo_mono {i j : Nat} (h : i ≤ j) : drawsTo P S X ch kk cs τ σ i ≤ drawsTo P S X ch kk cs τ σ j := by
  induction h with
  | refl => exact Nat.le_refl _
  | step _ ih => rw [Nat.succ_eq_add_one, drawsTo_succ]; omega

theorem dead_stays {i j : Nat} (h : i ≤ j) (hd : live P S X ch kk cs τ σ i = false) : path P S X ch kk cs τ σ j = path P S X ch kk cs τ σ i ∧ drawsTo P S X ch kk cs τ σ j = drawsTo P S X ch kk cs τ σ i := by
  induction h with
  | refl => exact ⟨rfl, rfl⟩
  | @step m _ ih =>
    obtain ⟨h1, h2⟩ := ih
    have hd' : live P S X ch kk cs τ σ m = false := by unfold live; rw [h1]; exact hd
    refine ⟨?_, ?_⟩
    · show (nxt P S X ch kk cs τ (path P S X ch kk cs τ σ m)).2.1.getD _ = _
      have : (nxt P S X ch kk cs τ (path P S X ch kk cs τ σ m)).2.1 = none := by simpa [live] using hd'
      rw [this]; exact h1
    · rw [Nat.succ_eq_add_one, drawsTo_succ, hd']; simpa using h2

open Classical in
/-- the tape that the chosen path reads -/
noncomputable def tapeOf (m : Nat) : Question → Nat :=
  if h : ∃ i, drawsTo P S X ch kk cs τ σ i ≤ m ∧ (m < drawsTo P S X ch kk cs τ σ (i + 1) ∨ live P S X ch kk cs τ σ i = false) then τ (drawAt P S X ch kk cs τ σ h.choose + (m - drawsTo P S X ch kk cs τ σ h.choose)) else τ 0

theorem tapeOf_rows : Rows0 (tapeOf P S X ch kk cs τ σ) τ := by
  intro m
  unfold tapeOf
  split
  · exact ⟨_, rfl⟩
  · exact ⟨_, rfl⟩

theorem tapeOf_at {i j : Nat} (h : (live P S X ch kk cs τ σ i = true ∧ j < takes P S X ch kk cs τ σ i) ∨ live P S X ch kk cs τ σ i = false) : tapeOf P S X ch kk cs τ σ (drawsTo P S X ch kk cs τ σ i + j) = τ (drawAt P S X ch kk cs τ σ i + j) := by
  have hex : ∃ i', drawsTo P S X ch kk cs τ σ i' ≤ drawsTo P S X ch kk cs τ σ i + j ∧ (drawsTo P S X ch kk cs τ σ i + j < drawsTo P S X ch kk cs τ σ (i' + 1) ∨ live P S X ch kk cs τ σ i' = false) := by
    refine ⟨i, by omega, ?_⟩
    rcases h with ⟨h1, h2⟩ | h
    · left; rw [drawsTo_succ, h1]; simpa using h2
    · exact .inr h
  unfold tapeOf
  rw [dif_pos hex]
  obtain ⟨h1, h2⟩ := hex.choose_spec
  generalize hex.choose = i0 at h1 h2
  rcases Nat.lt_trichotomy i0 i with hlt | rfl | hgt
  · have hm := drawsTo_mono P S X ch kk cs τ σ (show i0 + 1 ≤ i from hlt)
    rcases h2 with h2 | h2
    · omega
    · obtain ⟨e1, e2⟩ := dead_stays P S X ch kk cs τ σ (Nat.le_of_lt hlt) h2
      have e3 : drawAt P S X ch kk cs τ σ i = drawAt P S X ch kk cs τ σ i0 := by unfold drawAt; rw [e1]
      rw [e3, e2]; congr 1; omega
  · congr 1; omega
  · have hm := drawsTo_mono P S X ch kk cs τ σ (show i + 1 ≤ i0 from hgt)
    rcases h with ⟨h3, h4⟩ | h3
    · rw [drawsTo_succ, h3] at hm
      simp only [if_true] at hm
      omega
    · obtain ⟨e1, e2⟩ := dead_stays P S X ch kk cs τ σ (Nat.le_of_lt hgt) h3
      have e3 : drawAt P S X ch kk cs τ σ i0 = drawAt P S X ch kk cs τ σ i := by unfold drawAt; rw [e1]
      rw [e3, e2]; congr 1; omega
end
end

section
variable {P : Program} {S : FuncId → Bool} {X : Goroutine → World → Prop} {ch : Bool} {kk : List Item} {cs : List Frame} {τ : Nat → Question → Nat} {σ : St}

theorem step_of_go {fr fr' : Frame} {l l' : List Frame} {w w' : World} {es : Array Event} (h : stepG P true (gor fr l) w = .go (gor fr' l') w' es) : step P (lone fr l w) = .next (lone fr' l' w') :=
  step_lone_go (by show (stepG P true (gor fr l) w).bare = _; rw [h]; rfl)
theorem step_of_ended {fr : Frame} {l : List Frame} {w : World} (h : ∃ o w' es, stepG P true (gor fr l) w = .ended o w' es) : ∃ o w', step P (lone fr l w) = .ended o w' := by
  obtain ⟨o, w', es, h⟩ := h
  exact ⟨o, w', step_lone_ended (by show (stepG P true (gor fr l) w).bare = _; rw [h]; rfl)⟩

theorem runN_one {m m' : Machine} {n : Nat} {m0 : Machine} (h : runN P n m0 = .next m) (hs : step P m = .next m') : runN P (n + 1) m0 = .next m' := by
  rw [runN_add, h]; simp [runN, hs]
theorem runN_end {m : Machine} {n k : Nat} {m0 : Machine} (h : runN P n m0 = .next m) (hs : ∃ o w, step P m = .ended o w) (hk : n < k) (m' : Machine) : runN P k m0 ≠ .next m' := by
  obtain ⟨o, w, hs⟩ := hs
  obtain ⟨d, rfl⟩ : ∃ d, k = n + (d + 1) := ⟨k - n - 1, by omega⟩
  rw [runN_add, h]
  simp [runN, hs]

/-- the end of a piece of code, alone: there the run ends -/
def stops (ch : Bool) : List Item := if ch then [.code (.refuse "")] else []
theorem stops_exit (ch : Bool) (id : Nat) : exitTo id (stops ch) = none := by cases ch <;> rfl

theorem side_of (ch : Bool) (x : St) (h : ¬ Left ch x) : stops ch = [] ∨ x.2.1 ≠ [] ∨ x.1.todo ≠ [] := by
  cases ch with
  | false => exact .inl rfl
  | true =>
    by_cases hl0 : x.2.1 = []
    · by_cases ht0 : x.1.todo = []
      · exact absurd ⟨hl0, .inr ⟨rfl, ht0⟩⟩ h
      · exact .inr (.inr ht0)
    · exact .inr (.inl hl0)

/-- the lone machine of these frames -/
def loneS (ch : Bool) (c0 : Frame) (fr : Frame) (l : List Frame) (w : World) : Machine := lone (addk (tl (stops ch) l) fr) (addLast (stops ch) l ++ [c0]) w

theorem lone_path (hS : Shut P S) (hX : Back P X) (hck : ch = false → kk = []) (hb : Bad P S X ch kk cs τ σ) (c0 : Frame) : ∀ n, (∀ i, i < n → live P S X ch kk cs τ σ i = true) →
    runN P n (loneS ch c0 σ.1 σ.2.1 (turn σ.2.2 (tapeOf P S X ch kk cs τ σ) 0)) = .next (loneS ch c0 (path P S X ch kk cs τ σ n).1 (path P S X ch kk cs τ σ n).2.1 (turn (path P S X ch kk cs τ σ n).2.2 (tapeOf P S X ch kk cs τ σ) (drawsTo P S X ch kk cs τ σ n)))
  | 0, _ => rfl
  | n + 1, hl => by
    have ih := lone_path hS hX hck hb c0 n fun i hi => hl i (by omega)
    have hbn := path_bad hS hX hck hb n
    have hln := hl n (by omega)
    have hf := nxt_ok hS hX hck hbn
    rcases hf with ⟨_, hx⟩ | ⟨hnl, r, w', es, hst, ⟨_, hx⟩ | ⟨fr', l', rfl, hx, hb'⟩⟩
    · exact absurd hln (by simp [live, hx])
    · exact absurd hln (by simp [live, hx])
    · have ho := hst.out (tapeOf P S X ch kk cs τ σ) (drawsTo P S X ch kk cs τ σ n) (fun j hj => by
        rw [tapeOf_at P S X ch kk cs τ σ (.inl ⟨hln, hj⟩)]
        show _ = (path P S X ch kk cs τ σ n).2.2.tape _
        rw [hbn.tape]; rfl) fr' l' rfl (stops ch) [c0] (side_of ch _ hnl)
      have e1 : path P S X ch kk cs τ σ (n + 1) = (fr', l', w') := by
        show (nxt P S X ch kk cs τ (path P S X ch kk cs τ σ n)).2.1.getD _ = _
        rw [hx]; rfl
      have e2 : drawsTo P S X ch kk cs τ σ (n + 1) = drawsTo P S X ch kk cs τ σ n + takes P S X ch kk cs τ σ n := by rw [drawsTo_succ, hln]; rfl
      rw [e1, e2]
      exact runN_one ih (step_of_go ho)

/-- the frame that waits below: whatever comes back to it, the run ends -/
def sentry (P : Program) : Frame := { fn := P.funcs.size, tmps := #[], todo := [.call { target := .nil, args := #[] } false "fmt's door" #[]], defers := [], mode := .returning, kind := .normal }

theorem lone_inj {a a' : Frame} {l l' : List Frame} {w w' : World} (h : Go.Stepped.next (lone a l w) = Go.Stepped.next (lone a' l' w')) : a = a' ∧ l = l' ∧ w = w' := by
  have h1 : lone a l w = lone a' l' w' := by injection h
  have h2 : w = w' := congrArg Machine.world h1
  have h3 := congrArg Machine.gs h1
  simp only [lone, Array.mk.injEq, List.cons.injEq, Goroutine.mk.injEq, and_true, true_and] at h3
  exact ⟨h3.1, h3.2, h2⟩

theorem none_fn (P : Program) : P.funcs[P.funcs.size]? = none := by simp

theorem popped (hS : Shut P S) (hin : P.inits.idxOf? P.funcs.size = none) {fr : Frame} (h : InF P S fr) (hm : fr.mode ≠ .run) (q : List Item) (w : World) :
    ∃ c, step P (lone (addk q fr) [sentry P] w) = .next (lone c [] w) ∧ ∃ o w', step P (lone c [] w) = .ended o w' := by
  obtain ⟨fn, h1, h5⟩ := h.fn
  obtain ⟨f, tmps, todo, defers, mode, kind, round⟩ := fr
  obtain ⟨hr, hk, hd, hf, ht⟩ := h
  dsimp only at hr hk hd hf ht hm h1
  subst hr hk hd
  cases mode with
  | run => exact absurd rfl hm
  | panicking ch =>
    refine ⟨(sentry P).raise ch, step_of_go (es := #[]) (by simp [addk, gor, stepG, unwind, Frame.catches, h1]), step_of_ended ?_⟩
    have hc : Frame.catches P ((sentry P).raise ch) = true := by
      simp only [Frame.catches, sentry, Frame.raise, none_fn]
      decide +kernel
    simp only [gor, stepG, sentry, Frame.raise, unwind]
    have hc' : Frame.catches P { fn := P.funcs.size, tmps := #[], todo := [.call { target := .nil, args := #[] } false "fmt's door" #[]], defers := [], mode := .panicking ch, kind := .normal } = true := hc
    exact ⟨_, _, _, if_pos hc'⟩
  | returning =>
    obtain ⟨v, hres⟩ := results_pure h5 tmps
    have hse : seen P f #[] = #[] := by simp [seen]
    have hev : ∀ w, Sem.events P (Sem.pure v) w #[] = #[] := fun w => rfl
    refine ⟨(sentry P).finish v, step_of_go (es := #[]) (by simp [addk, gor, stepG, unwind, h1, hres, Sem.runT, Sem.run, hse, hev, GStep.after, doReturn, sentry]), step_of_ended ?_⟩
    simp [gor, stepG, sentry, Frame.finish, unwind, none_fn, doReturn, hin]

/-- where a piece of code has ended, the lone run ends -/
theorem stopped {fr : Frame} (h : InF P S fr) (hm : fr.mode = .run) (ht : fr.todo = []) (w : World) (c0 : Frame) : ∃ o w', step P (loneS true c0 fr [] w) = .ended o w' := by
  obtain ⟨f, tmps, todo, defers, mode, kind, round⟩ := fr
  dsimp only at hm ht
  subst hm ht
  refine step_of_ended ?_
  simp [addk, tl, stops, gor, stepG, stepG.exec]

/-- THE BRIDGE: what is shown alone on every tape holds beside others -/
theorem bridge (hS : Shut P S) (hX : Back P X) (hin : P.inits.idxOf? P.funcs.size = none) (hck : ch = false → kk = []) {fr : Frame} {l : List Frame} {w : World} (hf : InF P S fr) (hl : InL P S l) (hlaid : Laid0 P w) (Fin : Frame → World → Prop)
    (hlone : ∀ t, Rows0 t w.tape → ∃ n fr' w', runN P n (loneS ch (sentry P) fr l (turn w t 0)) = .next (lone fr' [sentry P] w') ∧ Fin fr' w')
    (hfin : ∀ fr' w', InF P S fr' → Fin (addk (stops ch) fr') w' → ∀ d, X (gor (addk kk fr') cs) (turn w' w.tape d)) : X (stk kk cs fr l) w := by
  refine Classical.byContradiction fun hno => ?_
  have hb : Bad P S X ch kk cs w.tape (fr, l, w) := ⟨hf, hl, hlaid, rfl, hno⟩
  obtain ⟨n, fr', w', hrun, hF⟩ := hlone _ (tapeOf_rows P S X ch kk cs w.tape (fr, l, w))
  by_cases hall : ∀ i, i < n → live P S X ch kk cs w.tape (fr, l, w) i = true
  · have hp := lone_path hS hX hck hb (sentry P) n hall
    rw [hrun] at hp
    obtain ⟨rfl, e2, rfl⟩ := lone_inj hp
    have hbn := path_bad hS hX hck hb n
    have hl0 : (path P S X ch kk cs w.tape (fr, l, w) n).2.1 = [] := by
      cases hp2 : (path P S X ch kk cs w.tape (fr, l, w) n).2.1 with
      | nil => rfl
      | cons a b =>
        rw [hp2] at e2
        have := congrArg List.length e2
        simp [addLast] at this
    rw [hl0] at hF
    have := hfin _ _ hbn.fr hF (path P S X ch kk cs w.tape (fr, l, w) n).2.2.drawn
    have hnot := hbn.not
    rw [hl0] at hnot
    have ht := hbn.tape
    refine hnot ?_
    rw [turn_turn] at this
    have e : ∀ (v : World) (t : Nat → Question → Nat), v.tape = t → turn v t v.drawn = v := fun v t h => by subst h; rfl
    rw [e _ _ ht] at this
    exact this
  · have hex : ∃ i, i < n ∧ live P S X ch kk cs w.tape (fr, l, w) i = false := by
      refine Classical.byContradiction fun hh => hall fun i hi => ?_
      cases hv : live P S X ch kk cs w.tape (fr, l, w) i with
      | true => rfl
      | false => exact absurd ⟨i, hi, hv⟩ hh
    -- the first step that is not gone
    have hmin : ∃ N, N < n ∧ live P S X ch kk cs w.tape (fr, l, w) N = false ∧ ∀ i, i < N → live P S X ch kk cs w.tape (fr, l, w) i = true := by
      obtain ⟨i, hi, hd⟩ := hex
      induction i using Nat.strongRecOn with
      | _ i ih =>
        by_cases hlow : ∀ j, j < i → live P S X ch kk cs w.tape (fr, l, w) j = true
        · exact ⟨i, hi, hd, hlow⟩
        · have : ∃ j, j < i ∧ live P S X ch kk cs w.tape (fr, l, w) j = false := by
            refine Classical.byContradiction fun hh => hlow fun j hj => ?_
            cases hv : live P S X ch kk cs w.tape (fr, l, w) j with
            | true => rfl
            | false => exact absurd ⟨j, hj, hv⟩ hh
          obtain ⟨j, hj, hv⟩ := this
          exact ih j hj (by omega) hv
    obtain ⟨N, hN, hdead, hlow⟩ := hmin
    have hp := lone_path hS hX hck hb (sentry P) N hlow
    have hbn := path_bad hS hX hck hb N
    rcases nxt_ok hS hX hck hbn with ⟨⟨hl0, hm0⟩, _⟩ | ⟨_, r, w1, es, hst, ⟨rfl, _⟩ | ⟨a, b, _, hx, _⟩⟩
    · rw [hl0] at hp
      by_cases hm : (path P S X ch kk cs w.tape (fr, l, w) N).1.mode = .run
      · rcases hm0 with hm0 | ⟨hch, ht0⟩
        · exact hm0 hm
        · obtain ⟨o, w'', hs⟩ := stopped hbn.fr hm ht0 (turn (path P S X ch kk cs w.tape (fr, l, w) N).2.2 (tapeOf P S X ch kk cs w.tape (fr, l, w)) (drawsTo P S X ch kk cs w.tape (fr, l, w) N)) (sentry P)
          rw [← hch] at hs
          exact runN_end hp ⟨o, w'', hs⟩ hN _ hrun
      · obtain ⟨c, hs1, hs2⟩ := popped hS hin hbn.fr hm (stops ch) (turn (path P S X ch kk cs w.tape (fr, l, w) N).2.2 (tapeOf P S X ch kk cs w.tape (fr, l, w)) (drawsTo P S X ch kk cs w.tape (fr, l, w) N))
        have h1 := runN_one hp hs1
        rcases Nat.lt_or_ge (N + 1) n with hlt | hge
        · exact runN_end h1 hs2 hlt _ hrun
        · have : n = N + 1 := by omega
          subst this
          rw [hrun] at h1
          obtain ⟨_, e2, _⟩ := lone_inj h1
          cases e2
    · have ho := hst.dead (tapeOf P S X ch kk cs w.tape (fr, l, w)) (drawsTo P S X ch kk cs w.tape (fr, l, w) N) (fun j _ => by
        rw [tapeOf_at P S X ch kk cs w.tape (fr, l, w) (.inr hdead)]
        show _ = (path P S X ch kk cs w.tape (fr, l, w) N).2.2.tape _
        rw [hbn.tape]; rfl) rfl (stops ch) [sentry P] (stops_exit ch)
      exact runN_end hp (step_of_ended ho) hN _ hrun
    · simp [live, hx] at hdead
end

section
variable {P : Program} {S : FuncId → Bool} {X : Goroutine → World → Prop}
/-- .. of a call of a checked function -/
theorem X_calls (hS : Shut P S) (hX : Back P X) (hin : P.inits.idxOf? P.funcs.size = none) {f : FuncId} (hf : S f = true) {args : Array Value} {w : World} (hlaid : Laid0 P w) {R : Value → World → Prop}
    (h : ∀ t d, Rows0 t w.tape → Calls P f args (turn w t d) fun | .returned v, w' => R v w' | _, _ => False) {c : Frame} {cs : List Frame} (hfin : ∀ v w' d, R v w' → X (gor (c.finish v) cs) (turn w' w.tape d)) :
    X (gor (Frame.enter P f args .normal) (c :: cs)) w := by
  have key := bridge (P := P) (S := S) (X := X) (ch := false) (kk := []) (cs := c :: cs) (l := []) hS hX hin (fun _ => rfl) (InF.enter hS hf args) (by intro g hg; cases hg) hlaid (fun fr w' => fr.fn = f ∧ ∃ v, R v w' ∧ fr.leaving P w' (.returned v)) (fun t ht => ?_) ?_
  · rw [stk_nil] at key; exact key
  · obtain ⟨e, w', fr, hR, hc, hfn, hlv⟩ := h t 0 ht [sentry P]
    cases e with
    | returned v =>
      obtain ⟨n, hn⟩ := hc
      exact ⟨n, fr, w', by simpa [loneS, stops, tl, addk_nil, addLast] using hn, hfn, v, hR, hlv⟩
    | panicked ch => exact hR.elim
    | outgrown => exact hR.elim
  · intro fr w' _ hF d
    simp only [stops, Bool.false_eq_true, if_false, addk_nil] at hF ⊢
    obtain ⟨rfl, v, hR, hm1, hd, hk, fn, hfu, hres⟩ := hF
    refine hX _ _ rfl fun d' => ?_
    obtain ⟨fn', body, h1, h2, h3, h4, h5⟩ := hS.has fr.fn hf
    rw [hfu] at h1
    obtain rfl := Option.some.inj h1
    obtain ⟨v', hp⟩ := results_pure h5 fr.tmps
    rw [hp] at hres
    simp only [Sem.run, Result.ok.injEq, and_true] at hres
    subst hres
    have hse : seen P fr.fn #[] = #[] := by simp [seen]
    have hev : ∀ w, Sem.events P (Sem.pure v') w #[] = #[] := fun w => rfl
    exact ⟨gor (c.finish v') cs, turn w' w.tape d', #[], by simp [gor, stepG, unwind, hm1, hd, hk, hfu, hp, Sem.runT, Sem.run, hse, hev, GStep.after, doReturn]; rfl, by simp, hfin v' w' d' hR⟩
end
end Go.Proofs.Ytngmhkhncimknaa
