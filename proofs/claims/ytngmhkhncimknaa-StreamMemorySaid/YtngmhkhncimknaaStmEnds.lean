/- X for the end of the run: from every crowd in which goroutine 0 stands so, all others only leaving, behind a past without a race of which goroutine 0 knows every touch, the run ends well. -/
import Derived.Test.YtngmhkhncimknaaStmCode
namespace Go.Proofs.Ytngmhkhncimknaa
open Go Go.Conc
open Go.ConcN (sumTo upd sumTo_upd upd_ne upd_same)
set_option linter.unusedVariables false
set_option linter.unusedSimpArgs false

def NoShun : Loc → Prop := fun _ => False

/-- the past between two phases -/
def PastE (t : Trace) : Prop := ∃ B, Past NoShun B t

def EndsRun (P : Program) (Post : Value → World → Prop) (m : Machine) (t : Trace) : Prop :=
  ∃ N last o w' t', runNT P (N + 1) m t = (.ended o w', t') ∧ runN P N m = .next last ∧ step P last = .ended o w' ∧ Good P Post last o w' t'

def XEnds (P : Program) (Post : Value → World → Prop) (g : Goroutine) (w : World) : Prop :=
  ∀ d gs sl t q, gs[0]? = some g → Leavers P t gs q → PastE t → EndsRun P Post (crowd gs (w.at d) sl) t

section
variable {P : Program} {Post : Value → World → Prop}

theorem EndsRun.step {m m' : Machine} {t : Trace} {ops : Trace} (hs : stepT P m = (.next m', ops)) (h : EndsRun P Post m' (t ++ ops)) : EndsRun P Post m t := by
  obtain ⟨n, last, o, w, t', h1, h2, h3, h4⟩ := h
  exact ⟨n + 1, last, o, w, t', by rw [runNT_succ_next hs]; exact h1, by rw [runN_succ_next hs]; exact h2, h3, h4⟩

theorem XEnds.at_ (g : Goroutine) (w : World) (d : Nat) : XEnds P Post g (w.at d) ↔ XEnds P Post g w := Iff.rfl

/-- a bound over all places that a list of events names -/
theorem low_bound (es : List Event) : ∃ B, ∀ e ∈ es, (MemAct.ofEvent e).low B := by
  induction es with
  | nil => exact ⟨0, by simp⟩
  | cons e es ih =>
    obtain ⟨B, hB⟩ := ih
    have : ∃ B, (MemAct.ofEvent e).low B := by
      obtain ⟨loc, wr, sy⟩ := e
      cases loc with
      | cell a => exact ⟨a.block + 1, by simp [MemAct.ofEvent, MemAct.low, Loc.low]⟩
      | obj r => exact ⟨r + 1, by cases wr <;> cases sy <;> simp [MemAct.ofEvent, MemAct.low, Loc.low]⟩
      | output => exact ⟨0, by simp [MemAct.ofEvent, MemAct.low, Loc.low]⟩
      | goroutines => exact ⟨0, by simp [MemAct.ofEvent, MemAct.low, Loc.low]⟩
      | mark m =>
        cases m with
        | acquire a => exact ⟨a.block + 1, by simp [MemAct.ofEvent, MemAct.low]⟩
        | release a => exact ⟨a.block + 1, by simp [MemAct.ofEvent, MemAct.low]⟩
        | releaseMerge a => exact ⟨a.block + 1, by simp [MemAct.ofEvent, MemAct.low]⟩
        | read a => exact ⟨a.block + 1, by simp [MemAct.ofEvent, MemAct.low]⟩
        | write a => exact ⟨a.block + 1, by simp [MemAct.ofEvent, MemAct.low]⟩
        | _ => exact ⟨0, by simp [MemAct.ofEvent, MemAct.low]⟩
    obtain ⟨B', hB'⟩ := this
    exact ⟨max B B', fun x hx => (List.mem_cons.1 hx).elim (fun e => by subst e; exact MemAct.low_mono (Nat.le_max_right ..) hB') fun h => MemAct.low_mono (Nat.le_max_left ..) (hB x h)⟩

theorem PastE.own {t : Trace} (h : PastE t) {fn : FuncId} {pos : String} {es : Array Event} (hes : ∀ e ∈ es, calm e) : PastE (t ++ MemOp.ofEvents 0 fn pos es) := by
  obtain ⟨B, hp⟩ := h
  obtain ⟨B', hB'⟩ := low_bound es.toList
  exact ⟨max B B', (hp.mono (Nat.le_max_left ..)).own fun e he => ⟨fun _ _ hx => hx.elim, (hes e he).1, (hes e he).2, MemAct.low_mono (Nat.le_max_right ..) (hB' e (Array.mem_toList_iff.2 he))⟩⟩

/-- the leavers when goroutine 0 has taken a step -/
theorem leavers_step0 {gs : Array Goroutine} {g g' : Goroutine} {w' : World} {t : Trace} {q : Nat → Nat} (hL : Leavers P t gs q) (h0 : 0 < gs.size) (fn : FuncId) (pos : String) (es : Array Event) :
    Leavers P (t ++ MemOp.ofEvents 0 fn pos es) ((gs.map (woken P g g' w')).setIfInBounds 0 g') q :=
  ⟨fun j x hj hx => by
    have hne : 0 ≠ j := by omega
    rw [Array.getElem?_setIfInBounds_ne hne, Array.getElem?_map] at hx
    obtain ⟨y, hy, rfl⟩ := Option.map_eq_some_iff.1 hx
    have hq := hL.old j y hj hy
    rw [woken_quitsD hq, Deaf_other t (by omega) _ (fun op hop => by obtain ⟨e, _, rfl⟩ := Go.Conc.mem_ofEvents hop; rfl)]
    exact hq, fun j hj => by
    rw [Deaf_other t (g := j) (g' := 0) (by simp at hj; omega) _ (fun op hop => by obtain ⟨e, _, rfl⟩ := Go.Conc.mem_ofEvents hop; rfl)]
    exact hL.above j (by simpa using hj)⟩

theorem XEnds.back : Back P (XEnds P Post) := by
  intro g w hrun hstep
  have key : ∀ M d gs sl t q, sumTo gs.size q = M → gs[0]? = some g → Leavers P t gs q → PastE t → EndsRun P Post (crowd gs (w.at d) sl) t := by
    intro M
    induction M using Nat.strongRecOn with
    | _ M ih =>
      intro d0 gs sl t q hM h0 hL hP
      have haw : ∀ g ∈ gs, awake g := by
        intro x hx
        obtain ⟨i, hi, rfl⟩ := Array.mem_iff_getElem.1 hx
        rcases Nat.eq_zero_or_pos i with rfl | hpos
        · have : gs[0] = g := by simpa [Array.getElem?_eq_getElem hi] using h0
          rw [this]; exact awake_of (.inl hrun)
        · exact awake_of ((hL.old i _ hpos (Array.getElem?_eq_getElem hi)).status.elim .inl fun x => .inr (.inr x))
      obtain ⟨i, x, d, sl', hi, hx, hst⟩ := crowd_pick (P := P) (w := w.at d0) (sl := sl) haw ⟨0, g, h0, hrun⟩
      rcases Nat.eq_zero_or_pos i with rfl | hpos
      · obtain rfl : x = g := by rw [h0] at hi; exact (Option.some.inj hi).symm
        obtain ⟨g', w', es, hgo, hcalm, hX⟩ := hstep d
        have hrunT := runT_crowd_go (P := P) (sl := sl') (i := 0) hi (show stepG P (0 == 0) x ((w.at d0).at d) = _ from hgo)
        have hlt : 0 < gs.size := (Array.getElem?_eq_some_iff.1 h0).1
        refine EndsRun.step (hst.trans hrunT) ?_
        exact hX w'.drawn _ sl' _ q (by simp [hlt]) (leavers_step0 hL hlt ..) (hP.own hcalm)
      · have hq := hL.old i x hpos hi
        have hi0 : (i == 0) = false := by simp; omega
        have hlt : i < gs.size := (Array.getElem?_eq_some_iff.1 hi).1
        cases hqi : q i with
        | zero => rw [hqi] at hq; rw [hq.1] at hx; cases hx
        | succ k =>
          rw [hqi] at hq
          rcases hq with ⟨hf, _⟩ | ⟨_, g', es, hm, hstp, hq'⟩
          · rw [hf] at hx; cases hx
          have hrunT := runT_crowd_go (P := P) (sl := sl') (i := i) hi (by rw [hi0]; exact hstp ((w.at d0).at d))
          have hsz : ((gs.map (woken P x g' ((w.at d0).at d))).setIfInBounds i g').size = gs.size := by simp
          have hsum : sumTo gs.size (upd q i k) + (k + 1) = sumTo gs.size q + k := by
            have := sumTo_upd q k id hlt
            simpa [hqi] using this
          refine EndsRun.step (hst.trans hrunT) (ih (sumTo gs.size (upd q i k)) (by omega) d _ sl' _ (upd q i k) (by rw [hsz]) ?_ ⟨fun j y hj hy => ?_, fun j hj => ?_⟩ ?_)
          · have hne : i ≠ 0 := by omega
            rw [Array.getElem?_setIfInBounds_ne hne, Array.getElem?_map, h0]
            simp [woken_run hrun]
          · by_cases hji : i = j
            · subst hji
              rw [Array.getElem?_setIfInBounds_self_of_lt (by simpa using hlt)] at hy
              obtain rfl := Option.some.inj hy
              rw [upd_same, Deaf_own]
              exact hq'
            · rw [Array.getElem?_setIfInBounds_ne hji, Array.getElem?_map] at hy
              obtain ⟨z, hz, rfl⟩ := Option.map_eq_some_iff.1 hy
              have hqj := hL.old j z hj hz
              rw [woken_quitsD hqj, upd_ne q k (Ne.symm hji), Deaf_other t hji _ (fun op hop => by obtain ⟨e, _, rfl⟩ := Go.Conc.mem_ofEvents hop; rfl)]
              exact hqj
          · rw [Deaf_other t (g' := i) (by simp at hj; omega) _ (fun op hop => by obtain ⟨e, _, rfl⟩ := Go.Conc.mem_ofEvents hop; rfl)]
            exact hL.above j (by simpa using hj)
          · obtain ⟨B, hp⟩ := hP
            exact ⟨B, hp.mute (by omega) hm⟩
  exact fun d gs sl t q h0 hL hP => key _ d gs sl t q rfl h0 hL hP
/-- goroutine 0 stands at the step that ends the run -/
theorem XEnds.ends {g : Goroutine} {w : World} (hrun : g.status = .running) {v : Value} (hstep : ∀ d, ∃ es, stepG P true g (w.at d) = .ended (.done v) (w.at d) es ∧ (∀ e ∈ es, calm e) ∧ Post v (w.at d)) : XEnds P Post g w := by
  have key : ∀ M d gs sl t q, sumTo gs.size q = M → gs[0]? = some g → Leavers P t gs q → PastE t → EndsRun P Post (crowd gs (w.at d) sl) t := by
    intro M
    induction M using Nat.strongRecOn with
    | _ M ih =>
      intro d0 gs sl t q hM h0 hL hP
      have haw : ∀ g ∈ gs, awake g := by
        intro x hx
        obtain ⟨i, hi, rfl⟩ := Array.mem_iff_getElem.1 hx
        rcases Nat.eq_zero_or_pos i with rfl | hpos
        · have : gs[0] = g := by simpa [Array.getElem?_eq_getElem hi] using h0
          rw [this]; exact awake_of (.inl hrun)
        · exact awake_of ((hL.old i _ hpos (Array.getElem?_eq_getElem hi)).status.elim .inl fun x => .inr (.inr x))
      obtain ⟨i, x, d, sl', hi, hx, hst⟩ := crowd_pick (P := P) (w := w.at d0) (sl := sl) haw ⟨0, g, h0, hrun⟩
      rcases Nat.eq_zero_or_pos i with rfl | hpos
      · obtain rfl : x = g := by rw [h0] at hi; exact (Option.some.inj hi).symm
        obtain ⟨es, hgo, hcalm, hpost⟩ := hstep d
        have hrunT := runT_many_ended (P := P) (sl := sl') (i := 0) hi (show stepG P (0 == 0) x ((w.at d0).at d) = _ from hgo)
        obtain ⟨B, hP'⟩ := hP.own (fn := x.frame.fn) (pos := x.frame.place) hcalm
        refine ⟨0, _, _, _, _, by simp only [runNT, hst.trans hrunT], rfl, by simp [step, hst.trans hrunT], v, rfl, hpost, hP'.clean, hP'.over, ⟨fun y hy => ?_, rfl⟩, fun j y hy hj => ?_⟩
        · obtain ⟨j, hj⟩ := List.mem_iff_getElem?.1 hy
          rw [List.getElem?_drop] at hj
          exact ⟨_, (hL.old (1 + j) y (by omega) (by simpa [crowd] using hj)).leaves⟩
        · have hq := hL.old j y (by omega) hy
          refine ⟨q j, ?_⟩
          have e : (t ++ MemOp.ofEvents 0 x.frame.fn x.frame.place es).deaf j (t ++ MemOp.ofEvents 0 x.frame.fn x.frame.place es).size = Deaf t j :=
            Deaf_other t (g := j) (g' := 0) (by omega) _ (fun op hop => by obtain ⟨e, _, rfl⟩ := Go.Conc.mem_ofEvents hop; rfl)
          rw [e]
          exact hq.hears _
      · have hq := hL.old i x hpos hi
        have hi0 : (i == 0) = false := by simp; omega
        have hlt : i < gs.size := (Array.getElem?_eq_some_iff.1 hi).1
        cases hqi : q i with
        | zero => rw [hqi] at hq; rw [hq.1] at hx; cases hx
        | succ k =>
          rw [hqi] at hq
          rcases hq with ⟨hf, _⟩ | ⟨_, g', es, hm, hstp, hq'⟩
          · rw [hf] at hx; cases hx
          have hrunT := runT_crowd_go (P := P) (sl := sl') (i := i) hi (by rw [hi0]; exact hstp ((w.at d0).at d))
          have hsz : ((gs.map (woken P x g' ((w.at d0).at d))).setIfInBounds i g').size = gs.size := by simp
          have hsum : sumTo gs.size (upd q i k) + (k + 1) = sumTo gs.size q + k := by
            have := sumTo_upd q k id hlt
            simpa [hqi] using this
          refine EndsRun.step (hst.trans hrunT) (ih (sumTo gs.size (upd q i k)) (by omega) d _ sl' _ (upd q i k) (by rw [hsz]) ?_ ⟨fun j y hj hy => ?_, fun j hj => ?_⟩ ?_)
          · have hne : i ≠ 0 := by omega
            rw [Array.getElem?_setIfInBounds_ne hne, Array.getElem?_map, h0]
            simp [woken_run hrun]
          · by_cases hji : i = j
            · subst hji
              rw [Array.getElem?_setIfInBounds_self_of_lt (by simpa using hlt)] at hy
              obtain rfl := Option.some.inj hy
              rw [upd_same, Deaf_own]
              exact hq'
            · rw [Array.getElem?_setIfInBounds_ne hji, Array.getElem?_map] at hy
              obtain ⟨z, hz, rfl⟩ := Option.map_eq_some_iff.1 hy
              have hqj := hL.old j z hj hz
              rw [woken_quitsD hqj, upd_ne q k (Ne.symm hji), Deaf_other t hji _ (fun op hop => by obtain ⟨e, _, rfl⟩ := Go.Conc.mem_ofEvents hop; rfl)]
              exact hqj
          · rw [Deaf_other t (g' := i) (by simp at hj; omega) _ (fun op hop => by obtain ⟨e, _, rfl⟩ := Go.Conc.mem_ofEvents hop; rfl)]
            exact hL.above j (by simpa using hj)
          · obtain ⟨B, hp⟩ := hP
            exact ⟨B, hp.mute (by omega) hm⟩
  exact fun d gs sl t q h0 hL hP => key _ d gs sl t q rfl h0 hL hP

theorem kit_ends {S : FuncId → Bool} (hS : Shut P S) (hin : P.inits.idxOf? P.funcs.size = none) : Kit P S (XEnds P Post) := ⟨hS, XEnds.back, hin, fun g w d => XEnds.at_ g w d⟩

/-- the law's own frame, returning -/
theorem XEnds.returns {b : Frame} {a : Act} {w : World} {todo : List Item} {fn : Func} {v : Value} (hb : b.kind = .normal) (hfn : P.funcs[b.fn]? = some fn) (hi : P.inits.idxOf? b.fn = none) (hd : a.defers = []) (hv : results fn a.tmps = Sem.pure v) (hpost : ∀ d, Post v (w.at d)) :
    XEnds P Post (gor { b.at a todo with mode := .returning } []) w := by
  refine XEnds.ends (v := v) rfl fun d => ⟨#[], ?_, by simp, hpost d⟩
  have hse : seen P b.fn #[] = #[] := by simp [seen]
  have hev : ∀ w, Sem.events P (Sem.pure v) w #[] = #[] := fun w => rfl
  simp [gor, stepG, unwind, Frame.at, hb, hd, hfn, hv, Sem.runT, Sem.run, hse, hev, GStep.after, doReturn, hi]

/-- what is asked at the law's end -/
def lawPost (P : Program) (fn : Func) (Post : Value → World → Prop) : Exit → Act → World → Prop
  | .normal, a, w | .ret, a, w => a.defers = [] ∧ ∃ v, results fn a.tmps = Sem.pure v ∧ ∀ d, Post v (w.at d)
  | _, _, _ => False

/-- THE RUN OF A LAW, out of the walk of its body -/
theorem runs_of_wpX {S : FuncId → Bool} (hS : Shut P S) (hin : P.inits.idxOf? P.funcs.size = none) {f : FuncId} {fn : Func} {c : Code} (hf : P.funcs[f]? = some fn) (hb : fn.body = some c) (hres : fn.results.all isTmp = true) (hi : P.inits.idxOf? f = none)
    {args : Array Value} {w : World} (h : wpX P (XEnds P Post) c (lawPost P fn Post) { tmps := args ++ Array.replicate (fn.ntmps - args.size) undef, defers := [] } w) :
    EndsRun P Post (solo (G (Frame.enter P f args .normal) []) w) #[] := by
  let b : Frame := { (default : Frame) with fn := f, kind := .normal }
  have henter : Frame.enter P f args .normal = b.at { tmps := args ++ Array.replicate (fn.ntmps - args.size) undef, defers := [] } [.code c] := by
    simp [Frame.enter, Frame.at, hf, hb, b]
  have key : XEnds P Post (gor (Frame.enter P f args .normal) []) w := by
    rw [henter]
    refine h b [] [] ⟨rfl, fn, hf, hres⟩ fun e a' w' q => ?_
    cases e with
    | normal =>
      obtain ⟨hd, v, hv, hp⟩ := q
      exact (kit_ends hS hin).go rfl (fun w => stepG_end) (XEnds.returns (todo := []) rfl hf hi hd hv hp)
    | ret =>
      obtain ⟨hd, v, hv, hp⟩ := q
      exact fun todo => XEnds.returns rfl hf hi hd hv hp
    | exit id => exact q.elim
    | goto l => exact q.elim
    | panic ch => exact q.elim
    | outgrown => exact q.elim
  rw [solo_eq_crowd]
  exact key w.drawn _ none #[] (fun _ => 0) rfl (leavers_one P _) ⟨0, past_nil⟩
end
end Go.Proofs.Ytngmhkhncimknaa
