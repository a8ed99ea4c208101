/- The child has closed the channel and is only leaving: goroutine 0 comes to the end of what it was sent, finds the channel closed, and knows all. -/
import Derived.Test.YtngmhkhncimknaaStmPair
import Derived.Conc.CrowdComm
namespace Go.Proofs.Ytngmhkhncimknaa
open Go Go.Conc
open Go.ConcN (sumTo upd sumTo_upd upd_ne upd_same)
set_option linter.unusedVariables false
set_option linter.unusedSimpArgs false

/-- all but goroutine 0 and the child are only leaving -/
structure Leav2 (P : Program) (c : Nat) (t : Trace) (gs : Array Goroutine) (q : Nat → Nat) : Prop where
  old : ∀ i g, 0 < i → i ≠ c → gs[i]? = some g → QuitsD P (q i) (Deaf t i) g
  above : ∀ j, gs.size ≤ j → Deaf t j = 0
  lt : c < gs.size

theorem offers_none {P : Program} {n d : Nat} {g : Goroutine} (h : QuitsD P n d g) (r : Nat) (s : Bool) : offersAt g r s = [] :=
  offersAt_of_not_blocked (by rcases h.status with h | h <;> rw [h] <;> simp) r s

section
variable {P : Program} {Post : Value → World → Prop} {D : Duet}

theorem zones_mono {w w' : World} (hA : ∀ i, isCells w i D.tA → isCells w' i D.tA) (hB : ∀ i, D.base ≤ i → isCells w i D.tB → isCells w' i D.tB) {t : Trace} (h : PairT D.c (zones D w) t) : PairT D.c (zones D w') t :=
  h.mono (fun l ⟨a, e, h1, h2⟩ => ⟨a, e, h1, hA _ h2⟩) (fun l hl => hl.imp (fun ⟨a, e, h1⟩ => ⟨a, e, h1.imp (fun x => ⟨x.1, hB _ x.1 x.2⟩) id⟩) id) (fun l hl => hl)

theorem relA_zones {w w' : World} (hb : D.base ≤ w.heap.size) (h : RelA D w w') : (∀ i, isCells w i D.tA → isCells w' i D.tA) ∧ ∀ i, D.base ≤ i → isCells w i D.tB → isCells w' i D.tB := by
  refine ⟨h.own, fun i hi hc => ?_⟩
  have h3 := D.ch_lt
  have e := h.keep i (lt_of_isCells hc) (by omega) (fun ⟨_, ha⟩ => D.ne (isCells_inj ha hc))
  obtain ⟨cs, fz, hcs⟩ := hc
  exact ⟨cs, fz, by rw [e]; exact hcs⟩
theorem relB_zones {w w' : World} (hb : D.base ≤ w.heap.size) (h : RelB D w w') : (∀ i, D.base ≤ i → isCells w i D.tA → isCells w' i D.tA) ∧ ∀ i, D.base ≤ i → isCells w i D.tB → isCells w' i D.tB := by
  have h3 := D.ch_lt
  have h4 := D.sp_lt
  refine ⟨fun i hi hc => ?_, fun i hi hc => ?_⟩ <;>
  · have e := h.keep i (lt_of_isCells hc) (by omega) (by omega)
    obtain ⟨cs, fz, hcs⟩ := hc
    exact ⟨cs, fz, by rw [e]; exact hcs⟩

/-- the state of the crowd in the shut phase, goroutine 0 apart -/
structure ShutSt (P : Program) (D : Duet) (w : World) (gs : Array Goroutine) (t : Trace) (q : Nat → Nat) (nb p : Nat) : Prop where
  child : ∃ b, gs[D.c]? = some b ∧ QuitsIn P nb b
  leav : Leav2 P D.c t gs q
  trace : ShutT D.c D.ch p (zones D w) t
  chan : chanIs w D.ch true
  base : D.base ≤ w.heap.size

/-- others take their last steps till goroutine 0 takes one -/
theorem shut_drive {a : Goroutine} {W : World → Prop} (hrun : a.status = .running) (hst : ∀ w d, W w → W (w.at d))
    (F : ∀ d w gs sl t q nb p, W w → gs[0]? = some a → ShutSt P D w gs t q nb p → ∃ m' ops, runT P (crowd gs (w.at d) sl) 0 = (.next m', ops) ∧ EndsRun P Post m' (t ++ ops)) :
    ∀ M w gs sl t q nb p, sumTo gs.size q + nb = M → W w → gs[0]? = some a → ShutSt P D w gs t q nb p → EndsRun P Post (crowd gs w sl) t := by
  intro M
  induction M using Nat.strongRecOn with
  | _ M ih =>
    intro w gs sl t q nb p hM hW h0 hS
    obtain ⟨⟨b, hb, hqb⟩, hL, hT, hch, hbase⟩ := hS
    have haw : ∀ g ∈ gs, awake g := by
      intro x hx
      obtain ⟨i, hi, rfl⟩ := Array.mem_iff_getElem.1 hx
      rcases Nat.eq_zero_or_pos i with rfl | hpos
      · have : gs[0] = a := by simpa [Array.getElem?_eq_getElem hi] using h0
        rw [this]; exact awake_of (.inl hrun)
      · by_cases hic : i = D.c
        · subst hic
          have : gs[D.c] = b := by simpa [Array.getElem?_eq_getElem hi] using hb
          rw [this]; exact awake_of (hqb.status.elim .inl fun x => .inr (.inr x))
        · exact awake_of ((hL.old i _ hpos hic (Array.getElem?_eq_getElem hi)).status.elim .inl fun x => .inr (.inr x))
    obtain ⟨i, x, d, sl', hi, hx, hst'⟩ := crowd_pick (P := P) (w := w) (sl := sl) haw ⟨0, a, h0, hrun⟩
    rcases Nat.eq_zero_or_pos i with rfl | hpos
    · obtain ⟨m', ops, hr, hE⟩ := F d w gs sl' t q nb p hW h0 ⟨⟨b, hb, hqb⟩, hL, hT, hch, hbase⟩
      exact EndsRun.step (hst'.trans hr) hE
    · have hi0 : (i == 0) = false := by simp; omega
      have hlt : i < gs.size := (Array.getElem?_eq_some_iff.1 hi).1
      have hne : i ≠ 0 := by omega
      by_cases hic : i = D.c
      · subst hic
        obtain rfl : x = b := by rw [hb] at hi; exact (Option.some.inj hi).symm
        cases nb with
        | zero => rw [show x.status = .finished from hqb] at hx; cases hx
        | succ k =>
          rcases hqb with h | ⟨_, b', hw, hq⟩
          · rw [h] at hx; cases hx
          have hrunT := runT_crowd_go (P := P) (sl := sl') (i := D.c) hi (by rw [hi0]; exact hw (w.at d))
          refine EndsRun.step (hst'.trans hrunT) ?_
          rw [ofEvents_none, Array.append_empty]
          refine ih (sumTo gs.size q + k) (by omega) (w.at d) _ sl' t q k p (by simp) (hst _ d hW) ?_ ⟨⟨b', by simp [hlt], hq⟩, ⟨fun j y hj hjc hy => ?_, fun j hj => hL.above j (by simpa using hj), by simpa using hL.lt⟩, hT, hch, hbase⟩
          · rw [Array.getElem?_setIfInBounds_ne hne, Array.getElem?_map, h0]
            simp [woken_run hrun]
          · rw [Array.getElem?_setIfInBounds_ne (fun e => hjc e.symm), Array.getElem?_map] at hy
            obtain ⟨z, hz, rfl⟩ := Option.map_eq_some_iff.1 hy
            have hqj := hL.old j z hj hjc hz
            rw [woken_quitsD hqj]
            exact hqj
      · have hq := hL.old i x hpos hic hi
        cases hqi : q i with
        | zero => rw [hqi] at hq; rw [hq.1] at hx; cases hx
        | succ k =>
          rw [hqi] at hq
          rcases hq with ⟨hf, _⟩ | ⟨_, g', es, hm, hstp, hq'⟩
          · rw [hf] at hx; cases hx
          have hrunT := runT_crowd_go (P := P) (sl := sl') (i := i) hi (by rw [hi0]; exact hstp (w.at d))
          have hsz : ((gs.map (woken P x g' (w.at d))).setIfInBounds i g').size = gs.size := by simp
          have hsum : sumTo gs.size (upd q i k) + (k + 1) = sumTo gs.size q + k := by
            have := sumTo_upd q k id hlt
            simpa [hqi] using this
          refine EndsRun.step (hst'.trans hrunT) (ih (sumTo gs.size (upd q i k) + nb) (by omega) (w.at d) _ sl' _ (upd q i k) nb p (by rw [hsz]) (hst _ d hW) ?_ ⟨⟨b, ?_, hqb⟩, ⟨fun j y hj hjc hy => ?_, fun j hj => ?_, by simpa using hL.lt⟩, ?_, hch, hbase⟩)
          · rw [Array.getElem?_setIfInBounds_ne hne, Array.getElem?_map, h0]
            simp [woken_run hrun]
          · rw [Array.getElem?_setIfInBounds_ne hic, Array.getElem?_map, hb]
            simp [woken_quits hqb]
          · by_cases hji : i = j
            · subst hji
              rw [Array.getElem?_setIfInBounds_self_of_lt (by simpa using hlt)] at hy
              obtain rfl := Option.some.inj hy
              rw [upd_same, Deaf_own]
              exact hq'
            · rw [Array.getElem?_setIfInBounds_ne hji, Array.getElem?_map] at hy
              obtain ⟨z, hz, rfl⟩ := Option.map_eq_some_iff.1 hy
              have hqj := hL.old j z hj hjc hz
              rw [woken_quitsD hqj, upd_ne q k (Ne.symm hji), Deaf_other t hji _ (fun op hop => by obtain ⟨e, _, rfl⟩ := Go.Conc.mem_ofEvents hop; rfl)]
              exact hqj
          · rw [Deaf_other t (g' := i) (by simp at hj; omega) _ (fun op hop => by obtain ⟨e, _, rfl⟩ := Go.Conc.mem_ofEvents hop; rfl)]
            exact hL.above j (by simpa using hj)
          · exact hT.mute hne hic (fun op hop => by obtain ⟨e, _, rfl⟩ := Go.Conc.mem_ofEvents hop; rfl) (fun op hop => by obtain ⟨e, he, rfl⟩ := Go.Conc.mem_ofEvents hop; exact touch_mute (hm e he))

theorem evIn_touch {Z sh : Loc → Prop} {es : Array Event} (h : evIn Z sh es) {g : Nat} {fn : FuncId} {pos : String} : ∀ op ∈ MemOp.ofEvents g fn pos es, ∀ b, op.act.touch? = some b → b.loc.isMemory = true → Zones.within Z sh b := fun op hop b hb hm => by
  obtain ⟨e, he, rfl⟩ := Go.Conc.mem_ofEvents hop
  exact (h e he).2 b hb hm
theorem ofEvents_g {g : Nat} {fn : FuncId} {pos : String} {es : Array Event} : ∀ op ∈ MemOp.ofEvents g fn pos es, op.g = g := fun op hop => by
  obtain ⟨e, _, rfl⟩ := Go.Conc.mem_ofEvents hop
  rfl
theorem evIn_deaf {Z sh : Loc → Prop} {es : Array Event} (h : evIn Z sh es) {g : Nat} {fn : FuncId} {pos : String} (t : Trace) : Deaf (t ++ MemOp.ofEvents g fn pos es) g = Deaf t g := by
  rw [Deaf_own]
  exact deafBehind_still (fun e he => (h e he).1) _

theorem shut_runs {a : Goroutine} {W : World → Prop} {ms : Proto} (h : SA P D (XEnds P Post) a W ms) {f : World → Prop} (hf : Stable (RelA D) f) : ms = .stop f → ∀ w gs sl t q nb p, W w → f w → gs[0]? = some a → ShutSt P D w gs t q nb p → EndsRun P Post (crowd gs w sl) t := by
  induction h with
  | @step g W ms G' w' es W' run stab hs rel ev hW next ih =>
    intro hms w gs sl t q nb p hw hfw h0 hS
    refine shut_drive (W := fun w => W w ∧ f w) run (fun w d h => ⟨stab _ _ h.1 (RelB.at_ w d), hf _ _ h.2 (RelA.at_ w d)⟩) (fun d w gs sl t q nb p ⟨hw, hfw⟩ h0 hS => ?_) _ w gs sl t q nb p rfl ⟨hw, hfw⟩ h0 hS
    obtain ⟨⟨b, hb, hqb⟩, hL, hT, hch, hbase⟩ := hS
    have hwd := stab _ _ hw (RelB.at_ w d)
    have hlt : 0 < gs.size := (Array.getElem?_eq_some_iff.1 h0).1
    have hr := rel _ hwd
    refine ⟨_, _, runT_crowd_go (P := P) (sl := sl) (i := 0) h0 (hs _ hwd), ih _ hwd hms _ _ sl _ q nb p (hW _ hwd) (hf _ _ (hf _ _ hfw (RelA.at_ w d)) hr) (by simp [hlt]) ⟨⟨b, ?_, hqb⟩, ⟨fun j y hj hjc hy => ?_, fun j hj => ?_, by simpa using hL.lt⟩, ?_, hr.chan _ hch, Nat.le_trans hbase hr.size⟩⟩
    · rw [Array.getElem?_setIfInBounds_ne (fun e => D.c0 e.symm), Array.getElem?_map, hb]
      simp [woken_quits hqb]
    · rw [Array.getElem?_setIfInBounds_ne (by omega), Array.getElem?_map] at hy
      obtain ⟨z, hz, rfl⟩ := Option.map_eq_some_iff.1 hy
      have hqj := hL.old j z hj hjc hz
      rw [woken_quitsD hqj, Deaf_other t (g' := 0) (by omega) _ ofEvents_g]
      exact hqj
    · rw [Deaf_other t (g := j) (g' := 0) (by simp at hj; omega) _ ofEvents_g]
      exact hL.above j (by simpa using hj)
    · have hz := relA_zones (w := w.at d) (by exact hbase) hr
      have hT' : ShutT D.c D.ch p (zones D (w' (w.at d))) t := ⟨zones_mono hz.1 hz.2 hT.pair, hT.act, hT.heard, hT.before⟩
      exact hT'.own0 D.c0 ofEvents_g (evIn_touch (ev _ hwd)) (evIn_deaf (ev _ hwd) t)
  | recv => intro hms; cases hms
  | @done g W f' g₂ z sh run same stab hs next =>
    intro hms w gs sl t q nb p hw hfw h0 hS
    injection hms with hms
    subst hms
    refine shut_drive (W := fun w => W w ∧ f' w) run (fun w d h => ⟨stab _ _ h.1 (RelB.at_ w d), hf _ _ h.2 (RelA.at_ w d)⟩) (fun d w gs sl t q nb p ⟨hw, hfw⟩ h0 hS => ?_) _ w gs sl t q nb p rfl ⟨hw, hfw⟩ h0 hS
    obtain ⟨⟨b, hb, hqb⟩, hL, hT, ⟨s, r, tm, hch⟩, hbase⟩ := hS
    have hwd := stab _ _ hw (RelB.at_ w d)
    have hlt : 0 < gs.size := (Array.getElem?_eq_some_iff.1 h0).1
    have hp : partners (gs.setIfInBounds 0 ph) D.ch true = [] := partners_nil fun j x hx => by
      rcases getElem?_stand gs 0 j x hx with ⟨_, rfl⟩ | ⟨hj, hx⟩
      · rfl
      · by_cases hjc : j = D.c
        · subst hjc
          obtain rfl : x = b := by rw [hb] at hx; exact (Option.some.inj hx).symm
          exact offersAt_of_not_blocked (by rcases hqb.status with h | h <;> rw [h] <;> simp) _ _
        · exact offers_none (hL.old j x (by omega) hjc hx) _ _
    have hr := crowd_recv_closed (P := P) (sl := sl) (i := 0) h0 (hs _ hwd) hch hp
    refine ⟨_, _, hr, ?_⟩
    rw [ofEvents_none, Array.empty_append]
    have hP := hT.received D.c0 (y := { g := 0, fn := g₂.frame.fn, pos := g₂.frame.place, act := .recvClosed D.ch }) rfl rfl
    have hdo : ∀ j, j ≠ 0 → Deaf (t ++ #[({ g := 0, fn := g₂.frame.fn, pos := g₂.frame.place, act := .recvClosed D.ch } : MemOp)]) j = Deaf t j := fun j hj => Deaf_other t (g := j) (g' := 0) (by omega) _ (fun op hop => by simp at hop; subst hop; rfl)
    refine next _ hwd (hf _ _ hfw (RelA.at_ w d)) (w.at d).drawn _ sl _ (fun j => if j = D.c then nb else q j) (by simp [hlt]) ⟨fun j y hj hy => ?_, fun j hj => ?_⟩ hP
    · rw [hdo j (by omega)]
      rw [Array.getElem?_setIfInBounds_ne (by omega)] at hy
      by_cases hjc : j = D.c
      · subst hjc
        obtain rfl : y = b := by rw [hb] at hy; exact (Option.some.inj hy).symm
        simp only [if_true]
        rw [hT.pair.hearsC]
        exact QuitsD.of_quitsIn hqb
      · simp only [hjc, if_false]
        exact hL.old j y hj hjc hy
    · rw [hdo j (by simp at hj; omega)]
      exact hL.above j (by simpa using hj)
end
end Go.Proofs.Ytngmhkhncimknaa
