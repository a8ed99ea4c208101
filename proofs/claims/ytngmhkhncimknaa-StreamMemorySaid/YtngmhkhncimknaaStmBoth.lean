/- Feed and the goroutine that it started, together: whatever the order of their steps, all messages pass, the channel is closed, and goroutine 0 goes on alone. -/
import Derived.Test.YtngmhkhncimknaaStmShut
namespace Go.Proofs.Ytngmhkhncimknaa
open Go Go.Conc
open Go.ConcN (sumTo upd sumTo_upd upd_ne upd_same)
set_option linter.unusedVariables false
set_option linter.unusedSimpArgs false

/-- the state of the crowd while the channel is open -/
structure PairSt (P : Program) (D : Duet) (a b : Goroutine) (w : World) (gs : Array Goroutine) (t : Trace) (q : Nat → Nat) : Prop where
  zero : gs[0]? = some a
  child : gs[D.c]? = some b
  leav : Leav2 P D.c t gs q
  trace : PairT D.c (zones D w) t
  chan : chanIs w D.ch false
  base : D.base ≤ w.heap.size

/-- nobody lets it try again while the channel is open -/
def Stay (P : Program) (D : Duet) (a : Goroutine) : Prop := ∀ x y w, chanIs w D.ch false → woken P x y w a = a

theorem Stay.running {P : Program} {D : Duet} {a : Goroutine} (h : a.status = .running) : Stay P D a := fun _ _ _ _ => woken_run h
theorem Stay.recv {P : Program} {D : Duet} {g : Goroutine} {z : Value} {sh : CommShape} : Stay P D (parked g #[rcase D.ch z] sh) := fun x y w ⟨_, _, _, h⟩ => woken_recv_open x y h
theorem Stay.send {P : Program} {D : Duet} {g : Goroutine} {v z : Value} {sh : CommShape} : Stay P D (parked g #[scase D.ch v z] sh) := fun x y w ⟨_, _, _, h⟩ => woken_send_open x y h

section
variable {P : Program} {Post : Value → World → Prop} {D : Duet}

/-- others take their last steps till one of the two takes one -/
theorem pair_drive {a b : Goroutine} {I : World → Prop} (ha : a.status = .running ∨ a.status = .blocked) (hb : b.status = .running ∨ b.status = .blocked) (hab : a.status = .running ∨ b.status = .running)
    (sa : Stay P D a) (sb : Stay P D b) (hI : ∀ w d, I w → I (w.at d))
    (FA : a.status = .running → ∀ d w gs sl t q, I w → PairSt P D a b w gs t q → ∃ m' ops, runT P (crowd gs (w.at d) sl) 0 = (.next m', ops) ∧ EndsRun P Post m' (t ++ ops))
    (FB : b.status = .running → ∀ d w gs sl t q, I w → PairSt P D a b w gs t q → ∃ m' ops, runT P (crowd gs (w.at d) sl) D.c = (.next m', ops) ∧ EndsRun P Post m' (t ++ ops)) :
    ∀ M w gs sl t q, sumTo gs.size q = M → I w → PairSt P D a b w gs t q → EndsRun P Post (crowd gs w sl) t := by
  intro M
  induction M using Nat.strongRecOn with
  | _ M ih =>
    intro w gs sl t q hM hW hS
    have hS' := hS
    obtain ⟨h0, hc, hL, hT, hch, hbase⟩ := hS
    have aw : ∀ {x : Goroutine}, x.status = .running ∨ x.status = .blocked → awake x := fun h s e => by rcases h with h | h <;> rw [h] at e <;> cases e
    have haw : ∀ g ∈ gs, awake g := by
      intro x hx
      obtain ⟨i, hi, rfl⟩ := Array.mem_iff_getElem.1 hx
      rcases Nat.eq_zero_or_pos i with rfl | hpos
      · have : gs[0] = a := by simpa [Array.getElem?_eq_getElem hi] using h0
        rw [this]; exact aw ha
      · by_cases hic : i = D.c
        · subst hic
          have : gs[D.c] = b := by simpa [Array.getElem?_eq_getElem hi] using hc
          rw [this]; exact aw hb
        · exact awake_of ((hL.old i _ hpos hic (Array.getElem?_eq_getElem hi)).status.elim .inl fun x => .inr (.inr x))
    obtain ⟨i, x, d, sl', hi, hx, hst'⟩ := crowd_pick (P := P) (w := w) (sl := sl) haw (hab.elim (fun h => ⟨0, a, h0, h⟩) fun h => ⟨D.c, b, hc, h⟩)
    rcases Nat.eq_zero_or_pos i with rfl | hpos
    · obtain rfl : x = a := by rw [h0] at hi; exact (Option.some.inj hi).symm
      obtain ⟨m', ops, hr, hE⟩ := FA hx d w gs sl' t q hW hS'
      exact EndsRun.step (hst'.trans hr) hE
    · by_cases hic : i = D.c
      · subst hic
        obtain rfl : x = b := by rw [hc] at hi; exact (Option.some.inj hi).symm
        obtain ⟨m', ops, hr, hE⟩ := FB hx d w gs sl' t q hW hS'
        exact EndsRun.step (hst'.trans hr) hE
      · have hi0 : (i == 0) = false := by simp; omega
        have hlt : i < gs.size := (Array.getElem?_eq_some_iff.1 hi).1
        have hne : i ≠ 0 := by omega
        have hq := hL.old i x hpos hic hi
        cases hqi : q i with
        | zero => rw [hqi] at hq; rw [hq.1] at hx; cases hx
        | succ k =>
          rw [hqi] at hq
          rcases hq with ⟨hf, _⟩ | ⟨_, g', es, hm, hstp, hq'⟩
          · rw [hf] at hx; cases hx
          have hrunT := runT_crowd_go (P := P) (sl := sl') (i := i) hi (by rw [hi0]; exact hstp (w.at d))
          have hsz : ((gs.map (woken P x g' (w.at d))).setIfInBounds i g').size = gs.size := by simp
          have hsum : sumTo gs.size (upd q i k) + (k + 1) = sumTo gs.size q + k := by
            have := sumTo_upd q k id hlt
            simpa [hqi] using this
          refine EndsRun.step (hst'.trans hrunT) (ih (sumTo gs.size (upd q i k)) (by omega) (w.at d) _ sl' _ (upd q i k) (by rw [hsz]) (hI _ d hW) ⟨?_, ?_, ⟨fun j y hj hjc hy => ?_, fun j hj => ?_, by simpa using hL.lt⟩, ?_, hch, hbase⟩)
          · rw [Array.getElem?_setIfInBounds_ne hne, Array.getElem?_map, h0]
            simp [sa _ _ _ (show chanIs (w.at d) D.ch false from hch)]
          · rw [Array.getElem?_setIfInBounds_ne hic, Array.getElem?_map, hc]
            simp [sb _ _ _ (show chanIs (w.at d) D.ch false from hch)]
          · by_cases hji : i = j
            · subst hji
              rw [Array.getElem?_setIfInBounds_self_of_lt (by simpa using hlt)] at hy
              obtain rfl := Option.some.inj hy
              rw [upd_same, Deaf_own]
              exact hq'
            · rw [Array.getElem?_setIfInBounds_ne hji, Array.getElem?_map] at hy
              obtain ⟨z, hz, rfl⟩ := Option.map_eq_some_iff.1 hy
              have hqj := hL.old j z hj hjc hz
              rw [woken_quitsD hqj, upd_ne q k (Ne.symm hji), Deaf_other t hji _ (fun op hop => by obtain ⟨e, _, rfl⟩ := Go.Conc.mem_ofEvents hop; rfl)]
              exact hqj
          · rw [Deaf_other t (g' := i) (by simp at hj; omega) _ (fun op hop => by obtain ⟨e, _, rfl⟩ := Go.Conc.mem_ofEvents hop; rfl)]
            exact hL.above j (by simpa using hj)
          · exact hT.mute hne hic (fun op hop => by obtain ⟨e, _, rfl⟩ := Go.Conc.mem_ofEvents hop; rfl) (fun op hop => by obtain ⟨e, he, rfl⟩ := Go.Conc.mem_ofEvents hop; exact touch_mute (hm e he))

/-- from every crowd in which the two stand so the run ends well -/
def EndsPair (P : Program) (Post : Value → World → Prop) (D : Duet) (a : Goroutine) (WA : World → Prop) (b : Goroutine) (WB : World → Prop) : Prop :=
  ∀ w gs sl t q, WA w → WB w → PairSt P D a b w gs t q → EndsRun P Post (crowd gs w sl) t

/-- the leavers behind a step of one of the two -/
theorem leav2_step {gs gs' : Array Goroutine} {t ops : Trace} {q : Nat → Nat} (hL : Leav2 P D.c t gs q) (hsz : gs'.size = gs.size) (hget : ∀ j y, 0 < j → j ≠ D.c → gs'[j]? = some y → ∃ z, gs[j]? = some z ∧ (QuitsD P (q j) (Deaf t j) z → y = z))
    (hd : ∀ j, j ≠ 0 → j ≠ D.c → Deaf (t ++ ops) j = Deaf t j) : Leav2 P D.c (t ++ ops) gs' q :=
  ⟨fun j y hj hjc hy => by
    obtain ⟨z, hz, he⟩ := hget j y hj hjc hy
    have := hL.old j z hj hjc hz
    rw [he this, hd j (by omega) hjc]
    exact this, fun j hj => by
      have h1 := hL.lt
      rw [hd j (by omega) (by omega)]
      exact hL.above j (by omega), by rw [hsz]; exact hL.lt⟩

theorem get_step {gs : Array Goroutine} {i : Nat} {x y : Goroutine} {w : World} {t : Trace} {q : Nat → Nat} (hi : i = 0 ∨ i = D.c) : ∀ j z, 0 < j → j ≠ D.c → ((gs.map (woken P x y w)).setIfInBounds i y)[j]? = some z → ∃ z', gs[j]? = some z' ∧ (QuitsD P (q j) (Deaf t j) z' → z = z') := fun j z hj hjc hz => by
  rw [Array.getElem?_setIfInBounds_ne (by omega), Array.getElem?_map] at hz
  obtain ⟨z', hz', rfl⟩ := Option.map_eq_some_iff.1 hz
  exact ⟨z', hz', fun h => woken_quitsD h⟩

/-- goroutine 0 takes an own step -/
theorem moveA {a b : Goroutine} {WA WB : World → Prop} {G' : World → Goroutine} {w' : World → World} {es : World → Array Event} {W' : World → World → Prop}
    (stabA : Stable (RelB D) WA) (hs : ∀ w, WA w → stepG P true a w = .go (G' w) (w' w) (es w)) (rel : ∀ w, WA w → RelA D w (w' w))
    (ev : ∀ w, WA w → evIn (zoneA D (w' w)) (zoneS D) (es w)) (hW : ∀ w, WA w → W' w (w' w)) (stabB : Stable (RelA D) WB) (sb : Stay P D b)
    (next : ∀ w, WA w → EndsPair P Post D (G' w) (W' w) b WB) :
    ∀ d w gs sl t q, (WA w ∧ WB w) → PairSt P D a b w gs t q → ∃ m' ops, runT P (crowd gs (w.at d) sl) 0 = (.next m', ops) ∧ EndsRun P Post m' (t ++ ops) := by
  intro d w gs sl t q ⟨hA, hB⟩ ⟨h0, hc, hL, hT, hch, hbase⟩
  have hAd := stabA _ _ hA (RelB.at_ w d)
  have hBd := stabB _ _ hB (RelA.at_ w d)
  have hlt : 0 < gs.size := (Array.getElem?_eq_some_iff.1 h0).1
  have hr := rel _ hAd
  have hch' : chanIs (w' (w.at d)) D.ch false := hr.chan _ hch
  refine ⟨_, _, runT_crowd_go (P := P) (sl := sl) (i := 0) h0 (hs _ hAd), next _ hAd _ _ sl _ q (hW _ hAd) (stabB _ _ hBd hr) ⟨by simp [hlt], ?_, leav2_step hL (by simp) (get_step (.inl rfl)) (fun j hj _ => Deaf_other t (g := j) (g' := 0) (by omega) _ ofEvents_g), ?_, hch', Nat.le_trans hbase hr.size⟩⟩
  · rw [Array.getElem?_setIfInBounds_ne (fun e => D.c0 e.symm), Array.getElem?_map, hc]
    simp [sb _ _ _ hch']
  · have hz := relA_zones (w := w.at d) (by exact hbase) hr
    have hT' := zones_mono (w := w) (w' := w' (w.at d)) hz.1 hz.2 hT
    exact hT'.own0 D.c0 ofEvents_g (evIn_touch (ev _ hAd)) (evIn_deaf (ev _ hAd) t)

theorem zones_monoB {w w' : World} (hb : D.base ≤ w.heap.size) (h : RelB D w w') {t : Trace} (hT : PairT D.c (zones D w) t) : PairT D.c (zones D w') t := by
  have hz := relB_zones hb h
  exact hT.mono (fun l ⟨a, e, h1, h2⟩ => ⟨a, e, h1, hz.1 _ h1 h2⟩) (fun l hl => hl.imp (fun ⟨a, e, h1⟩ => ⟨a, e, h1.imp (fun x => ⟨x.1, hz.2 _ x.1 x.2⟩) id⟩) id) (fun l hl => hl)

/-- the child takes an own step -/
theorem moveB {a b : Goroutine} {WA WB : World → Prop} {G' : World → Goroutine} {w' : World → World} {es : World → Array Event} {W' : World → World → Prop}
    (stabB : Stable (RelA D) WB) (hs : ∀ w, WB w → stepG P false b w = .go (G' w) (w' w) (es w)) (rel : ∀ w, WB w → RelB D w (w' w)) (open_ : ∀ w, WB w → chanIs w D.ch false → chanIs (w' w) D.ch false)
    (ev : ∀ w, WB w → evIn (zoneB D (w' w)) (zoneS D) (es w)) (hW : ∀ w, WB w → W' w (w' w)) (stabA : Stable (RelB D) WA) (sa : Stay P D a)
    (next : ∀ w, WB w → EndsPair P Post D a WA (G' w) (W' w)) :
    ∀ d w gs sl t q, (WA w ∧ WB w) → PairSt P D a b w gs t q → ∃ m' ops, runT P (crowd gs (w.at d) sl) D.c = (.next m', ops) ∧ EndsRun P Post m' (t ++ ops) := by
  intro d w gs sl t q ⟨hA, hB⟩ ⟨h0, hc, hL, hT, hch, hbase⟩
  have hAd := stabA _ _ hA (RelB.at_ w d)
  have hBd := stabB _ _ hB (RelA.at_ w d)
  have hlt : D.c < gs.size := hL.lt
  have hr := rel _ hBd
  have hch' : chanIs (w' (w.at d)) D.ch false := open_ _ hBd hch
  have hi0 : (D.c == 0) = false := by simpa using D.c0
  refine ⟨_, _, runT_crowd_go (P := P) (sl := sl) (i := D.c) hc (by rw [hi0]; exact hs _ hBd), next _ hBd _ _ sl _ q (stabA _ _ hAd hr) (hW _ hBd) ⟨?_, by simp [hlt], leav2_step hL (by simp) (get_step (.inr rfl)) (fun j _ hj => Deaf_other t (g := j) (g' := D.c) (fun e => hj e.symm) _ ofEvents_g), ?_, hch', Nat.le_trans hbase hr.size⟩⟩
  · rw [Array.getElem?_setIfInBounds_ne D.c0, Array.getElem?_map, h0]
    simp [sa _ _ _ hch']
  · have hT' := zones_monoB (w := w.at d) (w' := w' (w.at d)) hbase hr hT
    exact hT'.ownC D.c0 ofEvents_g (evIn_touch (ev _ hBd)) (evIn_deaf (ev _ hBd) t)

/-! ### the channel's counts -/
theorem getElem?_setChan (w : World) (c cap s r : Nat) (buf : Array Value) (cl tm : Bool) (i : Nat) (hc : c < w.heap.size) : (w.setChan c cap buf cl s r tm).heap[i]? = if i = c then some (.chan cap buf cl s r tm) else w.heap[i]? := by
  unfold World.setChan
  by_cases h : i = c
  · subst h; simp [hc]
  · simp only [h, if_false]
    exact Array.getElem?_setIfInBounds_ne (fun e => h e.symm)

theorem not_chan_cells {w : World} {i : Nat} {t : TypeId} {cl : Bool} (h : isCells w i t) (h' : chanIs w i cl) : False := by
  obtain ⟨_, _, h⟩ := h
  obtain ⟨_, _, _, h'⟩ := h'
  rw [h] at h'; cases h'

theorem RelA.count {w : World} {s r : Nat} {tm : Bool} {cl : Bool} (h : chanIs w D.ch cl) : RelA D w (w.setChan D.ch 0 #[] cl s r tm) := by
  have hlt : D.ch < w.heap.size := by obtain ⟨_, _, _, h⟩ := h; exact (Array.getElem?_eq_some_iff.1 h).1
  have hg := fun i => getElem?_setChan w D.ch 0 s r #[] cl tm i hlt
  refine ⟨rfl, rfl, rfl, by simp [World.setChan], fun i _ hc _ => by rw [hg, if_neg hc], fun i hi => ?_, fun i h1 h2 => absurd h2 (by simp [World.setChan]; omega), fun b hb => ?_⟩
  · obtain ⟨cs, fz, hi'⟩ := hi
    refine ⟨cs, fz, ?_⟩
    rw [hg, if_neg (fun e => not_chan_cells ⟨cs, fz, hi'⟩ (e ▸ h))]
    exact hi'
  · obtain ⟨_, _, _, h1⟩ := h
    obtain ⟨_, _, _, h2⟩ := hb
    rw [h1] at h2
    simp only [Option.some.injEq, Obj.chan.injEq] at h2
    exact ⟨s, r, tm, by rw [hg, if_pos rfl, h2.2.2.1]⟩
theorem RelB.count {w : World} {s r : Nat} {tm : Bool} {cl : Bool} (h : chanIs w D.ch cl) : RelB D w (w.setChan D.ch 0 #[] cl s r tm) := by
  have hlt : D.ch < w.heap.size := by obtain ⟨_, _, _, h⟩ := h; exact (Array.getElem?_eq_some_iff.1 h).1
  have hg := fun i => getElem?_setChan w D.ch 0 s r #[] cl tm i hlt
  refine ⟨rfl, rfl, rfl, by simp [World.setChan], fun i _ hc _ => by rw [hg, if_neg hc], fun t hi => ?_, fun i h1 h2 => absurd h2 (by simp [World.setChan]; omega), fun hb => ?_⟩
  · obtain ⟨cs, fz, hi'⟩ := hi
    exact ⟨cs, fz, by rw [hg, if_neg (fun e => D.ch_sp e.symm)]; exact hi'⟩
  · obtain ⟨_, _, _, h1⟩ := h
    obtain ⟨_, _, _, h2⟩ := hb
    rw [h1] at h2
    simp only [Option.some.injEq, Obj.chan.injEq] at h2
    exact ⟨s, r, tm, by rw [hg, if_pos rfl, h2.2.2.1]⟩

theorem no_partner {a b : Goroutine} {w : World} {gs : Array Goroutine} {t : Trace} {q : Nat → Nat} {i : Nat} {s : Bool} (hS : PairSt P D a b w gs t q) (ha : i = 0 ∨ offersAt a D.ch s = []) (hb : i = D.c ∨ offersAt b D.ch s = []) :
    partners (gs.setIfInBounds i ph) D.ch s = [] := partners_nil fun j x hx => by
  rcases getElem?_stand gs i j x hx with ⟨_, rfl⟩ | ⟨hj, hx⟩
  · exact offersAt_ph _ _
  · by_cases hj0 : j = 0
    · subst hj0
      obtain rfl : x = a := by rw [hS.zero] at hx; exact (Option.some.inj hx).symm
      exact ha.resolve_left fun e => hj e.symm
    · by_cases hjc : j = D.c
      · subst hjc
        obtain rfl : x = b := by rw [hS.child] at hx; exact (Option.some.inj hx).symm
        exact hb.resolve_left fun e => hj e.symm
      · exact offers_none (hS.leav.old j x (by omega) hjc hx) _ _

theorem get_set {gs : Array Goroutine} {i : Nat} {y : Goroutine} {t : Trace} {q : Nat → Nat} (hi : i = 0 ∨ i = D.c) : ∀ j z, 0 < j → j ≠ D.c → (gs.setIfInBounds i y)[j]? = some z → ∃ z', gs[j]? = some z' ∧ (QuitsD P (q j) (Deaf t j) z' → z = z') := fun j z hj hjc hz => by
  rw [Array.getElem?_setIfInBounds_ne (by omega)] at hz
  exact ⟨z, hz, fun _ => rfl⟩
theorem get_set2 {gs : Array Goroutine} {i k : Nat} {x y : Goroutine} {t : Trace} {q : Nat → Nat} (hi : i = 0 ∨ i = D.c) (hk : k = 0 ∨ k = D.c) : ∀ j z, 0 < j → j ≠ D.c → ((gs.setIfInBounds k x).setIfInBounds i y)[j]? = some z → ∃ z', gs[j]? = some z' ∧ (QuitsD P (q j) (Deaf t j) z' → z = z') := fun j z hj hjc hz => by
  rw [Array.getElem?_setIfInBounds_ne (by omega), Array.getElem?_setIfInBounds_ne (by omega)] at hz
  exact ⟨z, hz, fun _ => rfl⟩

/-- goroutine 0 parks at its receive -/
theorem parkA {a b g₂ : Goroutine} {z : Value} {sh : CommShape} {WA WB : World → Prop} (hb : b.status = .running) (stabA : Stable (RelB D) WA) (stabB : Stable (RelA D) WB)
    (hs : ∀ w, WA w → stepG P true a w = .comm g₂ #[rcase D.ch z] true sh w #[]) (next : EndsPair P Post D (parked g₂ #[rcase D.ch z] sh) WA b WB) :
    ∀ d w gs sl t q, (WA w ∧ WB w) → PairSt P D a b w gs t q → ∃ m' ops, runT P (crowd gs (w.at d) sl) 0 = (.next m', ops) ∧ EndsRun P Post m' (t ++ ops) := by
  intro d w gs sl t q ⟨hA, hB⟩ hS
  have hAd := stabA _ _ hA (RelB.at_ w d)
  have hBd := stabB _ _ hB (RelA.at_ w d)
  have hlt : 0 < gs.size := (Array.getElem?_eq_some_iff.1 hS.zero).1
  obtain ⟨s, r, tm, hch⟩ := hS.chan
  have hnw : NoWays (w.at d) (gs.setIfInBounds 0 ph) (rcase D.ch z) := ways_recv_none (s := s) (r := r) (tm := tm) hch (no_partner hS (.inl rfl) (.inr (offersAt_of_not_blocked (by rw [hb]; simp) _ _)))
  refine ⟨_, _, crowd_waits (sl := sl) (i := 0) hS.zero (hs _ hAd) (fun cc hcc => by obtain rfl : cc = rcase D.ch z := by simpa using hcc
                                                                                     exact hnw), ?_⟩
  rw [ofEvents_none, Array.append_empty]
  refine next (w.at d) _ sl t q hAd hBd ⟨by simp [hlt], ?_, ?_, hS.trace, hS.chan, hS.base⟩
  · rw [Array.getElem?_setIfInBounds_ne (fun e => D.c0 e.symm)]
    exact hS.child
  · have := leav2_step (ops := #[]) hS.leav (gs' := gs.setIfInBounds 0 (parked g₂ #[rcase D.ch z] sh)) (by simp) (get_set (.inl rfl)) (fun j _ _ => by rw [Array.append_empty])
    rwa [Array.append_empty] at this

/-- the child parks at its send -/
theorem parkB {a b g₂ : Goroutine} {v z : Value} {sh : CommShape} {WA WB : World → Prop} (ha : a.status = .running) (stabA : Stable (RelB D) WA) (stabB : Stable (RelA D) WB)
    (hs : ∀ w, WB w → stepG P false b w = .comm g₂ #[scase D.ch v z] true sh w #[]) (next : EndsPair P Post D a WA (parked g₂ #[scase D.ch v z] sh) WB) :
    ∀ d w gs sl t q, (WA w ∧ WB w) → PairSt P D a b w gs t q → ∃ m' ops, runT P (crowd gs (w.at d) sl) D.c = (.next m', ops) ∧ EndsRun P Post m' (t ++ ops) := by
  intro d w gs sl t q ⟨hA, hB⟩ hS
  have hAd := stabA _ _ hA (RelB.at_ w d)
  have hBd := stabB _ _ hB (RelA.at_ w d)
  have hi0 : (D.c == 0) = false := by simpa using D.c0
  obtain ⟨s, r, tm, hch⟩ := hS.chan
  have hnw : NoWays (w.at d) (gs.setIfInBounds D.c ph) (scase D.ch v z) := ways_send_none (s := s) (r := r) (tm := tm) hch (by simp) (no_partner hS (.inr (offersAt_of_not_blocked (by rw [ha]; simp) _ _)) (.inl rfl))
  refine ⟨_, _, crowd_waits (sl := sl) (i := D.c) hS.child (by rw [hi0]; exact hs _ hBd) (fun cc hcc => by obtain rfl : cc = scase D.ch v z := by simpa using hcc
                                                                                                           exact hnw), ?_⟩
  rw [ofEvents_none, Array.append_empty]
  refine next (w.at d) _ sl t q hAd hBd ⟨?_, by simp [hS.leav.lt], ?_, hS.trace, hS.chan, hS.base⟩
  · rw [Array.getElem?_setIfInBounds_ne D.c0]
    exact hS.zero
  · have := leav2_step (ops := #[]) hS.leav (gs' := gs.setIfInBounds D.c (parked g₂ #[scase D.ch v z] sh)) (by simp) (get_set (.inr rfl)) (fun j _ _ => by rw [Array.append_empty])
    rwa [Array.append_empty] at this

theorem app4 (t : Trace) (a b c d : MemOp) : t ++ (#[] ++ #[a, b, c, d]) = t ++ #[a] ++ #[b] ++ #[c] ++ #[d] := by
  apply Array.ext'
  simp

/-- four operations at the channel -/
theorem PairT.four {c : Nat} {Z : Zones} {t : Trace} (h : PairT c Z t) (hc0 : c ≠ 0) {x y u v : MemOp} (hg : ∀ o ∈ [x, y, u, v], o.g = 0 ∨ o.g = c) (hm : ∀ o ∈ [x, y, u, v], (∀ m, o.act ≠ .mark m) ∧ o.act.touch? = none) :
    PairT c Z (t ++ #[x] ++ #[y] ++ #[u] ++ #[v]) ∧ ∀ j, Deaf (t ++ #[x] ++ #[y] ++ #[u] ++ #[v]) j = Deaf t j := by
  simp only [List.mem_cons, List.not_mem_nil, or_false, forall_eq_or_imp, forall_eq] at hg hm
  refine ⟨(((h.sync hc0 hg.1 hm.1.1 hm.1.2).sync hc0 hg.2.1 hm.2.1.1 hm.2.1.2).sync hc0 hg.2.2.1 hm.2.2.1.1 hm.2.2.1.2).sync hc0 hg.2.2.2 hm.2.2.2.1 hm.2.2.2.2, fun j => ?_⟩
  rw [deaf_push_mute _ _ _ hm.2.2.2.1, deaf_push_mute _ _ _ hm.2.2.1.1, deaf_push_mute _ _ _ hm.2.1.1, deaf_push_mute _ _ _ hm.1.1]

/-- the child's send meets goroutine 0, parked -/
theorem meetB {b ga g₂ : Goroutine} {v z za : Value} {sh sha : CommShape} {WA WB : World → Prop} {WA' WB' : World → World → Prop} (stabA : Stable (RelB D) WA) (stabB : Stable (RelA D) WB)
    (hs : ∀ w, WB w → stepG P false b w = .comm g₂ #[scase D.ch v z] true sh w #[]) (hW : ∀ w, WA w → WB w → WA' w w ∧ WB' w w)
    (next : ∀ w, WA w → WB w → EndsPair P Post D (ga.finishComm P #[rcase D.ch za] sha 0 v true) (WA' w) (g₂.finishComm P #[scase D.ch v z] sh 0 undef false) (WB' w)) :
    ∀ d w gs sl t q, (WA w ∧ WB w) → PairSt P D (parked ga #[rcase D.ch za] sha) b w gs t q → ∃ m' ops, runT P (crowd gs (w.at d) sl) D.c = (.next m', ops) ∧ EndsRun P Post m' (t ++ ops) := by
  intro d w gs sl t q ⟨hA, hB⟩ hS
  have hAd := stabA _ _ hA (RelB.at_ w d)
  have hBd := stabB _ _ hB (RelA.at_ w d)
  have hi0 : (D.c == 0) = false := by simpa using D.c0
  have hch0 := hS.chan
  obtain ⟨s, r, tm, hch⟩ := hS.chan
  have hp : partners (gs.setIfInBounds D.c ph) D.ch false = [(0, 0)] := by
    have := partners_one (gs := gs.setIfInBounds D.c ph) (r := D.ch) (send := false) (j := 0) (stand_get (i := D.c) (fun e => D.c0 e.symm) hS.zero) fun k x hk hx => by
      rcases getElem?_stand gs D.c k x hx with ⟨_, rfl⟩ | ⟨hkc, hx⟩
      · exact offersAt_ph _ _
      · exact offers_none (hS.leav.old k x (by omega) hkc hx) _ _
    rw [this, offersAt_parked_recv]; simp
  have hr := crowd_send_meets (P := P) (sl := sl) (i := D.c) (w₁ := w.at d) (s := s) (r := r) (tm := tm) (cap := 0) (buf := #[]) hS.child (by rw [hi0]; exact hs _ hBd) hch (fun e => D.c0 e.symm) hS.zero hp
  refine ⟨_, _, hr, ?_⟩
  have hA₂ := stabA _ _ hAd (RelB.count (s := s + 1) (r := r + 1) (tm := tm) (show chanIs (w.at d) D.ch false from hch0))
  have hB₂ := stabB _ _ hBd (RelA.count (s := s + 1) (r := r + 1) (tm := tm) (show chanIs (w.at d) D.ch false from hch0))
  have hsz : gs.size = gs.size := rfl
  have h0lt : 0 < gs.size := (Array.getElem?_eq_some_iff.1 hS.zero).1
  rw [ofEvents_none, app4]
  have hT := zones_monoB hS.base ((RelB.at_ w d).trans (by exact hS.base) (RelB.count (s := s + 1) (r := r + 1) (tm := tm) (show chanIs (w.at d) D.ch false from hch0))) hS.trace
  have h4 := hT.four D.c0 (x := { g := D.c, fn := g₂.frame.fn, pos := g₂.frame.place, act := .send D.ch s }) (y := { g := 0, fn := ga.frame.fn, pos := ga.frame.place, act := .recv D.ch r 0 })
    (u := { g := D.c, fn := g₂.frame.fn, pos := g₂.frame.place, act := .sendDone D.ch s }) (v := { g := 0, fn := ga.frame.fn, pos := ga.frame.place, act := .recvDone D.ch r }) (by simp) (by simp [MemAct.touch?])
  refine next _ hA₂ hB₂ _ _ sl _ q (hW _ hA₂ hB₂).1 (hW _ hA₂ hB₂).2 ⟨?_, by simp [hS.leav.lt], ?_, h4.1, ?_, ?_⟩
  · rw [Array.getElem?_setIfInBounds_ne D.c0]
    simp [h0lt]
  · rw [← app4]
    exact leav2_step hS.leav (by simp) (get_set2 (.inr rfl) (.inl rfl)) (fun j _ _ => by rw [app4]; exact h4.2 j)
  · exact ⟨s + 1, r + 1, tm, by rw [getElem?_setChan _ _ _ _ _ _ _ _ _ (by exact (Array.getElem?_eq_some_iff.1 hch).1), if_pos rfl]⟩
  · have : D.base ≤ (w.at d).heap.size := hS.base
    simpa [World.setChan] using this

/-- goroutine 0's receive meets the child, parked -/
theorem meetA {a gb g₂ : Goroutine} {v z zb : Value} {sh shb : CommShape} {WA WB : World → Prop} {WA' WB' : World → World → Prop} (stabA : Stable (RelB D) WA) (stabB : Stable (RelA D) WB)
    (hs : ∀ w, WA w → stepG P true a w = .comm g₂ #[rcase D.ch z] true sh w #[]) (hW : ∀ w, WA w → WB w → WA' w w ∧ WB' w w)
    (next : ∀ w, WA w → WB w → EndsPair P Post D (g₂.finishComm P #[rcase D.ch z] sh 0 v true) (WA' w) (gb.finishComm P #[scase D.ch v zb] shb 0 undef false) (WB' w)) :
    ∀ d w gs sl t q, (WA w ∧ WB w) → PairSt P D a (parked gb #[scase D.ch v zb] shb) w gs t q → ∃ m' ops, runT P (crowd gs (w.at d) sl) 0 = (.next m', ops) ∧ EndsRun P Post m' (t ++ ops) := by
  intro d w gs sl t q ⟨hA, hB⟩ hS
  have hAd := stabA _ _ hA (RelB.at_ w d)
  have hBd := stabB _ _ hB (RelA.at_ w d)
  have hch0 := hS.chan
  obtain ⟨s, r, tm, hch⟩ := hS.chan
  have hp : partners (gs.setIfInBounds 0 ph) D.ch true = [(D.c, 0)] := by
    have := partners_one (gs := gs.setIfInBounds 0 ph) (r := D.ch) (send := true) (j := D.c) (stand_get (i := 0) D.c0 hS.child) fun k x hk hx => by
      rcases getElem?_stand gs 0 k x hx with ⟨_, rfl⟩ | ⟨hkc, hx⟩
      · exact offersAt_ph _ _
      · exact offers_none (hS.leav.old k x (by omega) hk hx) _ _
    rw [this, offersAt_parked_send]; simp
  have hr := crowd_recv_meets (P := P) (sl := sl) (i := 0) (w₁ := w.at d) (s := s) (r := r) (tm := tm) (cap := 0) (closed := false) hS.zero (hs _ hAd) hch D.c0 hS.child hp
  refine ⟨_, _, hr, ?_⟩
  have hA₂ := stabA _ _ hAd (RelB.count (s := s + 1) (r := r + 1) (tm := tm) (show chanIs (w.at d) D.ch false from hch0))
  have hB₂ := stabB _ _ hBd (RelA.count (s := s + 1) (r := r + 1) (tm := tm) (show chanIs (w.at d) D.ch false from hch0))
  have h0lt : 0 < gs.size := (Array.getElem?_eq_some_iff.1 hS.zero).1
  rw [ofEvents_none, app4]
  have hT := zones_monoB hS.base ((RelB.at_ w d).trans (by exact hS.base) (RelB.count (s := s + 1) (r := r + 1) (tm := tm) (show chanIs (w.at d) D.ch false from hch0))) hS.trace
  have h4 := hT.four D.c0 (x := { g := D.c, fn := gb.frame.fn, pos := gb.frame.place, act := .send D.ch s }) (y := { g := 0, fn := g₂.frame.fn, pos := g₂.frame.place, act := .recv D.ch r 0 })
    (u := { g := D.c, fn := gb.frame.fn, pos := gb.frame.place, act := .sendDone D.ch s }) (v := { g := 0, fn := g₂.frame.fn, pos := g₂.frame.place, act := .recvDone D.ch r }) (by simp) (by simp [MemAct.touch?])
  refine next _ hA₂ hB₂ _ _ sl _ q (hW _ hA₂ hB₂).1 (hW _ hA₂ hB₂).2 ⟨by simp [h0lt], ?_, ?_, h4.1, ?_, ?_⟩
  · rw [Array.getElem?_setIfInBounds_ne (fun e => D.c0 e.symm)]
    simp [hS.leav.lt]
  · rw [← app4]
    exact leav2_step hS.leav (by simp) (get_set2 (.inl rfl) (.inr rfl)) (fun j _ _ => by rw [app4]; exact h4.2 j)
  · exact ⟨s + 1, r + 1, tm, by rw [getElem?_setChan _ _ _ _ _ _ _ _ _ (by exact (Array.getElem?_eq_some_iff.1 hch).1), if_pos rfl]⟩
  · have : D.base ≤ (w.at d).heap.size := hS.base
    simpa [World.setChan] using this

/-- the child closes the channel -/
theorem closeB {f : World → Prop} (hf : Stable (RelA D) f) {a a' b : Goroutine} {WA WB : World → Prop} {G' : World → Goroutine} {w' : World → World} {es : World → Array Event} {n : Nat}
    (stabA : Stable (RelB D) WA) (stabB : Stable (RelA D) WB) (hs : ∀ w, WB w → stepG P false b w = .go (G' w) (w' w) (es w)) (rel : ∀ w, WB w → RelB D w (w' w)) (shut : ∀ w, WB w → chanIs (w' w) D.ch true) (fin : ∀ w, WB w → f (w' w))
    (ev : ∀ w, WB w → ∃ e₁, es w = #[e₁, ⟨.obj D.ch, true, true⟩] ∧ evIn (zoneB D (w' w)) (zoneS D) #[e₁]) (quits : ∀ w, WB w → QuitsIn P n (G' w))
    (hwk : ∀ w, WB w → woken P b (G' w) (w' w) a = a') (hA : SA P D (XEnds P Post) a' WA (.stop f)) :
    ∀ d w gs sl t q, (WA w ∧ WB w) → PairSt P D a b w gs t q → ∃ m' ops, runT P (crowd gs (w.at d) sl) D.c = (.next m', ops) ∧ EndsRun P Post m' (t ++ ops) := by
  intro d w gs sl t q ⟨hA1, hB⟩ ⟨h0, hc, hL, hT, hch, hbase⟩
  have hAd := stabA _ _ hA1 (RelB.at_ w d)
  have hBd := stabB _ _ hB (RelA.at_ w d)
  have hlt : D.c < gs.size := hL.lt
  have h0lt : 0 < gs.size := (Array.getElem?_eq_some_iff.1 h0).1
  have hr := rel _ hBd
  have hi0 : (D.c == 0) = false := by simpa using D.c0
  obtain ⟨e₁, hes, he₁⟩ := ev _ hBd
  refine ⟨_, _, runT_crowd_go (P := P) (sl := sl) (i := D.c) hc (by rw [hi0]; exact hs _ hBd), ?_⟩
  have hops : MemOp.ofEvents D.c b.frame.fn b.frame.place (es (w.at d)) = MemOp.ofEvents D.c b.frame.fn b.frame.place #[e₁] ++ #[{ g := D.c, fn := b.frame.fn, pos := b.frame.place, act := .close D.ch }] := by
    rw [hes, Go.Conc.ofEvents_eq, Go.Conc.ofEvents_eq]
    simp [MemAct.ofEvent]
  have hT' := zones_monoB (w := w.at d) (w' := w' (w.at d)) hbase hr hT
  have hT₁ := hT'.ownC (u := MemOp.ofEvents D.c b.frame.fn b.frame.place #[e₁]) D.c0 ofEvents_g (evIn_touch he₁) (evIn_deaf he₁ t)
  have hT₂ := hT₁.close (ch := D.ch) D.c0 (y := { g := D.c, fn := b.frame.fn, pos := b.frame.place, act := .close D.ch }) rfl rfl
  rw [Array.append_assoc, ← hops] at hT₂
  refine shut_runs hA hf rfl _ _ sl _ q n _ (stabA _ _ hAd hr) (fin _ hBd) ?_ ⟨⟨G' (w.at d), by simp [hlt], quits _ hBd⟩, leav2_step hL (by simp) (get_step (.inr rfl)) (fun j _ hj => Deaf_other t (g := j) (g' := D.c) (fun e => hj e.symm) _ ofEvents_g), hT₂, shut _ hBd, Nat.le_trans hbase hr.size⟩
  rw [Array.getElem?_setIfInBounds_ne D.c0, Array.getElem?_map, h0]
  simp [hwk _ hBd]

/-- goroutine 0 is parked at a receive of its script -/
inductive ParkA (P : Program) (D : Duet) (X : Goroutine → World → Prop) : Goroutine → (World → Prop) → Proto → Prop
  | recv {W : World → Prop} {m : Msg} {k : Value → World → Proto} (g₂ : Goroutine) (z : Value) (sh : CommShape) (W' : Value → World → World → Prop) (stab : Stable (RelB D) W) (hW : ∀ v w, W w → m v w → W' v w w)
      (next : ∀ v w, W w → m v w → SA P D X (g₂.finishComm P #[rcase D.ch z] sh 0 v true) (W' v w) (k v w)) : ParkA P D X (parked g₂ #[rcase D.ch z] sh) W (.msg m k)
  | done {W : World → Prop} {f : World → Prop} (g g₂ : Goroutine) (z : Value) (sh : CommShape) (same : g₂.frame = g.frame ∧ g₂.callers = g.callers ∧ g₂.dying = g.dying) (stab : Stable (RelB D) W)
      (hs : ∀ w, W w → stepG P true g w = .comm g₂ #[rcase D.ch z] true sh w #[]) (next : ∀ w, W w → f w → X (g₂.finishComm P #[rcase D.ch z] sh 0 z false) w) : ParkA P D X (parked g₂ #[rcase D.ch z] sh) W (.stop f)

theorem pair_ends {a b : Goroutine} {WA WB : World → Prop} (ha : a.status = .running ∨ a.status = .blocked) (hb : b.status = .running ∨ b.status = .blocked) (hab : a.status = .running ∨ b.status = .running)
    (sa : Stay P D a) (sb : Stay P D b) (stabA : Stable (RelB D) WA) (stabB : Stable (RelA D) WB)
    (FA : a.status = .running → ∀ d w gs sl t q, (WA w ∧ WB w) → PairSt P D a b w gs t q → ∃ m' ops, runT P (crowd gs (w.at d) sl) 0 = (.next m', ops) ∧ EndsRun P Post m' (t ++ ops))
    (FB : b.status = .running → ∀ d w gs sl t q, (WA w ∧ WB w) → PairSt P D a b w gs t q → ∃ m' ops, runT P (crowd gs (w.at d) sl) D.c = (.next m', ops) ∧ EndsRun P Post m' (t ++ ops)) : EndsPair P Post D a WA b WB :=
  fun w gs sl t q hA hB hS => pair_drive ha hb hab sa sb (I := fun w => WA w ∧ WB w) (fun w d h => ⟨stabA _ _ h.1 (RelB.at_ w d), stabB _ _ h.2 (RelA.at_ w d)⟩) FA FB _ w gs sl t q rfl ⟨hA, hB⟩ hS

theorem both_runs {b : Goroutine} {WB : World → Prop} {ms : Proto} (h : SB P D b WB ms) :
    (∀ a WA, ParkA P D (XEnds P Post) a WA ms → EndsPair P Post D a WA b WB) ∧ (∀ a WA, SA P D (XEnds P Post) a WA ms → EndsPair P Post D a WA b WB) := by
  induction h with
  | @step b WB ms G' w' es W' run stab hs rel open_ ev hW next ih =>
    have hpark : ∀ a WA, ParkA P D (XEnds P Post) a WA ms → EndsPair P Post D a WA b WB := by
      intro a WA hA
      have h1 : ∃ g z sh, a = parked g #[rcase D.ch z] sh := by cases hA <;> exact ⟨_, _, _, rfl⟩
      have h2 : Stable (RelB D) WA := by cases hA <;> assumption
      obtain ⟨g, z, sh, rfl⟩ := h1
      exact pair_ends (.inr rfl) (.inl run) (.inr run) Stay.recv (Stay.running run) h2 stab (fun h => by cases h) fun _ => moveB stab hs rel open_ ev hW h2 Stay.recv fun w hw => (ih w hw).1 _ _ hA
    refine ⟨hpark, fun a WA hA => ?_⟩
    induction hA with
    | step Ga wa ea Wa runA stabA hsA relA evA hWA nextA ihA =>
      exact pair_ends (.inl runA) (.inl run) (.inr run) (Stay.running runA) (Stay.running run) stabA stab (fun _ => moveA stabA hsA relA evA hWA stab (Stay.running run) fun w hw => ihA w hw next ih hpark) fun _ => moveB stab hs rel open_ ev hW stabA (Stay.running runA) fun w hw => (ih w hw).2 _ _ (.step Ga wa ea Wa runA stabA hsA relA evA hWA nextA)
    | recv g₂ z sh Wa runA stabA hsA hWA nextA =>
      exact pair_ends (.inl runA) (.inl run) (.inr run) (Stay.running runA) (Stay.running run) stabA stab (fun _ => parkA run stabA stab hsA (hpark _ _ (.recv g₂ z sh Wa stabA hWA nextA))) fun _ => moveB stab hs rel open_ ev hW stabA (Stay.running runA) fun w hw => (ih w hw).2 _ _ (.recv g₂ z sh Wa runA stabA hsA hWA nextA)
    | done g₂ z sh runA same stabA hsA nextA =>
      exact pair_ends (.inl runA) (.inl run) (.inr run) (Stay.running runA) (Stay.running run) stabA stab (fun _ => parkA run stabA stab hsA (hpark _ _ (.done _ g₂ z sh same stabA hsA nextA))) fun _ => moveB stab hs rel open_ ev hW stabA (Stay.running runA) fun w hw => (ih w hw).2 _ _ (.done g₂ z sh runA same stabA hsA nextA)
  | @send b WB m km g₂ v z sh WB' run stab hs hm hWB next ih =>
    have hpark : ∀ a WA, ParkA P D (XEnds P Post) a WA (.msg m km) → EndsPair P Post D a WA b WB := by
      intro a WA hA
      cases hA with
      | recv ga za sha Wa stabA hWA nextA =>
        exact pair_ends (.inr rfl) (.inl run) (.inr run) Stay.recv (Stay.running run) stabA stab (fun h => by cases h) fun _ => meetB stabA stab hs (fun w h1 h2 => ⟨hWA v w h1 (hm w h2), hWB w h2⟩) fun w h1 h2 => (ih w h2).2 _ _ (nextA v w h1 (hm w h2))
    have hrp : ∀ ms' a WA, SA P D (XEnds P Post) a WA ms' → ms' = .msg m km → EndsPair P Post D a WA (parked g₂ #[scase D.ch v z] sh) WB := by
      intro ms' a WA hA
      induction hA with
      | step Ga wa ea Wa runA stabA hsA relA evA hWA nextA ihA =>
        intro he
        exact pair_ends (.inl runA) (.inr rfl) (.inl runA) (Stay.running runA) Stay.send stabA stab (fun _ => moveA stabA hsA relA evA hWA stab Stay.send fun w hw => ihA w hw he) fun h => by cases h
      | recv ga za sha Wa runA stabA hsA hWA nextA =>
        intro he
        injection he with e1 e2
        subst e1 e2
        exact pair_ends (.inl runA) (.inr rfl) (.inl runA) (Stay.running runA) Stay.send stabA stab (fun _ => meetA stabA stab hsA (fun w h1 h2 => ⟨hWA v w h1 (hm w h2), hWB w h2⟩) fun w h1 h2 => (ih w h2).2 _ _ (nextA v w h1 (hm w h2))) fun h => by cases h
      | done => intro he; cases he
    refine ⟨hpark, fun a WA hA => ?_⟩
    generalize hms : Proto.msg m km = ms' at hA
    induction hA with
    | step Ga wa ea Wa runA stabA hsA relA evA hWA nextA ihA =>
      exact pair_ends (.inl runA) (.inl run) (.inr run) (Stay.running runA) (Stay.running run) stabA stab (fun _ => moveA stabA hsA relA evA hWA stab (Stay.running run) fun w hw => ihA w hw hms) fun _ => parkB runA stabA stab hs (hrp _ _ _ (.step Ga wa ea Wa runA stabA hsA relA evA hWA nextA) hms.symm)
    | recv ga za sha Wa runA stabA hsA hWA nextA =>
      injection hms with e1 e2
      subst e1 e2
      exact pair_ends (.inl runA) (.inl run) (.inr run) (Stay.running runA) (Stay.running run) stabA stab (fun _ => parkA run stabA stab hsA (hpark _ _ (.recv ga za sha Wa stabA hWA nextA))) fun _ => parkB runA stabA stab hs (hrp _ _ _ (.recv ga za sha Wa runA stabA hsA hWA nextA) rfl)
    | done => cases hms
  | @close b WB f hf G' w' es n run stab hs rel shut fin wakes ev quits st =>
    have hst : ∀ w, WB w → (G' w).status ≠ .blocked ∧ (G' w).status ≠ .waiting := fun w hw => by rcases st w hw with h | h <;> rw [h] <;> simp
    have hpark : ∀ a WA, ParkA P D (XEnds P Post) a WA (.stop f) → EndsPair P Post D a WA b WB := by
      intro a WA hA
      cases hA with
      | done g ga za sha same stabA hsA nextA =>
        refine pair_ends (.inr rfl) (.inl run) (.inr run) Stay.recv (Stay.running run) stabA stab (fun h => by cases h) fun _ => closeB hf (a' := { parked ga #[rcase D.ch za] sha with status := .running }) stabA stab hs rel shut fin ev quits (fun w hw => ?_) (.done (g := { parked ga #[rcase D.ch za] sha with status := .running }) ga za sha rfl ⟨rfl, rfl, rfl⟩ stabA (fun w hw => ?_) nextA)
        · obtain ⟨s, r, tm, hch⟩ := shut w hw
          unfold woken
          rw [if_pos, again_recv_closed hch]
          have := hst w hw
          cases hh : (G' w).status <;> simp_all
        · rw [← hsA w hw]
          exact stepG_same same.1 same.2.1 same.2.2 w
    refine ⟨hpark, fun a WA hA => ?_⟩
    generalize hms : Proto.stop f = ms' at hA
    induction hA with
    | step Ga wa ea Wa runA stabA hsA relA evA hWA nextA ihA =>
      subst hms
      exact pair_ends (.inl runA) (.inl run) (.inr run) (Stay.running runA) (Stay.running run) stabA stab (fun _ => moveA stabA hsA relA evA hWA stab (Stay.running run) fun w hw => ihA w hw rfl) fun _ => closeB hf stabA stab hs rel shut fin ev quits (fun w hw => woken_run runA) (.step Ga wa ea Wa runA stabA hsA relA evA hWA nextA)
    | recv => cases hms
    | done ga za sha runA same stabA hsA nextA =>
      injection hms with hms
      subst hms
      exact pair_ends (.inl runA) (.inl run) (.inr run) (Stay.running runA) (Stay.running run) stabA stab (fun _ => parkA run stabA stab hsA (hpark _ _ (.done _ ga za sha same stabA hsA nextA))) fun _ => closeB hf stabA stab hs rel shut fin ev quits (fun w hw => woken_run runA) (.done ga za sha runA same stabA hsA nextA)
end
end Go.Proofs.Ytngmhkhncimknaa
