/- The trace while Feed and the goroutine that it started run together: each keeps to its zone, or reads what both may read; so there is no race, whatever the order. -/
import Derived.Test.YtngmhkhncimknaaStmEnds
namespace Go.Proofs.Ytngmhkhncimknaa
open Go Go.Conc
set_option linter.unusedVariables false
set_option linter.unusedSimpArgs false

/-- goroutine 0's zone, the child's, what both read -/
structure Zones where
  A : Loc → Prop
  B : Loc → Prop
  sh : Loc → Prop
  ab : ∀ l, A l → ¬ B l
  as : ∀ l, A l → ¬ sh l
  bs : ∀ l, B l → ¬ sh l

def Zones.within (Z : Loc → Prop) (sh : Loc → Prop) (a : Touch) : Prop := Z a.loc ∨ (sh a.loc ∧ a.write = false)

structure PairT (c : Nat) (Z : Zones) (t : Trace) : Prop where
  clean : ∀ said, ¬ Race said t
  known : ∀ i a, touchAt t i = some a → a.loc.isMemory = true → (Knows t 0 i ∧ Knows t c i) ∨ (Knows t 0 i ∧ Zones.within Z.A Z.sh a) ∨ (Knows t c i ∧ Zones.within Z.B Z.sh a)
  over : ∀ i g, t.g? i = some g → g ≠ 0 → g ≠ c → t.counts i → ∃ j, t.g? j = some 0 ∧ HappensBefore t i j
  hears0 : Deaf t 0 = 0
  hearsC : Deaf t c = 0

section
variable {c : Nat} {Z Z' : Zones} {t u : Trace}

theorem PairT.mono (h : PairT c Z t) (hA : ∀ l, Z.A l → Z'.A l) (hB : ∀ l, Z.B l → Z'.B l) (hs : ∀ l, Z.sh l → Z'.sh l) : PairT c Z' t :=
  ⟨h.clean, fun i a ha hm => (h.known i a ha hm).imp id fun x => x.imp (fun y => ⟨y.1, y.2.imp (hA _) fun z => ⟨hs _ z.1, z.2⟩⟩) (fun y => ⟨y.1, y.2.imp (hB _) fun z => ⟨hs _ z.1, z.2⟩⟩), h.over, h.hears0, h.hearsC⟩

theorem over_app {p : Nat → Prop} (h : ∀ i g, t.g? i = some g → p g → t.counts i → ∃ j, t.g? j = some 0 ∧ HappensBefore t i j) (hu : ∀ op ∈ u, ¬ p op.g ∨ op.act.touch? = none) :
    ∀ i g, (t ++ u).g? i = some g → p g → (t ++ u).counts i → ∃ j, (t ++ u).g? j = some 0 ∧ HappensBefore (t ++ u) i j := by
  intro i g hg hp hc
  obtain ⟨x, hx, _⟩ := hc
  obtain ⟨op, hop, hox⟩ := touch_of hx
  rcases getElem?_append_cases hop with ⟨hi, hop'⟩ | ⟨_, hopu⟩
  · obtain ⟨j, hj, hb⟩ := h i g (by simpa [Trace.g?, getElem?_append_old hi] using hg) hp ((counts_old hi).1 ⟨x, hx, ‹_›⟩)
    have hjl : j < t.size := by
      unfold Trace.g? at hj
      obtain ⟨z, hz, _⟩ := Option.map_eq_some_iff.1 hj
      exact lt_size_of_getElem? hz
    exact ⟨j, by simpa [Trace.g?, getElem?_append_old hjl] using hj, hb_app u hb⟩
  · have e : op.g = g := by simpa [Trace.g?, hop] using hg
    rcases hu op hopu with h0 | h0
    · exact absurd (e ▸ hp) h0
    · rw [h0] at hox; cases hox

/-- operations of goroutine 0's within its zone -/
theorem PairT.own0 (h : PairT c Z t) (hc0 : c ≠ 0) (hu : ∀ op ∈ u, op.g = 0) (hz : ∀ op ∈ u, ∀ b, op.act.touch? = some b → b.loc.isMemory = true → Zones.within Z.A Z.sh b) (hd : Deaf (t ++ u) 0 = Deaf t 0) : PairT c Z (t ++ u) := by
  refine ⟨fun said => noRace_append (h.clean said) hu fun i a ha op hop b hb hcf => ?_, fun i a ha hm => ?_, fun i g hg h0 hc => ?_, hd.trans h.hears0, (Deaf_other t (fun e => hc0 e.symm) u hu).trans h.hearsC⟩
  · have hbm : b.loc.isMemory = true := by rw [← hcf.1]; exact hcf.2.1
    have hb' := hz op hop b hb hbm
    rcases h.known i a ha hcf.2.1 with hk | hk | ⟨_, hk⟩
    · exact hk.1
    · exact hk.1
    · exfalso
      have e := hcf.1
      rcases hk with hk | ⟨hk, hw⟩
      · rcases hb' with hb' | ⟨hb', _⟩
        · exact Z.ab _ hb' (e ▸ hk)
        · exact Z.bs _ hk (e ▸ hb')
      · rcases hb' with hb' | ⟨_, hw'⟩
        · exact Z.as _ hb' (e ▸ hk)
        · rcases hcf.2.2.1 with x | x
          · rw [hw] at x; cases x
          · rw [hw'] at x; cases x
  · obtain ⟨x, hx, hxa⟩ := touch_of ha
    rcases getElem?_append_cases hx with ⟨_, hx'⟩ | ⟨_, hxu⟩
    · exact (h.known i a (by rw [touchAt_of hx']; exact hxa) hm).imp (fun y => ⟨y.1.app u, y.2.app u⟩) fun z => z.imp (fun y => ⟨y.1.app u, y.2⟩) (fun y => ⟨y.1.app u, y.2⟩)
    · have := knows_own hx
      rw [hu x hxu] at this
      exact .inr (.inl ⟨this, hz x hxu a hxa hm⟩)
  · exact over_app (p := fun g => g ≠ 0 ∧ g ≠ c) (fun i g hg hp => h.over i g hg hp.1 hp.2) (fun op hop => .inl fun hp => hp.1 (hu op hop)) i g hg ⟨h0, hc⟩

/-- operations of the child's within its zone -/
theorem PairT.ownC (h : PairT c Z t) (hc0 : c ≠ 0) (hu : ∀ op ∈ u, op.g = c) (hz : ∀ op ∈ u, ∀ b, op.act.touch? = some b → b.loc.isMemory = true → Zones.within Z.B Z.sh b) (hd : Deaf (t ++ u) c = Deaf t c) : PairT c Z (t ++ u) := by
  refine ⟨fun said => noRace_append (h.clean said) hu fun i a ha op hop b hb hcf => ?_, fun i a ha hm => ?_, fun i g hg h0 hc => ?_, (Deaf_other t hc0 u hu).trans h.hears0, hd.trans h.hearsC⟩
  · have hbm : b.loc.isMemory = true := by rw [← hcf.1]; exact hcf.2.1
    have hb' := hz op hop b hb hbm
    rcases h.known i a ha hcf.2.1 with hk | ⟨_, hk⟩ | hk
    · exact hk.2
    · exfalso
      have e := hcf.1
      rcases hk with hk | ⟨hk, hw⟩
      · rcases hb' with hb' | ⟨hb', _⟩
        · exact Z.ab _ hk (e ▸ hb')
        · exact Z.as _ hk (e ▸ hb')
      · rcases hb' with hb' | ⟨_, hw'⟩
        · exact Z.bs _ hb' (e ▸ hk)
        · rcases hcf.2.2.1 with x | x
          · rw [hw] at x; cases x
          · rw [hw'] at x; cases x
    · exact hk.1
  · obtain ⟨x, hx, hxa⟩ := touch_of ha
    rcases getElem?_append_cases hx with ⟨_, hx'⟩ | ⟨_, hxu⟩
    · exact (h.known i a (by rw [touchAt_of hx']; exact hxa) hm).imp (fun y => ⟨y.1.app u, y.2.app u⟩) fun z => z.imp (fun y => ⟨y.1.app u, y.2⟩) (fun y => ⟨y.1.app u, y.2⟩)
    · have := knows_own hx
      rw [hu x hxu] at this
      exact .inr (.inr ⟨this, hz x hxu a hxa hm⟩)
  · exact over_app (p := fun g => g ≠ 0 ∧ g ≠ c) (fun i g hg hp => h.over i g hg hp.1 hp.2) (fun op hop => .inl fun hp => hp.2 (hu op hop)) i g hg ⟨h0, hc⟩

theorem heard_new (t u : Trace) (y : MemOp) (h : Deaf t y.g = 0) : (t ++ #[y] ++ u).heard t.size := by
  have hlt : t.size < (t ++ #[y]).size := by simp
  rw [heard_old hlt]
  exact ⟨y.g, by simp [Trace.g?], by rw [deaf_old (Nat.le_refl _)]; exact h⟩

theorem deaf_push_mute (t : Trace) (y : MemOp) (g : Nat) (h : ∀ m, y.act ≠ .mark m) : Deaf (t ++ #[y]) g = Deaf t g := by
  rw [Deaf_push]
  unfold deafStep
  split
  · rename_i hh; exact absurd hh (h _)
  · rename_i hh; exact absurd hh (h _)
  · rfl

theorem act_last (t : Trace) (y : MemOp) : (t ++ #[y]).act? t.size = some y.act := by simp [Trace.act?]
theorem get_last (t : Trace) (y : MemOp) : (t ++ #[y])[t.size]? = some y := by simp

/-- a synchronising operation of one of the two -/
theorem PairT.sync (h : PairT c Z t) (hc0 : c ≠ 0) {y : MemOp} (hy : y.g = 0 ∨ y.g = c) (hm : ∀ m, y.act ≠ .mark m) (ht : y.act.touch? = none) : PairT c Z (t ++ #[y]) := by
  rcases hy with hy | hy
  · exact h.own0 hc0 (fun op hop => by obtain rfl : op = y := by simpa using hop
                                       exact hy) (fun op hop b hb => by obtain rfl : op = y := by simpa using hop
                                                                        rw [ht] at hb; cases hb) (deaf_push_mute _ _ _ hm)
  · exact h.ownC hc0 (fun op hop => by obtain rfl : op = y := by simpa using hop
                                       exact hy) (fun op hop b hb => by obtain rfl : op = y := by simpa using hop
                                                                        rw [ht] at hb; cases hb) (deaf_push_mute _ _ _ hm)

theorem low_act (x : MemAct) : ∃ B, x.low B := by
  cases x with
  | access e =>
    obtain ⟨loc, wr, sy⟩ := e
    cases loc with
    | cell a => exact ⟨a.block + 1, by simp [MemAct.low, Loc.low]⟩
    | obj r => exact ⟨r + 1, by simp [MemAct.low, Loc.low]⟩
    | _ => exact ⟨0, by simp [MemAct.low, Loc.low]⟩
  | mark m =>
    cases m with
    | acquire a => exact ⟨a.block + 1, by simp [MemAct.low]⟩
    | release a => exact ⟨a.block + 1, by simp [MemAct.low]⟩
    | releaseMerge a => exact ⟨a.block + 1, by simp [MemAct.low]⟩
    | read a => exact ⟨a.block + 1, by simp [MemAct.low]⟩
    | write a => exact ⟨a.block + 1, by simp [MemAct.low]⟩
    | _ => exact ⟨0, by simp [MemAct.low]⟩
  | go n => exact ⟨0, trivial⟩
  | start => exact ⟨0, trivial⟩
  | send c k => exact ⟨c + 1, Nat.lt_succ_self c⟩
  | sendDone c k => exact ⟨c + 1, Nat.lt_succ_self c⟩
  | recv c k n => exact ⟨c + 1, Nat.lt_succ_self c⟩
  | recvDone c k => exact ⟨c + 1, Nat.lt_succ_self c⟩
  | close c => exact ⟨c + 1, Nat.lt_succ_self c⟩
  | recvClosed c => exact ⟨c + 1, Nat.lt_succ_self c⟩
theorem low_all (t : Trace) : ∃ B, ∀ op ∈ t, op.act.low B := by
  obtain ⟨l⟩ := t
  induction l with
  | nil => exact ⟨0, by simp⟩
  | cons e es ih =>
    obtain ⟨B, hB⟩ := ih
    obtain ⟨B', hB'⟩ := low_act e.act
    refine ⟨max B B', fun x hx => ?_⟩
    simp only [List.mem_toArray, List.mem_cons] at hx
    rcases hx with rfl | hx
    · exact MemAct.low_mono (Nat.le_max_right ..) hB'
    · exact MemAct.low_mono (Nat.le_max_left ..) (hB x (by simpa using hx))

/-- the child has closed the channel at place p, and touches nothing any more: what goroutine 0 does not know lies ahead of p -/
structure ShutT (c ch p : Nat) (Z : Zones) (t : Trace) : Prop where
  pair : PairT c Z t
  act : t.act? p = some (.close ch)
  heard : t.heard p
  before : ∀ i a, touchAt t i = some a → a.loc.isMemory = true → Knows t 0 i ∨ Before t i p

theorem PairT.close {ch : Nat} (h : PairT c Z t) (hc0 : c ≠ 0) {y : MemOp} (hy : y.g = c) (ha : y.act = .close ch) : ShutT c ch t.size Z (t ++ #[y]) := by
  have hm : ∀ m, y.act ≠ .mark m := fun m e => by rw [ha] at e; cases e
  have ht : y.act.touch? = none := by rw [ha]; rfl
  refine ⟨h.sync hc0 (.inr hy) hm ht, by rw [act_last, ha], by simpa using heard_new t #[] y (by rw [hy]; exact h.hearsC), fun i a hia hmem => ?_⟩
  obtain ⟨x, hx, hxa⟩ := touch_of hia
  rcases getElem?_append_cases hx with ⟨_, hx'⟩ | ⟨_, hxu⟩
  · rcases h.known i a (by rw [touchAt_of hx']; exact hxa) hmem with hk | hk | hk
    · exact .inl (hk.1.app _)
    · exact .inl (hk.1.app _)
    · exact .inr (.inr (hk.1.hb_new (Nat.le_refl _) (get_last t y) hy))
  · obtain rfl : x = y := by simpa using hxu
    rw [ht] at hxa; cases hxa

/-- goroutine 0 finds the channel closed: it knows all -/
theorem ShutT.received {ch p : Nat} (h : ShutT c ch p Z t) (hc0 : c ≠ 0) {y : MemOp} (hy : y.g = 0) (ha : y.act = .recvClosed ch) : PastE (t ++ #[y]) := by
  have hm : ∀ m, y.act ≠ .mark m := fun m e => by rw [ha] at e; cases e
  have ht : y.act.touch? = none := by rw [ha]; rfl
  have hP := h.pair.sync hc0 (.inl hy) hm ht
  have hpl : p < t.size := lt_of_act? h.act
  have hedge : HappensBefore (t ++ #[y]) p t.size :=
    .single (.inr ⟨.closed (c := ch) (by rw [act?_old hpl]; exact h.act) (by rw [act_last, ha]), (heard_old hpl).2 h.heard, by simpa using heard_new t #[] y (by rw [hy]; exact h.pair.hears0)⟩)
  have hk0 : Knows (t ++ #[y]) 0 p := ⟨t.size, y, get_last t y, hy, .inr hedge⟩
  have hknown : ∀ i a, touchAt (t ++ #[y]) i = some a → a.loc.isMemory = true → Knows (t ++ #[y]) 0 i := fun i a hia hmem => by
    obtain ⟨x, hx, hxa⟩ := touch_of hia
    rcases getElem?_append_cases hx with ⟨_, hx'⟩ | ⟨_, hxu⟩
    · rcases h.before i a (by rw [touchAt_of hx']; exact hxa) hmem with hk | hk
      · exact hk.app _
      · exact Knows.of_before (hk.app _) hk0
    · obtain rfl : x = y := by simpa using hxu
      rw [ht] at hxa; cases hxa
  obtain ⟨B, hB⟩ := low_all (t ++ #[y])
  refine ⟨B, hP.clean, fun i a hia hmem => .inl (hknown i a hia hmem), fun i g hg hne hcnt => ?_, hP.hears0, hB⟩
  obtain ⟨x, hx, hmem, _⟩ := hcnt
  obtain ⟨q, z, hq, hz, hbef⟩ := hknown i x hx hmem
  refine ⟨q, by unfold Trace.g?; rw [hq]; simp [hz], ?_⟩
  rcases hbef with rfl | hb
  · have : z.g = g := by unfold Trace.g? at hg; rw [hq] at hg; simpa using hg
    exact absurd (this.symm.trans hz) hne
  · exact hb

/-- goroutine 0's own operations while the channel is closed and it has not noticed -/
theorem ShutT.own0 {ch p : Nat} (h : ShutT c ch p Z t) (hc0 : c ≠ 0) (hu : ∀ op ∈ u, op.g = 0) (hz : ∀ op ∈ u, ∀ b, op.act.touch? = some b → b.loc.isMemory = true → Zones.within Z.A Z.sh b) (hd : Deaf (t ++ u) 0 = Deaf t 0) : ShutT c ch p Z (t ++ u) := by
  have hpl : p < t.size := lt_of_act? h.act
  refine ⟨h.pair.own0 hc0 hu hz hd, by rw [act?_old hpl]; exact h.act, (heard_old hpl).2 h.heard, fun i a hia hmem => ?_⟩
  obtain ⟨x, hx, hxa⟩ := touch_of hia
  rcases getElem?_append_cases hx with ⟨_, hx'⟩ | ⟨_, hxu⟩
  · exact (h.before i a (by rw [touchAt_of hx']; exact hxa) hmem).imp (Knows.app u) (Before.app u)
  · have := knows_own hx
    rw [hu x hxu] at this
    exact .inl this

/-- what others do that touches nothing -/
theorem PairT.mute {g : Nat} (h : PairT c Z t) (h0 : g ≠ 0) (hc : g ≠ c) (hu : ∀ op ∈ u, op.g = g) (hn : ∀ op ∈ u, op.act.touch? = none) : PairT c Z (t ++ u) := by
  refine ⟨fun said => noRace_append (h.clean said) hu fun i a _ op hop b hb _ => (by rw [hn op hop] at hb; cases hb), fun i a ha hm => ?_, fun i g' hg h0' hc' hcnt => ?_, (Deaf_other t h0 u hu).trans h.hears0, (Deaf_other t hc u hu).trans h.hearsC⟩
  · obtain ⟨x, hx, hxa⟩ := touch_of ha
    rcases getElem?_append_cases hx with ⟨_, hx'⟩ | ⟨_, hxu⟩
    · exact (h.known i a (by rw [touchAt_of hx']; exact hxa) hm).imp (fun y => ⟨y.1.app u, y.2.app u⟩) fun z => z.imp (fun y => ⟨y.1.app u, y.2⟩) (fun y => ⟨y.1.app u, y.2⟩)
    · rw [hn x hxu] at hxa; cases hxa
  · exact over_app (p := fun g => g ≠ 0 ∧ g ≠ c) (fun i g hg hp => h.over i g hg hp.1 hp.2) (fun op hop => .inr (hn op hop)) i g' hg ⟨h0', hc'⟩ hcnt

theorem ShutT.mute {ch p g : Nat} (h : ShutT c ch p Z t) (h0 : g ≠ 0) (hc : g ≠ c) (hu : ∀ op ∈ u, op.g = g) (hn : ∀ op ∈ u, op.act.touch? = none) : ShutT c ch p Z (t ++ u) := by
  have hpl : p < t.size := lt_of_act? h.act
  refine ⟨h.pair.mute h0 hc hu hn, by rw [act?_old hpl]; exact h.act, (heard_old hpl).2 h.heard, fun i a hia hmem => ?_⟩
  obtain ⟨x, hx, hxa⟩ := touch_of hia
  rcases getElem?_append_cases hx with ⟨_, hx'⟩ | ⟨_, hxu⟩
  · exact (h.before i a (by rw [touchAt_of hx']; exact hxa) hmem).imp (Knows.app u) (Before.app u)
  · rw [hn x hxu] at hxa; cases hxa

/-- the go statement: the child knows all that goroutine 0 knew -/
theorem PastE.fork (h : PastE t) (hc0 : c ≠ 0) (hdc : Deaf t c = 0) (Z : Zones) {x y : MemOp} (hx : x.g = 0 ∧ x.act = .go c) (hy : y.g = c ∧ y.act = .start) : PairT c Z (t ++ #[x] ++ #[y]) := by
  obtain ⟨B, hP⟩ := h
  have hxm : ∀ m, x.act ≠ .mark m := fun m e => by rw [hx.2] at e; cases e
  have hym : ∀ m, y.act ≠ .mark m := fun m e => by rw [hy.2] at e; cases e
  have hxt : x.act.touch? = none := by rw [hx.2]; rfl
  have hyt : y.act.touch? = none := by rw [hy.2]; rfl
  have hux : ∀ op ∈ (#[x] : Trace), op.g = 0 := fun op hop => by obtain rfl : op = x := by simpa using hop
                                                                 exact hx.1
  have huy : ∀ op ∈ (#[y] : Trace), op.g = c := fun op hop => by obtain rfl : op = y := by simpa using hop
                                                                 exact hy.1
  have hd0 : Deaf (t ++ #[x] ++ #[y]) 0 = 0 := by rw [Deaf_other _ hc0 _ huy, deaf_push_mute _ _ _ hxm]; exact hP.hears
  have hdx : Deaf (t ++ #[x]) c = 0 := by rw [Deaf_other _ (fun e => hc0 e.symm) _ hux]; exact hdc
  have hdC : Deaf (t ++ #[x] ++ #[y]) c = 0 := by rw [deaf_push_mute _ _ _ hym]; exact hdx
  have hsz : (t ++ #[x]).size = t.size + 1 := by simp
  have hgx : (t ++ #[x] ++ #[y])[t.size]? = some x := by rw [getElem?_append_old (by simp)]; exact get_last t x
  have hgy : (t ++ #[x] ++ #[y])[t.size + 1]? = some y := by rw [← hsz]; exact get_last _ y
  have hedge : HappensBefore (t ++ #[x] ++ #[y]) t.size (t.size + 1) :=
    .single (.inr ⟨.spawn (child := c) (by rw [act?_of hgx, hx.2]) (by rw [act?_of hgy, hy.2]) (by unfold Trace.g?; rw [hgy]; simp [hy.1]), heard_new t #[y] x (by rw [hx.1]; exact hP.hears), by
      have := heard_new (t ++ #[x]) #[] y (by rw [hy.1]; exact hdx)
      rw [hsz] at this; simpa using this⟩)
  have hold : ∀ i a, touchAt (t ++ #[x] ++ #[y]) i = some a → touchAt t i = some a := fun i a hia => by
    obtain ⟨z, hz, hza⟩ := touch_of hia
    rcases getElem?_append_cases hz with ⟨_, hz'⟩ | ⟨_, hzu⟩
    · rcases getElem?_append_cases hz' with ⟨_, hz''⟩ | ⟨_, hzu⟩
      · rw [touchAt_of hz'']; exact hza
      · obtain rfl : z = x := by simpa using hzu
        rw [hxt] at hza; cases hza
    · obtain rfl : z = y := by simpa using hzu
      rw [hyt] at hza; cases hza
  refine ⟨fun said => ?_, fun i a hia hm => .inl ?_, ?_, hd0, hdC⟩
  · refine noRace_append (noRace_append (hP.clean said) hux fun i a _ op hop b hb _ => ?_) huy fun i a _ op hop b hb _ => ?_
    · obtain rfl : op = x := by simpa using hop
      rw [hxt] at hb; cases hb
    · obtain rfl : op = y := by simpa using hop
      rw [hyt] at hb; cases hb
  · have hk : Knows t 0 i := (hP.known i a (hold i a hia) hm).elim id fun h => h.1.elim
    refine ⟨(hk.app _).app _, t.size + 1, y, hgy, hy.1, .inr ?_⟩
    exact (hb_app #[y] (hk.hb_new (Nat.le_refl _) (get_last t x) hx.1)).trans hedge
  · have h1 := over_app (t := t) (u := #[x]) (p := fun g => g ≠ 0) (fun i g hg hp hc => hP.over i g hg hp hc) (fun op hop => .inl fun hp => hp (hux op hop))
    have h2 := over_app (t := t ++ #[x]) (u := #[y]) (p := fun g => g ≠ 0) h1 (fun op hop => .inr (by obtain rfl : op = y := by simpa using hop
                                                                                                      exact hyt))
    exact fun i g hg h0 _ hcnt => h2 i g hg h0 hcnt
end
end Go.Proofs.Ytngmhkhncimknaa
