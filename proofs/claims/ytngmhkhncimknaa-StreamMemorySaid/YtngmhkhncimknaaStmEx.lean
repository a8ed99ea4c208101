/- StreamExact: what the law holds: two splitters, two of the reference's, boxes. -/
import Derived.Test.YtngmhkhncimknaaStmRefM
namespace Go.Proofs.Ytngmhkhncimknaa
open Go Go.Conc Go.RowKit
set_option linter.unusedVariables false
set_option linter.unusedSimpArgs false

/-- what Feed answers, and what it leaves; where the rest lies -/
def FedW2 (w : World) (n0 sp : Nat) (hv : List UInt8) (bad : Bool) (v : Value) (lb : List UInt8) (r : Value) (w' : World) : Prop :=
  ∃ B0 pv vs ps hv' bad' rv, w.heap.size ≤ B0 ∧ r = .tuple #[pv, .bool bad'] ∧ (ps, hv', bad') = fed1 (hv, bad) lb ∧ Own w' B0 30 pv vs ∧ Pays w' B0 w'.heap.size vs ps ∧ Spl n0 sp hv' bad' rv w' ∧ Save sp w w' ∧ (rv.ownBlock = v.ownBlock ∨ ∀ g, rv.ownBlock = some g → w.heap.size ≤ g)
theorem feed_w2 {Post : Value → World → Prop} {n0 sp : Nat} {hv : List UInt8} {bad : Bool} {v : Value} (Ab : Option Addr) (cb : Nat) (lb : List UInt8) (w : World) (hs : Spl n0 sp hv bad v w) (h0 : n0 ≤ w.heap.size) (hAb : Cells w Ab (Bs lb)) (hcb : lb.length ≤ cb ∧ cb ≤ 9223372036854775807) (hlen : hv.length + lb.length ≤ 1000000000) :
    callM Try.prog (XF Try.prog (XEnds Try.prog Post)) 11 #[.pointer (some ⟨sp, 0, none⟩), .slice Ab lb.length cb] (fun γ r w' => γ = none ∧ FedW2 w n0 sp hv bad v lb r w') none w := by
  cases bad with
  | false =>
    refine callM_mono (feed_good Ab cb lb w hs hAb hcb hlen) ?_
    rintro γ r w' ⟨rfl, B0, B1, vout, vs, rv, q1, q2, rfl, ho, hp, hsp, hrv, hold, hos, htp, hout, hsz⟩
    have hB1 : Pays w' B0 w'.heap.size vs (cutS (hv ++ lb)).1 := ⟨hp.len, hp.own, hp.apart, fun i h1 g hg => by
      have h2 : i < (cutS (hv ++ lb)).1.length := by rw [← hp.len]; exact h1
      exact (own_block (hp.own i h1 h2) hg).2.1⟩
    exact ⟨rfl, B0, vout, vs, _, _, _, rv, q1, rfl, by simp [fed1], ho, hB1, ⟨hsp, own_low hrv (by omega), hs.ge⟩, ⟨hos, htp, hout, hsz, hold⟩, .inr fun g hg => by have := (own_block hrv hg).1; omega⟩
  | true =>
    refine callM_mono (feed_bad (.slice Ab lb.length cb) w hs.blk) ?_
    rintro γ r w' ⟨rfl, rfl, hB⟩
    exact ⟨rfl, w.heap.size, .slice none 0 0, [], [], hv, true, v, Nat.le_refl _, rfl, by simp [fed1], (World.ownsRow_nil w' _ _ 1), Pays.nil _ _ _, hs.below hB, .of_below hB, .inl rfl⟩

/-- a function turned at one place -/
def turnAt {α : Type} (f : Nat → α) (i : Nat) (x : α) : Nat → α := fun j => if j = i then x else f j
theorem turnAt_same {α : Type} (f : Nat → α) (i : Nat) (x : α) : turnAt f i x i = x := by simp [turnAt]
theorem turnAt_ne {α : Type} (f : Nat → α) {i j : Nat} (x : α) (h : j ≠ i) : turnAt f i x j = f j := by simp [turnAt, h]

/-- a box that no call here writes -/
def Boxed (o : Obj) : Prop := ∃ cs t fr, o = Obj.cells cs t fr ∧ t ≠ 45 ∧ t ≠ 47 ∧ t ≠ 5

structure EXS (w0 : World) (sp tp : Nat → Nat) (h : Nat → List UInt8) (b : Nat → Bool) (v : Nat → Value) (k : Nat → List UInt8) (c : Nat → Bool) (u : Nat → Value) (L : List (Nat × Obj)) (w : World) : Prop where
  below : Below w0.heap.size w0 w
  spl : ∀ i, i < 2 → Spl w0.heap.size (sp i) (h i) (b i) (v i) w
  ref : ∀ i, i < 2 → RefS w0.heap.size (tp i) (k i) (c i) (u i) w
  whole : ∀ i, i < 2 → c i = false → Whole0 (k i)
  spne : ∀ i j, i < 2 → j < 2 → i ≠ j → sp i ≠ sp j
  tpne : ∀ i j, i < 2 → j < 2 → i ≠ j → tp i ≠ tp j
  uu : ∀ i j g, i < 2 → j < 2 → i ≠ j → (u i).ownBlock = some g → (u j).ownBlock ≠ some g
  uv : ∀ i j g, i < 2 → j < 2 → (u i).ownBlock = some g → (v j).ownBlock ≠ some g
  at_ : ∀ p ∈ L, w.heap[p.1]? = some p.2 ∧ Boxed p.2

section
variable {w0 w w' : World} {sp tp : Nat → Nat} {h k : Nat → List UInt8} {b c : Nat → Bool} {v u : Nat → Value} {L : List (Nat × Obj)}
theorem EXS.next (H : EXS w0 sp tp h b v k c u L w) (hb : Below w.heap.size w w') : EXS w0 sp tp h b v k c u L w' :=
  ⟨H.below.trans (hb.mono H.below.size), fun i hi => (H.spl i hi).below hb, fun i hi => (H.ref i hi).next hb, H.whole, H.spne, H.tpne, H.uu, H.uv, fun p hp => ⟨(hb.block _ (heap_lt (H.at_ p hp).1)).trans (H.at_ p hp).1, (H.at_ p hp).2⟩⟩
theorem EXS.rely (H : EXS w0 sp tp h b v k c u L w) (r : ∃ d, w' = w.at d) : EXS w0 sp tp h b v k c u L w' := by
  obtain ⟨d, rfl⟩ := r
  exact H.next ⟨rfl, rfl, rfl, Nat.le_refl _, fun _ _ => rfl⟩
theorem EXS.alloc (H : EXS w0 sp tp h b v k c u L w) (o : Obj) (ho : Boxed o) : EXS w0 sp tp h b v k c u ((w.heap.size, o) :: L) (w.alloc o) := by
  have H2 := H.next ((Below.refl w.heap.size w).alloc (Nat.le_refl _) o)
  exact ⟨H2.below, H2.spl, H2.ref, H2.whole, H2.spne, H2.tpne, H2.uu, H2.uv, fun p hp => by
    rcases List.mem_cons.1 hp with rfl | hp
    · exact ⟨heap_alloc_new w _, ho⟩
    · exact H2.at_ p hp⟩
theorem EXS.set (H : EXS w0 sp tp h b v k c u L w) {L' : List (Nat × Obj)} {g : Nat} {cs : Array Value} {t : TypeId} (i : Nat) (x : Value) (hL : L = (g, Obj.cells cs t (0, 0)) :: L') (hn : w0.heap.size ≤ g) (hd : ∀ p ∈ L', p.1 < g) : EXS w0 sp tp h b v k c u ((g, Obj.cells (cs.setIfInBounds i x) t (0, 0)) :: L') (w.setCell ⟨g, i, none⟩ x) := by
  subst hL
  obtain ⟨hg, cs', t', fr', e, ht1, ht2, ht3⟩ := H.at_ _ (List.mem_cons_self)
  simp only [Obj.cells.injEq] at e
  obtain ⟨rfl, rfl, rfl⟩ := e
  have hset : ∀ j, j ≠ g → (w.setCell ⟨g, i, none⟩ x).heap[j]? = w.heap[j]? := fun j hj => heap_setCell_other w ⟨g, i, none⟩ j x hj
  have hne : ∀ {j e}, isCells w j e → e ≠ t → j ≠ g := fun hc he e => he (by subst e; exact isCells_inj hc ⟨_, _, hg⟩)
  refine ⟨H.below.setCell (p := ⟨g, i, none⟩) hn x, fun j hj => ?_, fun j hj => ?_, H.whole, H.spne, H.tpne, H.uu, H.uv, fun p hp => ?_⟩
  · have hs := H.spl j hj
    exact ⟨(hset _ (hne ⟨_, _, hs.blk⟩ (Ne.symm ht1))).trans hs.blk, own_same hs.own fun g hg => hset g (hne (own_block hs.own hg).2.2 (Ne.symm ht3)), hs.ge⟩
  · have hs := H.ref j hj
    exact ⟨(hset _ (hne ⟨_, _, hs.blk⟩ (Ne.symm ht2))).trans hs.blk, own_same hs.own fun g hg => hset g (hne (own_block hs.own hg).2.2 (Ne.symm ht3)), hs.ge⟩
  · rcases List.mem_cons.1 hp with rfl | hp
    · exact ⟨heap_setCell_same w g i cs _ x hg, _, _, _, rfl, ht1, ht2, ht3⟩
    · have := hd p hp
      exact ⟨(hset _ (by omega)).trans (H.at_ p (List.mem_cons_of_mem _ hp)).1, (H.at_ p (List.mem_cons_of_mem _ hp)).2⟩
theorem EXS.cell (H : EXS w0 sp tp h b v k c u L w) {g i : Nat} {cs : Array Value} {t : TypeId} {x : Value} (hp : (g, Obj.cells cs t (0, 0)) ∈ L) (hx : cs[i]? = some x) : w.cell? ⟨g, i, none⟩ = some x := by
  rw [cell_of_row w g i _ _ _ (H.at_ _ hp).1]
  exact hx
theorem EXS.lt (H : EXS w0 sp tp h b v k c u L w) : ∀ p ∈ L, p.1 < w.heap.size := fun p hp => heap_lt (H.at_ p hp).1
theorem EXS.drop (H : EXS w0 sp tp h b v k c u L w) {L' : List (Nat × Obj)} (hL : ∀ p ∈ L', p ∈ L) : EXS w0 sp tp h b v k c u L' w :=
  ⟨H.below, H.spl, H.ref, H.whole, H.spne, H.tpne, H.uu, H.uv, fun p hp => H.at_ p (hL p hp)⟩

/-- .. and what the splitter answered -/
structure EXP (w0 : World) (sp tp : Nat → Nat) (h : Nat → List UInt8) (b : Nat → Bool) (v : Nat → Value) (k : Nat → List UInt8) (c : Nat → Bool) (u : Nat → Value) (L : List (Nat × Obj)) (A : Option Addr) (ps : List (List UInt8)) (w : World) : Prop where
  hx : EXS w0 sp tp h b v k c u L w
  pays : ∃ B0 pc vs, Own w B0 30 (.slice A ps.length pc) vs ∧ Pays w B0 w.heap.size vs ps ∧ ∀ i g, i < 2 → (u i).ownBlock = some g → g < B0
theorem EXP.next {A : Option Addr} {ps : List (List UInt8)} (H : EXP w0 sp tp h b v k c u L A ps w) (hb : Below w.heap.size w w') : EXP w0 sp tp h b v k c u L A ps w' := by
  obtain ⟨H, B0, pc, vs, h1, h2, h3⟩ := H
  exact ⟨H.next hb, B0, pc, vs, own_drewless h1 hb, (h2.same fun g _ hc => hb.block g (lt_of_isCells hc)).up hb.size, h3⟩
theorem EXP.rely {A : Option Addr} {ps : List (List UInt8)} (H : EXP w0 sp tp h b v k c u L A ps w) (r : ∃ d, w' = w.at d) : EXP w0 sp tp h b v k c u L A ps w' := by
  obtain ⟨d, rfl⟩ := r
  exact H.next ⟨rfl, rfl, rfl, Nat.le_refl _, fun _ _ => rfl⟩

theorem EXS.fed {i : Nat} {lb : List UInt8} {r : Value} (H : EXS w0 sp tp h b v k c u L w) (hi : i < 2) (hf : FedW2 w w0.heap.size (sp i) (h i) (b i) (v i) lb r w') :
    ∃ A pc ps h' b' v', r = .tuple #[.slice A ps.length pc, .bool b'] ∧ (ps, h', b') = fed1 (h i, b i) lb ∧ EXP w0 sp tp (turnAt h i h') (turnAt b i b') (turnAt v i v') k c u L A ps w' := by
  obtain ⟨B0, pv, vs, ps, hv', bad', rv, hB, rfl, hfed, hown, hpays, hspl, hsave, hrv⟩ := hf
  obtain ⟨A, pc, e, _, _, _⟩ := own_slice hown
  rw [hpays.len] at e
  subst e
  have hne : ∀ {j e}, isCells w j e → e ≠ 45 → j ≠ sp i := fun hc he e => he (by subst e; exact isCells_inj hc ⟨_, _, (H.spl i hi).blk⟩)
  have hkeep : ∀ {j e}, isCells w j e → e ≠ 45 → w'.heap[j]? = w.heap[j]? := fun hc he => hsave.block _ (lt_of_isCells hc) (hne hc he)
  refine ⟨A, pc, ps, hv', bad', rv, rfl, hfed, ⟨H.below.trans (hsave.below (H.spl i hi).ge H.below.size), fun j hj => ?_, fun j hj => ?_, H.whole, H.spne, H.tpne, H.uu, fun a j g ha hj hg => ?_, fun p hp => ?_⟩, B0, pc, vs, hown, hpays, fun j g hj hg => ?_⟩
  · by_cases e : j = i
    · subst e; rw [turnAt_same, turnAt_same, turnAt_same]; exact hspl
    · rw [turnAt_ne _ _ e, turnAt_ne _ _ e, turnAt_ne _ _ e]
      have hs := H.spl j hj
      exact ⟨(hsave.block _ (heap_lt hs.blk) (H.spne j i hj hi e)).trans hs.blk, own_same hs.own fun g hg => hkeep (own_block hs.own hg).2.2 (by decide), hs.ge⟩
  · have hs := H.ref j hj
    exact ⟨(hkeep ⟨_, _, hs.blk⟩ (by decide)).trans hs.blk, own_same hs.own fun g hg => hkeep (own_block hs.own hg).2.2 (by decide), hs.ge⟩
  · by_cases e : j = i
    · subst e
      rw [turnAt_same]
      rcases hrv with e | e
      · rw [e]; exact H.uv a j g ha hj hg
      · intro e2
        have := e g e2
        have := (own_block (H.ref a ha).own hg).2.1
        omega
    · rw [turnAt_ne _ _ e]
      exact H.uv a j g ha hj hg
  · obtain ⟨h1, cs, t, fr, e, t1, t2, t3⟩ := H.at_ p hp
    exact ⟨(hkeep ⟨cs, fr, by rw [h1, e]⟩ t1).trans h1, cs, t, fr, e, t1, t2, t3⟩
  · have := (own_block (H.ref j hj).own hg).2.1
    omega

/-- the reference's answer beside it -/
theorem EXP.rfed {i : Nat} {A : Option Addr} {ps : List (List UInt8)} {lb : List UInt8} {r : Value} (H : EXP w0 sp tp h b v k c u L A ps w) (hi : i < 2) (hf : FedT w0.heap.size (tp i) w (u i) (k i, c i) lb r w') :
    ∃ B qc qs h' b' u', r = .tuple #[.slice B qs.length qc, .bool b'] ∧ (qs, h', b') = fed1 (k i, c i) lb ∧ RowsB w' B qs ∧ RowsB w' A ps ∧ EXS w0 sp tp h b v (turnAt k i h') (turnAt c i b') (turnAt u i u') L w' := by
  obtain ⟨ov, us, qs, h', bad', u', rfl, hfed, hwh, hR⟩ := hf
  obtain ⟨H, B0, pc, vs, hown, hpays, hlow⟩ := H
  obtain ⟨B, qc, rfl, _, _, hrows⟩ := hR.rows.rows hR.out
  have hne : ∀ {j e}, isCells w j e → e ≠ 47 → j ≠ tp i := fun hc he e => he (by subst e; exact isCells_inj hc ⟨_, _, (H.ref i hi).blk⟩)
  have hown_u : ∀ {j e}, isCells w j e → e ≠ 5 → some j ≠ (u i).ownBlock := fun hc he e => he (isCells_inj hc (own_block (H.ref i hi).own e.symm).2.2)
  have hkeep : ∀ {j e}, isCells w j e → e ≠ 47 → e ≠ 5 → w'.heap[j]? = w.heap[j]? := fun hc he he2 => hR.save.block _ (lt_of_isCells hc) (hne hc he) (hown_u hc he2)
  have hkeep8 : ∀ {j}, isCells w j 5 → some j ≠ (u i).ownBlock → w'.heap[j]? = w.heap[j]? := fun hc he => hR.save.block _ (lt_of_isCells hc) (hne hc (by decide)) he
  have hpays' : Pays w' B0 w'.heap.size vs ps := (hpays.same fun g hg hc => hkeep8 hc fun e => by have := hlow i g hi e.symm; omega).up hR.save.size
  have hown' : Own w' B0 30 (.slice A ps.length pc) vs := own_same hown fun g hg => hkeep (own_block hown hg).2.2 (by decide) (by decide)
  have hrowsA : RowsB w' A ps := by
    obtain ⟨A', c', e, _, _, hr⟩ := rows_of hown' hpays'
    obtain ⟨rfl, _⟩ : A = A' ∧ pc = c' := by simpa using e
    exact hr
  have hbel : Below w0.heap.size w0 w' := H.below.trans ⟨hR.save.os, hR.save.tape, hR.save.output, hR.save.size, fun j hj => hR.save.block j (Nat.lt_of_lt_of_le hj H.below.size) (by have := (H.ref i hi).ge; omega) fun e => by have := (own_block (H.ref i hi).own e.symm).1; omega⟩
  refine ⟨B, qc, qs, h', bad', u', rfl, hfed, hrows, hrowsA, ⟨hbel, fun j hj => ?_, fun j hj => ?_, fun j hj hb => ?_, H.spne, H.tpne, fun a j g ha hj hne2 hg => ?_, fun a j g ha hj hg => ?_, fun p hp => ?_⟩⟩
  · have hs := H.spl j hj
    exact ⟨(hkeep ⟨_, _, hs.blk⟩ (by decide) (by decide)).trans hs.blk, own_same hs.own fun g hg => hkeep8 (own_block hs.own hg).2.2 fun e => H.uv i j g hi hj e.symm hg, hs.ge⟩
  · by_cases e : j = i
    · subst e; rw [turnAt_same, turnAt_same, turnAt_same]; exact hR.ref
    · rw [turnAt_ne _ _ e, turnAt_ne _ _ e, turnAt_ne _ _ e]
      have hs := H.ref j hj
      refine ⟨(hR.save.block _ (heap_lt hs.blk) (H.tpne j i hj hi e) (hown_u ⟨_, _, hs.blk⟩ (by decide))).trans hs.blk, own_same hs.own fun g hg => hkeep8 (own_block hs.own hg).2.2 fun e2 => H.uu j i g hj hi e hg e2.symm, hs.ge⟩
  · by_cases e : j = i
    · subst e; rw [turnAt_same] at hb ⊢; exact hwh hb
    · rw [turnAt_ne _ _ e] at hb ⊢; exact H.whole j hj hb
  · by_cases e1 : a = i
    · by_cases e2 : j = i
      · omega
      · subst e1
        rw [turnAt_same] at hg
        rw [turnAt_ne _ _ e2]
        rcases hR.ob with e | e
        · rw [e] at hg; exact H.uu a j g ha hj hne2 hg
        · intro e3
          have := e g hg
          have := (own_block (H.ref j hj).own e3).2.1
          omega
    · rw [turnAt_ne _ _ e1] at hg
      by_cases e2 : j = i
      · subst e2
        rw [turnAt_same]
        rcases hR.ob with e | e
        · rw [e]; exact H.uu a j g ha hj hne2 hg
        · intro e3
          have := e g e3
          have := (own_block (H.ref a ha).own hg).2.1
          omega
      · rw [turnAt_ne _ _ e2]
        exact H.uu a j g ha hj hne2 hg
  · by_cases e1 : a = i
    · subst e1
      rw [turnAt_same] at hg
      rcases hR.ob with e | e
      · rw [e] at hg; exact H.uv a j g ha hj hg
      · intro e3
        have := e g hg
        have := (own_block (H.spl j hj).own e3).2.1
        omega
    · rw [turnAt_ne _ _ e1] at hg
      exact H.uv a j g ha hj hg
  · obtain ⟨h1, cs, t, fr, e, t1, t2, t3⟩ := H.at_ p hp
    exact ⟨(hkeep ⟨cs, fr, by rw [h1, e]⟩ t2 t3).trans h1, cs, t, fr, e, t1, t2, t3⟩
end
end Go.Proofs.Ytngmhkhncimknaa
