/- StreamMemory: what the law holds while it feeds. -/
import Derived.Test.YtngmhkhncimknaaStmEx
import Derived.Test.YtngmhkhncimknaaStmHold
namespace Go.Proofs.Ytngmhkhncimknaa
open Go Go.Conc Go.RowKit
set_option linter.unusedVariables false
set_option linter.unusedSimpArgs false

/-- the blocks that these slices lie in -/
def Blks (us : List Value) (g : Nat) : Prop := ∃ o n c, Value.slice (some ⟨g, o, none⟩) n c ∈ us
theorem blks_append {us xs : List Value} {g : Nat} : Blks (us ++ xs) g ↔ Blks us g ∨ Blks xs g := by
  unfold Blks
  constructor
  · rintro ⟨o, n, c, h⟩
    rcases List.mem_append.1 h with h | h
    · exact .inl ⟨o, n, c, h⟩
    · exact .inr ⟨o, n, c, h⟩
  · rintro (⟨o, n, c, h⟩ | ⟨o, n, c, h⟩)
    · exact ⟨o, n, c, List.mem_append_left _ h⟩
    · exact ⟨o, n, c, List.mem_append_right _ h⟩
theorem PayR.blk {w : World} {x : Option Nat} {us : List Value} {ps : List (List UInt8)} (h : PayR w x us ps) {g : Nat} (hg : Blks us g) : isCells w g 5 ∧ some g ≠ x := by
  obtain ⟨o, n, c, hm⟩ := hg
  obtain ⟨i, hi, he⟩ := List.mem_iff_getElem.1 hm
  obtain ⟨g', o', c', e, _, _, q3, q4, _⟩ := h.2 i hi (by rw [← h.1]; exact hi)
  rw [he] at e
  obtain ⟨⟨rfl, _⟩, _⟩ : (g = g' ∧ o = o') ∧ n = _ ∧ c = c' := by simpa using e
  exact ⟨q3, q4⟩
/-- payloads that lie where they lay -/
theorem PayR.same2 {w w' : World} {x x' : Option Nat} {us : List Value} {ps : List (List UInt8)} (h : PayR w x us ps) (hs : ∀ g, Blks us g → isCells w g 5 → some g ≠ x → w'.heap[g]? = w.heap[g]? ∧ some g ≠ x') : PayR w' x' us ps := by
  refine ⟨h.1, fun i h1 h2 => ?_⟩
  obtain ⟨g, o, c, e, q1, q2, q3, q4, q5⟩ := h.2 i h1 h2
  have hb : Blks us g := ⟨o, _, c, by rw [← e]; exact List.getElem_mem h1⟩
  obtain ⟨s1, s2⟩ := hs g hb q3 q4
  refine ⟨g, o, c, e, q1, q2, ?_, s2, fun h0 => ?_⟩
  · obtain ⟨a, b, hc⟩ := q3
    exact ⟨a, b, s1.trans hc⟩
  · obtain ⟨b, o', e', hc⟩ := q5 h0
    cases e'
    exact ⟨_, _, rfl, fun j hj => by rw [← hc j hj]; unfold World.cell?; rw [s1]⟩
theorem PayR.append {w : World} {x : Option Nat} {us vs : List Value} {ps qs : List (List UInt8)} (h : PayR w x us ps) (g : PayR w x vs qs) : PayR w x (us ++ vs) (ps ++ qs) := by
  have hl := h.1
  have hk := g.1
  refine ⟨by simp [hl, hk], fun i h1 h2 => ?_⟩
  simp only [List.getElem_append]
  by_cases hi : i < us.length
  · rw [dif_pos hi, dif_pos (by omega)]
    exact h.2 i hi (by omega)
  · rw [dif_neg hi, dif_neg (by omega)]
    simp only [hl]
    simp only [List.length_append] at h1 h2
    exact g.2 (i - ps.length) (by omega) (by omega)
theorem pays_same2 {w w' : World} {B0 B1 : Nat} {vs : List Value} {ps : List (List UInt8)} (h : Pays w B0 B1 vs ps) (hs : ∀ x ∈ vs, ∀ g, x.ownBlock = some g → isCells w g 5 → w'.heap[g]? = w.heap[g]?) : Pays w' B0 B1 vs ps :=
  ⟨h.len, fun i h1 h2 => own_same (h.own i h1 h2) fun g hg => hs _ (List.getElem_mem h1) g hg (own_block (h.own i h1 h2) hg).2.2, h.apart, h.lt⟩
theorem pays_mem {w : World} {B0 B1 : Nat} {vs : List Value} {ps : List (List UInt8)} (h : Pays w B0 B1 vs ps) {x : Value} (hx : x ∈ vs) {g : Nat} (hg : x.ownBlock = some g) : B0 ≤ g ∧ g < w.heap.size ∧ isCells w g 5 := by
  obtain ⟨i, hi, rfl⟩ := List.mem_iff_getElem.1 hx
  exact own_block (h.own i hi (by rw [← h.len]; exact hi)) hg

/-- both splitters, and what came out of them -/
structure MS (w0 : World) (sp tp : Nat) (h : List UInt8) (b : Bool) (v u kv wv : Value) (ks us : List Value) (ps : List (List UInt8)) (w : World) : Prop where
  below : Below w0.heap.size w0 w
  spl : Spl w0.heap.size sp h b v w
  ref : RefS w0.heap.size tp h b u w
  whole : b = false → Whole0 h
  kown : Own w w0.heap.size 30 kv ks
  kpay : Pays w w0.heap.size w.heap.size ks ps
  wown : Own w w0.heap.size 30 wv us
  wpay : PayR w u.ownBlock us ps
  kw : ∀ g, kv.ownBlock = some g → wv.ownBlock ≠ some g
  uk : ∀ x ∈ ks, ∀ g, x.ownBlock = some g → u.ownBlock ≠ some g
  uv : ∀ g, u.ownBlock = some g → v.ownBlock ≠ some g
/-- a block that is none of theirs -/
structure GNe (gv : Nat) (v u : Value) (ks us : List Value) : Prop where
  v : v.ownBlock ≠ some gv
  u : u.ownBlock ≠ some gv
  ks : ∀ x ∈ ks, x.ownBlock ≠ some gv
  us : ∀ g, Blks us g → g ≠ gv

section
variable {w0 w w' : World} {sp tp : Nat} {h : List UInt8} {b : Bool} {v u kv wv : Value} {ks us : List Value} {ps : List (List UInt8)}
theorem MS.next (H : MS w0 sp tp h b v u kv wv ks us ps w) (hb : Below w.heap.size w w') : MS w0 sp tp h b v u kv wv ks us ps w' :=
  ⟨H.below.trans (hb.mono H.below.size), H.spl.below hb, H.ref.next hb, H.whole, own_drewless H.kown hb, (H.kpay.same fun g _ hc => hb.block g (lt_of_isCells hc)).up hb.size, own_drewless H.wown hb, H.wpay.same fun g hc hn => ⟨hb.block g (lt_of_isCells hc), hn⟩, H.kw, H.uk, H.uv⟩
theorem MS.rely (H : MS w0 sp tp h b v u kv wv ks us ps w) (r : ∃ d, w' = w.at d) : MS w0 sp tp h b v u kv wv ks us ps w' := by
  obtain ⟨d, rfl⟩ := r
  exact H.next ⟨rfl, rfl, rfl, Nat.le_refl _, fun _ _ => rfl⟩
theorem MS.fresh (H : MS w0 sp tp h b v u kv wv ks us ps w) {gv : Nat} (hg : w.heap.size ≤ gv) : GNe gv v u ks us :=
  ⟨fun e => by have := (own_block H.spl.own e).2.1; omega, fun e => by have := (own_block H.ref.own e).2.1; omega, fun x hx e => by have := (pays_mem H.kpay hx e).2.1; omega, fun g hb e => by have := lt_of_isCells (H.wpay.blk hb).1; omega⟩

theorem fedW2_at {n0 : Nat} {hv : List UInt8} {bad : Bool} {v : Value} {lb : List UInt8} {r : Value} (hf : FedW2 w n0 sp hv bad v lb r w') (d : Nat) : FedW2 w n0 sp hv bad v lb r (w'.at d) := by
  obtain ⟨B0, pv, vs, ps, hv', bad', rv, hB, rfl, hfed, hown, hpays, hspl, hsave, hrv⟩ := hf
  exact ⟨B0, pv, vs, ps, hv', bad', rv, hB, rfl, hfed, hown, at_pays hpays d, at_spl hspl d, ⟨hsave.os, hsave.tape, hsave.output, hsave.size, hsave.block⟩, hrv⟩

/-- the splitter is fed, the reference not yet -/
structure MSF (w0 : World) (sp tp : Nat) (h : List UInt8) (b : Bool) (v u kv wv : Value) (ks us : List Value) (ps : List (List UInt8)) (gv : Nat) (given : Value) (gl : List UInt8) (lb : List UInt8) (r : Value) (w : World) : Prop where
  prev : ∃ wp, MS w0 sp tp h b v u kv wv ks us ps wp ∧ FedW2 wp w0.heap.size sp h b v lb r w ∧ gv < wp.heap.size ∧ Own wp w0.heap.size 5 given (Bs gl) ∧ given.ownBlock = some gv
  ne : GNe gv v u ks us
theorem MSF.rely {gv : Nat} {given : Value} {gl lb : List UInt8} {r : Value} (H : MSF w0 sp tp h b v u kv wv ks us ps gv given gl lb r w) (q : ∃ d, w' = w.at d) : MSF w0 sp tp h b v u kv wv ks us ps gv given gl lb r w' := by
  obtain ⟨⟨wp, h1, h2, h3⟩, h4⟩ := H
  obtain ⟨d, rfl⟩ := q
  exact ⟨⟨wp, h1, fedW2_at h2 d, h3⟩, h4⟩
theorem MSF.sv {gv : Nat} {given : Value} {gl lb : List UInt8} {r : Value} (H : MSF w0 sp tp h b v u kv wv ks us ps gv given gl lb r w) : ∃ wp, MS w0 sp tp h b v u kv wv ks us ps wp ∧ Save sp wp w := by
  obtain ⟨⟨wp, h1, ⟨B0, pv, vs, ps', hv', bad', rv, hB, _, _, _, _, _, hsave, _⟩, _⟩, _⟩ := H
  exact ⟨wp, h1, hsave⟩
theorem MSF.keep {wp : World} (H : MS w0 sp tp h b v u kv wv ks us ps wp) (hs : Save sp wp w) {g : Nat} {e : TypeId} (hc : isCells wp g e) (he : e ≠ 45) : w.heap[g]? = wp.heap[g]? :=
  hs.block g (lt_of_isCells hc) fun e2 => he (by subst e2; exact isCells_inj hc ⟨_, _, H.spl.blk⟩)
theorem MSF.ref {gv : Nat} {given : Value} {gl lb : List UInt8} {r : Value} (H : MSF w0 sp tp h b v u kv wv ks us ps gv given gl lb r w) : RefS w0.heap.size tp h b u w := by
  obtain ⟨wp, h1, hs⟩ := H.sv
  exact ⟨(MSF.keep h1 hs ⟨_, _, h1.ref.blk⟩ (by decide)).trans h1.ref.blk, own_same h1.ref.own fun g hg => MSF.keep h1 hs (own_block h1.ref.own hg).2.2 (by decide), h1.ref.ge⟩
theorem MSF.below {gv : Nat} {given : Value} {gl lb : List UInt8} {r : Value} (H : MSF w0 sp tp h b v u kv wv ks us ps gv given gl lb r w) : Below w0.heap.size w0 w := by
  obtain ⟨wp, h1, hs⟩ := H.sv
  exact h1.below.trans (hs.below h1.spl.ge h1.below.size)
theorem MSF.whole {gv : Nat} {given : Value} {gl lb : List UInt8} {r : Value} (H : MSF w0 sp tp h b v u kv wv ks us ps gv given gl lb r w) : b = false → Whole0 h := by
  obtain ⟨wp, h1, hs⟩ := H.sv
  exact h1.whole

/-- both are fed -/
structure MSR (w0 : World) (sp tp : Nat) (h : List UInt8) (b : Bool) (v u kv wv : Value) (ks us : List Value) (ps : List (List UInt8)) (pv qv : Value) (vs xs : List Value) (qs : List (List UInt8)) (w : World) : Prop where
  below : Below w0.heap.size w0 w
  spl : Spl w0.heap.size sp h b v w
  ref : RefS w0.heap.size tp h b u w
  whole : b = false → Whole0 h
  kown : Own w w0.heap.size 30 kv ks
  kpay : Pays w w0.heap.size w.heap.size (ks ++ vs) (ps ++ qs)
  wown : Own w w0.heap.size 30 wv us
  wpay : PayR w u.ownBlock (us ++ xs) (ps ++ qs)
  pown : Own w w0.heap.size 30 pv vs
  qown : Own w w0.heap.size 30 qv xs
  len : ks.length = ps.length ∧ us.length = ps.length ∧ vs.length = qs.length ∧ xs.length = qs.length
  kw : ∀ g, kv.ownBlock = some g → wv.ownBlock ≠ some g
  kq : ∀ g, kv.ownBlock = some g → qv.ownBlock ≠ some g
  uk : ∀ x ∈ ks ++ vs, ∀ g, x.ownBlock = some g → u.ownBlock ≠ some g
  uv : ∀ g, u.ownBlock = some g → v.ownBlock ≠ some g

theorem pays_last {B0 : Nat} {pv : Value} {vs : List Value} {qs : List (List UInt8)} (ho : Own w B0 30 pv vs) (hp : Pays w B0 w.heap.size vs qs) : B0 ≤ w.heap.size ∨ vs = [] := by
  rcases vs with _ | ⟨x, vs⟩
  · exact .inr rfl
  · left
    rcases ho.2 with ⟨_, h1⟩ | ⟨g', cap, cur, rfl, _, _⟩
    · simp at h1
    · have := own_block ho (g := g') rfl
      omega

theorem MSF.rfed {gv : Nat} {given : Value} {gl lb : List UInt8} {r r2 : Value} (H : MSF w0 sp tp h b v u kv wv ks us ps gv given gl lb r w) (hf : FedT w0.heap.size tp w u (h, b) lb r2 w') :
    ∃ pv qv vs xs qs h' b' v' u', r = .tuple #[pv, .bool b'] ∧ r2 = .tuple #[qv, .bool b'] ∧ (qs, h', b') = fed1 (h, b) lb ∧ MSR w0 sp tp h' b' v' u' kv wv ks us ps pv qv vs xs qs w' ∧ Own w' w0.heap.size 5 given (Bs gl) ∧ GNe gv v' u' (ks ++ vs) (us ++ xs) := by
  obtain ⟨⟨wp, P, ⟨B0, pv, vs, qs, h', b', v', hB, rfl, hfed, hown, hpays, hspl, hsave, hrv⟩, hgl, hgo, hgb⟩, hne⟩ := H
  obtain ⟨qv, xs, qs2, h2, b2, u', rfl, hfed2, hwh, hR⟩ := hf
  obtain ⟨rfl, rfl, rfl⟩ : qs = qs2 ∧ h' = h2 ∧ b' = b2 := by simpa using hfed.trans hfed2.symm
  have hk1 : ∀ {g e}, isCells wp g e → e ≠ 45 → w.heap[g]? = wp.heap[g]? := fun hc he => MSF.keep P hsave hc he
  have hcw : ∀ {g e}, isCells wp g e → e ≠ 45 → isCells w g e := fun hc he => by
    obtain ⟨a, c, hh⟩ := hc
    exact ⟨a, c, (hk1 ⟨a, c, hh⟩ he).trans hh⟩
  have htp : isCells w tp 47 := hcw ⟨_, _, P.ref.blk⟩ (by decide)
  have huo : Own w w0.heap.size 5 u (Bs h) := own_same P.ref.own fun g hg => hk1 (own_block P.ref.own hg).2.2 (by decide)
  have hk2 : ∀ {g e}, isCells w g e → e ≠ 47 → some g ≠ u.ownBlock → w'.heap[g]? = w.heap[g]? := fun hc he hu => hR.save.block _ (lt_of_isCells hc) (fun e2 => he (by subst e2; exact isCells_inj hc htp)) hu
  have hnu : ∀ {g e}, isCells w g e → e ≠ 5 → some g ≠ u.ownBlock := fun hc he e2 => he (isCells_inj hc (own_block huo e2.symm).2.2)
  have hks : ∀ {g e}, isCells wp g e → e ≠ 45 → e ≠ 47 → some g ≠ u.ownBlock → w'.heap[g]? = wp.heap[g]? := fun hc h1 h2 h3 => (hk2 (hcw hc h1) h2 h3).trans (hk1 hc h1)
  have hsz : wp.heap.size ≤ w.heap.size := hsave.size
  have hsz2 : w.heap.size ≤ w'.heap.size := hR.save.size
  have hub : ∀ g, u.ownBlock = some g → g < wp.heap.size := fun g hg => (own_block P.ref.own hg).2.1
  have hbel : Below w0.heap.size w0 w := P.below.trans (hsave.below P.spl.ge P.below.size)
  have hu' : ∀ g, u'.ownBlock = some g → u.ownBlock = some g ∨ w.heap.size ≤ g := fun g hg => by
    rcases hR.ob with e | e
    · exact .inl (by rw [← e]; exact hg)
    · exact .inr (e g hg)
  have hn0 : w0.heap.size ≤ w.heap.size := hbel.size
  have hvs : ∀ x ∈ vs, ∀ g, x.ownBlock = some g → B0 ≤ g ∧ g < w.heap.size ∧ isCells w g 5 := fun x hx g hg => by
    obtain ⟨i, hi, rfl⟩ := List.mem_iff_getElem.1 hx
    exact own_block (hpays.own i hi (by rw [← hpays.len]; exact hi)) hg
  have hkp1 : Pays w' w0.heap.size wp.heap.size ks ps := pays_same2 P.kpay fun x hx g hg hc => hks hc (by decide) (by decide) fun e => P.uk x hx g hg e.symm
  have hvp1 : Pays w' B0 w.heap.size vs qs := pays_same2 hpays fun x hx g hg hc => hk2 hc (by decide) fun e => by have := hub g e.symm; have := (hvs x hx g hg).1; omega
  have hpo' : Own w' B0 30 pv vs := own_same hown fun g hg => hk2 (own_block hown hg).2.2 (by decide) (hnu (own_block hown hg).2.2 (by decide))
  have hko' : Own w' w0.heap.size 30 kv ks := own_same P.kown fun g hg => hks (own_block P.kown hg).2.2 (by decide) (by decide) (hnu (hcw (own_block P.kown hg).2.2 (by decide)) (by decide))
  have hwo' : Own w' w0.heap.size 30 wv us := own_same P.wown fun g hg => hks (own_block P.wown hg).2.2 (by decide) (by decide) (hnu (hcw (own_block P.wown hg).2.2 (by decide)) (by decide))
  have hgo' : Own w' w0.heap.size 5 given (Bs gl) := own_same hgo fun g hg => hks (own_block hgo hg).2.2 (by decide) (by decide) fun e => by
    rw [hgb] at hg
    cases hg
    exact hne.u e.symm
  have husb : ∀ g, Blks us g → g < wp.heap.size ∧ some g ≠ u.ownBlock := fun g hg => ⟨lt_of_isCells (P.wpay.blk hg).1, (P.wpay.blk hg).2⟩
  have hwp1 : PayR w' u'.ownBlock us ps := P.wpay.same2 fun g hb hc hn => ⟨hks hc (by decide) (by decide) hn, fun e => by
    rcases hu' g e.symm with e2 | e2
    · exact hn e2.symm
    · have := lt_of_isCells hc; omega⟩
  refine ⟨pv, qv, vs, xs, qs, h', b', v', u', rfl, rfl, hfed, ⟨hbel.trans ?_, ?_, hR.ref, hwh, hko', ?_, hwo', hwp1.append hR.rows, own_low hpo' (by have := P.below.size; omega), own_low hR.out hn0, ⟨P.kpay.len, P.wpay.1, hpays.len, hR.rows.1⟩, P.kw, fun g hg e => ?_, fun x hx g hg e => ?_, fun g hg e => ?_⟩, hgo', ⟨fun e => ?_, fun e => ?_, fun x hx e => ?_, fun g hg => ?_⟩⟩
  · exact ⟨hR.save.os, hR.save.tape, hR.save.output, hR.save.size, fun j hj => hR.save.block j (by omega) (by have := P.ref.ge; omega) fun e => by have := (own_block P.ref.own e.symm).1; omega⟩
  · refine ⟨(hk2 ⟨_, _, hspl.blk⟩ (by decide) (hnu ⟨_, _, hspl.blk⟩ (by decide))).trans hspl.blk, own_same hspl.own fun g hg => hk2 (own_block hspl.own hg).2.2 (by decide) fun e => ?_, hspl.ge⟩
    rcases hrv with e2 | e2
    · rw [e2] at hg
      exact P.uv g e.symm hg
    · have := e2 g hg
      have := hub g e.symm
      omega
  · rcases pays_last hown hpays with hb2 | rfl
    · exact (hkp1.up hB).append (hvp1.up hsz2) (Nat.le_trans P.below.size hB) (Nat.le_trans hb2 hsz2)
    · have e : qs = [] := List.eq_nil_of_length_eq_zero (by rw [← hpays.len]; rfl)
      subst e
      rw [List.append_nil, List.append_nil]
      exact hkp1.up (Nat.le_trans hsz hsz2)
  · have h1 := (own_block P.kown hg).2.1
    have h2 := (own_block hR.out e).1
    omega
  · rcases List.mem_append.1 hx with hx | hx
    · rcases hu' g e with e2 | e2
      · exact P.uk x hx g hg e2
      · have := (pays_mem P.kpay hx hg).2.1
        omega
    · have h1 := hvs x hx g hg
      rcases hu' g e with e2 | e2
      · have := hub g e2
        omega
      · omega
  · rcases hrv with e2 | e2
    · rw [e2] at e
      rcases hu' g hg with e3 | e3
      · exact P.uv g e3 e
      · have := (own_block P.spl.own e).2.1
        omega
    · have h1 := e2 g e
      have h2 := (own_block hspl.own e).2.1
      rcases hu' g hg with e3 | e3
      · have := hub g e3
        omega
      · omega
  · rcases hrv with e2 | e2
    · rw [e2] at e; exact hne.v e
    · have := e2 gv e
      omega
  · rcases hu' gv e with e2 | e2
    · exact hne.u e2
    · omega
  · rcases List.mem_append.1 hx with hx | hx
    · exact hne.ks x hx e
    · have := (hvs x hx gv e).1
      omega
  · rintro rfl
    rcases blks_append.1 hg with hg | ⟨o, n, c, hg⟩
    · exact hne.us g hg rfl
    · rcases hR.src g o n c hg with e | e
      · exact hne.u e.symm
      · omega

/-- whatever only makes memory -/
theorem MSR.next {pv qv : Value} {vs xs : List Value} {qs : List (List UInt8)} (H : MSR w0 sp tp h b v u kv wv ks us ps pv qv vs xs qs w) (hb : Below w.heap.size w w') : MSR w0 sp tp h b v u kv wv ks us ps pv qv vs xs qs w' :=
  ⟨H.below.trans (hb.mono H.below.size), H.spl.below hb, H.ref.next hb, H.whole, own_drewless H.kown hb, (H.kpay.same fun g _ hc => hb.block g (lt_of_isCells hc)).up hb.size, own_drewless H.wown hb, H.wpay.same fun g hc hn => ⟨hb.block g (lt_of_isCells hc), hn⟩, own_drewless H.pown hb, own_drewless H.qown hb, H.len, H.kw, H.kq, H.uk, H.uv⟩
theorem MSR.rely {pv qv : Value} {vs xs : List Value} {qs : List (List UInt8)} (H : MSR w0 sp tp h b v u kv wv ks us ps pv qv vs xs qs w) (r : ∃ d, w' = w.at d) : MSR w0 sp tp h b v u kv wv ks us ps pv qv vs xs qs w' := by
  obtain ⟨d, rfl⟩ := r
  exact H.next ⟨rfl, rfl, rfl, Nat.le_refl _, fun _ _ => rfl⟩
/-- a store into a block of bytes that is none of theirs -/
theorem MSR.write {pv qv : Value} {vs xs : List Value} {qs : List (List UInt8)} {gv : Nat} (H : MSR w0 sp tp h b v u kv wv ks us ps pv qv vs xs qs w) (hne : GNe gv v u (ks ++ vs) (us ++ xs)) (hg : isCells w gv 5) (h0 : w0.heap.size ≤ gv) (i : Nat) (x : Value) : MSR w0 sp tp h b v u kv wv ks us ps pv qv vs xs qs (w.setCell ⟨gv, i, none⟩ x) := by
  have hset : ∀ j, j ≠ gv → (w.setCell ⟨gv, i, none⟩ x).heap[j]? = w.heap[j]? := fun j hj => heap_setCell_other w ⟨gv, i, none⟩ j x hj
  have hty : ∀ {j e}, isCells w j e → e ≠ 5 → j ≠ gv := fun hc he e2 => he (by subst e2; exact isCells_inj hc hg)
  have hsz : (w.setCell ⟨gv, i, none⟩ x).heap.size = w.heap.size := by simp
  refine ⟨H.below.setCell (p := ⟨gv, i, none⟩) h0 x, ⟨(hset _ (hty ⟨_, _, H.spl.blk⟩ (by decide))).trans H.spl.blk, own_same H.spl.own fun g hg => hset g fun e => hne.v (by rw [← e]; exact hg), H.spl.ge⟩,
    ⟨(hset _ (hty ⟨_, _, H.ref.blk⟩ (by decide))).trans H.ref.blk, own_same H.ref.own fun g hg => hset g fun e => hne.u (by rw [← e]; exact hg), H.ref.ge⟩, H.whole,
    own_same H.kown fun g hg => hset g (hty (own_block H.kown hg).2.2 (by decide)), ?_, own_same H.wown fun g hg => hset g (hty (own_block H.wown hg).2.2 (by decide)), H.wpay.same2 fun g hb hc hn => ⟨hset g (hne.us g hb), hn⟩,
    own_same H.pown fun g hg => hset g (hty (own_block H.pown hg).2.2 (by decide)), own_same H.qown fun g hg => hset g (hty (own_block H.qown hg).2.2 (by decide)), H.len, H.kw, H.kq, H.uk, H.uv⟩
  rw [hsz]
  exact pays_same2 H.kpay fun y hy g hg _ => hset g fun e => hne.ks y hy (by rw [← e]; exact hg)
end
end Go.Proofs.Ytngmhkhncimknaa
