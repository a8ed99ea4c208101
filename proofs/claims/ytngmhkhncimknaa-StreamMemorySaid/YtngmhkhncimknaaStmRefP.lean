/- The reference's way, byte by byte: what it holds, and plain laws of one byte more. -/
import Derived.Test.YtngmhkhncimknaaStmApp
import Derived.Deep.RegionHeld3
namespace Go.Proofs.Ytngmhkhncimknaa
open Go Go.Conc Go.RowKit
set_option linter.unusedVariables false
set_option linter.unusedSimpArgs false

/-- bytes at whose front no frame is whole -/
def Whole0 (h : List UInt8) : Prop := frOK h = true ∧ (frN h = 0 ∨ h.length < frN h)
theorem whole0_rest : ∀ (n : Nat) (l : List UInt8), l.length = n → (cutS l).2.2 = false → Whole0 (cutS l).2.1 := by
  intro n
  induction n using Nat.strongRecOn with
  | _ n ih =>
    intro l hl hb
    by_cases h1 : frOK l = true
    · by_cases h2 : frN l = 0 ∨ l.length < frN l
      · rw [(cutS_rest h1 h2).2]
        exact ⟨h1, h2⟩
      · have h3 := cutS_more h1 (by omega) (by omega)
        have h5 : 3 < frN l ∧ frN l ≤ 259 := by rcases frN_zero_or h1 with h | h <;> omega
        rw [h3.2] at hb ⊢
        exact ih (l.drop (frN l)).length (by simp; omega) _ rfl hb
    · rw [(cutS_bad (by simpa using h1)).2] at hb
      cases hb

/-- what one byte more does -/
inductive Byte1 (h : List UInt8) (x : UInt8) : Prop
  | bad1 (hl : h = []) (hx : x ≠ 165) (hc : cutS (h ++ [x]) = ([], [], true))
  | rest (hl : h.length < 2) (hx : h = [] → x = 165) (hc : cutS (h ++ [x]) = ([], h ++ [x], false))
  | bad3 (hl : h.length = 2) (hn : lenN ((h ++ [x]).getD 1 0) ((h ++ [x]).getD 2 0) = 0 ∨ 256 < lenN ((h ++ [x]).getD 1 0) ((h ++ [x]).getD 2 0)) (hc : cutS (h ++ [x]) = ([], [], true))
  | rest3 (hl : h.length = 2) (hn : 1 ≤ lenN ((h ++ [x]).getD 1 0) ((h ++ [x]).getD 2 0) ∧ lenN ((h ++ [x]).getD 1 0) ((h ++ [x]).getD 2 0) ≤ 256) (hc : cutS (h ++ [x]) = ([], h ++ [x], false))
  | more (hl : 3 ≤ h.length) (hn : h.length + 1 ≠ 3 + lenN ((h ++ [x]).getD 1 0) ((h ++ [x]).getD 2 0)) (h2 : lenN ((h ++ [x]).getD 1 0) ((h ++ [x]).getD 2 0) ≤ 256) (hc : cutS (h ++ [x]) = ([], h ++ [x], false))
  | out (hl : 3 ≤ h.length) (hn : h.length + 1 = 3 + lenN ((h ++ [x]).getD 1 0) ((h ++ [x]).getD 2 0)) (h2 : lenN ((h ++ [x]).getD 1 0) ((h ++ [x]).getD 2 0) ≤ 256) (hc : cutS (h ++ [x]) = ([(h ++ [x]).drop 3], [], false))

theorem byte1 {h : List UInt8} {x : UInt8} (hw : Whole0 h) : Byte1 h x := by
  have pr : ∀ {l : List UInt8} {a b c}, (cutS l).1 = a → (cutS l).2 = (b, c) → cutS l = (a, b, c) := fun h1 h2 => Prod.ext h1 h2
  match h, hw with
  | [], hw =>
    by_cases hx : x = 165
    · subst hx
      have := cutS_rest (l := [165]) (by decide) (.inl (by decide))
      exact .rest (by simp) (fun _ => rfl) (pr this.1 this.2)
    · have := cutS_bad (l := [x]) (by simp [frOK, hx])
      exact .bad1 rfl hx (pr this.1 this.2)
  | [y], hw =>
    have hy : y = 165 := by
      have := hw.1
      by_cases hy : y = 165
      · exact hy
      · simp [frOK, hy] at this
    subst hy
    have := cutS_rest (l := [165, x]) (by simp [frOK]) (.inl (by simp [frN]))
    exact .rest (by simp) (fun h => by cases h) (pr this.1 this.2)
  | [y, z], hw =>
    have hy : y = 165 := by
      have := hw.1
      by_cases hy : y = 165
      · exact hy
      · simp [frOK, hy] at this
    subst hy
    have e : lenN (([165, z] ++ [x]).getD 1 0) (([165, z] ++ [x]).getD 2 0) = lenN z x := rfl
    by_cases hn : 1 ≤ lenN z x ∧ lenN z x ≤ 256
    · have := cutS_rest (l := [165, z, x]) (by simp [frOK, hn]) (.inr (by simp [frN]; omega))
      exact .rest3 rfl (by rw [e]; exact hn) (pr this.1 this.2)
    · have := cutS_bad (l := [165, z, x]) (by simp [frOK]; omega)
      exact .bad3 rfl (by rw [e]; omega) (pr this.1 this.2)
  | y :: z :: u :: r, hw =>
    have hy : y = 165 := by
      have := hw.1
      by_cases hy : y = 165
      · exact hy
      · simp [frOK, hy] at this
    subst hy
    have hok : frOK (165 :: z :: u :: r) = true := hw.1
    have hok2 : frOK ((165 :: z :: u :: r) ++ [x]) = true := hw.1
    have hN : frN (165 :: z :: u :: r) = 3 + lenN z u := by simp [frN]
    have hN2 : frN ((165 :: z :: u :: r) ++ [x]) = 3 + lenN z u := by simp [frN]
    have e : lenN (((165 :: z :: u :: r) ++ [x]).getD 1 0) (((165 :: z :: u :: r) ++ [x]).getD 2 0) = lenN z u := rfl
    have hlt := hw.2
    rw [hN] at hlt
    have h256 : lenN z u ≤ 256 := by
      rcases frN_zero_or hok with h | h <;> omega
    by_cases hn : (165 :: z :: u :: r).length + 1 = 3 + lenN z u
    · have h3 := cutS_more (l := (165 :: z :: u :: r) ++ [x]) hok2 (by omega) (by rw [hN2, ← hn]; simp)
      have hd : ((165 :: z :: u :: r) ++ [x]).drop (frN ((165 :: z :: u :: r) ++ [x])) = [] := by
        rw [hN2, ← hn]
        exact List.drop_eq_nil_of_le (by simp)
      have ht : ((165 :: z :: u :: r) ++ [x]).take (frN ((165 :: z :: u :: r) ++ [x])) = (165 :: z :: u :: r) ++ [x] := by
        rw [hN2, ← hn]
        exact List.take_of_length_le (by simp)
      rw [hd, ht, cutS_nil] at h3
      exact .out (by simp) (by rw [e]; exact hn) (by rw [e]; exact h256) (pr h3.1 h3.2)
    · have := cutS_rest (l := (165 :: z :: u :: r) ++ [x]) hok2 (.inr (by rw [hN2]; simp only [List.length_append, List.length_cons, List.length_nil] at hlt hn ⊢; omega))
      exact .more (by simp) (by rw [e]; exact hn) (by rw [e]; exact h256) (pr this.1 this.2)

/-- the reference's splitter that has these bytes of a frame -/
structure RefS (n0 tp : Nat) (h : List UInt8) (bad : Bool) (hv : Value) (w : World) : Prop where
  blk : w.heap[tp]? = some (.cells #[hv, .bool bad] 47 (0, 0))
  own : Own w n0 5 hv (Bs h)
  ge : n0 ≤ tp
theorem RefS.next {n0 tp : Nat} {h : List UInt8} {bad : Bool} {hv : Value} {w w' : World} (hr : RefS n0 tp h bad hv w) (hb : Below w.heap.size w w') : RefS n0 tp h bad hv w' :=
  ⟨below_heap hb hr.blk, own_drewless hr.own hb, hr.ge⟩

/-- all but a block and a row's block is as it was -/
structure SaveR (tp : Nat) (ob : Option Nat) (w w' : World) : Prop where
  os : w'.os = w.os
  tape : w'.tape = w.tape
  output : w'.output = w.output
  size : w.heap.size ≤ w'.heap.size
  block : ∀ i, i < w.heap.size → i ≠ tp → some i ≠ ob → w'.heap[i]? = w.heap[i]?

/-- payloads that lie in none of these -/
def PayR (w : World) (x : Option Nat) (us : List Value) (ps : List (List UInt8)) : Prop :=
  us.length = ps.length ∧ ∀ i (h1 : i < us.length) (h2 : i < ps.length), ∃ g o c, us[i] = .slice (some ⟨g, o, none⟩) ps[i].length c ∧ ps[i].length ≤ c ∧ c ≤ 9223372036854775807 ∧ isCells w g 5 ∧ some g ≠ x ∧ Cells w (some ⟨g, o, none⟩) (Bs ps[i])
theorem payR_nil (w : World) (x : Option Nat) : PayR w x [] [] := ⟨rfl, fun i h => absurd h (by simp)⟩
theorem PayR.same {w w' : World} {x x' : Option Nat} {us : List Value} {ps : List (List UInt8)} (h : PayR w x us ps) (hs : ∀ g, isCells w g 5 → some g ≠ x → w'.heap[g]? = w.heap[g]? ∧ some g ≠ x') : PayR w' x' us ps := by
  refine ⟨h.1, fun i h1 h2 => ?_⟩
  obtain ⟨g, o, c, e, q1, q2, q3, q4, q5⟩ := h.2 i h1 h2
  obtain ⟨s1, s2⟩ := hs g q3 q4
  refine ⟨g, o, c, e, q1, q2, ?_, s2, fun h0 => ?_⟩
  · obtain ⟨a, b, hc⟩ := q3
    exact ⟨a, b, s1.trans hc⟩
  · obtain ⟨b, o', e', hc⟩ := q5 h0
    cases e'
    exact ⟨_, _, rfl, fun j hj => by rw [← hc j hj]; unfold World.cell?; rw [s1]⟩
theorem PayR.snoc {w : World} {x : Option Nat} {us : List Value} {ps : List (List UInt8)} {u : Value} {p : List UInt8} (h : PayR w x us ps) (hu : ∃ g o c, u = .slice (some ⟨g, o, none⟩) p.length c ∧ p.length ≤ c ∧ c ≤ 9223372036854775807 ∧ isCells w g 5 ∧ some g ≠ x ∧ Cells w (some ⟨g, o, none⟩) (Bs p)) : PayR w x (us ++ [u]) (ps ++ [p]) := by
  refine ⟨by simp [h.1], fun i h1 h2 => ?_⟩
  simp only [List.getElem_append]
  by_cases hi : i < us.length
  · rw [dif_pos hi, dif_pos (by rw [← h.1]; exact hi)]
    exact h.2 i hi (by rw [← h.1]; exact hi)
  · rw [dif_neg hi, dif_neg (by rw [← h.1]; exact hi)]
    simpa using hu
theorem PayR.rows {w : World} {x : Option Nat} {us : List Value} {ps : List (List UInt8)} (h : PayR w x us ps) {B : Nat} {v : Value} (ho : Own w B 30 v us) : ∃ A c, v = .slice A ps.length c ∧ ps.length ≤ c ∧ c ≤ 9223372036854775807 ∧ RowsB w A ps := by
  obtain ⟨A, c, rfl, h2, h3, h4⟩ := own_slice ho
  rw [h.1] at h2
  refine ⟨A, c, by rw [h.1], h2, h3, us, h.1, h4, fun i a b => ?_⟩
  obtain ⟨g, o, c', e, q1, q2, _, _, q5⟩ := h.2 i a b
  exact ⟨_, c', e, q1, q2, q5⟩

/-- what the loop holds -/
structure RH (n0 tp : Nat) (w0 : World) (oB : Option Nat) (h : List UInt8) (bad : Bool) (hv ov : Value) (us : List Value) (ps : List (List UInt8)) (w : World) : Prop where
  ref : RefS n0 tp h bad hv w
  save : SaveR tp oB w0 w
  ob : hv.ownBlock = oB ∨ ∀ g, hv.ownBlock = some g → w0.heap.size ≤ g
  out : Own w w0.heap.size 30 ov us
  rows : PayR w hv.ownBlock us ps
  tp : tp < w0.heap.size
  base : n0 ≤ w0.heap.size
  src : ∀ g o n c, Value.slice (some ⟨g, o, none⟩) n c ∈ us → some g = oB ∨ w0.heap.size ≤ g

section
variable {n0 tp : Nat} {w0 w w' : World} {ob : Option Nat} {h : List UInt8} {bad : Bool} {hv ov : Value} {us : List Value} {ps : List (List UInt8)}
theorem RH.next (r : RH n0 tp w0 ob h bad hv ov us ps w) (hb : Below w.heap.size w w') : RH n0 tp w0 ob h bad hv ov us ps w' :=
  ⟨r.ref.next hb, ⟨hb.os.trans r.save.os, hb.tape.trans r.save.tape, hb.output.trans r.save.output, Nat.le_trans r.save.size hb.size, fun i h1 h2 h3 => (hb.block i (Nat.lt_of_lt_of_le h1 r.save.size)).trans (r.save.block i h1 h2 h3)⟩, r.ob, own_drewless r.out hb,
    r.rows.same fun g hc hne => ⟨hb.block g (lt_of_isCells hc), hne⟩, r.tp, r.base, r.src⟩
/-- the bytes grown by one -/
theorem RH.grow (r : RH n0 tp w0 ob h bad hv ov us ps w) (x : UInt8) (hl : h.length ≤ 100000) (ty : TypeId) :
    ∃ v1 w1, (Builtin.append_ #[30, 30] ty #[hv, .slice (some ⟨w.heap.size, 0, none⟩) 1 1]).run Try.prog (w.alloc (Obj.cells #[.int .u8 (n8 x)] 5)).drew = .ok v1 w1 ∧
      w1.heap[tp]? = some (.cells #[hv, .bool bad] 47 (0, 0)) ∧ RH n0 tp w0 ob (h ++ [x]) bad v1 ov us ps (w1.setCell ⟨tp, 0, none⟩ v1) := by
  have hbw : Below w.heap.size w (w.alloc (Obj.cells #[.int .u8 (n8 x)] 5)).drew := by
    have h1 := (Below.refl w.heap.size w).alloc (Nat.le_refl _) (Obj.cells #[.int .u8 (n8 x)] 5)
    exact ⟨h1.os, h1.tape, h1.output, h1.size, h1.block⟩
  have r2 := r.next hbw
  have hnew : (w.alloc (Obj.cells #[.int .u8 (n8 x)] 5)).drew.heap[w.heap.size]? = some (.cells #[.int .u8 (n8 x)] 5 (0, 0)) := heap_alloc_new w _
  generalize hW : (w.alloc (Obj.cells #[.int .u8 (n8 x)] 5)).drew = W at *
  obtain ⟨i, hi, hz0, hz1, hz2⟩ := info_parts (P := Try.prog) (e := 5) (z := .int .u8 0) (size := 1) (bytes := 1) (by kernel_rfl)
  obtain ⟨v1, w1, hr, ho, hg, hblk⟩ := run_append_blk (P := Try.prog) W n0 30 ty 5 i (.int .u8 0) 1 1 (by kernel_rfl) hi hz0 hz1 hz2 rfl (by decide) hv (Bs h).length (Bs h) r2.ref.own ⟨w.heap.size, 0, none⟩ 1 1 [.int .u8 (n8 x)] rfl
    (fun j u hu => by
      cases j with
      | zero =>
        simp at hu
        subst hu
        rw [Addr.add_mid, cell_of_row W w.heap.size _ _ _ _ hnew]
        rfl
      | succ j => simp at hu) (fun u hu => by obtain rfl := List.mem_singleton.1 hu; rfl) (by rw [Bs_length]; unfold maxLen; omega) (by rw [Bs_length]; omega) (by have := r2.save.size; have := r2.base; omega)
  have hne : ∀ i, i < W.heap.size → some i ≠ hv.ownBlock → w1.heap[i]? = W.heap[i]? := fun i a b => hg.block i a b
  have htp : some tp ≠ hv.ownBlock := fun e => by
    obtain ⟨_, _, hc⟩ := (own_block r2.ref.own e.symm).2.2
    rw [r2.ref.blk] at hc
    simp only [Option.some.injEq, Obj.cells.injEq] at hc
    exact absurd hc.2.1 (by decide)
  have h1 : w1.heap[tp]? = some (.cells #[hv, .bool bad] 47 (0, 0)) := (hne tp (heap_lt r2.ref.blk) htp).trans r2.ref.blk
  refine ⟨v1, w1, hr, h1, ?_⟩
  have hset : ∀ i, i ≠ tp → (w1.setCell ⟨tp, 0, none⟩ v1).heap[i]? = w1.heap[i]? := fun i hi => heap_setCell_other w1 ⟨tp, 0, none⟩ i v1 hi
  have htp2 : (w1.setCell ⟨tp, 0, none⟩ v1).heap[tp]? = some (.cells #[v1, .bool bad] 47 (0, 0)) := by
    have := heap_setCell_same w1 tp 0 _ _ v1 h1
    simpa using this
  have ho' : Own w1 n0 5 v1 (Bs (h ++ [x])) := by
    unfold Own
    rw [Bs_append]
    simpa [Bs] using ho
  have hsz : (w1.setCell ⟨tp, 0, none⟩ v1).heap.size = w1.heap.size := by simp
  have hWs := r2.save.size
  refine ⟨⟨htp2, own_same ho' fun g hg' => hset g fun e => ?_, r.ref.ge⟩, ⟨?_, ?_, ?_, ?_, fun i a b c => ?_⟩, ?_, own_same r2.out fun g hg' => ?_, r2.rows.same fun g hc hn => ⟨?_, ?_⟩, r.tp, r.base, r.src⟩
  · subst e
    obtain ⟨_, _, hc⟩ := (own_block ho' hg').2.2
    rw [h1] at hc
    simp only [Option.some.injEq, Obj.cells.injEq] at hc
    exact absurd hc.2.1 (by decide)
  · exact hg.os.trans r2.save.os
  · exact hg.tape.trans r2.save.tape
  · exact hg.output.trans r2.save.output
  · rw [hsz]; exact Nat.le_trans hWs hg.size
  · rw [hset i b, hne i (by omega) ?_]
    · exact r2.save.block i a b c
    · intro e
      rcases r.ob with h3 | h3
      · exact c (e.trans h3)
      · have := h3 i e.symm
        omega
  · rcases hblk with h3 | ⟨g, h3, h4⟩
    · rw [h3]; exact r.ob
    · right
      intro g' hg'
      rw [h3] at hg'
      cases hg'
      omega
  · have h5 := own_block r2.out hg'
    have h6 : g ≠ tp := fun e => by
      subst e
      obtain ⟨_, _, hc⟩ := h5.2.2
      rw [r2.ref.blk] at hc
      simp only [Option.some.injEq, Obj.cells.injEq] at hc
      exact absurd hc.2.1 (by decide)
    rw [hset g h6, hne g h5.2.1 fun e => ?_]
    exact absurd (isCells_inj h5.2.2 (own_block r2.ref.own e.symm).2.2) (by decide)
  · have h6 : g ≠ tp := fun e => by
      subst e
      obtain ⟨_, _, hc⟩ := hc
      rw [r2.ref.blk] at hc
      simp only [Option.some.injEq, Obj.cells.injEq] at hc
      exact absurd hc.2.1 (by decide)
    rw [hset g h6, hne g (lt_of_isCells hc) hn]
  · rcases hblk with h3 | ⟨g', h3, h4⟩
    · rw [h3]; exact hn
    · rw [h3]
      intro e
      cases e
      have := lt_of_isCells hc
      omega
/-- the bytes given away: the splitter holds nothing -/
theorem RH.drop (r : RH n0 tp w0 ob h bad hv ov us ps w) : RH n0 tp w0 ob [] bad (.slice none 0 0) ov us ps (w.setCell ⟨tp, 0, none⟩ (.slice none 0 0)) := by
  have hset : ∀ i, i ≠ tp → (w.setCell ⟨tp, 0, none⟩ (.slice none 0 0)).heap[i]? = w.heap[i]? := fun i hi => heap_setCell_other w ⟨tp, 0, none⟩ i _ hi
  have htp2 : (w.setCell ⟨tp, 0, none⟩ (.slice none 0 0)).heap[tp]? = some (.cells #[.slice none 0 0, .bool bad] 47 (0, 0)) := by
    have := heap_setCell_same w tp 0 _ _ (.slice none 0 0) r.ref.blk
    simpa using this
  have hsz : (w.setCell ⟨tp, 0, none⟩ (.slice none 0 0)).heap.size = w.heap.size := by simp
  have hne : ∀ {g e}, isCells w g e → e ≠ 47 → g ≠ tp := fun hc he e => by
    subst e
    obtain ⟨_, _, hc⟩ := hc
    rw [r.ref.blk] at hc
    simp only [Option.some.injEq, Obj.cells.injEq] at hc
    exact he hc.2.1.symm
  exact ⟨⟨htp2, World.ownsRow_nil _ _ _ 1, r.ref.ge⟩, ⟨r.save.os, r.save.tape, r.save.output, by rw [hsz]; exact r.save.size, fun i a b c => by rw [hset i b]; exact r.save.block i a b c⟩, .inr fun g hg => (by cases hg),
    own_same r.out fun g hg => hset g (hne (own_block r.out hg).2.2 (by decide)), r.rows.same fun g hc _ => ⟨hset g (hne hc (by decide)), fun e => by cases e⟩, r.tp, r.base, r.src⟩
/-- the fault -/
theorem RH.fault (r : RH n0 tp w0 ob h bad hv ov us ps w) : RH n0 tp w0 ob h true hv ov us ps (w.setCell ⟨tp, 1, none⟩ (.bool true)) := by
  have hset : ∀ i, i ≠ tp → (w.setCell ⟨tp, 1, none⟩ (.bool true)).heap[i]? = w.heap[i]? := fun i hi => heap_setCell_other w ⟨tp, 1, none⟩ i _ hi
  have htp2 : (w.setCell ⟨tp, 1, none⟩ (.bool true)).heap[tp]? = some (.cells #[hv, .bool true] 47 (0, 0)) := by
    have := heap_setCell_same w tp 1 _ _ (.bool true) r.ref.blk
    simpa using this
  have hsz : (w.setCell ⟨tp, 1, none⟩ (.bool true)).heap.size = w.heap.size := by simp
  have hne : ∀ {g e}, isCells w g e → e ≠ 47 → g ≠ tp := fun hc he e => by
    subst e
    obtain ⟨_, _, hc⟩ := hc
    rw [r.ref.blk] at hc
    simp only [Option.some.injEq, Obj.cells.injEq] at hc
    exact he hc.2.1.symm
  exact ⟨⟨htp2, own_same r.ref.own fun g hg => hset g (hne (own_block r.ref.own hg).2.2 (by decide)), r.ref.ge⟩, ⟨r.save.os, r.save.tape, r.save.output, by rw [hsz]; exact r.save.size, fun i a b c => by rw [hset i b]; exact r.save.block i a b c⟩, r.ob,
    own_same r.out fun g hg => hset g (hne (own_block r.out hg).2.2 (by decide)), r.rows.same fun g hc hn => ⟨hset g (hne hc (by decide)), hn⟩, r.tp, r.base, r.src⟩
end
end Go.Proofs.Ytngmhkhncimknaa
