/- How arguments read, with the bound that the form's reach gives to every slice and string inside them (140737488351232 bytes each). -/
import Derived.Test.YtngmhkhncimknaaOpen
namespace Go.Proofs.Ytngmhkhncimknaa
open Go Go.RowKit Go.ChangeShapes Go.WideShapes Go.ChangeAt
set_option linter.unusedVariables false
set_option linter.unusedSimpArgs false
variable {H : Type} {enc : TypeId × Value → H} {P : Program} {w : World} {spare : Nat → Bool} {held : Bool}

/-- no slice, string or map in it is larger than the reach -/
def Light (P : Program) (t : TypeId) (d : DataW H) : Prop := ∀ m ∈ d.weights P t, m ≤ 140737488351232
theorem light_arg {ts : List TypeId} {ds : List (DataW H)} (h : (DataW.weightsEach P ts ds).all (· ≤ reachBytes) = true) {j : Nat} {t : TypeId} {d : DataW H} (ht : ts[j]? = some t) (hd : ds[j]? = some d) : Light P t d := by
  intro m hm
  have := List.all_eq_true.1 h _ (DataW.weights_mem_each ht hd m hm)
  have e : reachBytes = 140737488351232 := by decide
  rw [e] at this
  simpa using this
theorem weightsAll_mem {e : TypeId} : ∀ {l : List (DataW H)} {d : DataW H}, d ∈ l → ∀ m ∈ d.weights P e, m ∈ DataW.weightsAll P e l
  | x :: l, d, hd, m, hm => by
    simp only [DataW.weightsAll, List.mem_append]
    cases List.mem_cons.1 hd with
    | inl h => subst h; exact .inl hm
    | inr h => exact .inr (weightsAll_mem h m hm)
theorem light_field {t : TypeId} {fs : Array Field} (ht : P.underlying t = some (.struct fs)) {xs : List (DataW H × List MemPlace)} {p : List MemPlace} {d : DataW H} (hd : d = .agg (xs.map (·.1))) (h : Light P t d) (i : Nat) (f : Field) (hi : fs[i]? = some f) (y : DataW H × List MemPlace) (hy : xs[i]? = some y) :
    Light P f.type y.1 := by
  intro m hm
  apply h m
  subst hd
  simp only [DataW.weights, ht]
  refine DataW.weights_mem_each (j := i) (t := f.type) (d := y.1) ?_ ?_ m hm
  · simp [hi]
  · simp [hy]

theorem pw_slice {α : Type} [Inhabited α] {size : Nat} {R : List Value → α → Prop} {t e : TypeId} (ht : P.underlying t = some (.slice e)) (hsz : P.cellsOf e = size) (hpos : 0 < size)
    (hE : ∀ (n : Nat) (cs : List Value) (x : DataW H × List MemPlace), cs.length = size → DataW.trod enc P w 0 spare held n e cs = some x → Light P e x.1 → ∃ a, R cs a)
    {fuel : Nat} {cs : List Value} {x : DataW H × List MemPlace} (h : DataW.trod enc P w 0 spare held fuel t cs = some x) (hw : Light P t x.1) :
    ∃ A c as, cs = [.slice A as.length c] ∧ as.length ≤ c ∧ c ≤ 9223372036854775807 ∧ ElemsOf w size R A as ∧ as.length * P.bytesOf e ≤ 140737488351232 := by
  rcases Go.Deep.open_slice ht h with ⟨rfl, _⟩ | ⟨a, len, cap, m, n, D, Pl, rfl, _, hl, hm, hmm, rfl, hx⟩
  · exact ⟨none, 0, [], rfl, Nat.le_refl _, by decide, fun h => absurd h (by simp), by simp⟩
  rw [hsz] at hx
  rw [maxLen_eq] at hm
  have hlm : len ≤ m := by rw [hmm]; split <;> omega
  have hall : ∀ i, i < len → ∃ a' : α, ∃ cs, cs.length = size ∧ (∀ j, (hj : j < cs.length) → w.cell? ((a.add (i * size)).add j) = some cs[j]) ∧ R cs a' := by
    intro i hi
    obtain ⟨cs', h1, h2⟩ := hx i (by omega)
    obtain ⟨_, hlen, hc⟩ := World.cells?_some h1
    obtain ⟨a', ha'⟩ := hE n cs' _ hlen h2 (by
      intro m hm
      apply hw m
      simp only [DataW.weights, ht, List.mem_cons, List.mem_append]
      refine .inr (.inl (weightsAll_mem (d := D i) ?_ m hm))
      exact List.mem_map.2 ⟨i, List.mem_range.2 hi, rfl⟩)
    exact ⟨a', cs', hlen, fun j hj => by rw [hc j (by omega), List.getElem?_eq_getElem hj], ha'⟩
  obtain ⟨f, hf⟩ := Go.Deep.choose_lt hall
  refine ⟨some a, cap, (List.range len).map f, by simp, by simpa using hl, hm, ?_, ?_⟩
  · intro h0
    have h0' : 0 < len := by simpa using h0
    have hspot : a.spot = none := by
      obtain ⟨cs, hl0, hc, _⟩ := hf 0 h0'
      have := hc 0 (by omega)
      rw [Nat.zero_mul] at this
      have h2 := World.cell?_spot this
      simpa [Addr.add] using h2
    obtain ⟨b, o, sp⟩ := a
    simp only at hspot
    subst hspot
    refine ⟨b, o, rfl, fun i hi => ?_⟩
    have hi' : i < len := by simpa using hi
    obtain ⟨cs, h1, h2, h3⟩ := hf i hi'
    refine ⟨cs, h1, fun j hj => ?_, by simpa using h3⟩
    have := h2 j hj
    rw [Addr.add_mid, Addr.add_mid] at this
    exact this
  · have := hw _ (by simp only [DataW.weights, ht]; exact List.mem_cons_self)
    simp only [List.length_map, List.length_range] at this ⊢
    exact Nat.le_trans (Nat.mul_le_mul_right _ (by omega)) this
theorem pw_string {t : TypeId} (ht : P.underlying t = some .string) {fuel : Nat} {cs : List Value} {x : DataW H × List MemPlace} (h : DataW.trod enc P w 0 spare held fuel t cs = some x) (hw : Light P t x.1) :
    ∃ s : ByteArray, cs = [.string s] ∧ s.size ≤ 140737488351232 := by
  obtain ⟨s, rfl, rfl, _⟩ := DataW.trod_string ht h
  refine ⟨s, rfl, ?_⟩
  have := hw s.data.toList.length (by simp [DataW.weights])
  simpa using this
theorem pw_bytes {t e : TypeId} (ht : P.underlying t = some (.slice e)) (he : P.underlying e = some (.int .u8)) (hsz : P.cellsOf e = 1) (hby : P.bytesOf e = 1)
    {fuel : Nat} {cs : List Value} {x : DataW H × List MemPlace} (h : DataW.trod enc P w 0 spare held fuel t cs = some x) (hw : Light P t x.1) : ∃ v l, cs = [v] ∧ SlB w v l ∧ l.length ≤ 140737488351232 := by
  obtain ⟨A, c, as, rfl, hl, hc, hx, hb⟩ := pw_slice (R := fun cs a => cs = [.int .u8 (n8 a)]) ht hsz (by decide) (fun n cs x _ h _ => p_u8 he h) h hw
  exact ⟨_, as, rfl, ⟨A, c, rfl, hl, hc, cells_of_elems hx⟩, by rw [hby] at hb; omega⟩
theorem pw_rows {t e e' : TypeId} (ht : P.underlying t = some (.slice e)) (he : P.underlying e = some (.slice e')) (he' : P.underlying e' = some (.int .u8)) (hsz : P.cellsOf e = 1) (hsz' : P.cellsOf e' = 1) (hby : P.bytesOf e = 24) (hby' : P.bytesOf e' = 1)
    {fuel : Nat} {cs : List Value} {x : DataW H × List MemPlace} (h : DataW.trod enc P w 0 spare held fuel t cs = some x) (hw : Light P t x.1) :
    ∃ A c ls, cs = [.slice A ls.length c] ∧ ls.length ≤ c ∧ c ≤ 9223372036854775807 ∧ RowsB w A ls ∧ ls.length * 24 ≤ 140737488351232 ∧ ∀ l ∈ ls, l.length ≤ 140737488351232 := by
  obtain ⟨A, c, as, rfl, hl, hc, hx, hb⟩ := pw_slice (R := fun cs (a : Value × List UInt8) => cs = [a.1] ∧ SlB w a.1 a.2 ∧ a.2.length ≤ 140737488351232) ht hsz (by decide)
    (fun n cs x _ h hw => by obtain ⟨v, l, h1, h2, h3⟩ := pw_bytes he he' hsz' hby' h hw; exact ⟨(v, l), h1, h2, h3⟩) h hw
  rw [hby] at hb
  have hat : ∀ i, (hi : i < as.length) → ∃ cs, (∀ j, (hj : j < cs.length) → ∃ b o, A = some ⟨b, o, none⟩ ∧ w.cell? ⟨b, o + i + j, none⟩ = some cs[j]) ∧ cs = [as[i].1] ∧ SlB w as[i].1 as[i].2 ∧ as[i].2.length ≤ 140737488351232 := by
    intro i hi
    obtain ⟨b, o, ha, hx⟩ := hx (by omega)
    obtain ⟨cs, _, hc, h1, h2, h3⟩ := hx i hi
    exact ⟨cs, fun j hj => ⟨b, o, ha, by have := hc j hj; rwa [Nat.mul_one] at this⟩, h1, h2, h3⟩
  refine ⟨A, c, as.map (·.2), by simp, by simpa using hl, hc, ⟨as.map (·.1), by simp, ?_, ?_⟩, by simpa using hb, ?_⟩
  · intro h0
    obtain ⟨b, o, ha, hx⟩ := hx (by simpa using h0)
    refine ⟨b, o, ha, fun i hi => ?_⟩
    obtain ⟨cs, _, hc, rfl, _⟩ := hx i (by simpa using hi)
    have := hc 0 (by simp)
    simpa using this
  · intro i h1 h2
    obtain ⟨cs, _, _, h3, _⟩ := hat i (by simpa using h1)
    simpa using h3
  · intro l hl
    obtain ⟨a, ha, rfl⟩ := List.mem_map.1 hl
    obtain ⟨i, hi, rfl⟩ := List.mem_iff_getElem.1 ha
    obtain ⟨_, _, _, _, h4⟩ := hat i hi
    exact h4
end Go.Proofs.Ytngmhkhncimknaa
