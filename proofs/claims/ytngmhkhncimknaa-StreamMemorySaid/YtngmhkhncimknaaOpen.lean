/- How arguments read: slices of whatever elements, of bytes, of rows of bytes, of ints; structs field by field. And how a law's row closes behind a walk that wrote nothing that was there. -/
import Derived.Test.YtngmhkhncimknaaHeap
import Derived.ProofKit
import Derived.OpenShut
import Derived.ShutString
import Derived.ChangeOld
import Derived.Deep.Slices
import Derived.Carry
import Derived.SizedLaws
namespace Go.Proofs.Ytngmhkhncimknaa
open Go Go.RowKit Go.ChangeShapes Go.WideShapes Go.ChangeAt
set_option linter.unusedVariables false
set_option linter.unusedSimpArgs false
variable {H : Type} {enc : TypeId × Value → H} {P : Program} {w : World} {spare : Nat → Bool} {held : Bool}

/-- the slice with this address has these elements, each of 'size' cells that read as R says -/
def ElemsOf {α : Type} (w : World) (size : Nat) (R : List Value → α → Prop) (A : Option Addr) (as : List α) : Prop :=
  0 < as.length → ∃ b o, A = some ⟨b, o, none⟩ ∧ ∀ i, (h : i < as.length) → ∃ cs, cs.length = size ∧ (∀ j, (hj : j < cs.length) → w.cell? ⟨b, o + i * size + j, none⟩ = some cs[j]) ∧ R cs as[i]

theorem maxLen_eq : maxLen = 9223372036854775807 := by unfold maxLen; rfl

theorem p_slice {α : Type} [Inhabited α] {size : Nat} {R : List Value → α → Prop} {t e : TypeId} (ht : P.underlying t = some (.slice e)) (hsz : P.cellsOf e = size) (hpos : 0 < size)
    (hE : ∀ (n : Nat) (cs : List Value) (x : DataW H × List MemPlace), cs.length = size → DataW.trod enc P w 0 spare held n e cs = some x → ∃ a, R cs a)
    {fuel : Nat} {cs : List Value} {x : DataW H × List MemPlace} (h : DataW.trod enc P w 0 spare held fuel t cs = some x) :
    ∃ A c as, cs = [.slice A as.length c] ∧ as.length ≤ c ∧ c ≤ 9223372036854775807 ∧ ElemsOf w size R A as := by
  rcases Go.Deep.open_slice ht h with ⟨rfl, _⟩ | ⟨a, len, cap, m, n, D, Pl, rfl, _, hl, hm, hmm, _, hx⟩
  · exact ⟨none, 0, [], rfl, Nat.le_refl _, by decide, fun h => absurd h (by simp)⟩
  rw [hsz] at hx
  rw [maxLen_eq] at hm
  have hlm : len ≤ m := by rw [hmm]; split <;> omega
  have hall : ∀ i, i < len → ∃ a' : α, ∃ cs, cs.length = size ∧ (∀ j, (hj : j < cs.length) → w.cell? ((a.add (i * size)).add j) = some cs[j]) ∧ R cs a' := by
    intro i hi
    obtain ⟨cs', h1, h2⟩ := hx i (by omega)
    obtain ⟨_, hlen, hc⟩ := World.cells?_some h1
    obtain ⟨a', ha'⟩ := hE n cs' _ hlen h2
    exact ⟨a', cs', hlen, fun j hj => by rw [hc j (by omega), List.getElem?_eq_getElem hj], ha'⟩
  obtain ⟨f, hf⟩ := Go.Deep.choose_lt hall
  refine ⟨some a, cap, (List.range len).map f, by simp, by simpa using hl, hm, ?_⟩
  intro h0
  have h0' : 0 < len := by simpa using h0
  have hspot : a.spot = none := by
    obtain ⟨cs, hl0, hc, _⟩ := hf 0 h0'
    have := hc 0 (by omega)
    rw [Nat.zero_mul] at this
    have h2 := World.cell?_spot this
    simpa [Addr.add] using h2
  obtain ⟨b, o, sp⟩ := a
  simp only at hspot
  subst hspot
  refine ⟨b, o, rfl, fun i hi => ?_⟩
  have hi' : i < len := by simpa using hi
  obtain ⟨cs, h1, h2, h3⟩ := hf i hi'
  refine ⟨cs, h1, fun j hj => ?_, by simpa using h3⟩
  have := h2 j hj
  rw [Addr.add_mid, Addr.add_mid] at this
  exact this

theorem wf_u8 {a : Int} (h : (Lit.int .u8 a).wf = true) : ∃ u, a = n8 u := by
  have := bounds_u8 h; exact n8_of this.1 (by omega)
theorem wf_u16 {a : Int} (h : (Lit.int .u16 a).wf = true) : ∃ u, a = n16 u := by
  have := bounds_u16 h; exact n16_of this.1 (by omega)
theorem wf_u32 {a : Int} (h : (Lit.int .u32 a).wf = true) : ∃ u, a = n32 u := by
  have := bounds_u32 h; exact n32_of this.1 (by omega)
theorem wf_u64 {a : Int} (h : (Lit.int .u64 a).wf = true) : ∃ u, a = n64 u := by
  have := bounds_u64 h; exact n64_of this.1 (by omega)
theorem wf_i64 {a : Int} (h : (Lit.int .i64 a).wf = true) : -9223372036854775808 ≤ a ∧ a ≤ 9223372036854775807 := by
  have := bounds_i64 h; omega

theorem p_u8 {t : TypeId} (ht : P.underlying t = some (.int .u8)) {fuel : Nat} {cs : List Value} {x : DataW H × List MemPlace} (h : DataW.trod enc P w 0 spare held fuel t cs = some x) : ∃ a, cs = [.int .u8 (n8 a)] := by
  obtain ⟨a, rfl, _, hw⟩ := DataW.trod_int ht h
  obtain ⟨u, rfl⟩ := wf_u8 hw
  exact ⟨u, rfl⟩
theorem p_u32 {t : TypeId} (ht : P.underlying t = some (.int .u32)) {fuel : Nat} {cs : List Value} {x : DataW H × List MemPlace} (h : DataW.trod enc P w 0 spare held fuel t cs = some x) : ∃ a, cs = [.int .u32 (n32 a)] := by
  obtain ⟨a, rfl, _, hw⟩ := DataW.trod_int ht h
  obtain ⟨u, rfl⟩ := wf_u32 hw
  exact ⟨u, rfl⟩
theorem p_u64 {t : TypeId} (ht : P.underlying t = some (.int .u64)) {fuel : Nat} {cs : List Value} {x : DataW H × List MemPlace} (h : DataW.trod enc P w 0 spare held fuel t cs = some x) : ∃ a, cs = [.int .u64 (n64 a)] := by
  obtain ⟨a, rfl, _, hw⟩ := DataW.trod_int ht h
  obtain ⟨u, rfl⟩ := wf_u64 hw
  exact ⟨u, rfl⟩
theorem p_i64 {t : TypeId} (ht : P.underlying t = some (.int .i64)) {fuel : Nat} {cs : List Value} {x : DataW H × List MemPlace} (h : DataW.trod enc P w 0 spare held fuel t cs = some x) :
    ∃ a : Int, cs = [.int .i64 a] ∧ -9223372036854775808 ≤ a ∧ a ≤ 9223372036854775807 := by
  obtain ⟨a, rfl, _, hw⟩ := DataW.trod_int ht h
  exact ⟨a, rfl, wf_i64 hw⟩
theorem p_string {t : TypeId} (ht : P.underlying t = some .string) {fuel : Nat} {cs : List Value} {x : DataW H × List MemPlace} (h : DataW.trod enc P w 0 spare held fuel t cs = some x) :
    ∃ s : ByteArray, cs = [.string s] ∧ s.size ≤ 9223372036854775807 := by
  obtain ⟨s, rfl, _, hs⟩ := DataW.trod_string ht h
  exact ⟨s, rfl, by rw [maxLen_eq] at hs; exact hs⟩

theorem cells_of_elems {α : Type} {f : α → Value} {A : Option Addr} {as : List α} (h : ElemsOf w 1 (fun cs a => cs = [f a]) A as) : Cells w A (as.map f) := by
  intro h0
  obtain ⟨b, o, ha, hx⟩ := h (by simpa using h0)
  refine ⟨b, o, ha, fun i hi => ?_⟩
  obtain ⟨cs, _, hc, rfl⟩ := hx i (by simpa using hi)
  have := hc 0 (by simp)
  simpa using this
theorem p_bytes {t e : TypeId} (ht : P.underlying t = some (.slice e)) (he : P.underlying e = some (.int .u8)) (hsz : P.cellsOf e = 1)
    {fuel : Nat} {cs : List Value} {x : DataW H × List MemPlace} (h : DataW.trod enc P w 0 spare held fuel t cs = some x) : ∃ v l, cs = [v] ∧ SlB w v l := by
  obtain ⟨A, c, as, rfl, hl, hc, hx⟩ := p_slice (R := fun cs a => cs = [.int .u8 (n8 a)]) ht hsz (by decide) (fun n cs x _ h => p_u8 he h) h
  exact ⟨_, as, rfl, A, c, rfl, hl, hc, cells_of_elems hx⟩
theorem p_ints {t e : TypeId} (ht : P.underlying t = some (.slice e)) (he : P.underlying e = some (.int .i64)) (hsz : P.cellsOf e = 1)
    {fuel : Nat} {cs : List Value} {x : DataW H × List MemPlace} (h : DataW.trod enc P w 0 spare held fuel t cs = some x) :
    ∃ A c as, cs = [.slice A as.length c] ∧ as.length ≤ c ∧ c ≤ 9223372036854775807 ∧ ElemsOf w 1 (fun cs (a : Int) => cs = [.int .i64 a] ∧ -9223372036854775808 ≤ a ∧ a ≤ 9223372036854775807) A as :=
  p_slice ht hsz (by decide) (fun n cs x _ h => p_i64 he h) h
theorem p_rows {t e e' : TypeId} (ht : P.underlying t = some (.slice e)) (he : P.underlying e = some (.slice e')) (he' : P.underlying e' = some (.int .u8)) (hsz : P.cellsOf e = 1) (hsz' : P.cellsOf e' = 1)
    {fuel : Nat} {cs : List Value} {x : DataW H × List MemPlace} (h : DataW.trod enc P w 0 spare held fuel t cs = some x) :
    ∃ A c ls, cs = [.slice A ls.length c] ∧ ls.length ≤ c ∧ c ≤ 9223372036854775807 ∧ RowsB w A ls := by
  obtain ⟨A, c, as, rfl, hl, hc, hx⟩ := p_slice (R := fun cs (a : Value × List UInt8) => cs = [a.1] ∧ SlB w a.1 a.2) ht hsz (by decide)
    (fun n cs x _ h => by obtain ⟨v, l, h1, h2⟩ := p_bytes he he' hsz' h; exact ⟨(v, l), h1, h2⟩) h
  refine ⟨A, c, as.map (·.2), by simp, by simpa using hl, hc, as.map (·.1), by simp, ?_, ?_⟩
  · intro h0
    obtain ⟨b, o, ha, hx⟩ := hx (by simpa using h0)
    refine ⟨b, o, ha, fun i hi => ?_⟩
    obtain ⟨cs, _, hc, rfl, _⟩ := hx i (by simpa using hi)
    have := hc 0 (by simp)
    simpa using this
  · intro i h1 h2
    obtain ⟨b, o, ha, hx⟩ := hx (by simp at h1; omega)
    obtain ⟨cs, _, hc, rfl, h3⟩ := hx i (by simpa using h1)
    simpa using h3

theorem trod_field {fs : Array Field} {cs : List Value} {xs : List (DataW H × List MemPlace)} {n : Nat}
    (hf : ∀ (i : Nat) (f : Field), fs[i]? = some f → DataW.trod enc P w 0 spare held n f.type ((cs.drop f.offset).take (P.cellsOf f.type)) = xs[i]?)
    (i : Nat) (f : Field) (hi : fs[i]? = some f) (t : TypeId) (o : Nat) (ht : f.type = t) (ho : f.offset = o) (sz : Nat) (hsz : P.cellsOf t = sz) :
    DataW.trod enc P w 0 spare held n t ((cs.drop o).take sz) = xs[i]? := by
  subst ht ho hsz
  exact hf i f hi

/-- what the form's reach says of a slice -/
theorem slice_datum {t e : TypeId} (ht : P.underlying t = some (.slice e)) {fuel : Nat} {cs : List Value} {x : DataW H × List MemPlace} (h : DataW.trod enc P w 0 spare held fuel t cs = some x) :
    ∀ A n c, cs = [.slice A n c] → n = 0 ∨ ∃ el sp, x.1 = .slice el sp ∧ el.length = n := by
  intro A n c hcs
  rcases Go.Deep.open_slice ht h with ⟨rfl, rfl⟩ | ⟨a, len, cap, m, k, D, Pl, rfl, _, hl, hm, hmm, rfl, hx⟩
  · simp at hcs; exact .inl hcs.2.1.symm
  · simp at hcs
    obtain ⟨_, rfl, _⟩ := hcs
    exact .inr ⟨_, _, rfl, by simp⟩
theorem reach_slice {ts : List TypeId} {ds : List (DataW H)} (h : (DataW.weightsEach P ts ds).all (· ≤ reachBytes) = true) {j : Nat} {t e : TypeId} {d : DataW H} {n : Nat} (ht : ts[j]? = some t) (hd : ds[j]? = some d) (hu : P.underlying t = some (.slice e))
    (hn : n = 0 ∨ ∃ el sp, d = .slice el sp ∧ el.length = n) : n * P.bytesOf e ≤ 140737488351232 := by
  rcases hn with rfl | ⟨el, sp, rfl, rfl⟩
  · simp
  · have := sized_slice h ht hd hu
    have e : reachBytes = 140737488351232 := by decide
    rw [e] at this
    exact Nat.le_trans (Nat.mul_le_mul_right _ (by omega)) this

/-! the row -/
theorem trodAll_stays (hl : laidOutB P = true) {W W' : World} (hb : Below W.heap.size W W') :
    ∀ {ts : List TypeId} {vs : List Value} {ds : List (DataW H)} {ps : List MemPlace}, ts.all (fun t => P.readableRec t && decide (t < P.types.size)) = true →
      DataW.TrodAll enc P W 0 (fun _ => true) true ts vs ds ps → DataW.TrodAll enc P W' 0 (fun b => decide (b < W.heap.size)) true ts vs ds ps
  | [], vs, ds, ps, _, h => by cases vs <;> cases ds <;> simp_all [DataW.TrodAll]
  | t :: ts, vs, ds, ps, ht, h => by
    obtain ⟨v, vs', d, ds', p, q, rfl, rfl, rfl, h0, hr⟩ := trodAll_cons h
    simp only [List.all_cons, Bool.and_eq_true, decide_eq_true_eq] at ht
    have k0 := h0
    obtain ⟨m, hm⟩ := k0
    exact trodAll_cons_mk (Below.trod hl ht.1.1 ht.1.2 h0 hb (DataW.trod_lt m _ _ _ hm)) (trodAll_stays hl hb ht.2 hr)

/-- a law's row, behind a walk that answers true and writes nothing that was there -/
theorem law_post {f : Func} {s : ChangeSpec} {W W' : World} {args : Array Value} {ds gs : List (DataW H)} {before : List MemPlace} {tb : TypeId} (hl : laidOutB P = true)
    (hts : f.params.toList.all (fun t => P.readableRec t && decide (t < P.types.size)) = true) (hres : f.resultTypes = #[tb]) (hbool : P.underlying tb = some .bool)
    (hW : DataW.Whole enc P f.params.toList s.vars false W args.toList ds gs before) (hvars : s.vars = [])
    (hfn : s.fn H (ds ++ gs) = { results := [.lit (.bool true)], args := ds }) (hb : Below W.heap.size W W') :
    s.post enc P f false true false false W args (.bool true) W' := by
  have hW' := hW
  obtain ⟨p, q, hA, hV, rfl, hfz, hnd⟩ := hW
  refine ⟨ds, gs, _, [], p, [], hW', ?_, ?_, ?_, hb.frame _, fun h => by cases h⟩
  · rw [hfn, hres]
    exact trodAll_mk1 (shut_bool hbool true)
  · rw [hfn]
    exact trodAll_stays hl hb hts hA
  · rw [hfn, hvars]
    rfl
end Go.Proofs.Ytngmhkhncimknaa
