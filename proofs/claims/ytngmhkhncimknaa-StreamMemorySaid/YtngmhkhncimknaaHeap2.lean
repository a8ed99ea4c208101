/- Copying bytes; more on memory that the call makes. -/
import Derived.Test.YtngmhkhncimknaaHeap
import Derived.Laws.CopyOwn
import Derived.Laws.Slices
import Derived.Laws.AppendOwn
namespace Go.Proofs.Ytngmhkhncimknaa
open Go Go.RowKit
set_option linter.unusedVariables false
set_option linter.unusedSimpArgs false

theorem Bs_one (l : List UInt8) : ∀ v ∈ Bs l, v.oneCell' = true := by
  intro v hv
  obtain ⟨x, _, rfl⟩ := List.mem_map.1 hv
  rfl
theorem cells_src {w : World} {A : Option Addr} {vs : List Value} (h : Cells w A vs) : 0 < vs.length → ∃ ad, A = some ad ∧ ∀ j v, vs[j]? = some v → w.cell? (ad.add j) = some v := by
  intro h0
  obtain ⟨b, o, ha, hc⟩ := h h0
  refine ⟨_, ha, fun j v hv => ?_⟩
  rw [Addr.add_mid]
  have hj := (List.getElem?_eq_some_iff.1 hv).1
  rw [hc j hj]
  rw [List.getElem?_eq_getElem hj] at hv
  exact hv
/-- 'copy' of all bytes of a slice to the begin of a block of the call's own -/
theorem wpList_copy_all {P : Program} {w : World} {ops : Array Oper} {rest : List Oper} {o : Oper} {a : Act} {Q : Exit → Act → World → Prop} (hgd : o.guard = none) (d s : Operand) (dT sT : TypeId)
    (ho : o.op = .call { callee := .builtin .copy, args := #[d, s], argTypes := #[dT, sT] }) (elem : TypeId) (hu : P.underlying dT = some (.slice elem)) (hsz : (P.info? elem).map (·.size) = some 1)
    (g n dCap : Nat) (sp : Option Addr) (sCap : Nat) (l : List UInt8) (hd : a.eval d = .slice (some ⟨g, 0, none⟩) n dCap) (hs : a.eval s = .slice sp l.length sCap)
    (cur : List Value) (t : TypeId) (hg : w.heap[g]? = some (.cells cur.toArray t (0, 0))) (hn : l.length ≤ n) (hfit : l.length ≤ cur.length) (hA : Cells w sp (Bs l)) (B : Nat) (w0 : World) (hb : Below B w0 w) (hBg : B ≤ g)
    (h : ∀ w', Hid (w'.heap[g]? = some (.cells (Bs l ++ cur.drop l.length).toArray t (0, 0))) → Below B w0 w' → wpList P ops Q rest (a.put o.dst (goInt l.length)) w') :
    wpList P ops Q (o :: rest) a w := by
  refine wpList_copy_splice hgd d s dT sT ho elem hu hsz _ sp n dCap l.length sCap hd hs g 0 cur t hg (Bs l) (by rw [Bs_length]; exact (Nat.min_eq_left hn).symm) (fun h0 => ⟨rfl, cells_src hA h0⟩)
    (by rw [Bs_length]; omega) (Bs_one l) B w0 hb hBg ?_
  intro w' hw' hb'
  have e : w'.heap[g]? = some (.cells (Bs l ++ cur.drop l.length).toArray t (0, 0)) := by have := hw'.out; simpa [splice, Bs_length] using this
  have := h w' e hb'
  rwa [Bs_length]

/-! parts of slices -/
/-- where a part from 'lo' on begins: at the capacity's end the address stays -/
def cutA (A : Option Addr) (c lo : Nat) : Option Addr := if c = lo then A else A.map (·.add lo)
theorem run_cut_lh {P : Program} (t e : TypeId) (ht : P.underlying t = some (.slice e)) (hsz : (P.info? e).map (·.size) = some 1) (A : Option Addr) (n c : Nat) (lo hi : Nat) (h1 : lo ≤ hi) (h2 : hi ≤ c) :
    ∀ W : World, (Instr.slice t (.slice A n c) (some (.int .i64 (lo : Int))) (some (.int .i64 (hi : Int))) none).run P W = .ok (.slice (cutA A c lo) (hi - lo) (c - lo)) W := by
  intro W
  obtain ⟨i, hi', hs⟩ := Option.map_eq_some_iff.1 hsz
  have hel : P.elem t = e := by simp [Program.elem, ht]
  have hu : P.underlying t = some (.slice (P.elem t)) := by rw [hel]; exact ht
  rw [run_slice_lh W t A n c hu .i64 .i64 lo hi (by omega) (by omega) (by omega), hel]
  simp [sizeOf, typeInfo, hi', hs, sliced, Result.andThen, cutA]
theorem run_cut_l {P : Program} (t e : TypeId) (ht : P.underlying t = some (.slice e)) (hsz : (P.info? e).map (·.size) = some 1) (A : Option Addr) (n c : Nat) (lo : Nat) (h1 : lo ≤ n) :
    ∀ W : World, (Instr.slice t (.slice A n c) (some (.int .i64 (lo : Int))) none none).run P W = .ok (.slice (cutA A c lo) (n - lo) (c - lo)) W := by
  intro W
  obtain ⟨i, hi', hs⟩ := Option.map_eq_some_iff.1 hsz
  have hel : P.elem t = e := by simp [Program.elem, ht]
  have hu : P.underlying t = some (.slice (P.elem t)) := by rw [hel]; exact ht
  rw [run_slice_l W t A n c hu .i64 lo (by omega) (by omega), hel]
  simp [sizeOf, typeInfo, hi', hs, sliced, Result.andThen, cutA]
theorem run_cut_h {P : Program} (t e : TypeId) (ht : P.underlying t = some (.slice e)) (hsz : (P.info? e).map (·.size) = some 1) (A : Option Addr) (n c : Nat) (hi : Nat) (h2 : hi ≤ c) :
    ∀ W : World, (Instr.slice t (.slice A n c) none (some (.int .i64 (hi : Int))) none).run P W = .ok (.slice A hi c) W := by
  intro W
  obtain ⟨i, hi', hs⟩ := Option.map_eq_some_iff.1 hsz
  have hel : P.elem t = e := by simp [Program.elem, ht]
  have hu : P.underlying t = some (.slice (P.elem t)) := by rw [hel]; exact ht
  rw [run_slice_h W t A n c hu .i64 hi (by omega) (by omega), hel]
  simp [sizeOf, typeInfo, hi', hs, sliced, Result.andThen]
  intro _
  cases A <;> simp [Addr.add]
theorem cells_take {w : World} {A : Option Addr} {vs : List Value} (h : Cells w A vs) (k : Nat) : Cells w A (vs.take k) := by
  intro h0
  obtain ⟨b, o, ha, hc⟩ := h (by simp at h0; omega)
  refine ⟨b, o, ha, fun i hi => ?_⟩
  rw [hc i (by simp at hi; omega)]
  simp
theorem cells_drop {w : World} {A : Option Addr} {vs : List Value} (h : Cells w A vs) (c k : Nat) (hc : vs.length ≤ c) : Cells w (cutA A c k) (vs.drop k) := by
  intro h0
  have hk : k < vs.length := by simp at h0; omega
  obtain ⟨b, o, rfl, hcell⟩ := h (by omega)
  refine ⟨b, o + k, ?_, fun i hi => ?_⟩
  · unfold cutA
    rw [if_neg (by omega)]
    simp [Addr.add_mid]
  · rw [Nat.add_assoc, hcell (k + i) (by simp at hi; omega)]
    simp
theorem Bs_take (l : List UInt8) (k : Nat) : Bs (l.take k) = (Bs l).take k := by simp [Bs, List.map_take]
theorem Bs_drop (l : List UInt8) (k : Nat) : Bs (l.drop k) = (Bs l).drop k := by simp [Bs, List.map_drop]
theorem Bs_append (l m : List UInt8) : Bs (l ++ m) = Bs l ++ Bs m := by simp [Bs]
/-- a part of a slice of bytes -/
theorem slb_cut {w : World} {A : Option Addr} {l : List UInt8} {c lo hi : Nat} (h : Cells w A (Bs l)) (hlc : l.length ≤ c) (hc : c ≤ 9223372036854775807) (h1 : lo ≤ hi) (h2 : hi ≤ l.length) :
    SlB w (.slice (cutA A c lo) (hi - lo) (c - lo)) ((l.take hi).drop lo) := by
  refine ⟨cutA A c lo, c - lo, by simp; omega, by simp; omega, by omega, ?_⟩
  rw [Bs_drop, Bs_take]
  exact cells_drop (cells_take h hi) c lo (by rw [List.length_take, Bs_length]; omega)

/-! a row of the call's own, of one cell an element -/
def Own (w : World) (base : Nat) (e : TypeId) (v : Value) (vs : List Value) : Prop := w.ownsRow base e 1 v vs.length vs
theorem own_slice {w : World} {base e : Nat} {v : Value} {vs : List Value} (h : Own w base e v vs) : ∃ A c, v = .slice A vs.length c ∧ vs.length ≤ c ∧ c ≤ 9223372036854775807 ∧ Cells w A vs := by
  obtain ⟨h1, h2⟩ := h
  rcases h2 with ⟨rfl, h0⟩ | ⟨g, cap, cur, rfl, hg, hh, hn, hc, hsz, htk⟩
  · exact ⟨none, 0, by rw [h0], by omega, by omega, fun h => by omega⟩
  · unfold maxLen at hc
    refine ⟨_, cap, rfl, hn, by omega, fun h0 => ⟨g, 0, rfl, fun i hi => ?_⟩⟩
    rw [Nat.zero_add, cell_of_row w g i _ _ _ hh]
    rw [Nat.mul_one] at htk
    have hi2 : i < cur.size := by omega
    have : cur.toList[i]? = some vs[i] := by
      rw [← List.getElem?_eq_getElem hi, ← htk, List.getElem?_take_of_lt (by omega)]
    simpa using this
theorem own_drewless {w w1 : World} {base e : Nat} {v : Value} {vs : List Value} (h : Own w base e v vs) (hb : Below w.heap.size w w1) : Own w1 base e v vs := by
  obtain ⟨h1, h2⟩ := h
  refine ⟨h1, ?_⟩
  rcases h2 with h2 | ⟨g, cap, cur, hv, hg, hh, r⟩
  · exact .inl h2
  · exact .inr ⟨g, cap, cur, hv, hg, below_heap hb hh, r⟩
/-- 'append(v, u)' -/
theorem wpList_append_one {P : Program} {w0 W : World} {ops : Array Oper} {rest : List Oper} {o : Oper} {a : Act} {Q : Exit → Act → World → Prop} (hgd : o.guard = none) (s x : Operand) (t e : TypeId) (z : Value) (bytes : Nat)
    (ht : P.underlying t = some (.slice e)) (hinfo : (P.info? e).map (fun i => (i.zero, i.size, i.bytes)) = some (some z, 1, bytes)) (hz : z.cells.size = 1)
    (ho : o.op = .call { callee := .builtin .append, args := #[s, x], argTypes := #[t, t] })
    (base : Nat) (v : Value) (vs : List Value) (hs : a.eval s = v) (hown : Own W base e v vs) (hb : Below base w0 W) (hbase : base ≤ W.heap.size) (u : Value) (hu : u.oneCell' = true)
    (hx : a.eval x = .slice (some ⟨W.heap.size, 0, none⟩) 1 1) (hroom : (vs.length + 1) * bytes ≤ 140737488355328) (hmax : vs.length + 1 ≤ 9223372036854775807)
    (h : ∀ v' w', Own w' base e v' (vs ++ [u]) → Below base w0 w' → wpList P ops Q rest (a.put o.dst v') w') : wpList P ops Q (o :: rest) a (W.alloc (.cells #[u] e)) := by
  obtain ⟨i, hi, hz0, hz1, hz2⟩ := info_parts hinfo
  refine wpList_append_own _ hgd s x t ho base e i z 1 bytes ht hi hz0 hz1 hz2 hz (by decide) v vs.length vs hs (World.ownsRow.alloc hown _) ⟨W.heap.size, 0, none⟩ 1 1 [u] hx rfl ?_ ?_ (by unfold maxLen; omega) hroom (by simp; omega) ?_
  · intro j w hw
    rw [Addr.add_mid, cell_of_row _ _ _ _ _ _ (heap_here W _ _ rfl)]
    cases j with
    | zero => simpa using hw
    | succ j => simp at hw
  · intro w hw
    simp only [List.mem_singleton] at hw
    subst hw; exact hu
  · intro v' w' h1 h2 _
    refine h v' w' (by unfold Own; simpa using h1) ?_
    refine (hb.alloc hbase _).grown h2 (by simp; omega) ?_
    intro k hk
    obtain ⟨_, h0⟩ := hown
    rcases h0 with ⟨rfl, _⟩ | ⟨g, cap, cur, rfl, hg, _⟩
    · simp [Value.ownBlock] at hk
    · simp [Value.ownBlock] at hk; omega

/-- the same, the length under another spelling -/
theorem wpList_make_row' {P : Program} (w : World) {ops : Array Oper} {rest : List Oper} {o : Oper} {a : Act} {Q : Exit → Act → World → Prop} (hg : o.guard = none) (l c : Operand) (t : TypeId) (hop : o.op = Op.makeSlice t l c)
    (e : TypeId) (z : Value) (bz : Nat) (h1 : P.underlying t = some (.slice e)) (h2 : (P.info? e).map (fun i => (i.zero, i.size, i.bytes)) = some (some z, 1, bz)) (hz : z.cells = #[z])
    (n : Nat) (L : Int) (hl : a.eval l = .int .i64 L) (hc : a.eval c = .int .i64 L) (hL : L = (n : Int)) (b2 : bz * n ≤ 281474976710656) (b3 : n ≤ 9223372036854775807)
    (hK : ∀ w', w'.heap[w.heap.size]? = some (.cells (List.replicate n z).toArray e (0, 0)) → Below w.heap.size w w' → wpList P ops Q rest (a.put o.dst (.slice (some ⟨w.heap.size, 0, none⟩) n n)) w') : wpList P ops Q (o :: rest) a w := by
  subst hL
  exact wpList_make_row w hg l c t hop e z bz h1 h2 hz n hl hc b2 b3 hK

/-! what lies below a call's own blocks reads as it did -/
theorem cells_below {w w1 : World} (hb : Below w.heap.size w w1) {A : Option Addr} {vs : List Value} (h : Cells w A vs) : Cells w1 A vs := fun h0 => by
  obtain ⟨b, o, ha, hc⟩ := h h0
  exact ⟨b, o, ha, fun i hi => below_cell hb (hc i hi)⟩
theorem slb_below {w w1 : World} (hb : Below w.heap.size w w1) {v : Value} {l : List UInt8} (h : SlB w v l) : SlB w1 v l := by
  obtain ⟨A, c, hv, h1, h2, h3⟩ := h
  exact ⟨A, c, hv, h1, h2, cells_below hb h3⟩
theorem rows_below {w w1 : World} (hb : Below w.heap.size w w1) {A : Option Addr} {ls : List (List UInt8)} (h : RowsB w A ls) : RowsB w1 A ls := by
  obtain ⟨vs, h1, h2, h3⟩ := h
  exact ⟨vs, h1, cells_below hb h2, fun i hi hj => slb_below hb (h3 i hi hj)⟩
/-- a block of the call's own, as bytes or whatever -/
theorem cells_new (w : World) (vs : List Value) (t : TypeId) (fr : Nat × Nat) : Cells (w.alloc (.cells vs.toArray t fr)) (some ⟨w.heap.size, 0, none⟩) vs := fun _ =>
  ⟨_, _, rfl, fun i hi => by rw [Nat.zero_add, cell_of_row _ _ _ _ _ _ (heap_here w _ w.heap.size rfl)]; simp [hi]⟩
theorem cells_at {w : World} {g : Nat} {vs : List Value} {t : TypeId} {fr : Nat × Nat} (h : w.heap[g]? = some (.cells vs.toArray t fr)) : Cells w (some ⟨g, 0, none⟩) vs := fun _ =>
  ⟨_, _, rfl, fun i hi => by rw [Nat.zero_add, cell_of_row _ _ _ _ _ _ h]; simp [hi]⟩
theorem slb_at {w : World} {g n c : Nat} {l : List UInt8} {t : TypeId} {fr : Nat × Nat} (h : w.heap[g]? = some (.cells (Bs l).toArray t fr)) (hn : n = l.length) (h1 : n ≤ c) (h2 : c ≤ 9223372036854775807) : SlB w (.slice (some ⟨g, 0, none⟩) n c) l := by
  subst hn
  exact ⟨_, c, rfl, h1, h2, cells_at h⟩
theorem slb_nil (w : World) : SlB w (.slice none 0 0) [] := ⟨none, 0, rfl, Nat.le_refl _, by decide, fun h => absurd h (by simp [Bs])⟩
end Go.Proofs.Ytngmhkhncimknaa
