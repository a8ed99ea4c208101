/- What slices read as: a row of cells; bytes; rows of bytes. How such a reading outlives what the call makes. -/
import Derived.WalkKit
import Derived.RowKit3
import Derived.Below
import Derived.OneCell
import Derived.Deep.Draws
import Derived.Deep.MidRow
import Derived.Test.YtngmhkhncimknaaNum
namespace Go.Proofs.Ytngmhkhncimknaa
open Go Go.RowKit
set_option linter.unusedVariables false
set_option linter.unusedSimpArgs false

/-- the slice with this address reads, place by place, as these values (each of one cell) -/
def Cells (w : World) (A : Option Addr) (vs : List Value) : Prop :=
  0 < vs.length → ∃ b o, A = some ⟨b, o, none⟩ ∧ ∀ i, (h : i < vs.length) → w.cell? ⟨b, o + i, none⟩ = some vs[i]
/-- bytes as the model's values -/
def Bs (l : List UInt8) : List Value := l.map fun x => .int .u8 (n8 x)
theorem Bs_length (l : List UInt8) : (Bs l).length = l.length := by simp [Bs]
theorem Cells.byte {w : World} {A : Option Addr} {l : List UInt8} (h : Cells w A (Bs l)) (k : Nat) (hk : k < l.length) :
    ∃ b o, A = some ⟨b, o, none⟩ ∧ w.cell? ⟨b, o + k, none⟩ = some (.int .u8 (n8 l[k])) := by
  obtain ⟨b, o, ha, hc⟩ := h (by rw [Bs_length]; omega)
  exact ⟨b, o, ha, by have := hc k (by rw [Bs_length]; omega); simpa [Bs] using this⟩
/-- a slice of bytes -/
def SlB (w : World) (v : Value) (l : List UInt8) : Prop := ∃ A c, v = .slice A l.length c ∧ l.length ≤ c ∧ c ≤ 9223372036854775807 ∧ Cells w A (Bs l)
/-- a slice of slices of bytes -/
def RowsB (w : World) (A : Option Addr) (ls : List (List UInt8)) : Prop :=
  ∃ vs : List Value, vs.length = ls.length ∧ Cells w A vs ∧ ∀ i, (h1 : i < vs.length) → (h2 : i < ls.length) → SlB w vs[i] ls[i]
theorem RowsB.row {w : World} {A : Option Addr} {ls : List (List UInt8)} (h : RowsB w A ls) (k : Nat) (hk : k < ls.length) :
    ∃ b o, A = some ⟨b, o, none⟩ ∧ ∃ A' c', ls[k].length ≤ 9223372036854775807 ∧ w.cell? ⟨b, o + k, none⟩ = some (.slice A' ls[k].length c') ∧ Cells w A' (Bs ls[k]) := by
  obtain ⟨vs, hl, hc, hr⟩ := h
  obtain ⟨b, o, ha, hc⟩ := hc (by omega)
  obtain ⟨A', c', hv, h1, h2, h3⟩ := hr k (by omega) hk
  exact ⟨b, o, ha, A', c', by omega, by rw [hc k (by omega), hv], h3⟩

theorem heap_lt {w : World} {g : Nat} {o : Obj} (h : w.heap[g]? = some o) : g < w.heap.size := (Array.getElem?_eq_some_iff.1 h).1
/-- what lies in the heap stays behind a call that only makes memory -/
theorem below_heap {w w1 : World} (hb : Below w.heap.size w w1) {g : Nat} {o : Obj} (h : w.heap[g]? = some o) : w1.heap[g]? = some o := (hb.block g (heap_lt h)).trans h
theorem below_cell {w w1 : World} (hb : Below w.heap.size w w1) {a : Addr} {v : Value} (h : w.cell? a = some v) : w1.cell? a = some v := (hb.cell (World.block_lt_of_cell? w a h)).trans h
theorem below_frozen {w w1 : World} (hb : Below w.heap.size w w1) {a : Addr} {v : Value} (h : w.cell? a = some v) {b : Bool} (hf : w.frozen? a = b) : w1.frozen? a = b := (hb.frozen (World.block_lt_of_cell? w a h)).trans hf
theorem below_range {w w1 : World} (hb : Below w.heap.size w w1) {b o : Nat} {cs : List Value} (h : w.rangeAt b o cs) : w1.rangeAt b o cs := fun j v hv => below_cell hb (h j v hv)
theorem heap_alloc_if (w : World) (o : Obj) (k : Nat) : (w.alloc o).heap[k]? = if k = w.heap.size then some o else w.heap[k]? := by
  show (w.heap.push o)[k]? = _
  rw [Array.getElem?_push]
theorem heap_here (w : World) (o : Obj) (k : Nat) (h : k = w.heap.size) : (w.alloc o).heap[k]? = some o := by rw [heap_alloc_if, if_pos h]
theorem heap_before (w : World) (o : Obj) (k : Nat) (x : Option Obj) (h : k ≠ w.heap.size) (hx : w.heap[k]? = x) : (w.alloc o).heap[k]? = x := by rw [heap_alloc_if, if_neg h, hx]
theorem undrew {w w1 : World} {B : Nat} (h : Below B w.drew w1) : Below B w w1 := ⟨h.os, h.tape, h.output, h.size, h.block⟩
theorem undrewN {w w1 : World} {B n : Nat} (h : Below B (w.drewN n) w1) : Below B w w1 := ⟨h.os, h.tape, h.output, h.size, h.block⟩
theorem far_heap {w : World} {a : Addr} {v : Value} {g : Nat} {o : Option Obj} (hne : g ≠ a.block) (h : w.heap[g]? = o) : (w.setCell a v).heap[g]? = o := (Below.heap_setCell w a v g hne).trans h
theorem far_cell {w : World} {a b : Addr} {v x : Value} (hne : b.block ≠ a.block) (h : w.cell? b = some x) : (w.setCell a v).cell? b = some x := by
  unfold World.cell? at *; rw [Below.heap_setCell w a v _ hne]; exact h
theorem far_range {w : World} {a : Addr} {v : Value} {b o : Nat} {cs : List Value} (hne : b ≠ a.block) (h : w.rangeAt b o cs) : (w.setCell a v).rangeAt b o cs := fun j x hx => far_cell hne (h j x hx)
theorem below_then {w w1 w2 : World} (h : Below w.heap.size w w1) (k : Below w1.heap.size w1 w2) : Below w.heap.size w w2 := h.trans (k.mono h.size)
theorem heap_frozen {w : World} {g t : Nat} {cs : Array Value} (h : w.heap[g]? = some (.cells cs t (0, 0))) (i : Nat) : w.frozen? ⟨g, i, none⟩ = false := by simp [World.frozen?, h]

/-! a whole block is written -/
theorem heap_setCells_aux (g t : Nat) : ∀ (vs : List Value) (o : Nat) (w : World) (cs : List Value), w.heap[g]? = some (.cells cs.toArray t (0, 0)) → o + vs.length ≤ cs.length →
    (w.setCells g o vs).heap[g]? = some (.cells (cs.take o ++ vs ++ cs.drop (o + vs.length)).toArray t (0, 0))
  | [], o, w, cs, h, _ => by simpa [World.setCells] using h
  | v :: r, o, w, cs, h, hl => by
    simp only [List.length_cons] at hl
    have h1 := heap_setCell_same w g o _ t v h
    rw [List.setIfInBounds_toArray] at h1
    have := heap_setCells_aux g t r (o + 1) _ _ h1 (by simp; omega)
    rw [World.setCells, this]
    have e : (cs.set o v).take (o + 1) ++ r ++ (cs.set o v).drop (o + 1 + r.length) = cs.take o ++ v :: r ++ cs.drop (o + (r.length + 1)) := by
      rw [List.take_succ_eq_append_getElem (by simp; omega), List.getElem_set_self, List.take_set_of_le (by omega), List.drop_set_of_lt (by omega), show o + 1 + r.length = o + (r.length + 1) from by omega]
      simp
    rw [e]; simp
theorem heap_setCells {w : World} {g t : Nat} {cs : Array Value} {vs : List Value} (h : w.heap[g]? = some (.cells cs t (0, 0))) (hl : vs.length = cs.size) :
    (w.setCells g 0 vs).heap[g]? = some (.cells vs.toArray t (0, 0)) := by
  have := heap_setCells_aux g t vs 0 w cs.toList (by simpa using h) (by simp; omega)
  rw [this]; simp [hl]
theorem heap_setCells_far (g : Nat) {k : Nat} (hk : k ≠ g) : ∀ (vs : List Value) (o : Nat) (w : World), (w.setCells g o vs).heap[k]? = w.heap[k]?
  | [], _, _ => rfl
  | v :: r, o, w0 => by rw [World.setCells, heap_setCells_far g hk r, Below.heap_setCell w0 ⟨g, o, none⟩ v k hk]
theorem below_setCells {B : Nat} {a : World} (g : Nat) (hg : B ≤ g) : ∀ (vs : List Value) (o : Nat) (w : World), Below B a w → Below B a (w.setCells g o vs)
  | [], _, _, h => h
  | v :: r, o, _, h => below_setCells g hg r (o + 1) _ (h.setCell (p := ⟨g, o, none⟩) hg v)
theorem wpList_load_arr {P : Program} {ops : Array Oper} {rest : List Oper} {op : Oper} {a : Act} {w : World} {Q : Exit → Act → World → Prop} (hgd : op.guard = none) (ty : TypeId) (x : Operand) (ho : op.op = .load ty x)
    (g : Nat) (hx : a.eval x = .pointer (some ⟨g, 0, none⟩)) {t : TypeId} {cs : Array Value} {d : TypeDesc} (hg : w.heap[g]? = some (.cells cs t (0, 0)))
    (hu : P.underlying ty = some d) (hd : (match d with | .struct _ | .array _ _ => true | _ => false) = true) (hi : (P.info? ty).map (·.size) = some cs.size)
    (h : wpList P ops Q rest (a.put op.dst (.agg cs)) w) : wpList P ops Q (op :: rest) a w :=
  wpList_load_row hgd ty x ho g hx t cs (0, 0) d hg hu hd hi h
theorem wpList_store_arr {P : Program} {ops : Array Oper} {rest : List Oper} {op : Oper} {a : Act} {w : World} {Q : Exit → Act → World → Prop} (hgd : op.guard = none) (ty : TypeId) (x y : Operand) (ho : op.op = .store ty x y)
    (g : Nat) (cells : Array Value) (hx : a.eval x = .pointer (some ⟨g, 0, none⟩)) (hy : a.eval y = .agg cells) {t : TypeId} {cs : Array Value} (hg : w.heap[g]? = some (.cells cs t (0, 0))) (hsz : cs.size = cells.size)
    (hi : (P.info? ty).map (·.size) = some cells.size) (h1 : cells.all (·.oneCell') = true)
    (h : ∀ w', w'.heap[g]? = some (.cells cells t (0, 0)) → (∀ k, k ≠ g → w'.heap[k]? = w.heap[k]?) → w'.heap.size = w.heap.size → (∀ B a, Below B a w → B ≤ g → Below B a w') → wpList P ops Q rest (a.put op.dst undef) w') : wpList P ops Q (op :: rest) a w := by
  refine wpList_store_mid hgd ty x y ho g 0 cells hx hy ?_ hi h1 ?_
  · intro j hj
    rw [Nat.zero_add]
    exact ⟨by rw [cell_of_row w g j _ _ _ hg]; simp; omega, heap_frozen hg j⟩
  · have hh := heap_setCells (vs := cells.toList) hg (by simp [hsz])
    refine h _ (by simpa using hh) (fun k hk => heap_setCells_far g hk _ _ _) ?_ (fun B a hb hB => below_setCells g hB _ _ _ hb)
    have : ∀ (vs : List Value) (o : Nat) (w : World), (w.setCells g o vs).heap.size = w.heap.size := by
      intro vs
      induction vs with
      | nil => intro o w; rfl
      | cons v r ih => intro o w; rw [World.setCells, ih]; simp [World.setCell]
    exact this _ _ _

/-- 'make([]T, n)', T of one cell: a new block of n zeros -/
theorem wpList_make_row {P : Program} (w : World) {ops : Array Oper} {rest : List Oper} {o : Oper} {a : Act} {Q : Exit → Act → World → Prop} (hg : o.guard = none) (l c : Operand) (t : TypeId) (hop : o.op = Op.makeSlice t l c)
    (e : TypeId) (z : Value) (bz : Nat) (h1 : P.underlying t = some (.slice e)) (h2 : (P.info? e).map (fun i => (i.zero, i.size, i.bytes)) = some (some z, 1, bz)) (hz : z.cells = #[z])
    (n : Nat) (hl : a.eval l = .int .i64 n) (hc : a.eval c = .int .i64 n) (b2 : bz * n ≤ 281474976710656) (b3 : n ≤ 9223372036854775807)
    (hK : ∀ w', w'.heap[w.heap.size]? = some (.cells (List.replicate n z).toArray e (0, 0)) → Below w.heap.size w w' → wpList P ops Q rest (a.put o.dst (.slice (some ⟨w.heap.size, 0, none⟩) n n)) w') : wpList P ops Q (o :: rest) a w := by
  obtain ⟨i, hi, hz0, hz1, hz2⟩ := info_parts h2
  refine wpList_make_full w hg l c t hop w.heap.size e i z 1 h1 hi hz0 hz1 .i64 .i64 n n n hl hc rfl rfl (by rw [hz2]; exact b2) (by unfold maxLen; omega) (Nat.le_refl _) ?_
  intro w' hown hgr
  refine hK w' ?_ ((Below.refl _ _).grown hgr (Nat.le_refl _) (fun k hk => by cases hk))
  obtain ⟨hl, h0⟩ := hown
  have hmade : (madeCells z.cells (n * 1)).toList = List.replicate n z := by
    rw [hz, Nat.mul_one]
    have : ∀ m, (madeCells #[z] m).toList = List.replicate m z := by
      intro m
      apply List.ext_getElem
      · simp [madeCells]
      · intro i h1 h2
        simp [madeCells, Nat.mod_one]
    exact this n
  rcases h0 with ⟨h, _⟩ | ⟨g, cap, cur, hv, _, hh, _, _, hsz, htk⟩
  · cases h
  · simp only [Value.slice.injEq, Option.some.injEq, Addr.mk.injEq, and_true, true_and] at hv
    obtain ⟨rfl, rfl⟩ := hv
    rw [hh]
    have : cur = (List.replicate n z).toArray := by
      rw [← hmade, ← htk, List.take_of_length_le (by simp; omega)]
    rw [this]
end Go.Proofs.Ytngmhkhncimknaa
