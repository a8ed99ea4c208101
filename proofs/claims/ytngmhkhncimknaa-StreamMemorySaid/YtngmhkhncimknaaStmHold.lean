/- What a law's goroutine holds of the world from call to call. -/
import Derived.Test.YtngmhkhncimknaaStmSame
import Derived.Test.YtngmhkhncimknaaStmAll
namespace Go.Proofs.Ytngmhkhncimknaa
open Go Go.Conc Go.RowKit
set_option linter.unusedVariables false
set_option linter.unusedSimpArgs false

/-- a reading that outlives whatever only makes memory -/
def StB (F : World → Prop) : Prop := ∀ w w', Below w.heap.size w w' → F w → F w'
theorem StB.and {F G : World → Prop} (h : StB F) (g : StB G) : StB (fun w => F w ∧ G w) := fun w w' hb q => ⟨h w w' hb q.1, g w w' hb q.2⟩
theorem stB_rows (A : Option Addr) (ls : List (List UInt8)) : StB (fun w => RowsB w A ls) := fun _ _ hb h => rowsB_below hb h
theorem stB_cells (A : Option Addr) (vs : List Value) : StB (fun w => Cells w A vs) := fun _ _ hb h => cells_below hb h
theorem stB_true : StB (fun _ => True) := fun _ _ _ _ => trivial

structure HG (w0 : World) (F : World → Prop) (w : World) : Prop where
  below : Below w0.heap.size w0 w
  at_ : F w
  st : StB F
theorem HG.next {w0 w w' : World} {F : World → Prop} (h : HG w0 F w) (hb : Below w.heap.size w w') : HG w0 F w' := ⟨h.below.trans (hb.mono h.below.size), h.st _ _ hb h.at_, h.st⟩
theorem HG.rely {w0 w w' : World} {F : World → Prop} (h : HG w0 F w) (r : ∃ d, w' = w.at d) : HG w0 F w' := by
  obtain ⟨d, rfl⟩ := r
  exact h.next ⟨rfl, rfl, rfl, Nat.le_refl _, fun _ _ => rfl⟩
theorem HG.add {w0 w : World} {F G : World → Prop} (h : HG w0 F w) (g : StB G) (hg : G w) : HG w0 (fun w => F w ∧ G w) w := ⟨h.below, ⟨h.at_, hg⟩, h.st.and g⟩
theorem HG.call {w0 w w' : World} {F G : World → Prop} (h : HG w0 F w) (hb : Below w.heap.size w w') (g : StB G) (hg : G w') : HG w0 (fun w => F w ∧ G w) w' := (h.next hb).add g hg
theorem HG.alloc {w0 w : World} {F : World → Prop} (h : HG w0 F w) (o : Obj) : HG w0 F (w.alloc o) := h.next ((Below.refl _ _).alloc (Nat.le_refl _) o)

/-- append(rows, more...), by what is read -/
theorem run_append_rows' {P : Program} (w : World) (base : Nat) (t ty e : TypeId) (ht : P.underlying t = some (.slice e)) (hinfo : (P.info? e).map (fun i => (i.zero, i.size, i.bytes)) = some (some (.slice none 0 0), 1, 24)) (v : Value) (A : Addr) (c : Nat) (us vs : List Value)
    (hown : Own w base e v us) (hx : Cells w (some A) vs) (h0 : 0 < vs.length) (h1 : ∀ u ∈ vs, u.oneCell' = true) (hroom : us.length + vs.length ≤ 4000000000000) (hbase : base ≤ w.heap.size) :
    ∃ v' w', (Builtin.append_ #[t, t] ty #[v, .slice (some A) vs.length c]).run P w = .ok v' w' ∧ Own w' base e v' (us ++ vs) ∧ w.grownBy w' v.ownBlock := by
  obtain ⟨i, hi, hz0, hz1, hz2⟩ := info_parts hinfo
  obtain ⟨ad, he, hc⟩ := cells_src hx h0
  obtain rfl : A = ad := Option.some.inj he
  obtain ⟨v', w', hr, h2, h3, _⟩ := run_append_own (P := P) w base t ty e i (.slice none 0 0) 1 24 ht hi hz0 hz1 hz2 rfl (by decide) v us.length us hown A vs.length c vs (by simp) hc h1 (by unfold maxLen; omega) (by omega) hbase
  refine ⟨v', w', hr, ?_, h3⟩
  unfold Own
  simpa using h2

/-- the bytes of a row, each as a row of its own -/
def ones (A : Option Addr) (c k : Nat) : List Value := (List.range k).map fun i => Value.slice (cutA A c i) 1 (c - i)
theorem ones_succ (A : Option Addr) (c k : Nat) : ones A c (k + 1) = ones A c k ++ [.slice (cutA A c k) 1 (c - k)] := by simp [ones, List.range_succ]
theorem ones_length (A : Option Addr) (c k : Nat) : (ones A c k).length = k := by simp [ones]
theorem singles_flatten (l : List UInt8) : (l.map fun x => [x]).flatten = l := by
  induction l with
  | nil => rfl
  | cons x r ih => simp [ih]

structure FS (w0 : World) (A : Option Addr) (c : Nat) (l : List UInt8) (v : Value) (k : Nat) (w : World) : Prop where
  below : Below w0.heap.size w0 w
  whole : Own w w0.heap.size 5 (.slice A l.length c) (Bs l)
  out : Own w w0.heap.size 30 v (ones A c k)
theorem FS.next {w0 w w' : World} {A : Option Addr} {c k : Nat} {l : List UInt8} {v : Value} (h : FS w0 A c l v k w) (hb : Below w.heap.size w w') : FS w0 A c l v k w' :=
  ⟨h.below.trans (hb.mono h.below.size), own_drewless h.whole hb, own_drewless h.out hb⟩
theorem FS.rely {w0 w w' : World} {A : Option Addr} {c k : Nat} {l : List UInt8} {v : Value} (h : FS w0 A c l v k w) (r : ∃ d, w' = w.at d) : FS w0 A c l v k w' := by
  obtain ⟨d, rfl⟩ := r
  exact h.next ⟨rfl, rfl, rfl, Nat.le_refl _, fun _ _ => rfl⟩
theorem FS.grown {w0 w w' : World} {A : Option Addr} {c k : Nat} {l : List UInt8} {v v' : Value} (h : FS w0 A c l v k w) (ho : Own w' w0.heap.size 30 v' (ones A c k ++ [.slice (cutA A c k) 1 (c - k)])) (hg : w.grownBy w' v.ownBlock) : FS w0 A c l v' (k + 1) w' :=
  ⟨below_grown h.below h.out hg (Nat.le_refl _) h.below.size, own_grown2 h.whole h.out (by decide) hg, by rw [ones_succ]; exact ho⟩
theorem FS.rows {w0 w : World} {A : Option Addr} {c : Nat} {l : List UInt8} {v : Value} (h : FS w0 A c l v l.length w) : Cells w A (Bs l) ∧ ∃ B d, v = .slice B l.length d ∧ RowsB w B (l.map fun x => [x]) := by
  obtain ⟨A', c', e, h1, h2, h3⟩ := own_slice h.whole
  rw [Bs_length] at e h1
  obtain ⟨rfl, rfl⟩ : A = A' ∧ c = c' := by simpa using e
  obtain ⟨B, d, rfl, q1, q2, q3⟩ := own_slice h.out
  rw [ones_length] at *
  refine ⟨h3, B, d, rfl, ones A c l.length, by simp [ones_length], q3, fun i a b => ?_⟩
  have hi : i < l.length := by simpa using b
  have := slb_cut h3 h1 h2 (lo := i) (hi := i + 1) (by omega) (by omega)
  have e2 : (l.take (i + 1)).drop i = [l[i]] := by
    rw [List.drop_take, show i + 1 - i = 1 by omega, List.drop_eq_getElem_cons hi]
    rfl
  rw [e2, show i + 1 - i = 1 by omega] at this
  simpa [ones] using this
theorem FS.cells {w0 w : World} {A : Option Addr} {c k : Nat} {l : List UInt8} {v : Value} (h : FS w0 A c l v k w) : Cells w A (Bs l) ∧ l.length ≤ c ∧ c ≤ 9223372036854775807 := by
  obtain ⟨A', c', e, h1, h2, h3⟩ := own_slice h.whole
  rw [Bs_length] at e h1
  obtain ⟨rfl, rfl⟩ : A = A' ∧ c = c' := by simpa using e
  exact ⟨h3, h1, h2⟩
/-- a row of one row -/
theorem rows_one {w : World} {g : Nat} {A : Option Addr} {c : Nat} {l : List UInt8} (hg : w.heap[g]? = some (.cells #[.slice A l.length c] 30 (0, 0))) (h1 : l.length ≤ c) (h2 : c ≤ 9223372036854775807) (h3 : Cells w A (Bs l)) : RowsB w (some ⟨g, 0, none⟩) [l] := by
  refine ⟨[.slice A l.length c], rfl, fun _ => ⟨g, 0, rfl, fun i hi => ?_⟩, fun i a b => ?_⟩
  · rw [Nat.zero_add, cell_of_row w g i _ _ _ hg]
    match i, hi with
    | 0, _ => rfl
  · match i, a, b with
    | 0, _, _ => exact ⟨A, c, rfl, h1, h2, h3⟩
end Go.Proofs.Ytngmhkhncimknaa
