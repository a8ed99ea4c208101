/- What stays: all that was there but one block. Readers beside other blocks. -/
import Derived.Test.YtonfeppenhebjaaDoorReqE
namespace Go.Proofs.YtonfeppenhebjaaDoor
open Go Go.RowKit
set_option linter.unusedVariables false
set_option linter.unusedSimpArgs false

/-- what was there stays, but block g -/
def Keep (g : Nat) (w w' : World) : Prop := w'.os = w.os ∧ w'.tape = w.tape ∧ w'.output = w.output ∧ w.heap.size ≤ w'.heap.size ∧ ∀ x, x < w.heap.size → x ≠ g → w'.heap[x]? = w.heap[x]?
theorem keep_refl (g : Nat) (w : World) : Keep g w w := ⟨rfl, rfl, rfl, Nat.le_refl _, fun _ _ _ => rfl⟩
theorem keep_trans {g : Nat} {a b c : World} (h : Keep g a b) (k : Keep g b c) : Keep g a c :=
  ⟨k.1.trans h.1, k.2.1.trans h.2.1, k.2.2.1.trans h.2.2.1, Nat.le_trans h.2.2.2.1 k.2.2.2.1, fun x hx hne => (k.2.2.2.2 x (Nat.lt_of_lt_of_le hx h.2.2.2.1) hne).trans (h.2.2.2.2 x hx hne)⟩
theorem keep_only {g : Nat} {a b : World} (h : Only g a b) : Keep g a b := ⟨h.1, h.2.1, h.2.2.1, by rw [h.2.2.2.1]; exact Nat.le_refl _, fun x _ hne => h.2.2.2.2 x hne⟩
theorem keep_of_below {g : Nat} {a b : World} (h : Below a.heap.size a b) : Keep g a b := ⟨h.os, h.tape, h.output, h.size, fun x hx _ => h.block x hx⟩
theorem keep_below {g B : Nat} {a b : World} (h : Keep g a b) (h1 : B ≤ g) (h2 : B ≤ a.heap.size) : Below B a b := ⟨h.1, h.2.1, h.2.2.1, h.2.2.2.1, fun x hx => h.2.2.2.2 x (by omega) (by omega)⟩
theorem keep_alloc {g : Nat} {a b : World} (h : Keep g a b) (o : Obj) : Keep g a (b.alloc o) := keep_trans h (keep_of_below ((Below.refl _ _).alloc (Nat.le_refl _) _))
theorem keep_drew {g : Nat} {a b : World} (h : Keep g a b) : Keep g a b.drew := ⟨h.1, h.2.1, h.2.2.1, h.2.2.2.1, h.2.2.2.2⟩
theorem keep_drewN {g n : Nat} {a b : World} (h : Keep g a b) : Keep g a (b.drewN n) := ⟨h.1, h.2.1, h.2.2.1, h.2.2.2.1, h.2.2.2.2⟩
theorem keep_set {g : Nat} {a b : World} (h : Keep g a b) {c : Nat} (hc : a.heap.size ≤ c) (o : Nat) (v : Value) : Keep g a (b.setCell ⟨c, o, none⟩ v) := by
  have hb := (Below.refl 0 b).setCell (p := ⟨c, o, none⟩) (Nat.zero_le _) v
  exact ⟨hb.os.trans h.1, hb.tape.trans h.2.1, hb.output.trans h.2.2.1, Nat.le_trans h.2.2.2.1 hb.size, fun x hx hne => (Below.heap_setCell b ⟨c, o, none⟩ v x (by simp; omega)).trans (h.2.2.2.2 x hx hne)⟩
theorem keep_heap {g b : Nat} {w w' : World} {o : Obj} (h : Keep g w w') (hb : w.heap[b]? = some o) (hne : b ≠ g) : w'.heap[b]? = some o := (h.2.2.2.2 b (heap_lt hb) hne).trans hb
theorem keep_cell {g : Nat} {w w' : World} {a : Addr} {v : Value} (h : Keep g w w') (hb : w.cell? a = some v) (hne : a.block ≠ g) : w'.cell? a = some v :=
  (World.cell?_of_block (h.2.2.2.2 a.block (World.block_lt_of_cell? w a hb) hne)).trans hb

/-- where the errors' variables lie: below B -/
def GB (B : Nat) : Prop := ∀ k, 1 ≤ k → k ≤ 4 → errG k < B
theorem gb_of {w : World} {p : Nat → Addr} (h : E4 w p) : GB w.heap.size := fun k h1 h2 => World.block_lt_of_cell? w _ (h k h1 h2)
theorem gb_mono {B B' : Nat} (h : GB B) (hb : B ≤ B') : GB B' := fun k h1 h2 => Nat.lt_of_lt_of_le (h k h1 h2) hb
theorem e4_keep {g B : Nat} {w w' : World} {p : Nat → Addr} (h : E4 w p) (hg : GB B) (hB : B ≤ g) (hk : Keep g w w') : E4 w' p := fun k h1 h2 => keep_cell hk (h k h1 h2) (by have := hg k h1 h2; show errG k ≠ g; omega)
theorem gne {B g : Nat} (hg : GB B) (hB : B ≤ g) : 2 ≠ g ∧ 3 ≠ g := by
  have h2 : 2 < B := hg 2 (by decide) (by decide)
  have h3 : 3 < B := hg 3 (by decide) (by decide)
  omega

/-- cells that are no bytes -/
def noByte (cs : Array Value) : Bool := cs.toList.all fun v => match v with | .int .u8 _ => false | _ => true
theorem noByte_at {cs : Array Value} (h : noByte cs = true) (i : Nat) (u : Int) : cs[i]? ≠ some (.int .u8 u) := by
  intro hi
  have := List.all_eq_true.1 h _ (Array.mem_toList_iff.2 (Array.mem_of_getElem? hi))
  simp at this
/-- a reader does not mind what becomes of blocks that hold no bytes -/
theorem rd_frame {w w' : World} {B g : Nat} {rest : List UInt8} {f : Value} (h : Rd w B g rest f) (hh : ∀ x : Nat, w'.heap[x]? = w.heap[x]? ∨ ∃ (cs : Array Value) (T : Nat), w.heap[x]? = some (Obj.cells cs T (0, 0)) ∧ T ≠ 98 ∧ noByte cs = true) : Rd w' B g rest f := by
  obtain ⟨A, c, h1, h2, h3, h4, h5, h6⟩ := h
  refine ⟨A, c, h1, ?_, h3, h4, ?_, h6⟩
  · rcases hh g with h | ⟨cs, T, hc, hT, _⟩
    · exact h.trans h2
    · rw [h2] at hc
      simp only [Option.some.injEq, Obj.cells.injEq] at hc
      exact absurd hc.2.1.symm hT
  · intro h0
    obtain ⟨b, o, ha, hc⟩ := h5 h0
    refine ⟨b, o, ha, fun i hi => ?_⟩
    rcases hh b with h | ⟨cs, T, hcs, _, hn⟩
    · exact (World.cell?_of_block h).trans (hc i hi)
    · exfalso
      have := hc i hi
      rw [cell_of_row w b (o + i) _ _ _ hcs] at this
      simp only [Bs, List.getElem_map] at this
      exact noByte_at hn _ _ this
theorem rd_set {w : World} {B g : Nat} {rest : List UInt8} {f : Value} (h : Rd w B g rest f) {b T : Nat} {cs : Array Value} (hb : w.heap[b]? = some (.cells cs T (0, 0))) (hT : T ≠ 98) (hn : noByte cs = true) (o : Nat) (v : Value) : Rd (w.setCell ⟨b, o, none⟩ v) B g rest f := by
  refine rd_frame h fun x => ?_
  by_cases hx : x = b
  · subst hx; exact .inr ⟨cs, T, hb, hT, hn⟩
  · exact .inl (Below.heap_setCell w _ v x hx)
theorem set_heap {w : World} {b T : Nat} {cs : Array Value} (hb : w.heap[b]? = some (.cells cs T (0, 0))) (o : Nat) (v : Value) : (w.setCell ⟨b, o, none⟩ v).heap[b]? = some (.cells (cs.setIfInBounds o v) T (0, 0)) := heap_setCell_same w b o _ _ v hb
theorem set_other {w : World} {b x : Nat} {o : Option Obj} (h : w.heap[x]? = o) (hne : x ≠ b) (i : Nat) (v : Value) : (w.setCell ⟨b, i, none⟩ v).heap[x]? = o := (Below.heap_setCell w ⟨b, i, none⟩ v x hne).trans h
theorem rd_alloc {w : World} {B g : Nat} {rest : List UInt8} {f : Value} (h : Rd w B g rest f) (o : Obj) : Rd (w.alloc o) B g rest f := rd_below h ((Below.refl _ _).alloc (Nat.le_refl _) _)
theorem box5 {w : World} {g T : Nat} {v0 v1 v2 v3 v4 : Value} {fr : Nat × Nat} (h : w.heap[g]? = some (.cells #[v0, v1, v2, v3, v4] T fr)) :
    w.cell? ⟨g, 0, none⟩ = some v0 ∧ w.cell? ⟨g, 1, none⟩ = some v1 ∧ w.cell? ⟨g, 2, none⟩ = some v2 ∧ w.cell? ⟨g, 3, none⟩ = some v3 ∧ w.cell? ⟨g, 4, none⟩ = some v4 :=
  ⟨blk_cell h 0 _ rfl, blk_cell h 1 _ rfl, blk_cell h 2 _ rfl, blk_cell h 3 _ rfl, blk_cell h 4 _ rfl⟩
theorem set5_other {W : World} {n x : Nat} (hx : x ≠ n) (v0 v1 v2 v3 v4 : Value) : (((((W.setCell ⟨n, 0, none⟩ v0).setCell ⟨n, 1, none⟩ v1).setCell ⟨n, 2, none⟩ v2).setCell ⟨n, 3, none⟩ v3).setCell ⟨n, 4, none⟩ v4).heap[x]? = W.heap[x]? := by
  rw [Below.heap_setCell _ _ _ x hx, Below.heap_setCell _ _ _ x hx, Below.heap_setCell _ _ _ x hx, Below.heap_setCell _ _ _ x hx, Below.heap_setCell _ _ _ x hx]
theorem set5_rd {W : World} {B g : Nat} {rest : List UInt8} {f : Value} (h : Rd W B g rest f) {n T : Nat} {cs : Array Value} (hb : W.heap[n]? = some (.cells cs T (0, 0))) (hT : T ≠ 98) (hn : noByte cs = true) (v0 v1 v2 v3 v4 : Value) :
    Rd (((((W.setCell ⟨n, 0, none⟩ v0).setCell ⟨n, 1, none⟩ v1).setCell ⟨n, 2, none⟩ v2).setCell ⟨n, 3, none⟩ v3).setCell ⟨n, 4, none⟩ v4) B g rest f := by
  refine rd_frame h fun x => ?_
  by_cases hx : x = n
  · subst hx; exact .inr ⟨cs, T, hb, hT, hn⟩
  · exact .inl (set5_other hx _ _ _ _ _)
theorem set5_keep {W a : World} {g n : Nat} (h : Keep g a W) (hn : a.heap.size ≤ n) (v0 v1 v2 v3 v4 : Value) :
    Keep g a (((((W.setCell ⟨n, 0, none⟩ v0).setCell ⟨n, 1, none⟩ v1).setCell ⟨n, 2, none⟩ v2).setCell ⟨n, 3, none⟩ v3).setCell ⟨n, 4, none⟩ v4) :=
  keep_set (keep_set (keep_set (keep_set (keep_set h hn _ _) hn _ _) hn _ _) hn _ _) hn _ _
theorem rd_drew {w : World} {B g : Nat} {rest : List UInt8} {f : Value} (h : Rd w B g rest f) : Rd w.drew B g rest f := h
theorem rd_drewN {w : World} {B g n : Nat} {rest : List UInt8} {f : Value} (h : Rd w B g rest f) : Rd (w.drewN n) B g rest f := h
theorem set8_below {W a : World} {B n : Nat} (h : Below B a W) (hn : B ≤ n) (v0 v1 v2 v3 v4 v5 v6 v7 : Value) :
    Below B a ((((((((W.setCell ⟨n, 0, none⟩ v0).setCell ⟨n, 1, none⟩ v1).setCell ⟨n, 2, none⟩ v2).setCell ⟨n, 3, none⟩ v3).setCell ⟨n, 4, none⟩ v4).setCell ⟨n, 5, none⟩ v5).setCell ⟨n, 6, none⟩ v6).setCell ⟨n, 7, none⟩ v7) :=
  (((((((h.setCell hn _).setCell hn _).setCell hn _).setCell hn _).setCell hn _).setCell hn _).setCell hn _).setCell hn _
theorem alloc_heap {w : World} {b : Nat} {o : Obj} (h : w.heap[b]? = some o) (o' : Obj) : (w.alloc o').heap[b]? = some o := below_heap ((Below.refl _ _).alloc (Nat.le_refl _) _) h
theorem five_other {W : World} {n x : Nat} {o : Option Obj} (h : W.heap[x]? = o) (hx : x ≠ n) (v0 v1 v2 v3 v4 : Value) : (((((W.setCell ⟨n, 2, none⟩ v0).setCell ⟨n, 3, none⟩ v1).setCell ⟨n, 4, none⟩ v2).setCell ⟨n, 5, none⟩ v3).setCell ⟨n, 6, none⟩ v4).heap[x]? = o := by
  rw [Below.heap_setCell _ _ _ x hx, Below.heap_setCell _ _ _ x hx, Below.heap_setCell _ _ _ x hx, Below.heap_setCell _ _ _ x hx, Below.heap_setCell _ _ _ x hx]; exact h
theorem rd_five {W : World} {B g : Nat} {rest : List UInt8} {f : Value} (h : Rd W B g rest f) {n T : Nat} {cs : Array Value} (hb : W.heap[n]? = some (.cells cs T (0, 0))) (hT : T ≠ 98) (hn : noByte cs = true) (v0 v1 v2 v3 v4 : Value) :
    Rd (((((W.setCell ⟨n, 2, none⟩ v0).setCell ⟨n, 3, none⟩ v1).setCell ⟨n, 4, none⟩ v2).setCell ⟨n, 5, none⟩ v3).setCell ⟨n, 6, none⟩ v4) B g rest f := by
  refine rd_frame h fun x => ?_
  by_cases hx : x = n
  · subst hx; exact .inr ⟨cs, T, hb, hT, hn⟩
  · exact .inl (five_other rfl hx _ _ _ _ _)
theorem five_below {W a : World} {B n : Nat} (h : Below B a W) (hn : B ≤ n) (v0 v1 v2 v3 v4 : Value) :
    Below B a (((((W.setCell ⟨n, 2, none⟩ v0).setCell ⟨n, 3, none⟩ v1).setCell ⟨n, 4, none⟩ v2).setCell ⟨n, 5, none⟩ v3).setCell ⟨n, 6, none⟩ v4) := ((((h.setCell hn _).setCell hn _).setCell hn _).setCell hn _).setCell hn _
theorem below_ge {B n : Nat} {w w' : World} {o : Nat} {v : Value} (h : Below B w w') (hn : n < B) (_ : B ≤ w.heap.size) (hc : w.cell? ⟨n, o, none⟩ = some v) : w'.cell? ⟨n, o, none⟩ = some v := (h.cell (p := ⟨n, o, none⟩) hn).trans hc
theorem rd_lt {w : World} {B g : Nat} {rest : List UInt8} {f : Value} (h : Rd w B g rest f) : B ≤ g ∧ g < w.heap.size := by
  obtain ⟨A, c, h1, h2, _⟩ := h
  exact ⟨h1, heap_lt h2⟩
end Go.Proofs.YtonfeppenhebjaaDoor
