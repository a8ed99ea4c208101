/- Appending one value to a row of the call's own: what changes is that row alone. -/
import Derived.Test.YtngmhkhncimknaaHeap2
import Derived.Deep.DeepAppendWide
namespace Go.Proofs.Ytngmhkhncimknaa
open Go Go.RowKit
set_option linter.unusedVariables false
set_option linter.unusedSimpArgs false

theorem own_kept {w w' : World} {b e : Nat} {v : Value} {vs : List Value} {row : Option Nat} (h : Own w b e v vs) (hg : w.grownBy w' row) (hne : v.ownBlock = none ∨ v.ownBlock ≠ row) : Own w' b e v vs := World.ownsRow.kept h hg hne
/-- rows of two types lie apart -/
theorem own_types {w : World} {b1 b2 e1 e2 : Nat} {v1 v2 : Value} {xs ys : List Value} (h : Own w b1 e1 v1 xs) (k : Own w b2 e2 v2 ys) (hne : e1 ≠ e2) : v1.ownBlock = none ∨ v1.ownBlock ≠ v2.ownBlock := by
  rcases h.2 with ⟨rfl, _⟩ | ⟨g, cap, cur, rfl, _, hg, _⟩
  · exact .inl rfl
  · refine .inr fun e => ?_
    rcases k.2 with ⟨rfl, _⟩ | ⟨g', cap', cur', rfl, _, hg', _⟩
    · simp [Value.ownBlock] at e
    · simp only [Value.ownBlock, Option.some.injEq] at e
      subst e
      rw [hg] at hg'
      simp only [Option.some.injEq, Obj.cells.injEq] at hg'
      exact hne hg'.2.1
theorem below_grown {w0 W w' : World} {B b e : Nat} {v : Value} {vs : List Value} (hb : Below B w0 W) (h : Own W b e v vs) (hg : W.grownBy w' v.ownBlock) (hB : B ≤ b) (hbs : b ≤ W.heap.size) : Below B w0 w' :=
  hb.grown hg (Nat.le_trans hB hbs) (fun k hk => Nat.le_trans hB (World.ownsRow.lt h k hk).1)

/-- a block of another type is none of the row's -/
theorem own_not {W : World} {b e g T : Nat} {v : Value} {vs : List Value} {cs : Array Value} {fr : Nat × Nat} (h : Own W b e v vs) (hg : W.heap[g]? = some (.cells cs T fr)) (hne : T ≠ e) : some g ≠ v.ownBlock := by
  rcases h.2 with ⟨rfl, _⟩ | ⟨g', cap, cur, rfl, _, hg', _⟩
  · simp [Value.ownBlock]
  · simp only [Value.ownBlock, ne_eq, Option.some.injEq]
    rintro rfl
    rw [hg] at hg'
    simp only [Option.some.injEq, Obj.cells.injEq] at hg'
    exact hne hg'.2.1
theorem grown_heap {W w' : World} {b e g T : Nat} {v : Value} {vs : List Value} {cs : Array Value} {fr : Nat × Nat} (h : Own W b e v vs) (hgr : W.grownBy w' v.ownBlock) (hg : W.heap[g]? = some (.cells cs T fr)) (hne : T ≠ e) : w'.heap[g]? = some (.cells cs T fr) :=
  (hgr.block g (heap_lt hg) (own_not h hg hne)).trans hg
theorem blk_cell {w : World} {g T : Nat} {cs : Array Value} {fr : Nat × Nat} (h : w.heap[g]? = some (.cells cs T fr)) (i : Nat) (v : Value) (hv : cs[i]? = some v) : w.cell? ⟨g, i, none⟩ = some v := by
  rw [cell_of_row w g i _ _ _ h]; exact hv

/-- 'append(v, u)' -/
theorem wpList_append_val {P : Program} {W : World} {ops : Array Oper} {rest : List Oper} {o : Oper} {a : Act} {Q : Exit → Act → World → Prop} (hgd : o.guard = none) (s x : Operand) (t e : TypeId) (z : Value) (bytes : Nat)
    (ht : P.underlying t = some (.slice e)) (hinfo : (P.info? e).map (fun i => (i.zero, i.size, i.bytes)) = some (some z, 1, bytes)) (hz : z.cells.size = 1)
    (ho : o.op = .call { callee := .builtin .append, args := #[s, x], argTypes := #[t, t] })
    (base : Nat) (v : Value) (vs : List Value) (hs : a.eval s = v) (hown : Own W base e v vs) (hbase : base ≤ W.heap.size) (u : Value) (hu : u.oneCell' = true)
    (hx : a.eval x = .slice (some ⟨W.heap.size, 0, none⟩) 1 1) (hroom : ((vs.length + 1) + (vs.length + 1) / 4 + 192) * bytes ≤ 281474976710656) (hmax : vs.length + 1 ≤ 9223372036854775807)
    (h : ∀ v' w', Own w' base e v' (vs ++ [u]) → W.grownBy w' v.ownBlock → wpList P ops Q rest (a.put o.dst v') w') : wpList P ops Q (o :: rest) a (W.alloc (.cells #[u] e)) := by
  obtain ⟨i, hi, hz0, hz1, hz2⟩ := info_parts hinfo
  refine wpList_append_own_wide _ hgd s x t ho base e i z 1 bytes ht hi hz0 hz1 hz2 hz (by decide) v vs.length vs hs (World.ownsRow.alloc hown _) ⟨W.heap.size, 0, none⟩ 1 1 [u] hx rfl ?_ ?_ (by unfold maxLen; omega) hroom (by simp; omega) ?_
  · intro j w hw
    rw [Addr.add_mid, cell_of_row _ _ _ _ _ _ (heap_here W _ _ rfl)]
    cases j with
    | zero => simpa using hw
    | succ j => simp at hw
  · intro w hw
    simp only [List.mem_singleton] at hw
    subst hw; exact hu
  · intro v' w' h1 h2 _
    refine h v' w' (by unfold Own; simpa using h1) ⟨h2.os, h2.tape, h2.output, Nat.le_trans (by simp) h2.size, fun k hk hne => (h2.block k (by simp; omega) hne).trans (heap_before W _ k _ (Nat.ne_of_lt hk) rfl)⟩
/-- the same, the new block's number under another spelling -/
theorem wpList_append_valN {P : Program} {W : World} {ops : Array Oper} {rest : List Oper} {o : Oper} {a : Act} {Q : Exit → Act → World → Prop} (hgd : o.guard = none) (s x : Operand) (t e : TypeId) (z : Value) (bytes : Nat)
    (ht : P.underlying t = some (.slice e)) (hinfo : (P.info? e).map (fun i => (i.zero, i.size, i.bytes)) = some (some z, 1, bytes)) (hz : z.cells.size = 1)
    (ho : o.op = .call { callee := .builtin .append, args := #[s, x], argTypes := #[t, t] })
    (base : Nat) (v : Value) (vs : List Value) (hs : a.eval s = v) (hown : Own W base e v vs) (hbase : base ≤ W.heap.size) (u : Value) (hu : u.oneCell' = true)
    (n : Nat) (hn : n = W.heap.size) (hx : a.eval x = .slice (some ⟨n, 0, none⟩) 1 1) (hroom : ((vs.length + 1) + (vs.length + 1) / 4 + 192) * bytes ≤ 281474976710656) (hmax : vs.length + 1 ≤ 9223372036854775807)
    (h : ∀ v' w', Own w' base e v' (vs ++ [u]) → W.grownBy w' v.ownBlock → wpList P ops Q rest (a.put o.dst v') w') : wpList P ops Q (o :: rest) a (W.alloc (.cells #[u] e)) := by
  subst hn
  exact wpList_append_val hgd s x t e z bytes ht hinfo hz ho base v vs hs hown hbase u hu hx hroom hmax h
end Go.Proofs.Ytngmhkhncimknaa
