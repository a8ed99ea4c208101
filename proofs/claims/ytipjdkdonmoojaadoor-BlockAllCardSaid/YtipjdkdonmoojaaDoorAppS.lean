/- Appending a string's bytes to a row of bytes of the call's own, with room up to 2e14. -/
import Derived.Test.YtipjdkdonmoojaaDoorHeap2
import Derived.Deep.DeepAppendWide
import Derived.Lib.AppendStr
namespace Go.Proofs.YtipjdkdonmoojaaDoor
open Go Go.RowKit
set_option linter.unusedVariables false
set_option linter.unusedSimpArgs false

theorem strCells_bs (m : List UInt8) : Go.Lib.strCells ⟨m.toArray⟩ = Bs m := by
  unfold Go.Lib.strCells Bs n8
  rfl
theorem str_size (m : List UInt8) : (⟨m.toArray⟩ : ByteArray).size = m.length := rfl
theorem run_append_str {P : Program} (w : World) (base : Nat) (t u ty e : TypeId) (i : TypeInfo) (ht : P.underlying t = some (.slice e)) (hu : P.underlying u = some .string) (hi : P.info? e = some i) (hz : i.zero = some (.int .u8 0))
    (hsize : i.size = 1) (hby : i.bytes = 1) (v : Value) (l m : List UInt8) (hown : Own w base e v (Bs l)) (hm : m.length ≤ 140737488355328) (hroom : l.length + m.length ≤ 200000000000000) (hbase : base ≤ w.heap.size) :
    ∃ v' w', (Builtin.append_ #[t, u] ty #[v, .string ⟨m.toArray⟩]).run P w = .ok v' w' ∧ Own w' base e v' (Bs (l ++ m)) ∧ w.grownBy w' v.ownBlock := by
  have hl : (Bs l).length = l.length := Bs_length l
  have hlm : (Bs l ++ Bs m).length = l.length + m.length := by simp [Bs]
  unfold Own at *
  rw [Bs_append, hlm]
  rw [hl] at hown
  by_cases hs : l.length + m.length ≤ 140737488355328
  · obtain ⟨v', w', h1, h2, h3, _⟩ := Go.Lib.run_append_own_string (P := P) w base t u ty e i ht hu hi hz hsize hby v l.length (Bs l) hown ⟨m.toArray⟩ (by rw [str_size]; unfold maxLen; omega) (by rw [str_size]; exact hs) hbase
    exact ⟨v', w', h1, by rw [strCells_bs] at h2; exact h2, h3⟩
  · rcases hown.2 with ⟨rfl, h0⟩ | ⟨g, cap, cur, rfl, hbg, hg, hnc, hcm, hcs, htake⟩
    · omega
    · have hsz : (⟨m.toArray⟩ : ByteArray).size = m.length := rfl
      rw [Nat.mul_one] at hcs htake
      by_cases hfits : l.length + m.length ≤ cap
      · have hr := Go.Lib.run_append_room_string (P := P) w t u ty e i ht hu hi hsize g l.length cap cur hg ⟨m.toArray⟩ hfits (by rw [hsz]; omega)
        rw [strCells_bs, hsz] at hr
        refine ⟨_, _, hr, ⟨by rw [Nat.mul_one]; exact hlm, .inr ⟨g, cap, _, rfl, hbg, setRow_heap w g cur _ e _ hg, hfits, hcm, ?_, ?_⟩⟩, ⟨rfl, rfl, rfl, by simp, fun k _ hk => setRow_other w g k _ (fun e => hk (by simp [Value.ownBlock, e]))⟩⟩
        · simp only [List.size_toArray, List.length_append, List.length_take, List.length_drop, Array.length_toList, Bs_length]
          omega
        · rw [htake, Nat.mul_one, ← hlm]
          exact List.take_left
      · have holds : ∀ j u, (Bs l)[j]? = some u → w.cell? ((⟨g, 0, none⟩ : Addr).add j) = some u := hown.cells (g := g) rfl
        have hr := Go.Lib.run_append_grow_string (P := P) w t u ty e i (.int .u8 0) ht hu hi hz ⟨g, 0, none⟩ l.length cap (Bs l) (by rw [hsize]; omega) holds ⟨m.toArray⟩ (by rw [hsz]; omega) (by rw [hsz]; omega) (by rw [hsz, hby]; exact growslice_fits_wide (by omega) (by omega))
        rw [strCells_bs, hsz] at hr
        have hge := grownCap_ge w (l.length + m.length) cap e
        have hcm' : grownCap w (l.length + m.length) cap e ≤ maxLen := grownCap_le_maxLen w (l.length + m.length) cap e (by unfold maxLen; omega)
        refine ⟨_, _, hr, ⟨by rw [Nat.mul_one]; exact hlm, .inr ⟨w.heap.size, _, _, rfl, hbase, heap_alloc_new w.drew _, hge, hcm', ?_, ?_⟩⟩, ⟨rfl, rfl, rfl, by simp, fun k hk _ => heap_before w.drew _ k _ (Nat.ne_of_lt hk) rfl⟩⟩
        · have hz1 : (Value.int IntKind.u8 0).cells.size = 1 := rfl
          simp only [Array.size_append, List.size_toArray, size_zeroCells, hz1, Bs_length]
          omega
        · simp only [Array.toList_append, List.append_assoc]
          rw [← List.append_assoc, Nat.mul_one, ← hlm]
          exact List.take_left

/-- 'append(v, s...)', s a string -/
theorem wpList_append_str {P : Program} {w0 W : World} {ops : Array Oper} {rest : List Oper} {o : Oper} {a : Act} {Q : Exit → Act → World → Prop} (hgd : o.guard = none) (s x : Operand) (t u e : TypeId)
    (ht : P.underlying t = some (.slice e)) (hu : P.underlying u = some .string) (hinfo : (P.info? e).map (fun i => (i.zero, i.size, i.bytes)) = some (some (.int .u8 0), 1, 1))
    (ho : o.op = .call { callee := .builtin .append, args := #[s, x], argTypes := #[t, u] })
    (base : Nat) (v : Value) (l m : List UInt8) (hs : a.eval s = v) (hown : Own W base e v (Bs l)) (hb : Below base w0 W) (hbase : base ≤ W.heap.size)
    (hx : a.eval x = .string ⟨m.toArray⟩) (hm : m.length ≤ 140737488355328) (hroom : l.length + m.length ≤ 200000000000000)
    (h : ∀ v' w', Own w' base e v' (Bs (l ++ m)) → Below base w0 w' → wpList P ops Q rest (a.put o.dst v') w') : wpList P ops Q (o :: rest) a W := by
  obtain ⟨i, hi, hz0, hz1, hz2⟩ := info_parts hinfo
  refine wpList_plain hgd fun K hK => ?_
  obtain ⟨v', w', hr, h2, h3⟩ := run_append_str (P := P) W base t u o.type e i ht hu hi hz0 hz1 hz2 v l m hown hm hroom hbase
  have h' := h v' w' h2 (hb.grown h3 hbase (by
    intro k hk
    obtain ⟨_, h0⟩ := hown
    rcases h0 with ⟨rfl, _⟩ | ⟨g, cap, cur, rfl, hg, _⟩
    · simp [Value.ownBlock] at hk
    · simp [Value.ownBlock] at hk; omega))
  unfold Oper.wp execOp
  simp only [ho, resolve, invoke, builtin, Sem.run_bind, Sem.run_pure, Result.andThen_ok, List.map_toArray, List.map_cons, List.map_nil, hs, hx, hr]
  exact hK _ _ h'
end Go.Proofs.YtipjdkdonmoojaaDoor
