/- 'append(v, make([]byte, n)...)': n zeros behind a row of bytes of the call's own. -/
import Derived.Test.YtngmhkhncimknaaApp
import Derived.Lib.AppendStr
namespace Go.Proofs.Ytngmhkhncimknaa
open Go Go.RowKit
set_option linter.unusedVariables false
set_option linter.unusedSimpArgs false

theorem zeroCells_list (n : Nat) : Builtin.zeroCells (Value.int IntKind.u8 0).cells n = (Bs (List.replicate n 0)).toArray := by
  apply Array.ext'
  have h : (Value.int IntKind.u8 0).cells = #[Value.int IntKind.u8 0] := rfl
  rw [h]
  unfold Builtin.zeroCells Bs
  apply List.ext_getElem
  · simp
  · intro i h1 h2
    simp [Nat.mod_one, n8]
section
variable {P : Program} (w : World)
theorem run_append_room_zeros (t u ty e : TypeId) (i : TypeInfo) (ht : P.underlying t = some (.slice e)) (hu : P.underlying u = some (.int .i64)) (hi : P.info? e = some i) (hz : i.zero = some (.int .u8 0)) (hs1 : i.size = 1) (hby : i.bytes = 1)
    (g sLen sCap : Nat) (cur : Array Value) (hg : w.heap[g]? = some (.cells cur e (0, 0))) (n : Nat) (hn : n ≤ 281474976710656) (h0 : 0 < n)
    (hroom : sLen + n ≤ sCap) (hfit : sLen + n ≤ cur.size) :
    (Builtin.append_ #[t, u] ty #[.slice (some ⟨g, 0, none⟩) sLen sCap, .int .i64 (n : Int)]).run P w =
      .ok (.slice (some ⟨g, 0, none⟩) (sLen + n) sCap) (w.setRow g (cur.toList.take sLen ++ Bs (List.replicate n 0) ++ cur.toList.drop (sLen + n)).toArray) := by
  have hst := run_storeCells_at P g sLen e (Bs (List.replicate n 0)) 0 cur w hg (by simpa [Bs_length] using hfit) (Bs_one _)
  have hwr : IntKind.i64.wrap (n : Int) = (n : Int) := by rw [IntKind.wrap_i64]; omega
  have hneg : ¬ ((n : Int) < 0) := by omega
  have hbig : ¬ ((281474976710656 : Int) < (n : Int)) := by omega
  have hnz : ¬ n = 0 := by omega
  simp only [Nat.add_zero, Bs_length, List.length_replicate] at hst
  simp [Builtin.append_, run_underlying ht, run_underlying hu, sizeOf, typeInfo, hi, hs1, hby, hz, zeroValue, hwr, hneg, hbig, hnz, hroom, zeroCells_list, Addr.add_lit, asInt, asIntOf, hst]
theorem run_append_grow_zeros (t u ty e : TypeId) (i : TypeInfo) (ht : P.underlying t = some (.slice e)) (hu : P.underlying u = some (.int .i64)) (hi : P.info? e = some i) (hz : i.zero = some (.int .u8 0)) (hs1 : i.size = 1) (hby : i.bytes = 1)
    (b : Addr) (sLen sCap : Nat) (olds : List Value) (hlo : olds.length = sLen) (holds : ∀ j v, olds[j]? = some v → w.cell? (b.add j) = some v) (n : Nat) (hn : n ≤ 281474976710656) (h0 : 0 < n)
    (hg : sCap < sLen + n) (h63 : ((sLen + n : Nat) : Int) ≤ 9223372036854775807) (hfit : Builtin.nextslicecap (sLen + n) sCap ≤ 281474976710656) :
    (Builtin.append_ #[t, u] ty #[.slice (some b) sLen sCap, .int .i64 (n : Int)]).run P w =
      .ok (.slice (some ⟨w.heap.size, 0, none⟩) (sLen + n) (grownCap w (sLen + n) sCap e))
        (w.drew.alloc (.cells (olds.toArray ++ (Bs (List.replicate n 0)).toArray ++ Builtin.zeroCells (Value.int IntKind.u8 0).cells (grownCap w (sLen + n) sCap e - (sLen + n))) e)) := by
  have hng : ¬ (sLen + n ≤ sCap) := by omega
  have h63' : ¬ (9223372036854775807 < ((sLen : Int) + (n : Int))) := by omega
  have h48' : ¬ (281474976710656 < Builtin.nextslicecap (sLen + n) sCap) := by omega
  have hfo := run_firstCells_some (P := P) w.drew 1 sLen b sLen sCap olds (by rw [hlo, Nat.mul_one]) (by simpa using holds)
  have hwr : IntKind.i64.wrap (n : Int) = (n : Int) := by rw [IntKind.wrap_i64]; omega
  have hneg : ¬ ((n : Int) < 0) := by omega
  have hbig : ¬ ((281474976710656 : Int) < (n : Int)) := by omega
  have hnz : ¬ n = 0 := by omega
  simp [Builtin.append_, run_underlying ht, run_underlying hu, sizeOf, typeInfo, zeroValue, hi, hs1, hby, hz, hwr, hneg, hbig, hnz, hng, h63', h48', Question.forced, hfo, newRow, grownCap, zeroCells_list, asInt, asIntOf]
  try (congr 2; apply Array.ext'; simp [List.append_assoc])
theorem run_append_no_zeros (t u ty e : TypeId) (i : TypeInfo) (ht : P.underlying t = some (.slice e)) (hu : P.underlying u = some (.int .i64)) (hi : P.info? e = some i) (hz : i.zero = some (.int .u8 0)) (hs1 : i.size = 1) (hby : i.bytes = 1)
    (g sLen sCap : Nat) (hle : sLen ≤ sCap) :
    (Builtin.append_ #[t, u] ty #[.slice (some ⟨g, 0, none⟩) sLen sCap, .int .i64 0]).run P w = .ok (.slice (some ⟨g, 0, none⟩) sLen sCap) w := by
  have hwr : IntKind.i64.wrap 0 = 0 := by decide
  simp [Builtin.append_, run_underlying ht, run_underlying hu, sizeOf, typeInfo, hi, hs1, hby, hz, zeroValue, hwr, hle, asInt, asIntOf, storeCells]
end
theorem run_append_zeros {P : Program} (w : World) (base : Nat) (t u ty e : TypeId) (i : TypeInfo) (ht : P.underlying t = some (.slice e)) (hu : P.underlying u = some (.int .i64)) (hi : P.info? e = some i) (hz : i.zero = some (.int .u8 0))
    (hsize : i.size = 1) (hby : i.bytes = 1) (v : Value) (l : List UInt8) (n : Nat) (hl0 : 0 < l.length) (hown : Own w base e v (Bs l)) (hroom : l.length + n ≤ 100000000000000) (hbase : base ≤ w.heap.size) :
    ∃ v' w', (Builtin.append_ #[t, u] ty #[v, .int .i64 (n : Int)]).run P w = .ok v' w' ∧ Own w' base e v' (Bs (l ++ List.replicate n 0)) ∧ w.grownBy w' v.ownBlock := by
  have hl : (Bs l).length = l.length := Bs_length l
  have hlm : (Bs l ++ Bs (List.replicate n 0)).length = l.length + n := by simp [Bs]
  unfold Own at *
  rw [Bs_append, hlm]
  rw [hl] at hown
  rcases hown.2 with ⟨rfl, h0'⟩ | ⟨g, cap, cur, rfl, hbg, hg, hnc, hcm, hcs, htake⟩
  · omega
  · rcases Nat.eq_zero_or_pos n with rfl | h0
    · refine ⟨_, w, run_append_no_zeros (P := P) w t u ty e i ht hu hi hz hsize hby g l.length cap hnc, ?_, ⟨rfl, rfl, rfl, Nat.le_refl _, fun _ _ _ => rfl⟩⟩
      have e0 : Bs l ++ Bs (List.replicate 0 0) = Bs l := by simp [Bs]
      rw [e0]
      exact hown
    rw [Nat.mul_one] at hcs htake
    by_cases hfits : l.length + n ≤ cap
    · have hr := run_append_room_zeros (P := P) w t u ty e i ht hu hi hz hsize hby g l.length cap cur hg n (by omega) h0 hfits (by omega)
      refine ⟨_, _, hr, ⟨by rw [Nat.mul_one]; exact hlm, .inr ⟨g, cap, _, rfl, hbg, setRow_heap w g cur _ e _ hg, hfits, hcm, ?_, ?_⟩⟩, ⟨rfl, rfl, rfl, by simp, fun k _ hk => setRow_other w g k _ (fun e => hk (by simp [Value.ownBlock, e]))⟩⟩
      · simp only [List.size_toArray, List.length_append, List.length_take, List.length_drop, Array.length_toList, Bs_length, List.length_replicate]
        omega
      · rw [htake, Nat.mul_one, ← hlm]
        exact List.take_left
    · have holds : ∀ j u, (Bs l)[j]? = some u → w.cell? ((⟨g, 0, none⟩ : Addr).add j) = some u := hown.cells (g := g) rfl
      have hr := run_append_grow_zeros (P := P) w t u ty e i ht hu hi hz hsize hby ⟨g, 0, none⟩ l.length cap (Bs l) hl holds n (by omega) h0 (by omega) (by omega) (by have := nextslicecap_le_wide (need := l.length + n) (old := cap) (by omega); omega)
      have hge := grownCap_ge w (l.length + n) cap e
      have hcm' : grownCap w (l.length + n) cap e ≤ maxLen := grownCap_le_maxLen w (l.length + n) cap e (by unfold maxLen; omega)
      refine ⟨_, _, hr, ⟨by rw [Nat.mul_one]; exact hlm, .inr ⟨w.heap.size, _, _, rfl, hbase, heap_alloc_new w.drew _, hge, hcm', ?_, ?_⟩⟩, ⟨rfl, rfl, rfl, by simp, fun k hk _ => heap_before w.drew _ k _ (Nat.ne_of_lt hk) rfl⟩⟩
      · have hz1 : (Value.int IntKind.u8 0).cells.size = 1 := rfl
        simp only [Array.size_append, List.size_toArray, size_zeroCells, hz1, Bs_length, List.length_replicate]
        omega
      · simp only [Array.toList_append, List.append_assoc]
        rw [← List.append_assoc, Nat.mul_one, ← hlm]
        exact List.take_left

theorem wpList_append_zeros {P : Program} {W : World} {ops : Array Oper} {rest : List Oper} {o : Oper} {a : Act} {Q : Exit → Act → World → Prop} (hgd : o.guard = none) (s x : Operand) (t u e : TypeId)
    (ht : P.underlying t = some (.slice e)) (hu : P.underlying u = some (.int .i64)) (hinfo : (P.info? e).map (fun i => (i.zero, i.size, i.bytes)) = some (some (.int .u8 0), 1, 1))
    (ho : o.op = .call { callee := .builtin .append, args := #[s, x], argTypes := #[t, u] })
    (base : Nat) (v : Value) (l : List UInt8) (hs : a.eval s = v) (hown : Own W base e v (Bs l)) (hbase : base ≤ W.heap.size)
    (n : Nat) (hx : a.eval x = .int .i64 (n : Int)) (hl0 : 0 < l.length) (hroom : l.length + n ≤ 100000000000000)
    (h : ∀ v' w', Own w' base e v' (Bs (l ++ List.replicate n 0)) → W.grownBy w' v.ownBlock → wpList P ops Q rest (a.put o.dst v') w') : wpList P ops Q (o :: rest) a W := by
  obtain ⟨i, hi, hz0, hz1, hz2⟩ := info_parts hinfo
  refine wpList_plain hgd fun K hK => ?_
  obtain ⟨v', w', hr, h2, h3⟩ := run_append_zeros (P := P) W base t u o.type e i ht hu hi hz0 hz1 hz2 v l n hl0 hown hroom hbase
  have h' := h v' w' h2 h3
  unfold Oper.wp execOp
  simp only [ho, resolve, invoke, builtin, Sem.run_bind, Sem.run_pure, Result.andThen_ok, List.map_toArray, List.map_cons, List.map_nil, hs, hx, hr]
  exact hK _ _ h'
end Go.Proofs.Ytngmhkhncimknaa
