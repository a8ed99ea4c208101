/- copied: its lone contract, and as a call of the law's goroutine. -/
import Derived.Test.YtngmhkhncimknaaStmLone
import Derived.Test.YtngmhkhncimknaaApp
namespace Go.Proofs.Ytngmhkhncimknaa
open Go Go.Conc Go.RowKit
set_option linter.unusedVariables false
set_option linter.unusedSimpArgs false
section

theorem wpM_of_wp {P : Program} {S : FuncId → Bool} {X : Goroutine → World → Prop} (K : Kit P S X) {f : FuncId} {fc : Func} (hf : P.funcs[f]? = some fc) (hr : fc.results.all isTmp = true) (hne : fc.results.size ≠ 0) {c : Code} (hc : codeOK S c = true) {a : Act} {w : World} (hd : a.defers = []) (hlaid : Laid0 P w)
    {Q' : Exit → Act → World → Prop} {Q : Option (Duet × Proto) → Exit → Act → World → Prop} (h : ∀ W : World, W.heap = w.heap → W.os = w.os → W.output = w.output → c.wp P Q' a W)
    (hQ : ∀ e a' w', Q' e a' w' → (e = .normal ∨ e = .ret) ∧ ∀ d, Q none e a' (turn w' w.tape d)) : wpM P (XF P X) f c Q none a w := by
  intro b k cs hb hk hK
  exact wpX_of_wp K (Q := fun e a' w' => Q none e a' w') hc hd hlaid (fun t d _ => h (turn w t d) rfl rfl rfl) hQ b k cs ⟨hk.2 ⟨fc, hf, hne⟩, fc, by rw [hb]; exact hf, hr⟩ fun e a' w' q => hK none e a' w' q
/-- what is left behind a piece that only draws -/
theorem lone_at {w W W' : World} (h1 : W.heap = w.heap) (h2 : W.os = w.os) (h3 : W.output = w.output) (h : LoneN W W') (d : Nat) : turn W' w.tape d = w.at d := by
  obtain ⟨n, rfl⟩ := h
  cases W
  cases w
  simp only at h1 h2 h3
  subst h1 h2 h3
  rfl
end
section
attribute [local go_sem] n8_self beq_n8 bne_n8

theorem info8 : (Try.prog.info? 5).map (fun i => (i.zero, i.size, i.bytes)) = some (some (.int .u8 0), 1, 1) := by kernel_rfl

/-- 'make([]T, n, c)', T of one cell -/
theorem wpList_make_cap {P : Program} (w : World) {ops : Array Oper} {rest : List Oper} {o : Oper} {a : Act} {Q : Exit → Act → World → Prop} (hg : o.guard = none) (l c : Operand) (t : TypeId) (hop : o.op = Op.makeSlice t l c)
    (e : TypeId) (z : Value) (bz : Nat) (h1 : P.underlying t = some (.slice e)) (h2 : (P.info? e).map (fun i => (i.zero, i.size, i.bytes)) = some (some z, 1, bz)) (hz : z.cells = #[z])
    (n m : Nat) (L M : Int) (hl : a.eval l = .int .i64 L) (hc : a.eval c = .int .i64 M) (hL : L = (n : Int)) (hM : M = (m : Int)) (hnm : n ≤ m) (b2 : bz * m ≤ 281474976710656) (b3 : m ≤ 9223372036854775807)
    (hK : ∀ w', w'.heap[w.heap.size]? = some (.cells (List.replicate m z).toArray e (0, 0)) → Below w.heap.size w w' → wpList P ops Q rest (a.put o.dst (.slice (some ⟨w.heap.size, 0, none⟩) n m)) w') : wpList P ops Q (o :: rest) a w := by
  obtain ⟨i, hi, hz0, hz1, hz2⟩ := info_parts h2
  refine wpList_plain hg fun K hK' => ?_
  have hb' : (i.bytes : Int) * (m : Int) ≤ 281474976710656 := by
    have h : ((i.bytes * m : Nat) : Int) ≤ 281474976710656 := by rw [hz2]; omega
    rwa [Int.natCast_mul] at h
  have hr := run_make (P := P) w t e i z h1 hi hz0 .i64 .i64 (n : Int) (m : Int) (by omega) (by omega) hb' (by omega)
  simp only [Int.toNat_natCast] at hr
  subst hL
  subst hM
  unfold Oper.wp
  simp [execOp, hop, hl, hc, hr, Result.andThen]
  refine hK' _ _ (hK _ ?_ ((Below.refl _ _).alloc (Nat.le_refl _) _))
  have hmade : (madeCells z.cells (m * i.size)) = (List.replicate m z).toArray := by
    rw [hz, hz1, Nat.mul_one]
    apply Array.ext
    · simp [madeCells]
    · intro j h1 h2
      simp [madeCells, Nat.mod_one]
  rw [hmade]
  exact heap_here w _ _ rfl

/-- 'append([]byte(nil), b...)' -/
theorem wpList_append_all {P : Program} {W : World} {ops : Array Oper} {rest : List Oper} {o : Oper} {a : Act} {Q : Exit → Act → World → Prop} (hgd : o.guard = none) (s x : Operand) (t e : TypeId) (z : Value)
    (ht : P.underlying t = some (.slice e)) (hinfo : (P.info? e).map (fun i => (i.zero, i.size, i.bytes)) = some (some z, 1, 1)) (hz : z.cells.size = 1)
    (ho : o.op = .call { callee := .builtin .append, args := #[s, x], argTypes := #[t, t] })
    (base : Nat) (v : Value) (vs : List Value) (hs : a.eval s = v) (hown : Own W base e v vs) (hbase : base ≤ W.heap.size) (A : Option Addr) (c : Nat) (l : List UInt8)
    (hx : a.eval x = .slice A l.length c) (hA : Cells W A (Bs l)) (hroom : vs.length + l.length ≤ 140737488355328)
    (h : ∀ v' w', Own w' base e v' (vs ++ Bs l) → Below base W w' → wpList P ops Q rest (a.put o.dst v') w') : wpList P ops Q (o :: rest) a W := by
  obtain ⟨i, hi, hz0, hz1, hz2⟩ := info_parts hinfo
  cases A with
  | none =>
    have h0 : l = [] := by
      rcases l with _ | ⟨u, l⟩
      · rfl
      · obtain ⟨b, o, hx, _⟩ := hA (by simp [Bs]); cases hx
    subst h0
    refine wpList_plain hgd fun K hK => ?_
    have hr : (Builtin.append_ #[t, t] o.type #[v, .slice none 0 c]).run P W = .ok v W := by
      rcases hown.2 with ⟨rfl, h0⟩ | ⟨g, cap, cur, rfl, _, _, hnc, _⟩
      · simp [Builtin.append_, run_underlying ht, sizeOf, typeInfo, hi, Builtin.lenOf, Builtin.firstCells]
      · simp [Builtin.append_, run_underlying ht, sizeOf, typeInfo, hi, Builtin.lenOf, Builtin.firstCells, hnc, storeCells]
    have h' := h v W (by rw [show Bs [] = [] from rfl, List.append_nil]; exact hown) (Below.refl _ _)
    unfold Oper.wp execOp
    have hx' : a.eval x = .slice none 0 c := hx
    simp only [ho, resolve, invoke, builtin, Sem.run_bind, Sem.run_pure, Result.andThen_ok, List.map_toArray, List.map_cons, List.map_nil, hs, hx', hr]
    exact hK _ _ h'
  | some ad =>
    refine wpList_append_own _ hgd s x t ho base e i z 1 1 ht hi hz0 hz1 hz2 hz (by decide) v vs.length vs hs hown ad l.length c (Bs l) hx (by rw [Bs_length, Nat.mul_one]) ?_ (Bs_one l) (by unfold maxLen; omega) (by omega) hbase ?_
    · intro j u hu
      have hj := (List.getElem?_eq_some_iff.1 hu).1
      obtain ⟨b, o, hb, hc⟩ := hA (by omega)
      cases hb
      rw [Addr.add_mid, hc j hj]
      exact hu ▸ (List.getElem?_eq_getElem hj).symm
    · intro v' w' h1 h2 _
      refine h v' w' (by unfold Own; rw [List.length_append, Bs_length]; exact h1) ?_
      refine (Below.refl _ _).grown h2 hbase ?_
      intro k hk
      obtain ⟨_, h0⟩ := hown
      rcases h0 with ⟨rfl, _⟩ | ⟨g, cap, cur, rfl, hg, _⟩
      · simp [Value.ownBlock] at hk
      · simp [Value.ownBlock] at hk; omega

/-- the marks behind the bytes -/
def marks (k : Nat) : List UInt8 := (List.range k).map fun j => UInt8.ofNat (224 + j)
theorem marks_succ (k : Nat) : marks (k + 1) = marks k ++ [UInt8.ofNat (224 + k)] := by simp [marks, List.range_succ]
theorem marks_length (k : Nat) : (marks k).length = k := by simp [marks]
theorem own_someB {w : World} {B e : Nat} {v : Value} {vs : List Value} (h : Own w B e v vs) (h0 : 0 < vs.length) : ∃ g c, v = .slice (some ⟨g, 0, none⟩) vs.length c ∧ vs.length ≤ c ∧ c ≤ 9223372036854775807 ∧ Cells w (some ⟨g, 0, none⟩) vs := by
  rcases h.2 with ⟨_, h1⟩ | ⟨g, cap, cur, rfl, _, _, h3, h4, _⟩
  · omega
  · obtain ⟨A, c, e, _, _, hc⟩ := own_slice h
    obtain ⟨rfl, _⟩ : some (⟨g, 0, none⟩ : Addr) = A ∧ cap = c := by simpa using e
    exact ⟨g, cap, rfl, h3, h4, hc⟩

theorem own_made {w : World} {g m : Nat} (hg : w.heap[g]? = some (.cells (List.replicate m (.int .u8 0)).toArray 5 (0, 0))) (hm : m ≤ 9223372036854775807) : Own w g 5 (.slice (some ⟨g, 0, none⟩) 0 m) [] :=
  ⟨by simp, .inr ⟨g, m, _, rfl, Nat.le_refl _, hg, Nat.zero_le _, hm, by simp, by simp⟩⟩
set_option maxRecDepth 100000 in
set_option maxHeartbeats 1600000 in
theorem copied_calls (A : Option Addr) (c : Nat) (l : List UInt8) (w : World) (hl : l.length ≤ 16777216) (hA : Cells w A (Bs l)) :
    Calls Try.prog 19 #[.slice A l.length c] w fun e w' => ∃ g d, e = .returned (.slice (some ⟨g, 0, none⟩) l.length d) ∧ l.length + 20 ≤ d ∧ d ≤ 9223372036854775807 ∧ Own w' w.heap.size 5 (.slice (some ⟨g, 0, none⟩) (l.length + 20) d) (Bs (l ++ marks 20)) ∧ Below w.heap.size w w' := by
  have HA := Go.Lib.hid hA
  clear hA
  have wl : IntKind.i64.wrap ((l.length : Int) + 20) = (l.length : Int) + 20 := by rw [IntKind.wrap_i64]; omega
  have hm20 : (l.length : Int) + 20 = ((l.length + 20 : Nat) : Int) := by omega
  have hm1 : 1 * (l.length + 20) ≤ 281474976710656 := by omega
  have hm2 : l.length + 20 ≤ 9223372036854775807 := by omega
  have HM := Go.Lib.hid hm20
  clear hm20
  go_enter Try.func19, Try.ntmps19
  have hroom : ([] : List Value).length + l.length ≤ 140737488355328 := by simp; omega
  go_wp2_with (first
    | (refine wpList_make_cap w rfl (.const (.int .i64 0)) (.tmp 7) 30 rfl 5 (.int .u8 0) 1 Try.underlying30 info8 rfl 0 (l.length + 20) 0 _ rfl rfl rfl HM.out (by omega) hm1 hm2 ?_; intro w1 hg1 hb1; have HO1 : Hid (Own w1 w.heap.size 5 (.slice (some ⟨w.heap.size, 0, none⟩) 0 (l.length + 20)) []) := own_made hg1 hm2; have HB1 := Go.Lib.hid hb1; have HA1 := Go.Lib.hid (cells_below hb1 HA.out); have hs1 : w.heap.size ≤ w1.heap.size := hb1.size; clear hg1 hb1)
    | (at_builtin; (with_reducible refine wpList_append_all (W := w1) (s := .tmp 9) (x := .tmp 10) (t := 30) (e := 5) (z := .int .u8 0) (ht := Try.underlying30) (hinfo := info8) (base := w.heap.size) (v := .slice (some ⟨w.heap.size, 0, none⟩) 0 (l.length + 20)) (vs := []) (hown := HO1.out) (hbase := hs1) (A := A) (c := c) (l := l) (hA := HA1.out) (hroom := hroom) (hgd := rfl) (hz := ?_) (ho := ?_) (hs := ?_) (hx := ?_) (h := ?_)); rfl; rfl; rfl; rfl; intro v2 w2 hown2 hb2; have HO2 := Go.Lib.hid hown2; have HB2 := Go.Lib.hid hb2; clear hown2 hb2))
  rw [List.nil_append] at HO2
  have HBB := Go.Lib.hid (HB1.out.trans HB2.out)
  clear HO1 HB1 HB2 HA1
  go_loopw [3, 4] (fun v i wr => ∃ (k : Nat), k ≤ 20 ∧ i = .int .i64 (k : Int) ∧ Hid (Own wr w.heap.size 5 v (Bs (l ++ marks k))) ∧ Hid (Below w.heap.size w wr)) (fun _ i _ => 20 - (intOf i).toNat)
  case atStart => exact ⟨0, by omega, rfl, by rw [show l ++ marks 0 = l by simp [marks]]; exact HO2, HBB⟩
  case round =>
    obtain ⟨k, hk, rfl, HO, HB⟩ := hrel
    by_cases hlt : k < 20
    · have hk1 : (k : Int) < 20 := by omega
      have w224 : IntKind.i64.wrap (224 + (k : Int)) = 224 + (k : Int) := by rw [IntKind.wrap_i64]; omega
      have w8 : IntKind.u8.wrap (224 + (k : Int)) = n8 (UInt8.ofNat (224 + k)) := by
        rw [IntKind.wrap_u8]
        unfold n8
        rw [UInt8.toNat_ofNat', Nat.mod_eq_of_lt (by omega)]
        omega
      have hsz := HB.out.size
      have hr1 : (((Bs (l ++ marks k)).length + 1) + ((Bs (l ++ marks k)).length + 1) / 4 + 192) * 1 ≤ 281474976710656 := by rw [Bs_length, List.length_append, marks_length]; omega
      have hr2 : (Bs (l ++ marks k)).length + 1 ≤ 9223372036854775807 := by rw [Bs_length, List.length_append, marks_length]; omega
      have HMS := Go.Lib.hid (marks_succ k)
      generalize UInt8.ofNat (224 + k) = x at *
      go_wp2_with (first
        | (at_builtin; (with_reducible refine wpList_append_val (W := wr) (u := .int .u8 (n8 x)) (base := w.heap.size) (vs := Bs (l ++ marks k)) (s := .tmp 16) (x := .tmp 20) (t := 30) (e := 5) (z := .int .u8 0) (bytes := 1) (hinfo := info8) (ht := Try.underlying30) (hown := HO.out) (hbase := hsz) (hgd := rfl) (ho := ?_) (hz := ?_) (hs := ?_) (hu := ?_) (hx := ?_) (hroom := hr1) (hmax := hr2) (h := ?_)); rfl; rfl; rfl; rfl; rfl; intro v3 w3 hown3 hgr3; have HB3 := Go.Lib.hid (below_grown HB.out HO.out hgr3 (Nat.le_refl _) hsz); have HO3 := Go.Lib.hid hown3; clear hown3 hgr3))
      refine ⟨⟨k + 1, by omega, rfl, ?_, HB3⟩, by simp [intOf]; omega⟩
      have := HO3.out
      rw [RowKit.Hid, HMS.out, ← List.append_assoc, Bs_append (l ++ marks k)]
      exact this
    · obtain rfl : k = 20 := by omega
      obtain ⟨g, d, he, hd1, hd2, hc⟩ := own_someB HO.out (by rw [Bs_length, List.length_append, marks_length]; omega)
      have hlen : (Bs (l ++ marks 20)).length = l.length + 20 := by rw [Bs_length, List.length_append, marks_length]
      rw [hlen] at he hd1
      subst he
      have hd3 : (l.length : Int) ≤ (d : Int) := by omega
      have hcutW : ∀ W : World, (Instr.slice 30 (.slice (some ⟨g, 0, none⟩) (l.length + 20) d) none (some (.int .i64 (l.length : Int))) none).run Try.prog W = .ok (.slice (some ⟨g, 0, none⟩) l.length d) W :=
        run_cut_h (P := Try.prog) 30 5 Try.underlying30 (by kernel_rfl) (some ⟨g, 0, none⟩) (l.length + 20) d l.length (by omega)
      clear hlen hc
      go_wp2
      go_ret
      exact ⟨g, d, rfl, hd1, hd2, HO.out, HB.out⟩

theorem copied_shut : Shut Try.prog (fun x => [19].contains x) := shut_of _ (by kernel_rfl) (by kernel_rfl)
theorem copied_m {Post : Value → World → Prop} (A : Option Addr) (c : Nat) (l : List UInt8) (w : World) (hl : l.length ≤ 16777216) (hA : Cells w A (Bs l)) :
    callM Try.prog (XF Try.prog (XEnds Try.prog Post)) 19 #[.slice A l.length c] (fun γ v w' => γ = none ∧ (∃ g d, v = .slice (some ⟨g, 0, none⟩) l.length d ∧ l.length + 20 ≤ d ∧ d ≤ 9223372036854775807 ∧ Own w' w.heap.size 5 (.slice (some ⟨g, 0, none⟩) (l.length + 20) d) (Bs (l ++ marks 20))) ∧ Below w.heap.size w w') none w := by
  refine callM_of_calls (R := fun v w' => (∃ g d, v = .slice (some ⟨g, 0, none⟩) l.length d ∧ l.length + 20 ≤ d ∧ d ≤ 9223372036854775807 ∧ Own w' w.heap.size 5 (.slice (some ⟨g, 0, none⟩) (l.length + 20) d) (Bs (l ++ marks 20))) ∧ Below w.heap.size w w') copied_shut (by decide) (fun w1 h1 h2 h3 => ?_) ?_
  · refine (copied_calls A c l w1 hl (cells_heap h1 hA)).mono ?_
    rintro e w' ⟨g, d, he, q1, q2, ho, hbl⟩
    rw [h1] at ho hbl
    exact ⟨_, he, ⟨g, d, rfl, q1, q2, ho⟩, ⟨hbl.os.trans h2, rfl, hbl.output.trans h3, (by rw [← h1]; exact hbl.size), fun i hi => (hbl.block i hi).trans (by rw [h1])⟩⟩
  · rintro v w' d ⟨ha, hb⟩
    exact ⟨ha, ⟨hb.os, hb.tape, hb.output, hb.size, hb.block⟩⟩
end
end Go.Proofs.Ytngmhkhncimknaa
