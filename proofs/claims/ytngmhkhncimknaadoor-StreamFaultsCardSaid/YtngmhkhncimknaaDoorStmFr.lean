/- request.Frame: its lone contract, and as a call of the law's goroutine. -/
import Derived.Test.YtngmhkhncimknaaDoorStmLone
import Derived.Test.YtngmhkhncimknaaDoorPackW
namespace Go.Proofs.YtngmhkhncimknaaDoor
open Go Go.Conc Go.RowKit
set_option linter.unusedVariables false
set_option linter.unusedSimpArgs false
attribute [local go_sem] IntKind.wrap_u64 c64_8 c8_64 c16_64 c32_64 c64_16 c64_32 or8 and8 n64_self n8_self beq_n64 beq_n8 bne_n8 bne_n64

/-- 'append([]byte(nil), b...)' -/
theorem wpList_append_all {P : Program} {W : World} {ops : Array Oper} {rest : List Oper} {o : Oper} {a : Act} {Q : Exit → Act → World → Prop} (hgd : o.guard = none) (s x : Operand) (t e : TypeId) (z : Value)
    (ht : P.underlying t = some (.slice e)) (hinfo : (P.info? e).map (fun i => (i.zero, i.size, i.bytes)) = some (some z, 1, 1)) (hz : z.cells.size = 1)
    (ho : o.op = .call { callee := .builtin .append, args := #[s, x], argTypes := #[t, t] })
    (base : Nat) (v : Value) (vs : List Value) (hs : a.eval s = v) (hown : Own W base e v vs) (hbase : base ≤ W.heap.size) (A : Option Addr) (c : Nat) (l : List UInt8)
    (hx : a.eval x = .slice A l.length c) (hA : Cells W A (Bs l)) (hroom : vs.length + l.length ≤ 140737488355328)
    (h : ∀ v' w', Own w' base e v' (vs ++ Bs l) → Below base W w' → wpList P ops Q rest (a.put o.dst v') w') : wpList P ops Q (o :: rest) a W := by
  obtain ⟨i, hi, hz0, hz1, hz2⟩ := info_parts hinfo
  cases A with
  | none =>
    have h0 : l = [] := by
      rcases l with _ | ⟨u, l⟩
      · rfl
      · obtain ⟨b, o, hx, _⟩ := hA (by simp [Bs]); cases hx
    subst h0
    refine wpList_plain hgd fun K hK => ?_
    have hr : (Builtin.append_ #[t, t] o.type #[v, .slice none 0 c]).run P W = .ok v W := by
      rcases hown.2 with ⟨rfl, h0⟩ | ⟨g, cap, cur, rfl, _, _, hnc, _⟩
      · simp [Builtin.append_, run_underlying ht, sizeOf, typeInfo, hi, Builtin.lenOf, Builtin.firstCells]
      · simp [Builtin.append_, run_underlying ht, sizeOf, typeInfo, hi, Builtin.lenOf, Builtin.firstCells, hnc, storeCells]
    have h' := h v W (by rw [show Bs [] = [] from rfl, List.append_nil]; exact hown) (Below.refl _ _)
    unfold Oper.wp execOp
    have hx' : a.eval x = .slice none 0 c := hx
    simp only [ho, resolve, invoke, builtin, Sem.run_bind, Sem.run_pure, Result.andThen_ok, List.map_toArray, List.map_cons, List.map_nil, hs, hx', hr]
    exact hK _ _ h'
  | some ad =>
    refine wpList_append_own _ hgd s x t ho base e i z 1 1 ht hi hz0 hz1 hz2 hz (by decide) v vs.length vs hs hown ad l.length c (Bs l) hx (by rw [Bs_length, Nat.mul_one]) ?_ (Bs_one l) (by unfold maxLen; omega) (by omega) hbase ?_
    · intro j u hu
      have hj := (List.getElem?_eq_some_iff.1 hu).1
      obtain ⟨b, o, hb, hc⟩ := hA (by omega)
      cases hb
      rw [Addr.add_mid, hc j hj]
      exact hu ▸ (List.getElem?_eq_getElem hj).symm
    · intro v' w' h1 h2 _
      refine h v' w' (by unfold Own; rw [List.length_append, Bs_length]; exact h1) ?_
      refine (Below.refl _ _).grown h2 hbase ?_
      intro k hk
      obtain ⟨_, h0⟩ := hown
      rcases h0 with ⟨rfl, _⟩ | ⟨g, cap, cur, rfl, hg, _⟩
      · simp [Value.ownBlock] at hk
      · simp [Value.ownBlock] at hk; omega

theorem len_u16 (n : Nat) (h : n ≤ 256) : n16 (UInt16.ofNat n) = (n : Int) := by
  unfold n16
  rw [UInt16.toNat_ofNat', Nat.mod_eq_of_lt (by omega)]
theorem len_u16_64 (n : Nat) (h : n ≤ 256) : (UInt16.ofNat n).toUInt64 = UInt64.ofNat n := by
  apply UInt64.toNat.inj
  rw [UInt16.toNat_toUInt64, UInt16.toNat_ofNat', UInt64.toNat_ofNat', Nat.mod_eq_of_lt (by omega), Nat.mod_eq_of_lt (by omega)]

/-- the frame of a payload -/
def frameB (b : List UInt8) : List UInt8 := [(165 : UInt8)] ++ leS (UInt64.ofNat b.length) 2 ++ b
/-- the two errors that Frame answers -/
def ErrF (w : World) (a1 a2 : Addr) : Prop := w.cell? ⟨0, 0, none⟩ = some (.iface 54 (.pointer (some a1))) ∧ w.cell? ⟨1, 0, none⟩ = some (.iface 54 (.pointer (some a2)))

set_option maxRecDepth 100000 in
set_option maxHeartbeats 1600000 in
theorem frame_bad (A : Option Addr) (c : Nat) (l : List UInt8) (a1 a2 : Addr) (w : World) (hp : ErrF w a1 a2) (h : l.length = 0 ∨ 256 < l.length) :
    Calls Tryd.prog 7 #[.slice A l.length c] w fun e w' => (∃ a, e = .returned (.tuple #[.slice none 0 0, .iface 54 (.pointer (some a))])) ∧ LoneN w w' := by
  obtain ⟨e1, e2⟩ := hp
  rcases h with h0 | hb
  · go_enter Tryd.func7, Tryd.ntmps7
    go_wp2
    go_quiet (fail)
    go_wp2
    go_ret2
    exact ⟨⟨_, rfl⟩, loneN_next (loneN_refl _) _⟩
  · have h0 : ¬ l.length = 0 := by omega
    go_enter Tryd.func7, Tryd.ntmps7
    go_wp2
    go_quiet (fail)
    go_wp2
    go_ret2
    exact ⟨⟨_, rfl⟩, loneN_next (loneN_refl _) _⟩

set_option maxRecDepth 100000 in
set_option maxHeartbeats 1600000 in
theorem frame_good (A : Option Addr) (c : Nat) (l : List UInt8) (w : World) (h0 : ¬ l.length = 0) (hb : ¬ 256 < l.length) (hA : Cells w A (Bs l)) :
    Calls Tryd.prog 7 #[.slice A l.length c] w fun e w' => ∃ v, e = .returned (.tuple #[v, .nilIface]) ∧ Own w' w.heap.size 5 v (Bs (frameB l)) ∧ Below w.heap.size w w' := by
  unfold frameB
  have hbb : Below w.heap.size w (w.alloc (.cells #[.int .u8 (n8 (165 : UInt8))] 5)) := (Below.refl _ _).alloc (Nat.le_refl _) _
  have hcb : Cells (w.alloc (.cells #[.int .u8 (n8 (165 : UInt8))] 5)) (some ⟨w.heap.size, 0, none⟩) (Bs [(165 : UInt8)]) := cells_new w (Bs [(165 : UInt8)]) 5 (0, 0)
  have hpu := putU16_calls (some ⟨w.heap.size, 0, none⟩) 1 [(165 : UInt8)] (UInt16.ofNat l.length) _ (by simp) hcb
  rw [len_u16_64 l.length (by omega), len_u16 l.length (by omega), show ([(165 : UInt8)] : List UInt8).length = 1 from rfl] at hpu
  have HP := Go.Lib.hid hpu
  have HBB := Go.Lib.hid hbb
  have HA1 := Go.Lib.hid (cells_below hbb hA)
  have hroom : ([(165 : UInt8)] ++ leS (UInt64.ofNat l.length) 2).length + l.length ≤ 140737488355328 := by simp [leS_length]; omega
  rw [← Bs_length] at hroom
  obtain ⟨W, hW⟩ : ∃ W, W = w.alloc (.cells #[.int .u8 (n8 (165 : UInt8))] 5) := ⟨_, rfl⟩
  clear hA hpu hcb hbb
  go_enter Tryd.func7, Tryd.ntmps7
  go_wp2_with fail
  have hWs : w.alloc (.cells #[.int .u8 165] 5) = W := hW.symm
  try rw [hWs]
  rw [← hW] at HP HBB HA1
  refine HP.out.mono ?_
  rintro e w1 ⟨v, rfl, hv, hb1⟩
  have HA2 := Go.Lib.hid (cells_below hb1 HA1.out)
  have HB1 := Go.Lib.hid (below_then HBB.out hb1)
  have HV := Go.Lib.hid (own_low hv HBB.out.size)
  have hsz := HB1.out.size
  clear hv hb1 HP HBB HA1 hW hWs
  go_wp2_with (first
    | (at_builtin; (with_reducible refine wpList_append_all (W := w1) (s := .tmp 18) (x := .tmp 19) (t := 23) (e := 5) (z := .int .u8 0) (ht := Tryd.underlying23) (hinfo := info8) (base := w.heap.size) (v := v) (vs := Bs ([(165 : UInt8)] ++ leS (UInt64.ofNat l.length) 2)) (hown := HV.out) (hbase := hsz) (A := A) (c := c) (l := l) (hA := HA2.out) (hroom := hroom) (hgd := rfl) (hz := ?_) (ho := ?_) (hs := ?_) (hx := ?_) (h := ?_)); rfl; rfl; rfl; rfl; intro v2 w2 hown2 hb2; have HO := Go.Lib.hid hown2; have HB2 := Go.Lib.hid hb2; clear hown2 hb2))
  go_ret2
  refine ⟨_, rfl, ?_, HB1.out.trans HB2.out⟩
  have := HO.out
  rwa [← Bs_append] at this

theorem frame_shut : Shut Tryd.prog (fun x => [7, 13, 17].contains x) := shut_of _ (by kernel_rfl) (by kernel_rfl)
theorem frame_bad_m {Post : Value → World → Prop} (A : Option Addr) (c : Nat) (l : List UInt8) (a1 a2 : Addr) (w : World) (hp : ErrF w a1 a2) (h : l.length = 0 ∨ 256 < l.length) :
    callM Tryd.prog (XF Tryd.prog (XEnds Tryd.prog Post)) 7 #[.slice A l.length c] (fun γ v w' => γ = none ∧ (∃ a, v = .tuple #[.slice none 0 0, .iface 54 (.pointer (some a))]) ∧ Below w.heap.size w w') none w := by
  refine callM_of_calls (R := fun v w' => (∃ a, v = .tuple #[.slice none 0 0, .iface 54 (.pointer (some a))]) ∧ Below w.heap.size w w') frame_shut (by decide) (fun w1 h1 h2 h3 => ?_) ?_
  · refine (frame_bad A c l a1 a2 w1 (by unfold ErrF World.cell? at *; rw [h1]; exact hp) h).mono ?_
    rintro e w' ⟨⟨a, he⟩, n, rfl⟩
    exact ⟨_, he, ⟨a, rfl⟩, ⟨h2, rfl, h3, by rw [← h1]; exact Nat.le_refl _, fun i hi => by rw [← h1]; rfl⟩⟩
  · rintro v w' d ⟨ha, hb⟩
    exact ⟨ha, ⟨hb.os, hb.tape, hb.output, hb.size, hb.block⟩⟩
theorem frame_good_m {Post : Value → World → Prop} (A : Option Addr) (c : Nat) (l : List UInt8) (w : World) (h0 : ¬ l.length = 0) (hb : ¬ 256 < l.length) (hA : Cells w A (Bs l)) :
    callM Tryd.prog (XF Tryd.prog (XEnds Tryd.prog Post)) 7 #[.slice A l.length c] (fun γ v w' => γ = none ∧ (∃ x, v = .tuple #[x, .nilIface] ∧ Own w' w.heap.size 5 x (Bs (frameB l))) ∧ Below w.heap.size w w') none w := by
  refine callM_of_calls (R := fun v w' => (∃ x, v = .tuple #[x, .nilIface] ∧ Own w' w.heap.size 5 x (Bs (frameB l))) ∧ Below w.heap.size w w') frame_shut (by decide) (fun w1 h1 h2 h3 => ?_) ?_
  · refine (frame_good A c l w1 h0 hb (cells_heap h1 hA)).mono ?_
    rintro e w' ⟨x, he, ho, hbl⟩
    rw [h1] at ho hbl
    exact ⟨_, he, ⟨x, rfl, ho⟩, ⟨hbl.os.trans h2, rfl, hbl.output.trans h3, (by rw [← h1]; exact hbl.size), fun i hi => (hbl.block i hi).trans (by rw [h1])⟩⟩
  · rintro v w' d ⟨⟨x, e, ho⟩, hb⟩
    exact ⟨⟨x, e, ho⟩, ⟨hb.os, hb.tape, hb.output, hb.size, hb.block⟩⟩
end Go.Proofs.YtngmhkhncimknaaDoor
