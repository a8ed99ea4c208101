/- Package pack: the walks of what reads, continued. -/
import Derived.Test.YtipjdkdonmoojaaDoorDPackR
namespace Go.Proofs.YtipjdkdonmoojaaDoor
open Go Go.RowKit
set_option linter.unusedVariables false
set_option linter.unusedSimpArgs false
attribute [local go_sem] IntKind.wrap_u64 c64_8 c8_64 c16_64 c32_64 c64_16 c64_32 or8 and8 shr64_7 shr64_8 shl64_8 or64 and64 n64_self n8_self beq_n64 beq_n8 bne_n8 bne_n64

def endS (rest : List UInt8) (f : Nat) : Nat := if f = 0 then (if rest.length = 0 then 0 else 2) else f
/-- 'append([]byte(nil), b...)' -/
theorem wpList_append_all {P : Program} {W : World} {ops : Array Oper} {rest : List Oper} {o : Oper} {a : Act} {Q : Exit → Act → World → Prop} (hgd : o.guard = none) (s x : Operand) (t e : TypeId) (z : Value)
    (ht : P.underlying t = some (.slice e)) (hinfo : (P.info? e).map (fun i => (i.zero, i.size, i.bytes)) = some (some z, 1, 1)) (hz : z.cells.size = 1)
    (ho : o.op = .call { callee := .builtin .append, args := #[s, x], argTypes := #[t, t] })
    (base : Nat) (v : Value) (vs : List Value) (hs : a.eval s = v) (hown : Own W base e v vs) (hbase : base ≤ W.heap.size) (A : Option Addr) (c : Nat) (l : List UInt8)
    (hx : a.eval x = .slice A l.length c) (hA : Cells W A (Bs l)) (hroom : vs.length + l.length ≤ 140737488355328)
    (h : ∀ v' w', Own w' base e v' (vs ++ Bs l) → Below base W w' → wpList P ops Q rest (a.put o.dst v') w') : wpList P ops Q (o :: rest) a W := by
  obtain ⟨i, hi, hz0, hz1, hz2⟩ := info_parts hinfo
  cases A with
  | none =>
    have h0 : l = [] := by
      rcases l with _ | ⟨u, l⟩
      · rfl
      · obtain ⟨b, o, hx, _⟩ := hA (by simp [Bs]); cases hx
    subst h0
    refine wpList_plain hgd fun K hK => ?_
    have hr : (Builtin.append_ #[t, t] o.type #[v, .slice none 0 c]).run P W = .ok v W := by
      rcases hown.2 with ⟨rfl, h0⟩ | ⟨g, cap, cur, rfl, _, _, hnc, _⟩
      · simp [Builtin.append_, run_underlying ht, sizeOf, typeInfo, hi, Builtin.lenOf, Builtin.firstCells]
      · simp [Builtin.append_, run_underlying ht, sizeOf, typeInfo, hi, Builtin.lenOf, Builtin.firstCells, hnc, storeCells]
    have h' := h v W (by rw [show Bs [] = [] from rfl, List.append_nil]; exact hown) (Below.refl _ _)
    unfold Oper.wp execOp
    have hx' : a.eval x = .slice none 0 c := hx
    simp only [ho, resolve, invoke, builtin, Sem.run_bind, Sem.run_pure, Result.andThen_ok, List.map_toArray, List.map_cons, List.map_nil, hs, hx', hr]
    exact hK _ _ h'
  | some ad =>
    refine wpList_append_own _ hgd s x t ho base e i z 1 1 ht hi hz0 hz1 hz2 hz (by decide) v vs.length vs hs hown ad l.length c (Bs l) hx (by rw [Bs_length, Nat.mul_one]) ?_ (Bs_one l) (by unfold maxLen; omega) (by omega) hbase ?_
    · intro j u hu
      have hj := (List.getElem?_eq_some_iff.1 hu).1
      obtain ⟨b, o, hb, hc⟩ := hA (by omega)
      cases hb
      rw [Addr.add_mid, hc j hj]
      exact hu ▸ (List.getElem?_eq_getElem hj).symm
    · intro v' w' h1 h2 _
      refine h v' w' (by unfold Own; rw [List.length_append, Bs_length]; exact h1) ?_
      refine (Below.refl _ _).grown h2 hbase ?_
      intro k hk
      obtain ⟨_, h0⟩ := hown
      rcases h0 with ⟨rfl, _⟩ | ⟨g, cap, cur, rfl, hg, _⟩
      · simp [Value.ownBlock] at hk
      · simp [Value.ownBlock] at hk; omega

theorem own_addr {w : World} {base e : Nat} {v : Value} {vs : List Value} (h : Own w base e v vs) : ∃ A c, v = .slice A vs.length c ∧ vs.length ≤ c ∧ c ≤ 9223372036854775807 ∧ Cells w A vs ∧ ∀ ad, A = some ad → base ≤ ad.block ∧ ad.block < w.heap.size ∧ ∃ cs fr, w.heap[ad.block]? = some (Obj.cells cs e fr) := by
  obtain ⟨A, c, hv, h1, h2, h3⟩ := own_slice h
  refine ⟨A, c, hv, h1, h2, h3, ?_⟩
  rintro ad rfl
  rcases h.2 with ⟨rfl, h0⟩ | ⟨g, cap, cur, rfl, hg, hh, _⟩
  · cases hv
  · cases hv
    exact ⟨hg, heap_lt hh, _, _, hh⟩

set_option maxHeartbeats 800000 in
theorem newReader_calls (A : Option Addr) (c : Nat) (l : List UInt8) (w : World) (hl : l.length ≤ 140737488355328) (hA : Cells w A (Bs l)) :
    Calls Tryd.prog 31 #[.slice A l.length c] w fun e w' => ∃ g, e = .returned (.pointer (some ⟨g, 0, none⟩)) ∧ Rd w' w.heap.size g l .nilIface ∧ Below w.heap.size w w' := by
  have HA := Go.Lib.hid hA
  have HO0 : Hid (Own w w.heap.size 5 (.slice none 0 0) []) := World.ownsRow_nil w w.heap.size 5 1
  clear hA
  go_enter Tryd.func31, Tryd.ntmps31
  go_wp2_with (first
    | (at_builtin; (with_reducible refine wpList_append_all (W := w) (s := .const (.slice none 0 0)) (x := .tmp 3) (t := 28) (e := 5) (z := .int .u8 0) (ht := Tryd.underlying28) (hinfo := info8) (base := w.heap.size) (v := .slice none 0 0) (vs := []) (hown := HO0.out) (hbase := Nat.le_refl _) (A := A) (c := c) (l := l) (hA := HA.out) (hroom := by simpa using hl) (hgd := rfl) (hz := ?_) (ho := ?_) (hs := ?_) (hx := ?_) (h := ?_)); rfl; rfl; rfl; rfl; intro v1 w1 hown1 hb1; obtain ⟨A1, c1, rfl, hc1, hc2, hc3, hc4⟩ := own_addr hown1; have HC3 := Go.Lib.hid hc3; have HC4 := Go.Lib.hid hc4; have HB1 := Go.Lib.hid hb1; clear hown1 hc3 hc4 hb1))
  go_ret
  have hb2 : Below w.heap.size w (w1.alloc (.cells #[.slice A1 (Bs l).length c1, .nilIface] 82)) := HB1.out.alloc HB1.out.size _
  refine ⟨w1.heap.size, rfl, ⟨A1, c1, HB1.out.size, ?_, ?_, hc2, cells_below ((Below.refl _ _).alloc (Nat.le_refl _) _) HC3.out, fun ad ha => ⟨(HC4.out ad ha).1, by have := (HC4.out ad ha).2.1; omega, by obtain ⟨cs, fr, h⟩ := (HC4.out ad ha).2.2; exact ⟨cs, fr, below_heap ((Below.refl _ _).alloc (Nat.le_refl _) _) h⟩⟩⟩, hb2⟩
  · rw [List.nil_append] at *
    rw [heap_here w1 _ _ rfl, Bs_length]
  · rw [List.nil_append, Bs_length] at hc1; exact hc1
theorem rd_below {w w1 : World} {B g : Nat} {l : List UInt8} {f : Value} (h : Rd w B g l f) (hb : Below w.heap.size w w1) : Rd w1 B g l f := by
  obtain ⟨A, c, h1, h2, h3, h4, h5, h6⟩ := h
  exact ⟨A, c, h1, below_heap hb h2, h3, h4, cells_below hb h5, fun ad ha => ⟨(h6 ad ha).1, (h6 ad ha).2.1, by obtain ⟨cs, fr, h⟩ := (h6 ad ha).2.2; exact ⟨cs, fr, below_heap hb h⟩⟩⟩
theorem errs_below {w w1 : World} {a0 a1 : Addr} (h : Errs w a0 a1) (hb : Below w.heap.size w w1) : Errs w1 a0 a1 := ⟨below_cell hb h.1, below_cell hb h.2⟩

theorem lives_plain : numS 300 9 = [172, 2] ∧ numberF [172, 2] 0 = (300, [], 0) ∧ endS [] 0 = 0 := by decide +kernel

end Go.Proofs.YtipjdkdonmoojaaDoor
