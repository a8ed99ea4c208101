/- Package pack: the walks of what reads, continued. -/
import Derived.Test.YtjkocjkfedcdoaaDoorPackR
namespace Go.Proofs.YtjkocjkfedcdoaaDoor
open Go Go.RowKit
attribute [local go_sem] IntKind.wrap_u64 c64_8 c8_64 c16_64 c32_64 c64_16 c64_32 or8 and8 shr64_7 shr64_8 shl64_8 or64 and64 n64_self n8_self beq_n64 beq_n8 bne_n8 bne_n64

def endS (rest : List UInt8) (f : Nat) : Nat := if f = 0 then (if rest.length = 0 then 0 else 2) else f
theorem end_calls (w : World) (B g : Nat) (a0 a1 : Addr) (rest : List UInt8) (f : Nat) (hE : Errs w a0 a1) (hR : Rd w B g rest (fv a0 a1 f)) :
    Calls Tryd.prog 41 #[.pointer (some ⟨g, 0, none⟩)] w fun e w' => e = .returned (fv a0 a1 (endS rest f)) ∧ w' = w := by
  have HR := Go.Lib.hid hR
  obtain ⟨A, c, hBg, hh, hlc, hc, hA, hAb⟩ := hR
  have hc0 := cell_of_row w g 0 _ _ _ hh
  simp only [List.getElem?_toArray, List.getElem?_cons_zero, List.getElem?_cons_succ] at hc0
  clear hh hA hAb
  obtain ⟨e0, e1⟩ := hE
  change w.cell? _ = some (.iface 107 (.pointer (some a1))) at e1
  clear e0
  go_enter Tryd.func41, Tryd.ntmps41
  go_wp2_with fail
  refine (err_calls w B g rest _ HR.out).mono ?_
  rintro e w' ⟨rfl, rfl⟩
  cases f with
  | zero =>
    clear HR
    rcases rest with _ | ⟨u, l⟩
    · simp only [fv]
      go_wp2
      go_ret
      exact ⟨rfl, rfl⟩
    · have hl0 : (0 : Int) < ((u :: l).length : Int) := by simp only [List.length_cons]; omega
      generalize hn : (u :: l).length = n at *
      simp only [fv]
      go_wp2
      go_ret
      refine ⟨?_, rfl⟩
      unfold endS
      rw [if_pos rfl, hn, if_neg (by omega)]
      rfl
  | succ f =>
    have hv : ∃ a, fv a0 a1 (f + 1) = .iface 107 (.pointer (some a)) := by cases f <;> exact ⟨_, rfl⟩
    have he : endS rest (f + 1) = f + 1 := by unfold endS; rw [if_neg (by omega)]
    clear HR
    obtain ⟨a, ha⟩ := hv
    have HQ := Go.Lib.hid (he ▸ ha : fv a0 a1 (endS rest (f + 1)) = .iface 107 (.pointer (some a)))
    simp only [ha]
    clear ha he
    go_wp2
    go_ret
    exact ⟨by rw [HQ.out]; rfl, rfl⟩
theorem end_nil (w : World) (a : Addr) (hE : w.cell? ⟨3, 0, none⟩ = some (.iface 107 (.pointer (some a)))) : Calls Tryd.prog 41 #[.pointer none] w fun e w' => e = .returned (.iface 107 (.pointer (some a))) ∧ w' = w := by
  go_enter Tryd.func41, Tryd.ntmps41
  go_wp2_with fail
  refine (err_nil w _ hE).mono ?_
  rintro e w' ⟨rfl, rfl⟩
  go_wp2
  go_ret
  exact ⟨rfl, rfl⟩

/-- 'append([]byte(nil), b...)' -/
theorem wpList_append_all {P : Program} {W : World} {ops : Array Oper} {rest : List Oper} {o : Oper} {a : Act} {Q : Exit → Act → World → Prop} (hgd : o.guard = none) (s x : Operand) (t e : TypeId) (z : Value)
    (ht : P.underlying t = some (.slice e)) (hinfo : (P.info? e).map (fun i => (i.zero, i.size, i.bytes)) = some (some z, 1, 1)) (hz : z.cells.size = 1)
    (ho : o.op = .call { callee := .builtin .append, args := #[s, x], argTypes := #[t, t] })
    (base : Nat) (v : Value) (vs : List Value) (hs : a.eval s = v) (hown : Own W base e v vs) (hbase : base ≤ W.heap.size) (A : Option Addr) (c : Nat) (l : List UInt8)
    (hx : a.eval x = .slice A l.length c) (hA : Cells W A (Bs l)) (hroom : vs.length + l.length ≤ 140737488355328)
    (h : ∀ v' w', Own w' base e v' (vs ++ Bs l) → Below base W w' → wpList P ops Q rest (a.put o.dst v') w') : wpList P ops Q (o :: rest) a W := by
  obtain ⟨i, hi, hz0, hz1, hz2⟩ := info_parts hinfo
  cases A with
  | none =>
    have h0 : l = [] := by
      rcases l with _ | ⟨u, l⟩
      · rfl
      · obtain ⟨b, o, hx, _⟩ := hA (by simp [Bs]); cases hx
    subst h0
    refine wpList_plain hgd fun K hK => ?_
    have hr : (Builtin.append_ #[t, t] o.type #[v, .slice none 0 c]).run P W = .ok v W := by
      rcases hown.2 with ⟨rfl, h0⟩ | ⟨g, cap, cur, rfl, _, _, hnc, _⟩
      · simp [Builtin.append_, run_underlying ht, sizeOf, typeInfo, hi, Builtin.lenOf, Builtin.firstCells]
      · simp [Builtin.append_, run_underlying ht, sizeOf, typeInfo, hi, Builtin.lenOf, Builtin.firstCells, hnc, storeCells]
    have h' := h v W (by rw [show Bs [] = [] from rfl, List.append_nil]; exact hown) (Below.refl _ _)
    unfold Oper.wp execOp
    have hx' : a.eval x = .slice none 0 c := hx
    simp only [ho, resolve, invoke, builtin, Sem.run_bind, Sem.run_pure, Result.andThen_ok, List.map_toArray, List.map_cons, List.map_nil, hs, hx', hr]
    exact hK _ _ h'
  | some ad =>
    refine wpList_append_own _ hgd s x t ho base e i z 1 1 ht hi hz0 hz1 hz2 hz (by decide) v vs.length vs hs hown ad l.length c (Bs l) hx (by rw [Bs_length, Nat.mul_one]) ?_ (Bs_one l) (by unfold maxLen; omega) (by omega) hbase ?_
    · intro j u hu
      have hj := (List.getElem?_eq_some_iff.1 hu).1
      obtain ⟨b, o, hb, hc⟩ := hA (by omega)
      cases hb
      rw [Addr.add_mid, hc j hj]
      exact hu ▸ (List.getElem?_eq_getElem hj).symm
    · intro v' w' h1 h2 _
      refine h v' w' (by unfold Own; rw [List.length_append, Bs_length]; exact h1) ?_
      refine (Below.refl _ _).grown h2 hbase ?_
      intro k hk
      obtain ⟨_, h0⟩ := hown
      rcases h0 with ⟨rfl, _⟩ | ⟨g, cap, cur, rfl, hg, _⟩
      · simp [Value.ownBlock] at hk
      · simp [Value.ownBlock] at hk; omega

theorem own_addr {w : World} {base e : Nat} {v : Value} {vs : List Value} (h : Own w base e v vs) : ∃ A c, v = .slice A vs.length c ∧ vs.length ≤ c ∧ c ≤ 9223372036854775807 ∧ Cells w A vs ∧ ∀ ad, A = some ad → base ≤ ad.block ∧ ad.block < w.heap.size := by
  obtain ⟨A, c, hv, h1, h2, h3⟩ := own_slice h
  refine ⟨A, c, hv, h1, h2, h3, ?_⟩
  rintro ad rfl
  rcases h.2 with ⟨rfl, h0⟩ | ⟨g, cap, cur, rfl, hg, hh, _⟩
  · cases hv
  · cases hv
    exact ⟨hg, heap_lt hh⟩

set_option maxHeartbeats 800000 in
theorem newReader_calls (A : Option Addr) (c : Nat) (l : List UInt8) (w : World) (hl : l.length ≤ 140737488355328) (hA : Cells w A (Bs l)) :
    Calls Tryd.prog 30 #[.slice A l.length c] w fun e w' => ∃ g, e = .returned (.pointer (some ⟨g, 0, none⟩)) ∧ Rd w' w.heap.size g l .nilIface ∧ Below w.heap.size w w' := by
  have HA := Go.Lib.hid hA
  have HO0 : Hid (Own w w.heap.size 5 (.slice none 0 0) []) := World.ownsRow_nil w w.heap.size 5 1
  clear hA
  go_enter Tryd.func30, Tryd.ntmps30
  go_wp2_with (first
    | (at_builtin; (with_reducible refine wpList_append_all (W := w) (s := .const (.slice none 0 0)) (x := .tmp 3) (t := 26) (e := 5) (z := .int .u8 0) (ht := Tryd.underlying26) (hinfo := info8) (base := w.heap.size) (v := .slice none 0 0) (vs := []) (hown := HO0.out) (hbase := Nat.le_refl _) (A := A) (c := c) (l := l) (hA := HA.out) (hroom := by simpa using hl) (hgd := rfl) (hz := ?_) (ho := ?_) (hs := ?_) (hx := ?_) (h := ?_)); rfl; rfl; rfl; rfl; intro v1 w1 hown1 hb1; obtain ⟨A1, c1, rfl, hc1, hc2, hc3, hc4⟩ := own_addr hown1; have HC3 := Go.Lib.hid hc3; have HC4 := Go.Lib.hid hc4; have HB1 := Go.Lib.hid hb1; clear hown1 hc3 hc4 hb1))
  go_ret
  have hb2 : Below w.heap.size w (w1.alloc (.cells #[.slice A1 (Bs l).length c1, .nilIface] 81)) := HB1.out.alloc HB1.out.size _
  refine ⟨w1.heap.size, rfl, ⟨A1, c1, HB1.out.size, ?_, ?_, hc2, cells_below ((Below.refl _ _).alloc (Nat.le_refl _) _) HC3.out, fun ad ha => ?_⟩, hb2⟩
  · rw [List.nil_append] at *
    rw [heap_here w1 _ _ rfl, Bs_length]
  · rw [List.nil_append, Bs_length] at hc1; exact hc1
  · have := HC4.out ad ha; omega
theorem rd_below {w w1 : World} {B g : Nat} {l : List UInt8} {f : Value} (h : Rd w B g l f) (hb : Below w.heap.size w w1) : Rd w1 B g l f := by
  obtain ⟨A, c, h1, h2, h3, h4, h5, h6⟩ := h
  exact ⟨A, c, h1, below_heap hb h2, h3, h4, cells_below hb h5, h6⟩
theorem errs_below {w w1 : World} {a0 a1 : Addr} (h : Errs w a0 a1) (hb : Below w.heap.size w w1) : Errs w1 a0 a1 := ⟨below_cell hb h.1, below_cell hb h.2⟩

theorem lives_plain : numS 300 9 = [172, 2] ∧ numberF [172, 2] 0 = (300, [], 0) ∧ endS [] 0 = 0 := by decide +kernel

set_option maxHeartbeats 800000 in
theorem lives_calls (w : World) (a0 a1 : Addr) (hE : Errs w a0 a1) :
    Calls Tryd.prog 25 #[] w fun e w' => e = .returned (.bool true) ∧ Below w.heap.size w w' := by
  have HE := Go.Lib.hid hE
  clear hE
  go_enter Tryd.func25, Tryd.ntmps25
  go_wp2_with fail
  have hput := putNumber_calls none 0 [] 300 w (by decide) (fun h => absurd h (by simp [Bs]))
  rw [List.nil_append, lives_plain.1] at hput
  refine (show Calls Tryd.prog 34 #[.slice none 0 0, .int .u64 300] w _ from hput).mono ?_
  rintro e w1 ⟨v, rfl, hv, hb1⟩
  obtain ⟨A1, c1, rfl, hc1, hc2, hc3, hc4⟩ := own_addr hv
  have HB1 := Go.Lib.hid hb1
  have HC := Go.Lib.hid hc3
  clear hput hv hb1 hc3 hc4 hc1 hc2
  go_wp2_with fail
  refine (newReader_calls A1 c1 [172, 2] w1 (by decide) HC.out).mono ?_
  rintro e w2 ⟨g, rfl, hr2, hb2⟩
  have HC2 := Go.Lib.hid (cells_below hb2 HC.out)
  have HR2 := Go.Lib.hid hr2
  have HB2 := Go.Lib.hid (below_then HB1.out hb2)
  have hw1 := HB1.out.size
  clear hr2 hb2 HC HB1
  go_wp2_with fail
  have hb3 : Below w2.heap.size w2 (w2.alloc (.cells (Bs [172, 2]).toArray 5)) := (Below.refl _ _).alloc (Nat.le_refl _) _
  have hal := alike_calls A1 (some ⟨w2.heap.size, 0, none⟩) c1 2 [172, 2] [172, 2] _ (cells_below hb3 HC2.out) (cells_new w2 (Bs [172, 2]) 5 (0, 0))
  have HR3 := Go.Lib.hid (rd_below HR2.out hb3)
  have HB3 := Go.Lib.hid (below_then HB2.out hb3)
  refine (show Calls Tryd.prog 27 #[.slice A1 (Bs [172, 2]).length c1, .slice (some ⟨w2.heap.size, 0, none⟩) 2 2] (w2.alloc (.cells (Bs [172, 2]).toArray 5)) _ from hal).mono ?_
  rintro e w3 ⟨rfl, hw3⟩
  rw [← hw3] at HR3 HB3
  clear hal hb3 hw3
  have HE3 := Go.Lib.hid (errs_below HE.out HB3.out)
  go_wp2_with fail
  refine (number_calls w3 w1.heap.size g a0 a1 [172, 2] 0 HE3.out HR3.out).mono ?_
  rintro e w4 ⟨rfl, hr4, ho4⟩
  rw [lives_plain.2.1] at hr4 ⊢
  have HR4 := Go.Lib.hid hr4
  have HB4 := Go.Lib.hid (HB3.out.trans (ho4.below (B := w.heap.size) (by obtain ⟨_, _, h, _⟩ := HR3.out; omega)))
  have HE4 := Go.Lib.hid (errs_below HE.out HB4.out)
  clear hr4 ho4
  go_wp2_with fail
  refine (end_calls w4 w1.heap.size g a0 a1 [] 0 HE4.out HR4.out).mono ?_
  rintro e w5 ⟨rfl, rfl⟩
  rw [lives_plain.2.2]
  simp only [fv]
  go_wp2
  go_ret
  exact ⟨rfl, HB4.out⟩
end Go.Proofs.YtjkocjkfedcdoaaDoor
