/- The law PackShort: its walk. -/
import Derived.Test.YtjkocjkfedcdoaaDoorBackL
namespace Go.Proofs.YtjkocjkfedcdoaaDoor
open Go Go.RowKit
attribute [local go_sem] IntKind.wrap_u64 n64_self n8_self beq_n64 beq_n8 bne_n8 bne_n64 eql_same

/-- a short reader keeps its place -/
def Sh (B g : Nat) (a0 a1 : Addr) (q : List UInt8) (w w' : World) : Prop := Rd w' B g q (fv a0 a1 1) ∧ Errs w' a0 a1 ∧ Below B w w'
theorem sh_only {B g : Nat} {a0 a1 : Addr} {q : List UInt8} {w w1 w2 : World} (h : Sh B g a0 a1 q w w1) (hB : 1 < B) (h1 : Rd w2 B g q (fv a0 a1 1)) (h2 : Only g w1 w2) : Sh B g a0 a1 q w w2 := by
  have hg : B ≤ g := by obtain ⟨_, _, h, _⟩ := h1; exact h
  exact ⟨h1, errs_only h.2.1 h2 (by show (0 : Nat) ≠ g; omega) (by show (1 : Nat) ≠ g; omega), h.2.2.trans (h2.below hg)⟩
theorem sh_cell {B g : Nat} {a0 a1 : Addr} {q : List UInt8} {w w' : World} (h : Sh B g a0 a1 q w w') : w'.cell? ⟨0, 0, none⟩ = some (.iface 107 (.pointer (some a0))) := h.2.1.1
theorem sh_drew {B g : Nat} {a0 a1 : Addr} {q : List UInt8} {w w' : World} {n : Nat} (h : Sh B g a0 a1 q w w') : Sh B g a0 a1 q w (w'.drewN n) := ⟨h.1, h.2.1, h.2.2.trans (below_drewN B w' n)⟩
theorem sh_drew1 {B g : Nat} {a0 a1 : Addr} {q : List UInt8} {w w' : World} (h : Sh B g a0 a1 q w w') : Sh B g a0 a1 q w w'.drew := ⟨h.1, h.2.1, h.2.2.trans ⟨rfl, rfl, rfl, Nat.le_refl _, fun _ _ => rfl⟩⟩
theorem short_u8 (q : List UInt8) : fixedS q 1 1 = (0, q, 1) := fixedS_faulted q 1 1 (by decide)
theorem short_text (q : List UInt8) : textS q 1 = ([], q, 1) := textS_faulted q 1 (by decide)
theorem short_end (q : List UInt8) : endS q 1 = 1 := by unfold endS; rw [if_neg (by decide)]

theorem rowE_at (os : List PutD) (k : Nat) (hk : k < os.length) : (rowE os)[k]? = some ((rowB (os.take (k + 1))).length : Int) := by
  unfold rowE
  rw [List.getElem?_map, List.getElem?_range hk]
  rfl
theorem rowB_split (os : List PutD) (k : Nat) : rowB os = rowB (os.take k) ++ rowB (os.drop k) := by
  conv => lhs; rw [← List.take_append_drop k os]
  unfold rowB; rw [List.flatMap_append]

theorem err_short (w : World) (B g : Nat) (a0 a1 : Addr) (q : List UInt8) (hR : Rd w B g q (fv a0 a1 1)) :
    Calls Tryd.prog 33 #[.pointer (some ⟨g, 0, none⟩)] w fun e w' => e = .returned (.iface 107 (.pointer (some a0))) ∧ w' = w := err_calls w B g q _ hR
theorem end_short (w : World) (B g : Nat) (a0 a1 : Addr) (q : List UInt8) (hE : Errs w a0 a1) (hR : Rd w B g q (fv a0 a1 1)) :
    Calls Tryd.prog 41 #[.pointer (some ⟨g, 0, none⟩)] w fun e w' => e = .returned (.iface 107 (.pointer (some a0))) ∧ w' = w := by
  have h := end_calls w B g a0 a1 q 1 hE hR
  rw [short_end] at h
  exact h
theorem left_callsN (w : World) (B g n : Nat) (rest : List UInt8) (f : Value) (hn : rest.length = n) (hR : Rd w B g rest f) :
    Calls Tryd.prog 32 #[.pointer (some ⟨g, 0, none⟩)] w fun e w' => e = .returned (.int .i64 (n : Int)) ∧ w' = w := by
  subst hn; exact left_calls w B g rest f hR

/-- the same, with the error's cell -/
def ShC (B g : Nat) (a0 a1 : Addr) (q : List UInt8) (w w' : World) : Prop := w'.cell? ⟨0, 0, none⟩ = some (.iface 107 (.pointer (some a0))) ∧ Sh B g a0 a1 q w w'
theorem shC {B g : Nat} {a0 a1 : Addr} {q : List UInt8} {w w' : World} (h : Sh B g a0 a1 q w w') : ShC B g a0 a1 q w w' := ⟨sh_cell h, h⟩
theorem u8_sh {B g : Nat} {a0 a1 : Addr} {q : List UInt8} {w w1 : World} (hB : 1 < B) (h : ShC B g a0 a1 q w w1) :
    Calls Tryd.prog 42 #[.pointer (some ⟨g, 0, none⟩)] w1 fun e w' => e = .returned (.int .u8 0) ∧ ShC B g a0 a1 q w w' := by
  have h1 := u8_calls w1 B g a0 a1 q 1 h.2.2.1 h.2.1
  rw [short_u8] at h1
  exact h1.mono fun e w' ⟨he, hr, ho⟩ => ⟨he, shC (sh_only h.2 hB hr ho)⟩
theorem text_sh {B g : Nat} {a0 a1 : Addr} {q : List UInt8} {w w1 : World} (hB : 1 < B) (h : ShC B g a0 a1 q w w1) :
    Calls Tryd.prog 43 #[.pointer (some ⟨g, 0, none⟩)] w1 fun e w' => e = .returned (.string ⟨#[]⟩) ∧ ShC B g a0 a1 q w w' := by
  have h1 := textR_calls w1 B g a0 a1 q 1 (by obtain ⟨_, _, k, _⟩ := h.2.1; omega) h.2.2.1 h.2.1
  rw [short_text] at h1
  exact h1.mono fun e w' ⟨he, hr, ho⟩ => ⟨he, shC (sh_only h.2 hB hr ho)⟩
theorem left_sh {B g n : Nat} {a0 a1 : Addr} {q : List UInt8} {w w1 : World} (hn : q.length = n) (h : ShC B g a0 a1 q w w1) :
    Calls Tryd.prog 32 #[.pointer (some ⟨g, 0, none⟩)] w1 fun e w' => e = .returned (.int .i64 (n : Int)) ∧ ShC B g a0 a1 q w w' :=
  (left_callsN w1 B g n q _ hn h.2.1).mono fun e w' ⟨he, hw⟩ => ⟨he, by rw [hw]; exact h⟩
theorem end_sh {B g : Nat} {a0 a1 : Addr} {q : List UInt8} {w w1 : World} (h : ShC B g a0 a1 q w w1) :
    Calls Tryd.prog 41 #[.pointer (some ⟨g, 0, none⟩)] w1 fun e w' => e = .returned (.iface 107 (.pointer (some a0))) ∧ ShC B g a0 a1 q w w' :=
  (end_short w1 B g a0 a1 q h.2.2.1 h.2.1).mono fun e w' ⟨he, hw⟩ => ⟨he, by rw [hw]; exact h⟩

set_option maxRecDepth 100000 in
set_option maxHeartbeats 3200000 in
theorem packShort_calls (A : Option Addr) (c : Nat) (os : List PutD) (cut : Int) (w : World) (p : Nat → Addr) (a0 a1 : Addr) (hE : Errs w a0 a1) (hp : LongAt w p) (hn : os.length ≤ 9223372036854775807) (hA : ElemsOf w 4 (PutR w) A os) :
    Calls Tryd.prog 14 #[.slice A os.length c, .int .i64 cut] w fun e w' => e = .returned (.bool true) ∧ Below w.heap.size w w' := by
  have HP := Go.Lib.hid hp
  have HA := Go.Lib.hid hA
  have HE := Go.Lib.hid hE
  clear hp hA hE
  go_enter Tryd.func14, Tryd.ntmps14
  go_wp2_with fail
  refine (lives_calls w a0 a1 HE.out).mono ?_
  rintro e w1 ⟨rfl, hb1⟩
  have HB1 := Go.Lib.hid hb1
  clear hb1
  go_wp2_with fail
  refine (row_calls A c os w1 p (longAt_below HP.out HB1.out) hn ?_).mono ?_
  · intro h0
    obtain ⟨b, o, ha, hx⟩ := HA.out h0
    refine ⟨b, o, ha, fun i hi => ?_⟩
    obtain ⟨cs, h1, h2, h3⟩ := hx i hi
    exact ⟨cs, h1, fun j hj => below_cell HB1.out (h2 j hj), putR_below HB1.out h3⟩
  rintro e w2 hrow
  rcases hrow with ⟨rfl, hb2⟩ | ⟨v1, v2, rfl, hv1, hv2, hok, hle, hb2⟩
  · have HB2 := Go.Lib.hid (below_then HB1.out hb2)
    clear hb2
    go_wp2
    go_ret
    exact ⟨rfl, HB2.out⟩
  have HB2 := Go.Lib.hid (below_then HB1.out hb2)
  have hlen : (rowB os).length ≤ 140737488355328 := by have := rowB_length os hok; omega
  obtain ⟨A1, cap1, rfl, hcap, _, hcells⟩ := own_slice hv1
  obtain ⟨A2, cap2, rfl, _, _, hcells2⟩ := own_slice hv2
  rw [Bs_length] at hcap ⊢
  have hel : ((rowE os).map fun z => Value.int .i64 z).length = os.length := by rw [List.length_map, rowE, List.length_map, List.length_range]
  rw [hel]
  have HC := Go.Lib.hid hcells
  have HC2 := Go.Lib.hid hcells2
  have HOK := Go.Lib.hid hok
  obtain ⟨L, hL⟩ : ∃ L, L = (rowB os).length := ⟨_, rfl⟩
  rw [← hL] at hlen hcap ⊢
  have HL := Go.Lib.hid hL
  clear hb2 hv1 hv2 hcells hcells2 hok HB1 hel hL
  by_cases hneg : cut < 0
  · have d1 : decide (cut < 0) = true := decide_eq_true hneg
    go_wp2
    go_ret
    exact ⟨rfl, HB2.out⟩
  have d1 : decide (cut < 0) = false := decide_eq_false hneg
  obtain ⟨cn, rfl⟩ : ∃ cn : Nat, cut = (cn : Int) := ⟨cut.toNat, by omega⟩
  clear hneg
  by_cases hge : L ≤ cn
  · have d2 : decide ((L : Int) ≤ (cn : Int)) = true := decide_eq_true (by omega)
    have d3 : decide (L ≤ cn) = true := decide_eq_true hge
    go_wp2
    go_ret
    exact ⟨rfl, HB2.out⟩
  have d2 : decide ((L : Int) ≤ (cn : Int)) = false := decide_eq_false (by omega)
  have d3 : decide (L ≤ cn) = false := decide_eq_false hge
  have hcut := run_cut_h (P := Tryd.prog) 26 5 Tryd.underlying26 size8' A1 L cap1 cn (by omega)
  have HCT : Hid (Cells w2 A1 (Bs ((rowB os).take cn))) := by rw [Bs_take]; exact cells_take HC.out cn
  have hlt' : cn < L := by omega
  have HTL : Hid (((rowB os).take cn).length = cn) := by show _ = _; rw [List.length_take, ← HL.out]; omega
  have HNR := Go.Lib.hid (newReader_calls A1 cap1 ((rowB os).take cn) w2 (by rw [HTL.out]; omega) HCT.out)
  rw [HTL.out] at HNR
  clear hge HC
  go_wp2_with fail
  refine HNR.out.mono ?_
  rintro e w3 ⟨g, rfl, hr3, hb3⟩
  have HB3 := Go.Lib.hid hb3
  have hsz2 : w.heap.size ≤ w2.heap.size := HB2.out.size
  have HR3 : Hid (Rd w3 w2.heap.size g ((rowB (os.drop 0)).take (cn - (rowB (os.take 0)).length)) (fv a0 a1 0)) := by
    rw [List.drop_zero, List.take_zero, show (rowB []).length = 0 from rfl, Nat.sub_zero]; exact hr3
  have hg1 := errs_size HE.out
  have hg : 1 < g := by obtain ⟨_, _, h, _⟩ := HR3.out; omega
  clear hr3 hb3 HNR HCT hcut d1 d2 d3
  go_wp2
  go_loopw [9, 10] (fun l i wr => ∃ (k lf : Nat), k ≤ os.length ∧ lf + (rowB (os.take k)).length = cn ∧ i = .int .i64 (k : Int) ∧ l = .int .i64 (lf : Int) ∧ Hid (Rd wr w2.heap.size g ((rowB (os.drop k)).take (cn - (rowB (os.take k)).length)) (fv a0 a1 0)) ∧ Hid (Below w2.heap.size w2 wr)) (fun _ i _ => os.length - (intOf i).toNat)
  case atStart => exact ⟨0, cn, by omega, rfl, rfl, rfl, HR3, HB3⟩
  case round =>
    obtain ⟨k, lf, hk, hlf, rfl, rfl, HR, HB⟩ := hrel
    clear HR3 HB3
    have hkn : k < os.length := by
      rcases Nat.lt_or_ge k os.length with h | h
      · exact h
      · exfalso
        rw [List.take_of_length_le h, ← HL.out] at hlf
        omega
    obtain ⟨b, o, hAe, hx⟩ := HA.out (by omega)
    obtain ⟨cs, hl, hc, ho⟩ := hx k hkn
    obtain ⟨Ab, cb, rfl, _, hbl, hsl, hbc⟩ := ho
    have HBW := Go.Lib.hid (below_then HB2.out HB.out)
    have c0 := below_cell HBW.out (hc 0 (by simp))
    have c1 := below_cell HBW.out (hc 1 (by simp))
    have c2 := below_cell HBW.out (hc 2 (by simp))
    have c3 := below_cell HBW.out (hc 3 (by simp))
    simp only [List.getElem_cons_zero, List.getElem_cons_succ, Nat.add_zero] at c0 c1 c2 c3
    obtain ⟨b2, o2, hAe2, hx2⟩ := HC2.out (by rw [List.length_map, rowE, List.length_map, List.length_range]; omega)
    have hek := hx2 k (by rw [List.length_map, rowE, List.length_map, List.length_range]; omega)
    have hek' : ((rowE os).map fun z => Value.int .i64 z)[k]'(by rw [List.length_map, rowE, List.length_map, List.length_range]; omega) = .int .i64 ((rowB (os.take (k + 1))).length : Int) := by
      have h1 := rowE_at os k hkn
      rw [List.getElem_map]
      rw [List.getElem?_eq_getElem (by rw [rowE, List.length_map, List.length_range]; omega)] at h1
      rw [Option.some.inj h1]
    rw [hek'] at hek
    have ce := below_cell HB.out hek
    have hek2 := hek
    have hsn := congrArg List.length (rowB_snoc os k hkn)
    rw [List.length_append] at hsn
    obtain ⟨E, hE⟩ : ∃ E, E = (rowB (os.take (k + 1))).length := ⟨_, rfl⟩
    rw [← hE] at ce hsn hek2
    have HEK := Go.Lib.hid hek2
    have HEE := Go.Lib.hid hE
    have hr := HR.out
    rw [rowB_cons os k hkn, List.take_append] at hr
    have hOK := HOK.out os[k] (List.getElem_mem hkn)
    have hsz := HB.out.size
    subst hAe hAe2
    clear hx hx2 hc hbc hek hek' hek2 hE HR
    by_cases hle' : E ≤ cn
    · have d1 : decide ((E : Int) ≤ (cn : Int)) = true := decide_eq_true (by omega)
      have d2 : decide (E ≤ cn) = true := decide_eq_true hle'
      rw [List.take_of_length_le (by omega)] at hr
      have HT := Go.Lib.hid (taken_back os[k].kind os[k].x os[k].s ((rowB (os.drop (k + 1))).take (cn - (rowB (os.take k)).length - (putB os[k].kind os[k].x os[k].s).length)) hOK)
      have HR' := Go.Lib.hid hr
      have hnum : cn - (rowB (os.take k)).length - (putB os[k].kind os[k].x os[k].s).length = cn - E := by omega
      rw [hnum] at HT HR'
      clear hr hOK hnum hsn
      generalize os[k] = op at *
      go_wp2_with fail
      refine (taken_calls op.kind _ op.x op.s wr w2.heap.size g a0 a1 _ 0 hsz hg (errs_below HE.out HBW.out) HR'.out).mono ?_
      rintro e w4 ⟨rfl, hr4, hb4⟩
      rw [HT.out] at hr4 ⊢
      have HR4 := Go.Lib.hid hr4
      have HB4 := Go.Lib.hid (HB.out.trans hb4)
      have ce4 := below_cell HB4.out HEK.out
      clear hr4 hb4
      go_wp2_with fail
      refine (err_calls w4 w2.heap.size g _ _ HR4.out).mono ?_
      rintro e w5 ⟨rfl, rfl⟩
      simp only [fv]
      go_wp2
      go_roundw
      case rel =>
        refine ⟨k + 1, cn - E, by omega, by rw [← HEE.out]; omega, by go_num, congrArg (Value.int .i64) (by omega), ?_, HB4⟩
        have := HR4.out
        rw [HEE.out] at this
        exact this
      case measure => simp [intOf]; omega
    · have d1 : decide ((E : Int) ≤ (cn : Int)) = false := decide_eq_false (by omega)
      have d2 : decide (E ≤ cn) = false := decide_eq_false hle'
      rw [show cn - (rowB (os.take k)).length - (putB os[k].kind os[k].x os[k].s).length = 0 by omega, List.take_zero, List.append_nil] at hr
      obtain ⟨qb, hq⟩ := taken_cut os[k].kind os[k].x os[k].s hOK (cn - (rowB (os.take k)).length) (by omega)
      have hql : ((putB os[k].kind os[k].x os[k].s).take (cn - (rowB (os.take k)).length)).length = lf := by rw [List.length_take]; omega
      have HR' := Go.Lib.hid hr
      have HQ := Go.Lib.hid hq
      clear hr hOK hsn hq
      generalize os[k] = op at *
      go_wp2_with fail
      refine (taken_calls op.kind _ op.x op.s wr w2.heap.size g a0 a1 _ 0 hsz hg (errs_below HE.out HBW.out) HR'.out).mono ?_
      rintro e w4 ⟨rfl, hr4, hb4⟩
      rw [HQ.out] at hr4 ⊢
      generalize (putB op.kind op.x op.s).take (cn - (rowB (os.take k)).length) = q at *
      have HQL := Go.Lib.hid hql
      have HS : Hid (Sh w2.heap.size g a0 a1 q w2 w4) := ⟨hr4, errs_below HE.out (HBW.out.trans (hb4.mono hsz2)), HB.out.trans hb4⟩
      have e0 := sh_cell HS.out
      have hB1 : 1 < w2.heap.size := by omega
      clear hr4 hb4 hql HR' ce c0 c1 c2 c3
      go_wp2
      go_quiet ((first | (go_at_call 33; exact Calls.quiet_of_same (err_short _ _ g a0 a1 q HS.out.1)) | (go_at_call 32; exact Calls.quiet_of_same (left_callsN _ _ g lf _ _ HQL.out HS.out.1))))
      go_wp2
      go_region_held3 (fun w' => w'.cell? ⟨0, 0, none⟩ = some (.iface 107 (.pointer (some a0))) ∧ Sh w2.heap.size g a0 a1 q w2 w')
        (first | exact shC (sh_drew1 (sh_drew HS.out)) | exact hs4 | exact hs3 | exact hs2 | exact hs1)
        (first
          | (go_at_call 42; refine (u8_sh (w := w2) (q := q) (a0 := a0) (a1 := a1) hB1 (by assumption)).mono ?_; rintro e w5 ⟨rfl, hs1⟩)
          | (go_at_call 43; refine (text_sh (w := w2) (q := q) (a0 := a0) (a1 := a1) hB1 (by assumption)).mono ?_; rintro e w6 ⟨rfl, hs2⟩)
          | (go_at_call 32; refine (left_sh (w := w2) (q := q) (a0 := a0) (a1 := a1) HQL.out (by assumption)).mono ?_; rintro e w7 ⟨rfl, hs3⟩)
          | (go_at_call 41; refine (end_sh (w := w2) (q := q) (a0 := a0) (a1 := a1) (by assumption)).mono ?_; rintro e w8 ⟨rfl, hs4⟩))
      go_wp2
      go_ret
      exact ⟨rfl, HB2.out.trans (hs4.2.2.2.mono hsz2)⟩
end Go.Proofs.YtjkocjkfedcdoaaDoor
