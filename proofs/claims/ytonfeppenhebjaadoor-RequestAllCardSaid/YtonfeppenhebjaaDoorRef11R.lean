/- Package turnstileref11: what reads (Cut). -/
import Derived.Test.YtonfeppenhebjaaDoorRef11
import Derived.Test.YtonfeppenhebjaaDoorReqEnd
namespace Go.Proofs.YtonfeppenhebjaaDoor
open Go Go.RowKit
set_option linter.unusedVariables false
set_option linter.unusedSimpArgs false
attribute [local go_sem] IntKind.wrap_u64 c64_8 c8_64 c16_64 c32_64 c64_16 c64_32 or8 and8 n64_self n8_self beq_n64 beq_n8 bne_n8 bne_n64 mul64_256 add64

/-- a reader of the reference: block g; its bytes, how many are taken, whether they ended too early -/
def Ct (w : World) (g : Nat) (A : Option Addr) (c : Nat) (b : List UInt8) (at_ : Nat) (sh : Bool) : Prop :=
  w.heap[g]? = some (.cells #[.slice A b.length c, .int .i64 (at_ : Int), .bool sh] 88 (0, 0)) ∧ b.length ≤ c ∧ c ≤ 9223372036854775807 ∧ Cells w A (Bs b) ∧ (0 < b.length → ∀ ad, A = some ad → ad.block ≠ g) ∧ at_ ≤ b.length
theorem far_cells0 {w : World} {A : Option Addr} {b : List UInt8} {g o : Nat} {v : Value} (h : Cells w A (Bs b)) (hb : 0 < b.length → ∀ ad, A = some ad → ad.block ≠ g) : Cells (w.setCell ⟨g, o, none⟩ v) A (Bs b) := by
  rcases Nat.eq_zero_or_pos b.length with h0 | h0
  · intro h1
    rw [Bs_length] at h1
    omega
  · exact far_cells h (hb h0)
theorem cells_lt {w : World} {A : Option Addr} {b : List UInt8} (h : Cells w A (Bs b)) (h0 : 0 < b.length) : ∀ ad, A = some ad → ad.block < w.heap.size := by
  intro ad ha
  obtain ⟨bb, o, he, hc⟩ := h (by rw [Bs_length]; exact h0)
  rw [ha] at he
  cases he
  exact World.block_lt_of_cell? w _ (hc 0 (by rw [Bs_length]; exact h0))
/-- the same, said as the program's reader is: what is left, the fault's number (0 or 1); what is left does not matter behind a fault -/
def Rc (w : World) (g L : Nat) (rest : List UInt8) (f : Nat) : Prop := ∃ A c b at_, b.length = L ∧ Ct w g A c b at_ (decide (f ≠ 0)) ∧ (f = 0 → rest = b.drop at_) ∧ f ≤ 1
theorem only_drewN (g : Nat) (w : World) (n : Nat) : Only g w (w.drewN n) := ⟨rfl, rfl, rfl, rfl, fun _ _ => rfl⟩
theorem ct_set {w : World} {g : Nat} {A : Option Addr} {c : Nat} {b : List UInt8} {at_ at' : Nat} {sh : Bool} (h : Ct w g A c b at_ sh) (h' : at' ≤ b.length) : Ct (w.setCell ⟨g, 1, none⟩ (.int .i64 (at' : Int))) g A c b at' sh := by
  obtain ⟨hh, h1, h2, hA, hb, _⟩ := h
  exact ⟨heap_setCell_same w g 1 _ _ _ hh, h1, h2, far_cells0 hA hb, hb, h'⟩
theorem ct_short {w : World} {g : Nat} {A : Option Addr} {c : Nat} {b : List UInt8} {at_ : Nat} {sh : Bool} (h : Ct w g A c b at_ sh) : Ct (w.setCell ⟨g, 2, none⟩ (.bool true)) g A c b at_ true := by
  obtain ⟨hh, h1, h2, hA, hb, h3⟩ := h
  exact ⟨heap_setCell_same w g 2 _ _ _ hh, h1, h2, far_cells0 hA hb, hb, h3⟩
theorem rc_lt {w : World} {g L : Nat} {rest : List UInt8} {f : Nat} (h : Rc w g L rest f) : g < w.heap.size := by
  obtain ⟨A, c, b, a, _, h, _⟩ := h
  exact heap_lt h.1
theorem rc_keep {w w' : World} {g L : Nat} {rest : List UInt8} {f : Nat} (h : Rc w g L rest f) (hh : ∀ x, x < w.heap.size → w'.heap[x]? = w.heap[x]? ∨ ∃ (cs : Array Value) (T : Nat), w.heap[x]? = some (Obj.cells cs T (0, 0)) ∧ T ≠ 88 ∧ noByte cs = true) : Rc w' g L rest f := by
  obtain ⟨A, c, b, a, h1, ⟨h2, h3, h4, h5, h6, h7⟩, h8⟩ := h
  refine ⟨A, c, b, a, h1, ⟨?_, h3, h4, ?_, h6, h7⟩, h8⟩
  · rcases hh g (heap_lt h2) with h | ⟨cs, T, hc, hT, _⟩
    · exact h.trans h2
    · rw [h2] at hc
      simp only [Option.some.injEq, Obj.cells.injEq] at hc
      exact absurd hc.2.1.symm hT
  · intro h0
    obtain ⟨bb, o, ha, hc⟩ := h5 h0
    refine ⟨bb, o, ha, fun i hi => ?_⟩
    have hlt := World.block_lt_of_cell? w _ (hc i hi)
    rcases hh bb hlt with h | ⟨cs, T, hcs, _, hn⟩
    · exact (World.cell?_of_block h).trans (hc i hi)
    · exfalso
      have := hc i hi
      rw [cell_of_row w bb (o + i) _ _ _ hcs] at this
      simp only [Bs, List.getElem_map] at this
      exact noByte_at hn _ _ this
theorem rc_set {w : World} {g L : Nat} {rest : List UInt8} {f : Nat} (h : Rc w g L rest f) {b T : Nat} {cs : Array Value} (hb : w.heap[b]? = some (.cells cs T (0, 0))) (hT : T ≠ 88) (hn : noByte cs = true) (o : Nat) (v : Value) : Rc (w.setCell ⟨b, o, none⟩ v) g L rest f := by
  refine rc_keep h fun x _ => ?_
  by_cases hx : x = b
  · subst hx; exact .inr ⟨cs, T, hb, hT, hn⟩
  · exact .inl (Below.heap_setCell w _ v x hx)
theorem rc_below {w w' : World} {g L : Nat} {rest : List UInt8} {f : Nat} (h : Rc w g L rest f) (hb : Below w.heap.size w w') : Rc w' g L rest f := rc_keep h fun x hx => .inl (hb.block x hx)
theorem rc_alloc {w : World} {g L : Nat} {rest : List UInt8} {f : Nat} (h : Rc w g L rest f) (o : Obj) : Rc (w.alloc o) g L rest f := rc_below h ((Below.refl _ _).alloc (Nat.le_refl _) _)
theorem rc_drewN {w : World} {g L n : Nat} {rest : List UInt8} {f : Nat} (h : Rc w g L rest f) : Rc (w.drewN n) g L rest f := h

/-- what a call of the reference's reader gives -/
def Rcc (w w' : World) (g L : Nat) (e : Ending) (v : Value) (rest : List UInt8) (f : Nat) : Prop := e = .returned v ∧ Rc w' g L rest f ∧ Only g w w'

set_option maxRecDepth 100000 in
set_option maxHeartbeats 1600000 in
theorem number11_calls (w : World) (g L : Nat) (rest : List UInt8) (f n : Nat) (N : Int) (hN : N = (n : Int)) (hn1 : 1 ≤ n) (hn : n ≤ 8) (hR : Rc w g L rest f) :
    Calls Tryd.prog 42 #[.pointer (some ⟨g, 0, none⟩), .int .i64 N] w fun e w' =>
      Rcc w w' g L e (.int .u64 (n64 (fixedS rest f n).1)) (fixedS rest f n).2.1 (fixedS rest f n).2.2 := by
  subst hN
  obtain ⟨A, c, b, at_, rfl, hct, hrest, hf1⟩ := hR
  have HCT := Go.Lib.hid hct
  obtain ⟨hh, hlc, hc, hA, hAb, hat⟩ := hct
  have hc0 := cell_of_row w g 0 _ _ _ hh
  have hc1 := cell_of_row w g 1 _ _ _ hh
  have hc2 := cell_of_row w g 2 _ _ _ hh
  have hf1' := heap_frozen hh 1
  have hf2' := heap_frozen hh 2
  simp only [List.getElem?_toArray, List.getElem?_cons_zero, List.getElem?_cons_succ] at hc0 hc1 hc2
  have HA := Go.Lib.hid hA
  clear hh hA hAb
  rcases f with _ | f
  case succ =>
    have hT : fixedS rest (f + 1) n = (0, rest, f + 1) := by unfold fixedS takeS; rw [if_neg (by omega)]
    rw [hT]
    change w.cell? _ = some (.bool true) at hc2
    clear hT
    go_enter Tryd.func42, Tryd.ntmps42
    go_wp2
    go_quiet (fail)
    go_wp2
    go_ret
    refine ⟨rfl, ⟨A, c, b, at_, rfl, ct_short (w := w.drewN _) HCT.out, fun h => by omega, hf1⟩, (only_drewN g w _).set 2 _⟩
  change w.cell? _ = some (.bool false) at hc2
  have hre := hrest rfl
  obtain ⟨D, hD⟩ : ∃ D, D = b.length - at_ := ⟨_, rfl⟩
  have hlen : rest.length = D := by rw [hre, List.length_drop, hD]
  have hw0 : IntKind.i64.wrap ((b.length : Int) - (at_ : Int)) = (D : Int) := by rw [IntKind.wrap_i64]; omega
  have HRE := Go.Lib.hid hre
  have HD := Go.Lib.hid hD
  have HLEN := Go.Lib.hid hlen
  clear hrest hre hD hlen
  by_cases hlt : D < n
  · have hT : fixedS rest 0 n = (0, rest, 1) := by unfold fixedS takeS; rw [if_pos rfl, if_pos (by rw [HLEN.out]; exact hlt)]
    rw [hT]
    have d1 : decide ((D : Int) < (n : Int)) = true := decide_eq_true (by omega)
    have d2 : decide (D < n) = true := decide_eq_true hlt
    clear hT
    go_enter Tryd.func42, Tryd.ntmps42
    go_wp2
    go_quiet (fail)
    go_wp2
    go_ret
    exact ⟨rfl, ⟨A, c, b, at_, rfl, ct_short (w := w.drewN _) HCT.out, fun h => by omega, by omega⟩, (only_drewN g w _).set 2 _⟩
  · have hT : fixedS rest 0 n = (leV (rest.take n), rest.drop n, 0) := by unfold fixedS takeS; rw [if_pos rfl, if_neg (by rw [HLEN.out]; exact hlt)]
    rw [hT]
    have d1 : decide ((D : Int) < (n : Int)) = false := decide_eq_false (by omega)
    have d2 : decide (D < n) = false := decide_eq_false hlt
    have hwr : IntKind.i64.wrap ((n : Int) - 1) = (n : Int) - 1 := by rw [IntKind.wrap_i64]; omega
    have hln : (rest.take n).length = n := by rw [List.length_take, HLEN.out]; omega
    have hatn : at_ + n ≤ b.length := by have := HD.out; omega
    obtain ⟨M, hM⟩ : ∃ M, M = at_ + n := ⟨_, rfl⟩
    have hwm : IntKind.i64.wrap ((at_ : Int) + (n : Int)) = (M : Int) := by rw [IntKind.wrap_i64]; omega
    have HLN := Go.Lib.hid hln
    have HM := Go.Lib.hid hM
    clear hT hln hM
    go_enter Tryd.func42, Tryd.ntmps42
    go_wp2
    go_quiet (fail)
    go_wp2
    clear hc0 hc1 hc2 hf1' hf2' hw0 d1 d2
    go_loopw [5, 6] (fun x i wr => ∃ (z : Int) (u : UInt64), Hid (Ct wr g A c b at_ false) ∧ Hid (Only g w wr) ∧ -1 ≤ z ∧ z < (n : Int) ∧ i = .int .i64 z ∧ x = .int .u64 (n64 u) ∧ Hid (u = leV ((rest.take n).drop (z + 1).toNat))) (fun _ i _ => (intOf i + 1).toNat)
    case atStart => exact ⟨(n : Int) - 1, 0, HCT.out, only_drewN g w _, by omega, by omega, rfl, rfl, by rw [show ((n : Int) - 1 + 1).toNat = (rest.take n).length by rw [HLN.out]; omega, List.drop_length]; rfl⟩
    case round =>
      obtain ⟨z, u, HC, HO, hz, hzl, rfl, rfl, HU⟩ := hrel
      have hc0 := cell_of_row wr g 0 _ _ _ HC.out.1
      have hc1 := cell_of_row wr g 1 _ _ _ HC.out.1
      have hf1' := heap_frozen HC.out.1 1
      simp only [List.getElem?_toArray, List.getElem?_cons_zero, List.getElem?_cons_succ] at hc0 hc1
      by_cases h0 : 0 ≤ z
      · obtain ⟨j, rfl⟩ : ∃ j : Nat, z = (j : Int) := ⟨z.toNat, by omega⟩
        have hjl : j < n := by omega
        obtain ⟨K, hK⟩ : ∃ K, K = at_ + j := ⟨_, rfl⟩
        have hj : K < b.length := by omega
        have hj' : j < (rest.take n).length := by rw [HLN.out]; omega
        obtain ⟨bb, o, hAe, hcell⟩ := HC.out.2.2.2.1 (by rw [Bs_length]; omega)
        have hck : wr.cell? ⟨bb, o + K, none⟩ = some (.int .u8 (n8 b[K])) := by
          rw [hcell K (by rw [Bs_length]; omega)]
          simp [Bs]
        have hbk : b[K] = (rest.take n)[j] := by
          rw [List.getElem_take]
          simp only [HRE.out, List.getElem_drop, hK]
        have hnext : (u <<< (8 : UInt64)) + b[K].toUInt64 = leV ((rest.take n).drop j) := by
          rw [shl_or, HU.out, show ((j : Int) + 1).toNat = j + 1 by omega, List.drop_eq_getElem_cons hj', hbk]
          rfl
        have hwj : IntKind.i64.wrap ((j : Int) - 1) = (j : Int) - 1 := by rw [IntKind.wrap_i64]; omega
        have hwk : IntKind.i64.wrap ((at_ : Int) + (j : Int)) = (K : Int) := by rw [IntKind.wrap_i64]; omega
        have hj0 : (0 : Int) ≤ (K : Int) := Int.natCast_nonneg _
        have hj1 : (K : Int) < (b.length : Int) := by omega
        have hjj : (0 : Int) ≤ (j : Int) := Int.natCast_nonneg _
        have HN := Go.Lib.hid hnext
        have hmul : u * 256 + b[K].toUInt64 = (u <<< (8 : UInt64)) + b[K].toUInt64 := by
          congr 1
          apply UInt64.toNat_inj.1
          rw [UInt64.toNat_mul, UInt64.toNat_shiftLeft, show (8 : UInt64).toNat % 64 = 8 by decide, Nat.shiftLeft_eq, show (256 : UInt64).toNat = 2 ^ 8 by decide]
        have HMUL := Go.Lib.hid hmul
        subst hAe
        clear hcell hnext HU hj' hbk hK hmul
        generalize b[K] = y at *
        go_wp2
        go_quiet (fail)
        go_wp2
        go_roundw
        case rel => exact ⟨(j : Int) - 1, _, HC.out, HO.out.trans (only_drewN g _ _), by omega, by omega, rfl, rfl, by rw [show ((j : Int) - 1 + 1).toNat = j by omega, ← HN.out, ← HMUL.out]; rfl⟩
        case measure => simp [intOf]
      · have hz1 : z = -1 := by omega
        have hu := HU.out
        rw [hz1] at hu
        have HL := Go.Lib.hid (show leV (rest.take n) = u by rw [hu]; rfl)
        clear hu HU
        subst hz1
        go_wp2
        go_ret
        refine ⟨by rw [HL.out]; rfl, ⟨A, c, b, M, rfl, ct_set HC.out (by rw [HM.out]; exact hatn), fun _ => ?_, by omega⟩, HO.out.set 1 _⟩
        rw [HRE.out, HM.out, List.drop_drop]

set_option maxRecDepth 100000 in
set_option maxHeartbeats 1600000 in
theorem text11_calls (w : World) (g L : Nat) (rest : List UInt8) (f : Nat) (hR : Rc w g L rest f) :
    Calls Tryd.prog 43 #[.pointer (some ⟨g, 0, none⟩)] w fun e w' =>
      Rcc w w' g L e (.string ⟨(textS rest f).1.toArray⟩) (textS rest f).2.1 (textS rest f).2.2 := by
  have HNU := Go.Lib.hid (number11_calls w g L rest f 2 2 (by decide) (by decide) (by decide) hR)
  have hlt2 := fixed2_lt rest f
  have hTX : textS rest f = (match (takeS (fixedS rest f 2).2.1 (fixedS rest f 2).2.2 (fixedS rest f 2).1.toNat).1 with | some l => (l, (takeS (fixedS rest f 2).2.1 (fixedS rest f 2).2.2 (fixedS rest f 2).1.toNat).2.1, (takeS (fixedS rest f 2).2.1 (fixedS rest f 2).2.2 (fixedS rest f 2).1.toNat).2.2) | none => ([], rest, (takeS (fixedS rest f 2).2.1 (fixedS rest f 2).2.2 (fixedS rest f 2).1.toNat).2.2)) := rfl
  have HTX := Go.Lib.hid hTX
  clear hR hTX
  generalize textS rest f = tt at *
  generalize fixedS rest f 2 = q at *
  obtain ⟨u, r1, f1⟩ := q
  simp only at HNU hlt2 HTX
  obtain ⟨Nn, hNn⟩ : ∃ k, k = u.toNat := ⟨_, rfl⟩
  have hwu : IntKind.i64.wrap (n64 u) = (Nn : Int) := by rw [IntKind.wrap_i64]; unfold n64; omega
  rw [← hNn] at HTX hlt2
  clear hNn
  go_enter Tryd.func43, Tryd.ntmps43
  go_wp2_with fail
  refine HNU.out.mono ?_
  rintro e w1 ⟨rfl, ⟨A, c, b, at_, rfl, hct, hrest, hf1⟩, hO⟩
  have HO := Go.Lib.hid hO
  have HCT := Go.Lib.hid hct
  obtain ⟨hh, hlc, hc, hA, hAb, hat⟩ := hct
  have hc0 := cell_of_row w1 g 0 _ _ _ hh
  have hc1 := cell_of_row w1 g 1 _ _ _ hh
  have hc2 := cell_of_row w1 g 2 _ _ _ hh
  have hf1' := heap_frozen hh 1
  have hf2' := heap_frozen hh 2
  simp only [List.getElem?_toArray, List.getElem?_cons_zero, List.getElem?_cons_succ] at hc0 hc1 hc2
  have HA := Go.Lib.hid hA
  clear hh hA hAb hO HNU
  rcases f1 with _ | f1
  case succ =>
    have hT : tt = ([], rest, f1 + 1) := by rw [HTX.out]; unfold takeS; simp
    clear HTX
    subst hT
    change w1.cell? _ = some (.bool true) at hc2
    go_wp2
    go_quiet (fail)
    go_wp2
    go_ret
    exact ⟨rfl, ⟨A, c, b, at_, rfl, ct_short (w := w1.drewN _) HCT.out, fun h => by omega, hf1⟩, (HO.out.trans (only_drewN g w1 _)).set 2 _⟩
  change w1.cell? _ = some (.bool false) at hc2
  have hre := hrest rfl
  obtain ⟨D, hD⟩ : ∃ D, D = b.length - at_ := ⟨_, rfl⟩
  have hlen : r1.length = D := by rw [hre, List.length_drop, hD]
  have hw0 : IntKind.i64.wrap ((b.length : Int) - (at_ : Int)) = (D : Int) := by rw [IntKind.wrap_i64]; omega
  have HRE := Go.Lib.hid hre
  have HD := Go.Lib.hid hD
  have HLEN := Go.Lib.hid hlen
  clear hrest hre hD hlen
  by_cases hlt : D < Nn
  · have hT : tt = ([], rest, 1) := by rw [HTX.out]; unfold takeS; simp [HLEN.out, hlt]
    clear HTX
    subst hT
    have d1 : decide ((D : Int) < (Nn : Int)) = true := decide_eq_true (by omega)
    have d2 : decide (D < Nn) = true := decide_eq_true hlt
    go_wp2
    go_quiet (fail)
    go_wp2
    go_ret
    exact ⟨rfl, ⟨A, c, b, at_, rfl, ct_short (w := w1.drewN _) HCT.out, fun h => by omega, by omega⟩, (HO.out.trans (only_drewN g w1 _)).set 2 _⟩
  · have hT : tt = (r1.take Nn, r1.drop Nn, 0) := by rw [HTX.out]; unfold takeS; simp [HLEN.out, hlt]
    clear HTX
    subst hT
    have d1 : decide ((D : Int) < (Nn : Int)) = false := decide_eq_false (by omega)
    have d2 : decide (D < Nn) = false := decide_eq_false hlt
    have hatn : at_ + Nn ≤ b.length := by have := HD.out; omega
    obtain ⟨M, hM⟩ : ∃ M, M = at_ + Nn := ⟨_, rfl⟩
    have hwm : IntKind.i64.wrap ((at_ : Int) + (Nn : Int)) = (M : Int) := by rw [IntKind.wrap_i64]; omega
    have hMb : M ≤ b.length := by omega
    have haM : at_ ≤ M := by omega
    have hcut := run_cut_lh (P := Tryd.prog) 37 5 Tryd.underlying37 size8' A b.length c at_ M haM (by omega)
    have htk : (b.take M).drop at_ = r1.take Nn := by rw [List.drop_take, HRE.out, hM, Nat.add_sub_cancel_left]
    have hconv : ∀ k, (convert 37 9 (.slice (cutA A c at_) (M - at_) (c - at_))).run Tryd.prog (w1.drewN k) = .ok (.string ⟨(r1.take Nn).toArray⟩) (w1.drewN k) := by
      intro k
      obtain ⟨A2, c2, hv2, _, _, h23⟩ := slb_cut (w := w1.drewN k) (lo := at_) (hi := M) HA.out hlc hc haM hMb
      rw [hv2, ← htk]
      exact conv_str h23
    have HM := Go.Lib.hid hM
    clear hM htk
    go_wp2
    go_quiet (fail)
    go_wp2
    go_quiet (fail)
    go_wp2
    go_ret
    refine ⟨rfl, ⟨A, c, b, M, rfl, ct_set (w := w1.drewN _) HCT.out hMb, fun _ => ?_, by omega⟩, (HO.out.trans (only_drewN g w1 _)).set 1 _⟩
    rw [HRE.out, HM.out, List.drop_drop]
end Go.Proofs.YtonfeppenhebjaaDoor
