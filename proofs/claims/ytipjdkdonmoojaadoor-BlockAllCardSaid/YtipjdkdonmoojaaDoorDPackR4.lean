/- Package pack: the reader of text. -/
import Derived.Test.YtipjdkdonmoojaaDoorDPackR3
namespace Go.Proofs.YtipjdkdonmoojaaDoor
open Go Go.RowKit
set_option linter.unusedVariables false
set_option linter.unusedSimpArgs false
attribute [local go_sem] IntKind.wrap_u64 c64_8 c8_64 c16_64 c32_64 c64_16 c64_32 or8 and8 shr64_7 shr64_8 shl64_8 or64 and64 n64_self n8_self beq_n64 beq_n8 bne_n8 bne_n64

def textS (rest : List UInt8) (f : Nat) : List UInt8 × List UInt8 × Nat :=
  let q := fixedS rest f 2
  let t := takeS q.2.1 q.2.2 q.1.toNat
  match t.1 with
  | some l => (l, t.2.1, t.2.2)
  | none => ([], rest, t.2.2)

theorem leV_lt (l : List UInt8) (h : l.length ≤ 2) : (leV l).toNat < 65536 := by
  rcases l with _ | ⟨a, _ | ⟨b, _ | ⟨c, l⟩⟩⟩
  · decide
  · have : leV [a] = a.toUInt64 := by unfold leV; simp
    rw [this]; have := a.toNat_lt; simp; omega
  · have e : leV [a, b] = (b.toUInt64 <<< 8) ||| a.toUInt64 := by unfold leV; simp
    rw [e, UInt64.toNat_or]
    apply Nat.or_lt_two_pow (n := 16)
    · rw [UInt64.toNat_shiftLeft, show (8 : UInt64).toNat % 64 = 8 by decide, Nat.shiftLeft_eq]
      have := b.toNat_lt
      simp; omega
    · have := a.toNat_lt; simp; omega
  · simp at h
theorem fixed2_lt (rest : List UInt8) (f : Nat) : (fixedS rest f 2).1.toNat < 65536 := by
  unfold fixedS
  simp only
  unfold takeS
  split
  · rename_i l h
    apply leV_lt
    split at h
    · split at h
      · cases h
      · cases h; simp; omega
    · cases h
  · decide
theorem rd_restore {w w' : World} {B g : Nat} {A : Option Addr} {c : Nat} {rest r' : List UInt8} {f' : Value} (hB : B ≤ g) (h1 : rest.length ≤ c) (h2 : c ≤ 9223372036854775807) (hA : Cells w A (Bs rest)) (hb : ∀ ad, A = some ad → B ≤ ad.block ∧ ad.block ≠ g ∧ ByB w ad.block)
    (h : Rd w' B g r' f') (ho : Only g w w') : Rd (w'.setCell ⟨g, 0, none⟩ (.slice A rest.length c)) B g rest f' := by
  obtain ⟨A', c', _, hh, _, _, _, _⟩ := h
  refine ⟨A, c, hB, ?_, h1, h2, far_cells ?_ (fun ad ha => (hb ad ha).2.1), fun ad ha => ⟨(hb ad ha).1, (hb ad ha).2.1, ?_⟩⟩
  · exact heap_setCell_same w' g 0 _ _ _ hh
  rotate_left
  · obtain ⟨cs, fr, h⟩ := (hb ad ha).2.2
    exact ByB.far (b := ad.block) ⟨cs, fr, (ho.2.2.2.2 _ (hb ad ha).2.1).trans h⟩ (hb ad ha).2.1 _
  · intro h0
    obtain ⟨b, o, ha, hc⟩ := hA h0
    refine ⟨b, o, ha, fun i hi => ?_⟩
    rw [ho.cell (p := ⟨b, o + i, none⟩) (hb ⟨b, o, none⟩ ha).2.1]
    exact hc i hi
theorem errs_only {w w' : World} {a0 a1 : Addr} {g : Nat} (h : Errs w a0 a1) (ho : Only g w w') (h0 : 2 ≠ g) (h1 : 3 ≠ g) : Errs w' a0 a1 :=
  ⟨(ho.cell (p := ⟨_, 0, none⟩) h0).trans h.1, (ho.cell (p := ⟨_, 0, none⟩) h1).trans h.2⟩

set_option maxRecDepth 100000 in
set_option maxHeartbeats 800000 in
theorem text_calls (w : World) (B g : Nat) (a0 a1 : Addr) (rest : List UInt8) (f : Nat) (hg : 2 ≠ g ∧ 3 ≠ g) (hE : Errs w a0 a1) (hR : Rd w B g rest (fv a0 a1 f)) :
    Calls Tryd.prog 50 #[.pointer (some ⟨g, 0, none⟩)] w fun e w' =>
      Rdr w w' B g a0 a1 e (.string ⟨(textS rest f).1.toArray⟩) (textS rest f).2.1 (textS rest f).2.2 := by
  have HT := Go.Lib.hid (fixed_callsI w B g a0 a1 rest f 2 2 (by decide) (by decide) hE hR)
  have HE := Go.Lib.hid hE
  obtain ⟨A, c, hBg, hh, hlc, hc, hA, hAb⟩ := hR
  have hc0 := cell_of_row w g 0 _ _ _ hh
  simp only [List.getElem?_toArray, List.getElem?_cons_zero, List.getElem?_cons_succ] at hc0
  have HA := Go.Lib.hid hA
  have HAB := Go.Lib.hid hAb
  clear hh hA hAb hE
  go_enter Tryd.func50, Tryd.ntmps50
  go_wp2_with fail
  refine HT.out.mono ?_
  rintro e w1 ⟨rfl, h1, h2⟩
  have H1 := Go.Lib.hid h1
  have H2 := Go.Lib.hid h2
  have hlt := fixed2_lt rest f
  have HX : Hid (textS rest f = match (takeS (fixedS rest f 2).2.1 (fixedS rest f 2).2.2 (fixedS rest f 2).1.toNat).1 with | some l => (l, (takeS (fixedS rest f 2).2.1 (fixedS rest f 2).2.2 (fixedS rest f 2).1.toNat).2.1, (takeS (fixedS rest f 2).2.1 (fixedS rest f 2).2.2 (fixedS rest f 2).1.toNat).2.2) | none => ([], rest, (takeS (fixedS rest f 2).2.1 (fixedS rest f 2).2.2 (fixedS rest f 2).1.toNat).2.2)) := rfl
  clear h1 h2 HT hc0
  generalize fixedS rest f 2 = q at *
  obtain ⟨u, r1, f1⟩ := q
  simp only at H1 H2 hlt HX ⊢
  have hwr : IntKind.i64.wrap (n64 u) = (u.toNat : Int) := by rw [IntKind.wrap_i64]; unfold n64; omega
  have HT2 := Go.Lib.hid (take_calls w1 B g a0 a1 r1 f1 u.toNat (by omega) (errs_only HE.out H2.out hg.1 hg.2) H1.out)
  go_wp2_with fail
  refine HT2.out.mono ?_
  rintro e w2 ⟨v, ok, rfl, ht, hr, ho⟩
  have HR := Go.Lib.hid hr
  have HO := Go.Lib.hid (H2.out.trans ho)
  clear hr ho HT2
  cases hq : (takeS r1 f1 u.toNat).1 with
  | none =>
    rw [hq] at ht HX
    obtain ⟨rfl, rfl⟩ := ht
    have hh2 : ∃ A2 c2 f2, w2.heap[g]? = some (.cells #[.slice A2 (takeS r1 f1 u.toNat).2.1.length c2, f2] 82 (0, 0)) := by obtain ⟨A2, c2, _, h, _⟩ := HR.out; exact ⟨A2, c2, _, h⟩
    obtain ⟨A2, c2, f2, hh2⟩ := hh2
    have hd0 := cell_of_row w2 g 0 _ _ _ hh2
    simp only [List.getElem?_toArray, List.getElem?_cons_zero, List.getElem?_cons_succ] at hd0
    have hfz := heap_frozen hh2 0
    have hcv : ∀ W : World, (convert 28 9 (.slice none 0 0)).run Tryd.prog W = .ok (.string ⟨#[]⟩) W := fun W => Go.Lib.run_convert_nil_bytes W _ _ 5 0 Tryd.underlying28 Tryd.underlying5 Tryd.underlying9
    clear hh2 hq
    go_wp2
    go_ret
    rw [HX.out]
    exact ⟨rfl, rd_restore hBg hlc hc HA.out HAB.out HR.out HO.out, HO.out.set 0 _⟩
  | some l =>
    rw [hq] at ht HX
    obtain ⟨A2, c2, rfl, rfl, h21, h22, h23, _⟩ := ht
    have hcv := conv_str (c := c2) h23
    clear h23 hq
    go_wp2
    go_ret
    rw [HX.out]
    exact ⟨rfl, HR.out, HO.out⟩

theorem textR_calls (w : World) (B g : Nat) (a0 a1 : Addr) (rest : List UInt8) (f : Nat) (hg : 2 ≠ g ∧ 3 ≠ g) (hE : Errs w a0 a1) (hR : Rd w B g rest (fv a0 a1 f)) :
    Calls Tryd.prog 35 #[.pointer (some ⟨g, 0, none⟩)] w fun e w' =>
      Rdr w w' B g a0 a1 e (.string ⟨(textS rest f).1.toArray⟩) (textS rest f).2.1 (textS rest f).2.2 := by
  have HT := Go.Lib.hid (text_calls w B g a0 a1 rest f hg hE hR)
  obtain ⟨A, c, hBg, hh, hlc, hc, hA, hAb⟩ := hR
  have hc0 := cell_of_row w g 0 _ _ _ hh
  simp only [List.getElem?_toArray, List.getElem?_cons_zero, List.getElem?_cons_succ] at hc0
  clear hh hA hAb hE
  go_enter Tryd.func35, Tryd.ntmps35
  go_wp2_with fail
  refine HT.out.mono ?_
  rintro e w1 ⟨rfl, h1, h2⟩
  have H1 := Go.Lib.hid h1
  have H2 := Go.Lib.hid h2
  clear h1 h2 HT
  go_wp2
  go_ret
  exact ⟨rfl, H1.out, H2.out⟩
theorem textR_nil (w : World) : Calls Tryd.prog 35 #[.pointer none] w fun e w' => e = .returned (.string ⟨#[]⟩) ∧ w' = w := by
  go_enter Tryd.func35, Tryd.ntmps35
  go_wp2
  go_ret
  exact ⟨rfl, rfl⟩
end Go.Proofs.YtipjdkdonmoojaaDoor
