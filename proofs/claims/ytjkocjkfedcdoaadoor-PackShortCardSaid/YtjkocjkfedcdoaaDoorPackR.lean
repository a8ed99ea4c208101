/- Package pack: the walks of what reads. -/
import Derived.Test.YtjkocjkfedcdoaaDoorPackW
namespace Go.Proofs.YtjkocjkfedcdoaaDoor
open Go Go.RowKit
attribute [local go_sem] IntKind.wrap_u64 c64_8 c8_64 c16_64 c32_64 c64_16 c64_32 or8 and8 shr64_7 shr64_8 shl64_8 or64 and64 n64_self n8_self beq_n64 beq_n8 bne_n8 bne_n64

/-- the fault of a reader: 0 none, 1 short, else form -/
def fv (a0 a1 : Addr) : Nat → Value
  | 0 => .nilIface
  | 1 => .iface 107 (.pointer (some a0))
  | _ => .iface 107 (.pointer (some a1))
def Errs (w : World) (a0 a1 : Addr) : Prop :=
  w.cell? ⟨0, 0, none⟩ = some (fv a0 a1 1) ∧ w.cell? ⟨1, 0, none⟩ = some (fv a0 a1 2)
/-- a reader: what is left, and its fault; all its memory from B on -/
def Rd (w : World) (B g : Nat) (rest : List UInt8) (f : Value) : Prop :=
  ∃ A c, B ≤ g ∧ w.heap[g]? = some (.cells #[.slice A rest.length c, f] 81 (0, 0)) ∧ rest.length ≤ c ∧ c ≤ 9223372036854775807 ∧ Cells w A (Bs rest) ∧ ∀ ad, A = some ad → B ≤ ad.block ∧ ad.block ≠ g
theorem far_cells {w : World} {p : Addr} {v : Value} {A : Option Addr} {vs : List Value} (h : Cells w A vs) (hne : ∀ ad, A = some ad → ad.block ≠ p.block) : Cells (w.setCell p v) A vs := fun h0 => by
  obtain ⟨b, o, ha, hc⟩ := h h0
  exact ⟨b, o, ha, fun i hi => far_cell (hne ⟨b, o, none⟩ ha) (hc i hi)⟩
theorem rd_fault {w : World} {B g : Nat} {rest : List UInt8} {f : Value} (h : Rd w B g rest f) (f' : Value) : Rd (w.setCell ⟨g, 1, none⟩ f') B g rest f' := by
  obtain ⟨A, c, hB, hh, h1, h2, hA, hb⟩ := h
  refine ⟨A, c, hB, ?_, h1, h2, far_cells hA (fun ad ha => (hb ad ha).2), hb⟩
  exact heap_setCell_same w g 1 _ _ f' hh
theorem rd_cut {w : World} {B g n : Nat} {A : Option Addr} {c : Nat} {rest : List UInt8} {f : Value} (hB : B ≤ g) (hh : w.heap[g]? = some (.cells #[.slice A rest.length c, f] 81 (0, 0))) (h1 : rest.length ≤ c) (h2 : c ≤ 9223372036854775807) (hA : Cells w A (Bs rest)) (hb : ∀ ad, A = some ad → B ≤ ad.block ∧ ad.block ≠ g) (hn : n ≤ rest.length) :
    Rd (w.setCell ⟨g, 0, none⟩ (.slice (cutA A c n) (rest.length - n) (c - n))) B g (rest.drop n) f := by
  have hcut : ∀ ad, cutA A c n = some ad → B ≤ ad.block ∧ ad.block ≠ g := by
    intro ad ha
    unfold cutA at ha
    split at ha
    · exact hb ad ha
    · cases A with
      | none => cases ha
      | some a =>
        obtain rfl : a.add n = ad := by simpa using ha
        rw [show (a.add n).block = a.block by unfold Addr.add; split <;> rfl]
        exact hb a rfl
  refine ⟨cutA A c n, c - n, hB, ?_, by simp; omega, by omega, ?_, hcut⟩
  · have e := heap_setCell_same w g 0 _ _ (.slice (cutA A c n) (rest.length - n) (c - n)) hh
    rw [List.length_drop]
    exact e
  · rw [Bs_drop]
    exact far_cells (cells_drop hA c n (by rw [Bs_length]; omega)) (fun ad ha => (hcut ad ha).2)
/-- nothing but block g changed -/
def Only (g : Nat) (w w' : World) : Prop :=
  w'.os = w.os ∧ w'.tape = w.tape ∧ w'.output = w.output ∧ w'.heap.size = w.heap.size ∧ ∀ x, x ≠ g → w'.heap[x]? = w.heap[x]?
theorem Only.refl (g : Nat) (w : World) : Only g w w := ⟨rfl, rfl, rfl, rfl, fun _ _ => rfl⟩
theorem Only.trans {g : Nat} {a b c : World} (h : Only g a b) (k : Only g b c) : Only g a c :=
  ⟨k.1.trans h.1, k.2.1.trans h.2.1, k.2.2.1.trans h.2.2.1, k.2.2.2.1.trans h.2.2.2.1, fun x hx => (k.2.2.2.2 x hx).trans (h.2.2.2.2 x hx)⟩
theorem Only.set {g : Nat} {a b : World} (h : Only g a b) (o : Nat) (v : Value) : Only g a (b.setCell ⟨g, o, none⟩ v) := by
  have hb := (Below.refl 0 b).setCell (p := ⟨g, o, none⟩) (Nat.zero_le _) v
  refine ⟨hb.os.trans h.1, hb.tape.trans h.2.1, hb.output.trans h.2.2.1, ?_, fun x hx => (Below.heap_setCell _ _ _ _ hx).trans (h.2.2.2.2 x hx)⟩
  rw [← h.2.2.2.1]; simp [World.setCell]
theorem Only.below {g B : Nat} {a b : World} (h : Only g a b) (hB : B ≤ g) : Below B a b :=
  ⟨h.1, h.2.1, h.2.2.1, by rw [h.2.2.2.1]; exact Nat.le_refl _, fun x hx => h.2.2.2.2 x (by omega)⟩
theorem Only.cell {g : Nat} {a b : World} (h : Only g a b) {p : Addr} (hp : p.block ≠ g) : b.cell? p = a.cell? p := World.cell?_of_block (h.2.2.2.2 _ hp)

theorem gt1 (u : UInt8) : (1 < u) ↔ (1 : Int) < n8 u := by
  unfold n8; rw [UInt8.lt_iff_toNat_lt, show (1 : UInt8).toNat = 1 by decide]; omega
theorem lt128 (u : UInt8) : (u < 128) ↔ n8 u < (128 : Int) := by
  unfold n8; rw [UInt8.lt_iff_toNat_lt, show (128 : UInt8).toNat = 128 by decide]; omega
theorem eq0 (u : UInt8) : (u = 0) ↔ n8 u = (0 : Int) := ⟨fun h => by rw [h]; rfl, fun h => n8_inj (b := 0) h⟩
def shl (a : UInt64) (m : Nat) : UInt64 := UInt64.ofNat (a.toNat * 2 ^ m)
theorem shl_pow (a : UInt64) (m : Nat) : n64 a * 2 ^ m % (18446744073709551616 : Int) = n64 (shl a m) := by
  unfold n64 shl
  rw [UInt64.toNat_ofNat', show (2 ^ 64 : Nat) = 18446744073709551616 by decide, Int.natCast_emod, Int.natCast_mul, Int.natCast_pow]
  rfl
theorem shl_63 (a : UInt64) : n64 a * 9223372036854775808 % (18446744073709551616 : Int) = n64 (shl a (7 * 9)) := shl_pow a 63
def grp (i : Nat) (x : UInt64) : List UInt8 → Nat ⊕ (UInt64 × List UInt8)
  | [] => .inl 1
  | g :: l => if (i = 9 ∧ 1 < g) ∨ (0 < i ∧ g = 0) then .inl 2 else
    if g < 128 then .inr (x ||| shl (g.toUInt64 &&& 127) (7 * i), l) else grp (i + 1) (x ||| shl (g.toUInt64 &&& 127) (7 * i)) l
/-- value, rest, fault of a number read from 'rest' -/
def numberS (rest : List UInt8) : UInt64 × List UInt8 × Nat :=
  match grp 0 0 rest with
  | .inl f => (0, rest, f)
  | .inr (x, l) => (x, l, 0)

attribute [local go_sem] and8_127 shl_pow shl_63
set_option maxRecDepth 100000 in
set_option maxHeartbeats 1600000 in
theorem groups_calls (w : World) (B g : Nat) (a0 a1 : Addr) (rest : List UInt8) (hE : Errs w a0 a1) (hR : Rd w B g rest .nilIface) :
    Calls Tryd.prog 49 #[.pointer (some ⟨g, 0, none⟩)] w fun e w' =>
      e = .returned (.int .u64 (n64 (numberS rest).1)) ∧ Rd w' B g (numberS rest).2.1 (fv a0 a1 (numberS rest).2.2) ∧ Only g w w' := by
  obtain ⟨A, c, hBg, hh, hlc, hc, hA, hAb⟩ := hR
  have hc0 := cell_of_row w g 0 _ _ _ hh
  have hc1 := cell_of_row w g 1 _ _ _ hh
  have hf1 := heap_frozen hh 1
  have hf0 := heap_frozen hh 0
  simp only [List.getElem?_toArray, List.getElem?_cons_zero, List.getElem?_cons_succ] at hc0 hc1
  obtain ⟨e0, e1⟩ := hE
  change w.cell? _ = some (.iface 107 (.pointer (some a0))) at e0
  change w.cell? _ = some (.iface 107 (.pointer (some a1))) at e1
  have HA := Go.Lib.hid hA
  have HH := Go.Lib.hid hh
  have HAB := Go.Lib.hid hAb
  clear hA hh hAb
  go_enter Tryd.func49, Tryd.ntmps49
  go_wp2
  go_loopw [3, 4, 5] (fun x' i' _ wr => ∃ (k : Nat) (x : UInt64), wr = w ∧ k ≤ 9 ∧ k ≤ rest.length ∧ i' = .int .i64 (k : Int) ∧ x' = .int .u64 (n64 x) ∧ Hid (grp k x (rest.drop k) = grp 0 0 rest)) (fun _ i' _ _ => rest.length - (intOf i').toNat)
  case atStart => exact ⟨0, 0, rfl, by omega, by omega, rfl, rfl, rfl⟩
  case round =>
    obtain ⟨k, x, rfl, hk9, hkl, rfl, rfl, HG⟩ := hrel
    by_cases hkr : k = rest.length
    · have hG := HG.out
      rw [hkr, List.drop_length] at hG
      have hN : numberS rest = (0, rest, 1) := by unfold numberS; rw [← hG]; rfl
      have HN := Go.Lib.hid hN
      clear hG hN
      subst hkr
      go_wp2
      go_ret
      rw [HN.out]
      exact ⟨rfl, rd_fault ⟨A, c, hBg, HH.out, hlc, hc, HA.out, HAB.out⟩ _, (Only.refl g wr).set 1 _⟩
    · have hkl' : k < rest.length := by omega
      have hG := HG.out
      rw [List.drop_eq_getElem_cons hkl', grp] at hG
      obtain ⟨b, o, hAe, hcell⟩ := HA.out (by rw [Bs_length]; omega)
      have hck : wr.cell? ⟨b, o + k, none⟩ = some (.int .u8 (n8 rest[k])) := by
        rw [hcell k (by rw [Bs_length]; omega)]
        simp [Bs]
      subst hAe
      clear hcell
      generalize rest[k] = u at *
      obtain ⟨P, hP⟩ : ∃ P : Prop, P = (((k : Int) = 9 ∧ 1 < n8 u) ∨ (0 < k ∧ n8 u = 0)) := ⟨_, rfl⟩
      have hbad : ((k = 9 ∧ 1 < u) ∨ (0 < k ∧ u = 0)) ↔ P := by rw [hP, gt1, eq0]; omega
      have HBad : Hid (P → numberS rest = (0, rest, 2)) := by
        intro hp
        rw [if_pos (hbad.2 hp)] at hG
        unfold numberS; rw [← hG]
      have HOk : Hid (¬ P → n8 u < 128 → numberS rest = (x ||| shl (u.toUInt64 &&& 127) (7 * k), rest.drop (k + 1), 0)) := by
        intro hp h
        rw [if_neg (fun h => hp (hbad.1 h)), if_pos ((lt128 u).2 h)] at hG
        unfold numberS; rw [← hG]
      have HGo : Hid (¬ P → ¬ n8 u < 128 → grp (k + 1) (x ||| shl (u.toUInt64 &&& 127) (7 * k)) (rest.drop (k + 1)) = grp 0 0 rest) := by
        intro hp h
        rw [if_neg (fun h => hp (hbad.1 h)), if_neg (fun h' => h ((lt128 u).1 h'))] at hG
        exact hG
      have HP := Go.Lib.hid hP
      clear hP hG HG hbad
      have hcut : ∀ W : World, (Instr.slice 26 (.slice (some ⟨b, o, none⟩) rest.length c) (some (.int .i64 ((k : Int) + 1))) none none).run Tryd.prog W = .ok (.slice (cutA (some ⟨b, o, none⟩) c (k + 1)) (rest.length - (k + 1)) (c - (k + 1))) W := by
        intro W
        have := run_cut_l (P := Tryd.prog) 26 5 Tryd.underlying26 size8' (some ⟨b, o, none⟩) rest.length c (k + 1) hkl' W
        rw [show ((k + 1 : Nat) : Int) = (k : Int) + 1 by omega] at this
        exact this
      by_cases h9 : k = 9
      · have hcut10 : ∀ W : World, (Instr.slice 26 (.slice (some ⟨b, o, none⟩) rest.length c) (some (.int .i64 (10 : Int))) none none).run Tryd.prog W = .ok (.slice (cutA (some ⟨b, o, none⟩) c 10) (rest.length - 10) (c - 10)) W := by
          rw [h9] at hcut
          exact hcut
        have HRD := Go.Lib.hid (rd_cut (n := 10) hBg HH.out hlc hc HA.out HAB.out (by omega))
        have H9 := Go.Lib.hid h9
        clear h9 hcut
        go_wp2
        all_goals first
          | (have hp : P := by rw [HP.out]; simp only [beq_iff_eq, beq_eq_false_iff_ne] at *; omega
             go_ret
             rw [HBad.out hp]
             exact ⟨rfl, rd_fault ⟨_, c, hBg, HH.out, hlc, hc, HA.out, HAB.out⟩ _, (Only.refl g wr).set 1 _⟩)
          | (have hp : ¬ P := by rw [HP.out]; simp only [beq_iff_eq, beq_eq_false_iff_ne] at *; omega
             go_ret
             rw [HOk.out hp (by assumption)]
             exact ⟨by rw [H9.out]; rfl, by rw [H9.out]; exact HRD.out, (Only.refl g wr).set 0 _⟩)
          | (exfalso; have := H9.out; omega)
          | (trace_state; sorry)
      · have h9b : ((k : Int) == 9) = false := by rw [beq_eq_false_iff_ne]; omega
        have H9 := Go.Lib.hid h9
        clear h9
        go_wp2
        all_goals first
          | (have hp : P := by rw [HP.out]; simp only [beq_iff_eq, beq_eq_false_iff_ne] at *; omega
             go_ret
             rw [HBad.out hp]
             exact ⟨rfl, rd_fault ⟨_, c, hBg, HH.out, hlc, hc, HA.out, HAB.out⟩ _, (Only.refl g wr).set 1 _⟩)
          | (have hp : ¬ P := by rw [HP.out]; simp only [beq_iff_eq, beq_eq_false_iff_ne] at *; omega
             go_ret
             rw [HOk.out hp (by assumption)]
             exact ⟨rfl, rd_cut hBg HH.out hlc hc HA.out HAB.out (by omega), (Only.refl g wr).set 0 _⟩)
          | (have hp : ¬ P := by (rw [HP.out]; have := H9.out; simp only [beq_iff_eq, beq_eq_false_iff_ne] at *; omega)
             have hlt : ¬ n8 u < 128 := by first | assumption | omega
             have hk8 : k + 1 ≤ 9 := by have := H9.out; omega
             go_roundw
             case rel => exact ⟨k + 1, _, by trivial, hk8, by omega, by go_num, rfl, HGo.out hp (by omega)⟩
             case measure => simp [intOf]; omega)
          | (trace_state; sorry)

theorem groups_faulted (w : World) (B g : Nat) (a0 a1 : Addr) (rest : List UInt8) (f : Nat) (hR : Rd w B g rest (fv a0 a1 (f + 1))) :
    Calls Tryd.prog 49 #[.pointer (some ⟨g, 0, none⟩)] w fun e w' => e = .returned (.int .u64 0) ∧ w' = w := by
  obtain ⟨A, c, hBg, hh, hlc, hc, hA, hAb⟩ := hR
  have hc1 := cell_of_row w g 1 _ _ _ hh
  simp only [List.getElem?_toArray, List.getElem?_cons_zero, List.getElem?_cons_succ] at hc1
  have hv : ∃ a, fv a0 a1 (f + 1) = .iface 107 (.pointer (some a)) := by cases f <;> exact ⟨_, rfl⟩
  obtain ⟨a, ha⟩ := hv
  rw [ha] at hc1
  clear ha hh hA hAb
  go_enter Tryd.func49, Tryd.ntmps49
  go_wp2
  go_loopw [3, 4, 5] (fun x' i' _ wr => wr = w) (fun _ _ _ _ => 0)
  case atStart => rfl
  case round =>
    obtain rfl := hrel
    go_wp2
    go_ret
    exact ⟨rfl, rfl⟩

/-- what a reader's Number gives, at any fault -/
def numberF (rest : List UInt8) (f : Nat) : UInt64 × List UInt8 × Nat := if f = 0 then numberS rest else (0, rest, f)
theorem number_calls (w : World) (B g : Nat) (a0 a1 : Addr) (rest : List UInt8) (f : Nat) (hE : Errs w a0 a1) (hR : Rd w B g rest (fv a0 a1 f)) :
    Calls Tryd.prog 31 #[.pointer (some ⟨g, 0, none⟩)] w fun e w' =>
      e = .returned (.int .u64 (n64 (numberF rest f).1)) ∧ Rd w' B g (numberF rest f).2.1 (fv a0 a1 (numberF rest f).2.2) ∧ Only g w w' := by
  have hh : ∃ A c, w.heap[g]? = some (.cells #[.slice A rest.length c, fv a0 a1 f] 81 (0, 0)) := by obtain ⟨A, c, _, h, _⟩ := hR; exact ⟨A, c, h⟩
  obtain ⟨A, c, hh⟩ := hh
  have hc0 := cell_of_row w g 0 _ _ _ hh
  simp only [List.getElem?_toArray, List.getElem?_cons_zero, List.getElem?_cons_succ] at hc0
  have HR := Go.Lib.hid hR
  have HE := Go.Lib.hid hE
  clear hR hE hh
  go_enter Tryd.func31, Tryd.ntmps31
  go_wp2_with fail
  cases f with
  | zero =>
    refine (groups_calls w B g a0 a1 rest HE.out HR.out).mono ?_
    rintro e w' ⟨rfl, h1, h2⟩
    go_wp2
    go_ret
    exact ⟨rfl, h1, h2⟩
  | succ f =>
    refine (groups_faulted w B g a0 a1 rest f HR.out).mono ?_
    rintro e w' ⟨rfl, rfl⟩
    go_wp2
    go_ret
    exact ⟨rfl, HR.out, Only.refl _ _⟩
theorem number_nil (w : World) : Calls Tryd.prog 31 #[.pointer none] w fun e w' => e = .returned (.int .u64 0) ∧ w' = w := by
  go_enter Tryd.func31, Tryd.ntmps31
  go_wp2
  go_ret
  exact ⟨rfl, rfl⟩

theorem left_calls (w : World) (B g : Nat) (rest : List UInt8) (f : Value) (hR : Rd w B g rest f) :
    Calls Tryd.prog 32 #[.pointer (some ⟨g, 0, none⟩)] w fun e w' => e = .returned (.int .i64 (rest.length : Int)) ∧ w' = w := by
  obtain ⟨A, c, hBg, hh, hlc, hc, hA, hAb⟩ := hR
  have hc0 := cell_of_row w g 0 _ _ _ hh
  simp only [List.getElem?_toArray, List.getElem?_cons_zero, List.getElem?_cons_succ] at hc0
  clear hh hA hAb
  go_enter Tryd.func32, Tryd.ntmps32
  go_wp2
  go_ret
  exact ⟨rfl, rfl⟩
theorem left_nil (w : World) : Calls Tryd.prog 32 #[.pointer none] w fun e w' => e = .returned (.int .i64 0) ∧ w' = w := by
  go_enter Tryd.func32, Tryd.ntmps32
  go_wp2
  go_ret
  exact ⟨rfl, rfl⟩

theorem err_calls (w : World) (B g : Nat) (rest : List UInt8) (f : Value) (hR : Rd w B g rest f) :
    Calls Tryd.prog 33 #[.pointer (some ⟨g, 0, none⟩)] w fun e w' => e = .returned f ∧ w' = w := by
  obtain ⟨A, c, hBg, hh, hlc, hc, hA, hAb⟩ := hR
  have hc0 := cell_of_row w g 0 _ _ _ hh
  have hc1 := cell_of_row w g 1 _ _ _ hh
  simp only [List.getElem?_toArray, List.getElem?_cons_zero, List.getElem?_cons_succ] at hc0 hc1
  clear hh hA hAb
  go_enter Tryd.func33, Tryd.ntmps33
  go_wp2
  go_ret
  exact ⟨rfl, rfl⟩
theorem err_nil (w : World) (v : Value) (hE : w.cell? ⟨3, 0, none⟩ = some v) : Calls Tryd.prog 33 #[.pointer none] w fun e w' => e = .returned v ∧ w' = w := by
  go_enter Tryd.func33, Tryd.ntmps33
  go_wp2
  go_ret
  exact ⟨rfl, rfl⟩

end Go.Proofs.YtjkocjkfedcdoaaDoor
