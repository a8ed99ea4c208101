/- Package pack: the walks of what reads. -/
import Derived.Test.YtipjdkdonmoojaaDoorPackW
namespace Go.Proofs.YtipjdkdonmoojaaDoor
open Go Go.RowKit
set_option linter.unusedVariables false
set_option linter.unusedSimpArgs false
attribute [local go_sem] IntKind.wrap_u64 c64_8 c8_64 c16_64 c32_64 c64_16 c64_32 or8 and8 shr64_7 shr64_8 shl64_8 or64 and64 n64_self n8_self beq_n64 beq_n8 bne_n8 bne_n64

/-- the fault of a reader: 0 none, 1 short, else form -/
def fv (a0 a1 : Addr) : Nat → Value
  | 0 => .nilIface
  | 1 => .iface 112 (.pointer (some a0))
  | _ => .iface 112 (.pointer (some a1))
def Errs (w : World) (a0 a1 : Addr) : Prop :=
  w.cell? ⟨2, 0, none⟩ = some (fv a0 a1 1) ∧ w.cell? ⟨3, 0, none⟩ = some (fv a0 a1 2)
/-- a block of bytes -/
def ByB (w : World) (b : Nat) : Prop := ∃ cs fr, w.heap[b]? = some (Obj.cells cs 5 fr)
theorem ByB.far {w : World} {b g o : Nat} (h : ByB w b) (hne : b ≠ g) (v : Value) : ByB (w.setCell ⟨g, o, none⟩ v) b := by
  obtain ⟨cs, fr, h⟩ := h
  exact ⟨cs, fr, by rw [Below.heap_setCell _ _ _ _ hne]; exact h⟩
/-- a reader: what is left, and its fault; all its memory from B on -/
def Rd (w : World) (B g : Nat) (rest : List UInt8) (f : Value) : Prop :=
  ∃ A c, B ≤ g ∧ w.heap[g]? = some (.cells #[.slice A rest.length c, f] 82 (0, 0)) ∧ rest.length ≤ c ∧ c ≤ 9223372036854775807 ∧ Cells w A (Bs rest) ∧ ∀ ad, A = some ad → B ≤ ad.block ∧ ad.block ≠ g ∧ ByB w ad.block
theorem far_cells {w : World} {p : Addr} {v : Value} {A : Option Addr} {vs : List Value} (h : Cells w A vs) (hne : ∀ ad, A = some ad → ad.block ≠ p.block) : Cells (w.setCell p v) A vs := fun h0 => by
  obtain ⟨b, o, ha, hc⟩ := h h0
  exact ⟨b, o, ha, fun i hi => far_cell (hne ⟨b, o, none⟩ ha) (hc i hi)⟩
theorem rd_fault {w : World} {B g : Nat} {rest : List UInt8} {f : Value} (h : Rd w B g rest f) (f' : Value) : Rd (w.setCell ⟨g, 1, none⟩ f') B g rest f' := by
  obtain ⟨A, c, hB, hh, h1, h2, hA, hb⟩ := h
  refine ⟨A, c, hB, ?_, h1, h2, far_cells hA (fun ad ha => (hb ad ha).2.1), fun ad ha => ⟨(hb ad ha).1, (hb ad ha).2.1, (hb ad ha).2.2.far (hb ad ha).2.1 _⟩⟩
  exact heap_setCell_same w g 1 _ _ f' hh
theorem rd_cut {w : World} {B g n : Nat} {A : Option Addr} {c : Nat} {rest : List UInt8} {f : Value} (hB : B ≤ g) (hh : w.heap[g]? = some (.cells #[.slice A rest.length c, f] 82 (0, 0))) (h1 : rest.length ≤ c) (h2 : c ≤ 9223372036854775807) (hA : Cells w A (Bs rest)) (hb : ∀ ad, A = some ad → B ≤ ad.block ∧ ad.block ≠ g ∧ ByB w ad.block) (hn : n ≤ rest.length) :
    Rd (w.setCell ⟨g, 0, none⟩ (.slice (cutA A c n) (rest.length - n) (c - n))) B g (rest.drop n) f := by
  have hcut : ∀ ad, cutA A c n = some ad → B ≤ ad.block ∧ ad.block ≠ g ∧ ByB w ad.block := by
    intro ad ha
    unfold cutA at ha
    split at ha
    · exact hb ad ha
    · cases A with
      | none => cases ha
      | some a =>
        obtain rfl : a.add n = ad := by simpa using ha
        rw [show (a.add n).block = a.block by unfold Addr.add; split <;> rfl]
        exact hb a rfl
  refine ⟨cutA A c n, c - n, hB, ?_, by simp; omega, by omega, ?_, fun ad ha => ⟨(hcut ad ha).1, (hcut ad ha).2.1, (hcut ad ha).2.2.far (hcut ad ha).2.1 _⟩⟩
  · have e := heap_setCell_same w g 0 _ _ (.slice (cutA A c n) (rest.length - n) (c - n)) hh
    rw [List.length_drop]
    exact e
  · rw [Bs_drop]
    exact far_cells (cells_drop hA c n (by rw [Bs_length]; omega)) (fun ad ha => (hcut ad ha).2.1)
/-- nothing but block g changed -/
def Only (g : Nat) (w w' : World) : Prop :=
  w'.os = w.os ∧ w'.tape = w.tape ∧ w'.output = w.output ∧ w'.heap.size = w.heap.size ∧ ∀ x, x ≠ g → w'.heap[x]? = w.heap[x]?
theorem Only.refl (g : Nat) (w : World) : Only g w w := ⟨rfl, rfl, rfl, rfl, fun _ _ => rfl⟩
theorem Only.trans {g : Nat} {a b c : World} (h : Only g a b) (k : Only g b c) : Only g a c :=
  ⟨k.1.trans h.1, k.2.1.trans h.2.1, k.2.2.1.trans h.2.2.1, k.2.2.2.1.trans h.2.2.2.1, fun x hx => (k.2.2.2.2 x hx).trans (h.2.2.2.2 x hx)⟩
theorem Only.set {g : Nat} {a b : World} (h : Only g a b) (o : Nat) (v : Value) : Only g a (b.setCell ⟨g, o, none⟩ v) := by
  have hb := (Below.refl 0 b).setCell (p := ⟨g, o, none⟩) (Nat.zero_le _) v
  refine ⟨hb.os.trans h.1, hb.tape.trans h.2.1, hb.output.trans h.2.2.1, ?_, fun x hx => (Below.heap_setCell _ _ _ _ hx).trans (h.2.2.2.2 x hx)⟩
  rw [← h.2.2.2.1]; simp [World.setCell]
theorem Only.below {g B : Nat} {a b : World} (h : Only g a b) (hB : B ≤ g) : Below B a b :=
  ⟨h.1, h.2.1, h.2.2.1, by rw [h.2.2.2.1]; exact Nat.le_refl _, fun x hx => h.2.2.2.2 x (by omega)⟩
theorem Only.cell {g : Nat} {a b : World} (h : Only g a b) {p : Addr} (hp : p.block ≠ g) : b.cell? p = a.cell? p := World.cell?_of_block (h.2.2.2.2 _ hp)

theorem gt1 (u : UInt8) : (1 < u) ↔ (1 : Int) < n8 u := by
  unfold n8; rw [UInt8.lt_iff_toNat_lt, show (1 : UInt8).toNat = 1 by decide]; omega
theorem lt128 (u : UInt8) : (u < 128) ↔ n8 u < (128 : Int) := by
  unfold n8; rw [UInt8.lt_iff_toNat_lt, show (128 : UInt8).toNat = 128 by decide]; omega
theorem eq0 (u : UInt8) : (u = 0) ↔ n8 u = (0 : Int) := ⟨fun h => by rw [h]; rfl, fun h => n8_inj (b := 0) h⟩
def shl (a : UInt64) (m : Nat) : UInt64 := UInt64.ofNat (a.toNat * 2 ^ m)
theorem shl_pow (a : UInt64) (m : Nat) : n64 a * 2 ^ m % (18446744073709551616 : Int) = n64 (shl a m) := by
  unfold n64 shl
  rw [UInt64.toNat_ofNat', show (2 ^ 64 : Nat) = 18446744073709551616 by decide, Int.natCast_emod, Int.natCast_mul, Int.natCast_pow]
  rfl
theorem shl_63 (a : UInt64) : n64 a * 9223372036854775808 % (18446744073709551616 : Int) = n64 (shl a (7 * 9)) := shl_pow a 63
def grp (i : Nat) (x : UInt64) : List UInt8 → Nat ⊕ (UInt64 × List UInt8)
  | [] => .inl 1
  | g :: l => if (i = 9 ∧ 1 < g) ∨ (0 < i ∧ g = 0) then .inl 2 else
    if g < 128 then .inr (x ||| shl (g.toUInt64 &&& 127) (7 * i), l) else grp (i + 1) (x ||| shl (g.toUInt64 &&& 127) (7 * i)) l
/-- value, rest, fault of a number read from 'rest' -/
def numberS (rest : List UInt8) : UInt64 × List UInt8 × Nat :=
  match grp 0 0 rest with
  | .inl f => (0, rest, f)
  | .inr (x, l) => (x, l, 0)

attribute [local go_sem] and8_127 shl_pow shl_63
/-- what a reader's Number gives, at any fault -/
def numberF (rest : List UInt8) (f : Nat) : UInt64 × List UInt8 × Nat := if f = 0 then numberS rest else (0, rest, f)
theorem left_calls (w : World) (B g : Nat) (rest : List UInt8) (f : Value) (hR : Rd w B g rest f) :
    Calls Tryd.prog 37 #[.pointer (some ⟨g, 0, none⟩)] w fun e w' => e = .returned (.int .i64 (rest.length : Int)) ∧ w' = w := by
  obtain ⟨A, c, hBg, hh, hlc, hc, hA, hAb⟩ := hR
  have hc0 := cell_of_row w g 0 _ _ _ hh
  simp only [List.getElem?_toArray, List.getElem?_cons_zero, List.getElem?_cons_succ] at hc0
  clear hh hA hAb
  go_enter Tryd.func37, Tryd.ntmps37
  go_wp2
  go_ret
  exact ⟨rfl, rfl⟩
theorem left_nil (w : World) : Calls Tryd.prog 37 #[.pointer none] w fun e w' => e = .returned (.int .i64 0) ∧ w' = w := by
  go_enter Tryd.func37, Tryd.ntmps37
  go_wp2
  go_ret
  exact ⟨rfl, rfl⟩

theorem err_calls (w : World) (B g : Nat) (rest : List UInt8) (f : Value) (hR : Rd w B g rest f) :
    Calls Tryd.prog 36 #[.pointer (some ⟨g, 0, none⟩)] w fun e w' => e = .returned f ∧ w' = w := by
  obtain ⟨A, c, hBg, hh, hlc, hc, hA, hAb⟩ := hR
  have hc0 := cell_of_row w g 0 _ _ _ hh
  have hc1 := cell_of_row w g 1 _ _ _ hh
  simp only [List.getElem?_toArray, List.getElem?_cons_zero, List.getElem?_cons_succ] at hc0 hc1
  clear hh hA hAb
  go_enter Tryd.func36, Tryd.ntmps36
  go_wp2
  go_ret
  exact ⟨rfl, rfl⟩
theorem err_nil (w : World) (v : Value) (hE : w.cell? ⟨5, 0, none⟩ = some v) : Calls Tryd.prog 36 #[.pointer none] w fun e w' => e = .returned v ∧ w' = w := by
  go_enter Tryd.func36, Tryd.ntmps36
  go_wp2
  go_ret
  exact ⟨rfl, rfl⟩

end Go.Proofs.YtipjdkdonmoojaaDoor
