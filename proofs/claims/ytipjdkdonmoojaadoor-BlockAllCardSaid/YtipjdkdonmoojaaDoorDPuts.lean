/- The puts of both texts: PutText, called, wanted. -/
import Derived.Test.YtipjdkdonmoojaaDoorDErrs
import Derived.Test.YtipjdkdonmoojaaDoorAppS
namespace Go.Proofs.YtipjdkdonmoojaaDoor
open Go Go.RowKit
set_option linter.unusedVariables false
set_option linter.unusedSimpArgs false
attribute [local go_sem] IntKind.wrap_u64 c64_8 c8_64 c16_64 c32_64 c64_16 c64_32 or8 and8 shr64_7 shr64_8 shl64_8 or64 and64 n64_self n8_self beq_n64 beq_n8 bne_n8 bne_n64

/-- what a put gives: bytes, and an error's number -/
def GaveE (p : Nat → Addr) (w w' : World) (e : Ending) (r : List UInt8 × Nat) : Prop := ∃ v, e = .returned (.tuple #[v, errv p r.2]) ∧ Own w' w.heap.size 5 v (Bs r.1) ∧ Below w.heap.size w w'
def GaveF (w w' : World) (e : Ending) (r : List UInt8 × Nat) : Prop := ∃ v, e = .returned (.tuple #[v, .int .i64 (r.2 : Int)]) ∧ Own w' w.heap.size 5 v (Bs r.1) ∧ Below w.heap.size w w'
/-- the error of what is too long -/
def LongAt (w : World) (p : Nat → Addr) : Prop := w.cell? ⟨1, 0, none⟩ = some (errv p 4)
theorem longAt_below {w w1 : World} {p : Nat → Addr} (h : LongAt w p) (hb : Below w.heap.size w w1) : LongAt w1 p := below_cell hb h
theorem errsAt_long {w : World} {p : Nat → Addr} (h : ErrsAt w p) : LongAt w p := (h.1 4 (by decide) (by decide)).1
theorem own_mono {w : World} {b b' e : Nat} {v : Value} {vs : List Value} (h : Own w b e v vs) (hb : b' ≤ b) : Own w b' e v vs := by
  obtain ⟨h1, h2⟩ := h
  refine ⟨h1, ?_⟩
  rcases h2 with h2 | ⟨g, cap, cur, hv, hg, r⟩
  · exact .inl h2
  · exact .inr ⟨g, cap, cur, hv, Nat.le_trans hb hg, r⟩
theorem own_nil (w : World) (b e : Nat) : Own w b e (.slice none 0 0) (Bs []) := World.ownsRow_nil w b e 1
theorem below_drewN (B : Nat) (w : World) (n : Nat) : Below B w (w.drewN n) := ⟨rfl, rfl, rfl, Nat.le_refl _, fun _ _ => rfl⟩
def textP (l s : List UInt8) : List UInt8 × Nat := if 65535 < s.length then ([], 4) else (l ++ leS (UInt64.ofNat s.length) 2 ++ s, 0)
def putS (kind : Int) (x : UInt64) (s l : List UInt8) : List UInt8 × Nat :=
  if kind = 1 then (l ++ leS x.toUInt16.toUInt64 2, 0) else if kind = 2 then (l ++ leS x.toUInt32.toUInt64 4, 0) else if kind = 3 then (l ++ leS x 8, 0)
  else if kind = 4 then textP l s else (l ++ numS x 9, 0)

theorem len_u64 (n : Nat) (h : n ≤ 65535) : IntKind.u64.wrap (n : Int) = n64 (UInt64.ofNat n) := by
  unfold n64
  rw [IntKind.wrap_u64, UInt64.toNat_ofNat', Nat.mod_eq_of_lt (by omega)]
  omega

theorem str_at (s : List UInt8) (k : Nat) (h : k < (⟨s.toArray⟩ : ByteArray).size) : ((((⟨s.toArray⟩ : ByteArray)[k]'h).toNat : Nat) : Int) = n8 (s[k]'h) := rfl
end Go.Proofs.YtipjdkdonmoojaaDoor
