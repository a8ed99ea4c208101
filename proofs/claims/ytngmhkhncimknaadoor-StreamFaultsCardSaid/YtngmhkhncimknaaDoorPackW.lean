/- Package pack: the walks of what writes. -/
import Derived.Test.YtngmhkhncimknaaDoorProg
import Derived.Test.YtngmhkhncimknaaDoorHeap2
import Derived.Test.YtngmhkhncimknaaDoorNum
import Derived.WalkKit
import Derived.RowKit3
import Derived.Outline
import Derived.Laws.Bits64
import Derived.Laws.IdiomStrings
import Derived.Lib.BufferRead
import Derived.WalkLawsBesides
import Derived.Lib.Hide
import Derived.KernelRfl
import Derived.Lib.SlBytesConst
import Derived.Lib.SmallJoins
import Derived.StillTailTactics
import Derived.Deep.QuietTactic
import Derived.BigQuiet
namespace Go.Proofs.YtngmhkhncimknaaDoor
open Go Go.RowKit
set_option linter.unusedVariables false
set_option linter.unusedSimpArgs false
attribute [local go_sem] IntKind.wrap_u64 c64_8 c8_64 c16_64 c32_64 c64_16 c64_32 or8 and8 shr64_7 shr64_8 shl64_8 or64 and64 n64_self n8_self beq_n64 beq_n8 bne_n8 bne_n64

theorem info8 : (Tryd.prog.info? 5).map (fun i => (i.zero, i.size, i.bytes)) = some (some (.int .u8 0), 1, 1) := by kernel_rfl

theorem size8' : (Tryd.prog.info? 5).map (·.size) = some 1 := by kernel_rfl

/-- 'make([]T, n, c)', T of one cell -/
theorem wpList_make_cap {P : Program} (w : World) {ops : Array Oper} {rest : List Oper} {o : Oper} {a : Act} {Q : Exit → Act → World → Prop} (hg : o.guard = none) (l c : Operand) (t : TypeId) (hop : o.op = Op.makeSlice t l c)
    (e : TypeId) (z : Value) (bz : Nat) (h1 : P.underlying t = some (.slice e)) (h2 : (P.info? e).map (fun i => (i.zero, i.size, i.bytes)) = some (some z, 1, bz)) (hz : z.cells = #[z])
    (n m : Nat) (L M : Int) (hl : a.eval l = .int .i64 L) (hc : a.eval c = .int .i64 M) (hL : L = (n : Int)) (hM : M = (m : Int)) (hnm : n ≤ m) (b2 : bz * m ≤ 281474976710656) (b3 : m ≤ 9223372036854775807)
    (hK : ∀ w', w'.heap[w.heap.size]? = some (.cells (List.replicate m z).toArray e (0, 0)) → Below w.heap.size w w' → wpList P ops Q rest (a.put o.dst (.slice (some ⟨w.heap.size, 0, none⟩) n m)) w') : wpList P ops Q (o :: rest) a w := by
  obtain ⟨i, hi, hz0, hz1, hz2⟩ := info_parts h2
  refine wpList_plain hg fun K hK' => ?_
  have hb' : (i.bytes : Int) * (m : Int) ≤ 281474976710656 := by
    have h : ((i.bytes * m : Nat) : Int) ≤ 281474976710656 := by rw [hz2]; omega
    rwa [Int.natCast_mul] at h
  have hr := run_make (P := P) w t e i z h1 hi hz0 .i64 .i64 (n : Int) (m : Int) (by omega) (by omega) hb' (by omega)
  simp only [Int.toNat_natCast] at hr
  subst hL
  subst hM
  unfold Oper.wp
  simp [execOp, hop, hl, hc, hr, Result.andThen]
  refine hK' _ _ (hK _ ?_ ((Below.refl _ _).alloc (Nat.le_refl _) _))
  have hmade : (madeCells z.cells (m * i.size)) = (List.replicate m z).toArray := by
    rw [hz, hz1, Nat.mul_one]
    apply Array.ext
    · simp [madeCells]
    · intro j h1 h2
      simp [madeCells, Nat.mod_one]
  rw [hmade]
  exact heap_here w _ _ rfl

def leS (x : UInt64) : Nat → List UInt8
  | 0 => []
  | n + 1 => x.toUInt8 :: leS (x >>> 8) n
theorem leS_length (x : UInt64) (n : Nat) : (leS x n).length = n := by
  induction n generalizing x with
  | zero => rfl
  | succ n ih => simp [leS, ih]
theorem Bs_snoc (l : List UInt8) (u : UInt8) : Bs l ++ [Value.int .u8 (n8 u)] = Bs (l ++ [u]) := by simp [Bs]

set_option maxRecDepth 100000 in
set_option maxHeartbeats 1600000 in
theorem put_calls (A : Option Addr) (c : Nat) (l : List UInt8) (x : UInt64) (n : Nat) (w : World) (hl : l.length ≤ 140737488351232) (hn : n ≤ 8) (hA : Cells w A (Bs l)) :
    Calls Tryd.prog 17 #[.slice A l.length c, .int .u64 (n64 x), .int .i64 (n : Int)] w fun e w' => ∃ v, e = .returned v ∧ Own w' w.heap.size 5 v (Bs (l ++ leS x n)) ∧ Below w.heap.size w w' := by
  have HA := Go.Lib.hid hA
  clear hA
  have hLL : l.length ≤ l.length + n := by omega
  go_enter Tryd.func17, Tryd.ntmps17
  have hcw : (List.replicate (l.length + n) (Value.int .u8 0)).drop l.length = List.replicate n (Value.int .u8 0) := by rw [List.drop_replicate, Nat.add_sub_cancel_left]
  have hb2 : 1 * (l.length + n) ≤ 281474976710656 := by omega
  have hb3 : l.length + n ≤ 9223372036854775807 := by omega
  have HM := Go.Lib.hid (show (l.length : Int) + (n : Int) = ((l.length + n : Nat) : Int) by omega)
  go_wp2_with (first
    | ((with_reducible refine wpList_make_cap (hg := rfl) (l := .tmp 9) (c := .tmp 13) (t := 23) (hop := ?_) (e := 5) (z := .int .u8 0) (bz := 1) (h1 := Tryd.underlying23) (h2 := info8) (hz := ?_) (n := l.length) (m := l.length + n) (hl := ?_) (hc := ?_) (hL := rfl) (hM := HM.out) (hnm := hLL) (b2 := hb2) (b3 := hb3) (hK := ?_)); rfl; rfl; rfl; rfl; intro w5 hw5 hb5; have H5 := Go.Lib.hid hw5; have HB5 := Go.Lib.hid hb5; have hA5 := cells_below hb5 HA.out; clear hw5 hb5)
    | ((with_reducible refine wpList_copy_all rfl (.tmp 15) (.tmp 16) 23 23 rfl 5 Tryd.underlying23 size8' w.heap.size l.length (l.length + n) A c l rfl rfl _ 5 H5.out (Nat.le_refl _) (by simp) hA5 w.heap.size w HB5.out (Nat.le_refl _) ?_); intro w6 hw6 hb6; have H6 := hw6; have HB6 := Go.Lib.hid hb6; clear hw6 hb6))
  have HO : Hid (Own w6 w.heap.size 5 (.slice (some ⟨w.heap.size, 0, none⟩) l.length (l.length + n)) (Bs l)) := by
    have h6 := H6.out
    rw [hcw] at h6
    exact ⟨by simp [Bs], .inr ⟨_, l.length + n, _, by rw [Bs_length], Nat.le_refl _, h6, by rw [Bs_length]; omega, by unfold maxLen; omega, by simp [Bs], by rw [Nat.mul_one]; simp⟩⟩
  clear H5 HB5 hA5 H6 hcw
  go_loopw [7, 1, 19] (fun v x' i wr => ∃ (k : Nat) (u : UInt64) (acc : List UInt8), k ≤ n ∧ i = .int .i64 (k : Int) ∧ x' = .int .u64 (n64 u) ∧ acc.length = k ∧ Hid (acc ++ leS u (n - k) = leS x n) ∧ Hid (Own wr w.heap.size 5 v (Bs (l ++ acc))) ∧ Hid (Below w.heap.size w wr)) (fun _ _ i _ => n - (intOf i).toNat)
  case atStart => exact ⟨0, x, [], by omega, rfl, rfl, rfl, rfl, by rw [List.append_nil]; exact HO.out, HB6⟩
  case round =>
    obtain ⟨k, u, acc, hk, rfl, rfl, hacc, HE, HV, HB⟩ := hrel
    clear HO HB6
    by_cases hkn : k < n
    · have hroom : ((Bs (l ++ acc)).length + 1) * 1 ≤ 140737488355328 := by rw [Bs_length, List.length_append]; omega
      have hmax : (Bs (l ++ acc)).length + 1 ≤ 9223372036854775807 := by rw [Bs_length, List.length_append]; omega
      have hsz := HB.out.size
      have hstep : acc ++ [u.toUInt8] ++ leS (u >>> 8) (n - (k + 1)) = leS x n := by
        have e := HE.out
        rw [show n - k = (n - (k + 1)) + 1 by omega] at e
        rw [← e]
        simp [leS]
      have HS := Go.Lib.hid hstep
      clear hstep
      go_wp2_with (first
        | (at_builtin; (with_reducible refine wpList_append_one (W := wr) (u := .int .u8 (n8 u.toUInt8)) (base := w.heap.size) (vs := Bs (l ++ acc)) (s := .tmp 21) (x := .tmp 24) (hinfo := info8) (ht := Tryd.underlying23) (hown := HV.out) (hb := HB.out) (hbase := hsz) (hgd := rfl) (ho := ?_) (hz := ?_) (hs := ?_) (hu := ?_) (hx := ?_) (hroom := hroom) (hmax := hmax) (h := ?_)); rfl; rfl; rfl; rfl; rfl; intro v1 wn hown1 hbn; have HO := Go.Lib.hid hown1; have HBN := Go.Lib.hid hbn; clear hown1 hbn))
      go_roundw
      case rel =>
        refine ⟨k + 1, u >>> 8, acc ++ [u.toUInt8], by omega, by go_num, rfl, by simp; omega, HS, ?_, HBN⟩
        have e := HO.out
        rw [Bs_snoc, List.append_assoc] at e
        exact e
      case measure => simp [intOf]; omega
    · have hkn' : k = n := by omega
      have hE := HE.out
      rw [hkn', Nat.sub_self, show leS u 0 = [] from rfl, List.append_nil] at hE
      go_wp2
      go_ret
      refine ⟨_, rfl, ?_, HB.out⟩
      rw [← hE]
      exact HV.out

/-- what a Put gives -/
def Gave (w w' : World) (e : Ending) (l : List UInt8) : Prop := ∃ v, e = .returned v ∧ Own w' w.heap.size 5 v (Bs l) ∧ Below w.heap.size w w'

theorem put_calls0 (A : Option Addr) (c : Nat) (l : List UInt8) (w : World) (hl : l.length ≤ 140737488351232) (hA : Cells w A (Bs l)) :
    Calls Tryd.prog 17 #[.slice A l.length c, .int .u64 0, .int .i64 0] w fun e w' => Gave w w' e l := by
  have h := put_calls A c l 0 0 w hl (by omega) hA
  rw [show leS 0 0 = [] from rfl, List.append_nil] at h
  exact h

theorem put_callsI (A : Option Addr) (c : Nat) (l : List UInt8) (x : UInt64) (n : Nat) (N : Int) (hN : N = (n : Int)) (w : World) (hl : l.length ≤ 140737488351232) (hn : n ≤ 8) (hA : Cells w A (Bs l)) :
    Calls Tryd.prog 17 #[.slice A l.length c, .int .u64 (n64 x), .int .i64 N] w fun e w' => Gave w w' e (l ++ leS x n) := by
  subst hN; exact put_calls A c l x n w hl hn hA

theorem putU16_calls (A : Option Addr) (c : Nat) (l : List UInt8) (x : UInt16) (w : World) (hl : l.length ≤ 140737488351232) (hA : Cells w A (Bs l)) :
    Calls Tryd.prog 13 #[.slice A l.length c, .int .u16 (n16 x)] w fun e w' => Gave w w' e (l ++ leS x.toUInt64 2) := by
  go_enter Tryd.func13, Tryd.ntmps13
  go_wp2_with fail
  have h := put_callsI A c l x.toUInt64 2 2 (by decide) w hl (by omega) hA
  refine h.mono ?_
  rintro e w' ⟨v, rfl, hv, hb⟩
  go_wp2
  go_ret
  exact ⟨v, rfl, hv, hb⟩
/-- a number in groups of seven bits -/
def numS (x : UInt64) : Nat → List UInt8
  | 0 => [x.toUInt8]
  | n + 1 => if 127 < x then (x.toUInt8 ||| 128) :: numS (x >>> 7) n else [x.toUInt8]
attribute [local go_sem] or8_128
theorem shr7_lt (u : UInt64) (k : Nat) (hk : k ≤ 8) (h : u.toNat < 2 ^ (64 - 7 * k)) : (u >>> 7).toNat < 2 ^ (64 - 7 * (k + 1)) := by
  rw [UInt64.toNat_shiftRight, show (7 : UInt64).toNat % 64 = 7 by decide, Nat.shiftRight_eq_div_pow, Nat.div_lt_iff_lt_mul (by decide), ← Nat.pow_add]
  rw [show 64 - 7 * (k + 1) + 7 = 64 - 7 * k by omega]
  exact h
theorem gt127 (u : UInt64) : (127 < u) ↔ (127 : Int) < n64 u := by
  unfold n64
  rw [UInt64.lt_iff_toNat_lt, show (127 : UInt64).toNat = 127 by decide]
  omega

theorem conv_str {w : World} {A : Option Addr} {c : Nat} {l : List UInt8} (h : Cells w A (Bs l)) : (convert 23 9 (.slice A l.length c)).run Tryd.prog w = .ok (.string ⟨l.toArray⟩) w := by
  cases A with
  | none =>
    have h0 : l = [] := by
      rcases l with _ | ⟨x, l⟩
      · rfl
      · obtain ⟨b, o, hx, _⟩ := h (by simp [Bs]); cases hx
    subst h0
    exact Go.Lib.run_convert_nil_bytes w _ _ 5 c Tryd.underlying23 Tryd.underlying5 Tryd.underlying9
  | some a =>
    refine run_convert_bytes_back w _ _ 5 a c l Tryd.underlying23 Tryd.underlying5 Tryd.underlying9 (fun j hj => ?_)
    obtain ⟨b, o, hx, hc⟩ := h (by rw [Bs_length]; omega)
    cases hx
    have := hc j (by rw [Bs_length]; exact hj)
    rw [Addr.add_mid, this]
    simp [Bs, n8]
end Go.Proofs.YtngmhkhncimknaaDoor
