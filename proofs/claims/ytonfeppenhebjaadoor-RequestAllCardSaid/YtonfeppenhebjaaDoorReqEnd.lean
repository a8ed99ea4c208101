/- Package request: end; what Decode gives. -/
import Derived.Test.YtonfeppenhebjaaDoorReqTP
namespace Go.Proofs.YtonfeppenhebjaaDoor
open Go Go.RowKit
set_option linter.unusedVariables false
set_option linter.unusedSimpArgs false
attribute [local go_sem] IntKind.wrap_u64 c64_8 c8_64 c16_64 c32_64 c64_16 c64_32 or8 and8 n64_self n8_self beq_n64 beq_n8 bne_n8 bne_n64 beq_n64_0 bne_n64_0 wrap_b8

/-- the fault behind all fields: its number -/
def endE (rest : List UInt8) (f n : Nat) : Nat := if f ≠ 0 then fault f else if rest.length ≠ 0 ∨ 256 < n then 3 else 0

set_option maxRecDepth 100000 in
set_option maxHeartbeats 1600000 in
theorem end_calls' (p : Nat → Addr) (B g : Nat) (rest : List UInt8) (f : Nat) (A : Option Addr) (c n : Nat) (w : World) (hp : E4 w p) (hn : n ≤ 9223372036854775807) (hR : Rd w B g rest (fv (p 2) (p 3) f)) :
    Calls Tryd.prog 33 #[.pointer (some ⟨g, 0, none⟩), .slice A n c] w fun e w' => e = .returned (errv p (endE rest f n)) ∧ w' = w := by
  have e3 := e4_form hp
  have HR := Go.Lib.hid hR
  clear hp hR
  cases f with
  | succ m =>
    have hv : ∃ a, fv (p 2) (p 3) (m + 1) = .iface 105 (.pointer (some a)) := by cases m <;> exact ⟨_, rfl⟩
    obtain ⟨a, ha⟩ := hv
    have hE : endE rest (m + 1) n = fault (m + 1) := by unfold endE; rw [if_pos (by simp)]
    rw [hE, ← fv_errv, ha]
    rw [ha] at HR
    clear ha hE
    go_enter Tryd.func33, Tryd.ntmps33
    go_wp2_with fail
    refine (err_calls w B g _ _ HR.out).mono ?_
    rintro e w1 ⟨rfl, rfl⟩
    go_wp2_with fail
    refine (err_calls w1 B g _ _ HR.out).mono ?_
    rintro e w2 ⟨rfl, rfl⟩
    go_wp2
    go_ret
    exact ⟨rfl, rfl⟩
  | zero =>
    by_cases hr : rest.length = 0
    · by_cases hb : 256 < n
      · have hE : endE rest 0 n = 3 := by unfold endE; rw [if_neg (by simp), if_pos (.inr hb)]
        rw [hE]
        have d1 : decide ((256 : Int) < (n : Int)) = true := decide_eq_true (by omega)
        have d2 : decide (256 < n) = true := decide_eq_true hb
        have HL := Go.Lib.hid (left_calls w B g rest _ HR.out)
        rw [hr] at HL
        clear hr hE
        go_enter Tryd.func33, Tryd.ntmps33
        go_wp2_with fail
        refine (err_calls w B g _ _ HR.out).mono ?_
        rintro e w1 ⟨rfl, rfl⟩
        simp only [fv]
        go_wp2_with fail
        refine HL.out.mono ?_
        rintro e w2 ⟨rfl, rfl⟩
        go_wp2
        go_ret
        exact ⟨rfl, rfl⟩
      · have hE : endE rest 0 n = 0 := by unfold endE; rw [if_neg (by simp), if_neg (by simp [hr]; omega)]
        rw [hE]
        have d1 : decide ((256 : Int) < (n : Int)) = false := decide_eq_false (by omega)
        have d2 : decide (256 < n) = false := decide_eq_false hb
        have HL := Go.Lib.hid (left_calls w B g rest _ HR.out)
        rw [hr] at HL
        clear hr hE
        go_enter Tryd.func33, Tryd.ntmps33
        go_wp2_with fail
        refine (err_calls w B g _ _ HR.out).mono ?_
        rintro e w1 ⟨rfl, rfl⟩
        simp only [fv]
        go_wp2_with fail
        refine HL.out.mono ?_
        rintro e w2 ⟨rfl, rfl⟩
        go_wp2
        go_ret
        exact ⟨rfl, rfl⟩
    · have hE : endE rest 0 n = 3 := by unfold endE; rw [if_neg (by simp), if_pos (.inl hr)]
      rw [hE]
      have d1 : decide ((0 : Int) < (rest.length : Int)) = true := decide_eq_true (by omega)
      have d2 : decide (0 < rest.length) = true := decide_eq_true (by omega)
      have hl0 : (0 : Int) < (rest.length : Int) := by omega
      have HL := Go.Lib.hid (left_calls w B g rest _ HR.out)
      generalize rest.length = m at *
      clear hr hE
      go_enter Tryd.func33, Tryd.ntmps33
      go_wp2_with fail
      refine (err_calls w B g _ _ HR.out).mono ?_
      rintro e w1 ⟨rfl, rfl⟩
      simp only [fv]
      go_wp2_with fail
      refine HL.out.mono ?_
      rintro e w2 ⟨rfl, rfl⟩
      go_wp2
      go_ret
      exact ⟨rfl, rfl⟩

/-- a request, or an error's number: what is left must be nothing -/
def reqOr (r : Req) (k : Nat) : Req × Nat := if k ≠ 0 then (reqZ, k) else (r, 0)
def decOp (n : Nat) (op : Nat) (t : List UInt8 × List UInt8 × Nat) : Req × Nat :=
  if t.2.2 ≠ 0 then (reqZ, fault t.2.2) else
  if op = 1 then
    let P := takePolS t.2.1 t.2.2
    if P.2.1 ≠ 0 then (reqZ, P.2.1) else reqOr ⟨1, t.1, P.1, 0⟩ (endE P.2.2.1 P.2.2.2 n)
  else if op = 2 then
    let u := fixedS t.2.1 t.2.2 8
    reqOr ⟨2, t.1, polZ, u.1⟩ (endE u.2.1 u.2.2 n)
  else reqOr ⟨(op : Int), t.1, polZ, 0⟩ (endE t.2.1 t.2.2 n)
def decQ (n : Nat) (q : UInt64 × List UInt8 × Nat) : Req × Nat :=
  if q.2.2 ≠ 0 then (reqZ, fault q.2.2) else
  let op : Nat := q.1.toUInt8.toNat
  if op < 1 ∨ 5 < op then (reqZ, 3) else
  decOp n op (if op = 5 then ([], q.2.1, q.2.2) else textS q.2.1 q.2.2)
/-- the request of a payload, or an error's number -/
def decS (b : List UInt8) : Req × Nat := decQ b.length (fixedS b 0 1)
end Go.Proofs.YtonfeppenhebjaaDoor
