/- The law RequestCuts walked. (Printed by gen_reqcuts.py of this session.) -/
import Derived.Test.YtonfeppenhebjaaDoorReqForthL
namespace Go.Proofs.YtonfeppenhebjaaDoor
open Go Go.RowKit
set_option linter.unusedVariables false
set_option linter.unusedSimpArgs false
attribute [local go_sem] IntKind.wrap_u64 c64_8 c8_64 c16_64 c32_64 c64_16 c64_32 or8 and8 n64_self n8_self beq_n64 beq_n8 bne_n8 bne_n64 beq_n64_0 bne_n64_0 wrap_b8

theorem wpList_append_allN {P : Program} {W : World} {ops : Array Oper} {rest : List Oper} {o : Oper} {a : Act} {Q : Exit → Act → World → Prop} (hgd : o.guard = none) (s x : Operand) (t e : TypeId) (z : Value)
    (ht : P.underlying t = some (.slice e)) (hinfo : (P.info? e).map (fun i => (i.zero, i.size, i.bytes)) = some (some z, 1, 1)) (hz : z.cells.size = 1)
    (ho : o.op = .call { callee := .builtin .append, args := #[s, x], argTypes := #[t, t] })
    (base : Nat) (v : Value) (vs : List Value) (hs : a.eval s = v) (hown : Own W base e v vs) (hbase : base ≤ W.heap.size) (A : Option Addr) (c n : Nat) (l : List UInt8) (hn : l.length = n)
    (hx : a.eval x = .slice A n c) (hA : Cells W A (Bs l)) (hroom : vs.length + l.length ≤ 140737488355328)
    (h : ∀ v' w', Own w' base e v' (vs ++ Bs l) → Below base W w' → wpList P ops Q rest (a.put o.dst v') w') : wpList P ops Q (o :: rest) a W := by
  subst hn
  exact wpList_append_all hgd s x t e z ht hinfo hz ho base v vs hs hown hbase A c l hx hA hroom h
theorem cells_takeB {w : World} {A : Option Addr} {l : List UInt8} (h : Cells w A (Bs l)) (k : Nat) : Cells w A (Bs (l.take k)) := by
  rw [show Bs (l.take k) = (Bs l).take k by simp [Bs, List.map_take]]
  exact cells_take h k
theorem gave_litc {p : Nat → Addr} {w w' : World} {e : Ending} {r : List UInt8 × Nat} (h : GaveE p w w' e r) (l : List UInt8) (hr : r = (l, 0)) :
    ∃ A c, e = .returned (.tuple #[.slice A l.length c, .nilIface]) ∧ Hid (Cells w' A (Bs l)) ∧ l.length ≤ c ∧ Hid (Below w.heap.size w w') := by
  obtain ⟨v, rfl, hv, hb⟩ := h
  subst hr
  obtain ⟨A, c, rfl, h1, _, hc⟩ := own_slice hv
  rw [Bs_length] at h1
  exact ⟨A, c, by rw [Bs_length]; rfl, hc, h1, hb⟩
theorem enc_okc (r : Req) (b : List UInt8) (p : Nat → Addr) (V : World) (hV : E4 V p) (hk : r.key.length ≤ 9223372036854775807) (h : encS r = (b, 0)) :
    Calls Tryd.prog 11 #[.agg (reqA r)] V fun e w' => ∃ A c, e = .returned (.tuple #[.slice A b.length c, .nilIface]) ∧ Hid (Cells w' A (Bs b)) ∧ b.length ≤ c ∧ Hid (Below V.heap.size V w') :=
  (encode_calls r p V hV hk).mono fun e w' hg => gave_litc hg b h
theorem encR_okc (r : Ans) (b : List UInt8) (p : Nat → Addr) (V : World) (hV : E4 V p) (h : encR r = (b, 0)) :
    Calls Tryd.prog 15 #[.agg (ansA r)] V fun e w' => ∃ A c, e = .returned (.tuple #[.slice A b.length c, .nilIface]) ∧ Hid (Cells w' A (Bs b)) ∧ b.length ≤ c ∧ Hid (Below V.heap.size V w') :=
  (encR_calls r p V hV).mono fun e w' hg => gave_litc hg b h
end Go.Proofs.YtonfeppenhebjaaDoor
