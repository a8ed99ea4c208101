/- Package turnstileref01: the walks of what writes. -/
import Derived.Test.YtonfeppenhebjaaDoorPackW
import Derived.Deep.DeepAppendWide
namespace Go.Proofs.YtonfeppenhebjaaDoor
open Go Go.RowKit
set_option linter.unusedVariables false
set_option linter.unusedSimpArgs false
theorem mod_byte (u : UInt64) : (u % 256).toUInt8 = u.toUInt8 := by
  apply UInt8.toNat_inj.1
  simp
theorem mod_byte' (u : UInt64) : n8 (u % 256).toUInt8 = n8 u.toUInt8 := by rw [mod_byte]
theorem div_shr' (u : UInt64) : u / (256 : UInt64) = u >>> (8 : UInt64) := by
  apply UInt64.toNat_inj.1
  rw [UInt64.toNat_div, UInt64.toNat_shiftRight, show (8 : UInt64).toNat % 64 = 8 by decide, Nat.shiftRight_eq_div_pow, show (256 : UInt64).toNat = 2 ^ 8 by decide]
attribute [local go_sem] IntKind.wrap_u64 c64_8 c8_64 c16_64 c32_64 c64_16 c64_32 or8 and8 shr64_7 shr64_8 shl64_8 or64 and64 n64_self n8_self beq_n64 beq_n8 bne_n8 bne_n64 mod64_256 div64_256 mod64_128 div64_128 mod_byte'

/-- 'append(x, b)' onto an own row of bytes, with room up to 2e14 -/
theorem wpList_append_byte {P : Program} {w0 W : World} {ops : Array Oper} {rest : List Oper} {o : Oper} {a : Act} {Q : Exit → Act → World → Prop} (hgd : o.guard = none) (s x : Operand) (t e : TypeId) (z : Value)
    (ht : P.underlying t = some (.slice e)) (hinfo : (P.info? e).map (fun i => (i.zero, i.size, i.bytes)) = some (some z, 1, 1)) (hz : z.cells.size = 1)
    (ho : o.op = .call { callee := .builtin .append, args := #[s, x], argTypes := #[t, t] })
    (base : Nat) (v : Value) (l : List UInt8) (hs : a.eval s = v) (hown : Own W base e v (Bs l)) (hb : Below base w0 W) (hbase : base ≤ W.heap.size) (u : UInt8)
    (hx : a.eval x = .slice (some ⟨W.heap.size, 0, none⟩) 1 1) (hroom : l.length + 1 ≤ 200000000000000)
    (h : ∀ v' w', Own w' base e v' (Bs (l ++ [u])) → Below base w0 w' → wpList P ops Q rest (a.put o.dst v') w') : wpList P ops Q (o :: rest) a (W.alloc (.cells #[.int .u8 (n8 u)] e)) := by
  obtain ⟨i, hi, hz0, hz1, hz2⟩ := info_parts hinfo
  have hl : (Bs l).length = l.length := Bs_length l
  refine wpList_append_own_wide _ hgd s x t ho base e i z 1 1 ht hi hz0 hz1 hz2 hz (by decide) v (Bs l).length (Bs l) hs (World.ownsRow.alloc hown _) ⟨W.heap.size, 0, none⟩ 1 1 [.int .u8 (n8 u)] hx rfl ?_ ?_ (by unfold maxLen; omega) (by rw [hl]; omega) (by simp; omega) ?_
  · intro j w hw
    rw [Addr.add_mid, cell_of_row _ _ _ _ _ _ (heap_here W _ _ rfl)]
    cases j with
    | zero => simpa using hw
    | succ j => simp at hw
  · intro w hw
    simp only [List.mem_singleton] at hw
    subst hw; rfl
  · intro v' w' h1 h2 _
    refine h v' w' (by rw [← Bs_snoc]; unfold Own; simpa using h1) ?_
    refine (hb.alloc hbase _).grown h2 (by simp; omega) ?_
    intro k hk
    obtain ⟨_, h0⟩ := hown
    rcases h0 with ⟨rfl, _⟩ | ⟨g, cap, cur, rfl, hg, _⟩
    · simp [Value.ownBlock] at hk
    · simp [Value.ownBlock] at hk; omega

theorem copy_set (l : List UInt8) (k : Nat) (hk : k < l.length) : (Bs (l.take k ++ List.replicate (l.length - k) 0)).toArray.setIfInBounds k (.int .u8 (n8 l[k])) = (Bs (l.take (k + 1) ++ List.replicate (l.length - (k + 1)) 0)).toArray := by
  have e : (l.take k ++ List.replicate (l.length - k) 0).set k l[k] = l.take (k + 1) ++ List.replicate (l.length - (k + 1)) 0 := by
    have hl : (l.take k).length = k := by simp; omega
    rw [show l.length - k = (l.length - (k + 1)) + 1 by omega, List.replicate_succ, List.set_append_right _ _ (by omega), hl, Nat.sub_self, List.set_cons_zero, List.take_succ_eq_append_getElem hk]
    simp only [List.append_assoc, List.cons_append, List.nil_append]
  rw [← e]
  unfold Bs
  rw [List.map_set]
  simp
theorem copy_cell (l : List UInt8) (k : Nat) (hk : k < l.length) : (Bs (l.take k ++ List.replicate (l.length - k) 0)).toArray[k]? = some (.int .u8 (n8 0)) := by
  rw [List.getElem?_toArray]
  unfold Bs
  rw [List.getElem?_map, List.getElem?_append_right (by simp; omega), List.getElem?_replicate, if_pos (by simp; omega)]
  rfl

theorem add128 (u : UInt64) : (128 + n64 (u % 128)) % (18446744073709551616 : Int) = n64 (128 + u % 128) := add64 128 (u % 128)
theorem or128_sum (u : UInt64) : n8 (128 + (u % 128).toUInt8) = n8 (u.toUInt8 ||| 128) := by
  congr 1
  apply UInt8.toNat_inj.1
  have h : ∀ k, k < 256 → k ||| 128 = 128 + k % 128 := by decide +kernel
  rw [UInt8.toNat_or, show (128 : UInt8).toNat = 128 by decide, show u.toUInt8.toNat = u.toNat % 256 by simp, h _ (Nat.mod_lt _ (by decide))]
  simp
  omega
theorem div_shr7 (u : UInt64) : u / (128 : UInt64) = u >>> (7 : UInt64) := by
  apply UInt64.toNat_inj.1
  rw [UInt64.toNat_div, UInt64.toNat_shiftRight, show (7 : UInt64).toNat % 64 = 7 by decide, Nat.shiftRight_eq_div_pow, show (128 : UInt64).toNat = 2 ^ 7 by decide]
attribute [local go_sem] add128 or128_sum

end Go.Proofs.YtonfeppenhebjaaDoor
