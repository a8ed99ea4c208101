/- Package turnstileref01: the walks of what writes. -/
import Derived.Test.YtjkocjkfedcdoaaDoorPackW
import Derived.Deep.DeepAppendWide
namespace Go.Proofs.YtjkocjkfedcdoaaDoor
open Go Go.RowKit
theorem mod_byte (u : UInt64) : (u % 256).toUInt8 = u.toUInt8 := by
  apply UInt8.toNat_inj.1
  simp
theorem mod_byte' (u : UInt64) : n8 (u % 256).toUInt8 = n8 u.toUInt8 := by rw [mod_byte]
theorem div_shr' (u : UInt64) : u / (256 : UInt64) = u >>> (8 : UInt64) := by
  apply UInt64.toNat_inj.1
  rw [UInt64.toNat_div, UInt64.toNat_shiftRight, show (8 : UInt64).toNat % 64 = 8 by decide, Nat.shiftRight_eq_div_pow, show (256 : UInt64).toNat = 2 ^ 8 by decide]
attribute [local go_sem] IntKind.wrap_u64 c64_8 c8_64 c16_64 c32_64 c64_16 c64_32 or8 and8 shr64_7 shr64_8 shl64_8 or64 and64 n64_self n8_self beq_n64 beq_n8 bne_n8 bne_n64 mod64_256 div64_256 mod64_128 div64_128 mod_byte'

/-- 'append(x, b)' onto an own row of bytes, with room up to 2e14 -/
theorem wpList_append_byte {P : Program} {w0 W : World} {ops : Array Oper} {rest : List Oper} {o : Oper} {a : Act} {Q : Exit → Act → World → Prop} (hgd : o.guard = none) (s x : Operand) (t e : TypeId) (z : Value)
    (ht : P.underlying t = some (.slice e)) (hinfo : (P.info? e).map (fun i => (i.zero, i.size, i.bytes)) = some (some z, 1, 1)) (hz : z.cells.size = 1)
    (ho : o.op = .call { callee := .builtin .append, args := #[s, x], argTypes := #[t, t] })
    (base : Nat) (v : Value) (l : List UInt8) (hs : a.eval s = v) (hown : Own W base e v (Bs l)) (hb : Below base w0 W) (hbase : base ≤ W.heap.size) (u : UInt8)
    (hx : a.eval x = .slice (some ⟨W.heap.size, 0, none⟩) 1 1) (hroom : l.length + 1 ≤ 200000000000000)
    (h : ∀ v' w', Own w' base e v' (Bs (l ++ [u])) → Below base w0 w' → wpList P ops Q rest (a.put o.dst v') w') : wpList P ops Q (o :: rest) a (W.alloc (.cells #[.int .u8 (n8 u)] e)) := by
  obtain ⟨i, hi, hz0, hz1, hz2⟩ := info_parts hinfo
  have hl : (Bs l).length = l.length := Bs_length l
  refine wpList_append_own_wide _ hgd s x t ho base e i z 1 1 ht hi hz0 hz1 hz2 hz (by decide) v (Bs l).length (Bs l) hs (World.ownsRow.alloc hown _) ⟨W.heap.size, 0, none⟩ 1 1 [.int .u8 (n8 u)] hx rfl ?_ ?_ (by unfold maxLen; omega) (by rw [hl]; omega) (by simp; omega) ?_
  · intro j w hw
    rw [Addr.add_mid, cell_of_row _ _ _ _ _ _ (heap_here W _ _ rfl)]
    cases j with
    | zero => simpa using hw
    | succ j => simp at hw
  · intro w hw
    simp only [List.mem_singleton] at hw
    subst hw; rfl
  · intro v' w' h1 h2 _
    refine h v' w' (by rw [← Bs_snoc]; unfold Own; simpa using h1) ?_
    refine (hb.alloc hbase _).grown h2 (by simp; omega) ?_
    intro k hk
    obtain ⟨_, h0⟩ := hown
    rcases h0 with ⟨rfl, _⟩ | ⟨g, cap, cur, rfl, hg, _⟩
    · simp [Value.ownBlock] at hk
    · simp [Value.ownBlock] at hk; omega

theorem copy_set (l : List UInt8) (k : Nat) (hk : k < l.length) : (Bs (l.take k ++ List.replicate (l.length - k) 0)).toArray.setIfInBounds k (.int .u8 (n8 l[k])) = (Bs (l.take (k + 1) ++ List.replicate (l.length - (k + 1)) 0)).toArray := by
  have e : (l.take k ++ List.replicate (l.length - k) 0).set k l[k] = l.take (k + 1) ++ List.replicate (l.length - (k + 1)) 0 := by
    have hl : (l.take k).length = k := by simp; omega
    rw [show l.length - k = (l.length - (k + 1)) + 1 by omega, List.replicate_succ, List.set_append_right _ _ (by omega), hl, Nat.sub_self, List.set_cons_zero, List.take_succ_eq_append_getElem hk]
    simp only [List.append_assoc, List.cons_append, List.nil_append]
  rw [← e]
  unfold Bs
  rw [List.map_set]
  simp
theorem copy_cell (l : List UInt8) (k : Nat) (hk : k < l.length) : (Bs (l.take k ++ List.replicate (l.length - k) 0)).toArray[k]? = some (.int .u8 (n8 0)) := by
  rw [List.getElem?_toArray]
  unfold Bs
  rw [List.getElem?_map, List.getElem?_append_right (by simp; omega), List.getElem?_replicate, if_pos (by simp; omega)]
  rfl

set_option maxRecDepth 100000 in
set_option maxHeartbeats 1600000 in
theorem copied_calls (A : Option Addr) (c : Nat) (l : List UInt8) (w : World) (hl : l.length ≤ 140737488355328) (hA : Cells w A (Bs l)) :
    Calls Tryd.prog 53 #[.slice A l.length c] w fun e w' => Gave w w' e l := by
  have HA := Go.Lib.hid hA
  have hb2 : 1 * l.length ≤ 281474976710656 := by omega
  have hb3 : l.length ≤ 9223372036854775807 := by omega
  clear hA
  go_enter Tryd.func53, Tryd.ntmps53
  go_wp2_with (first
    | ((with_reducible refine wpList_make_row (hg := rfl) (l := .tmp 6) (c := .tmp 6) (t := 26) (hop := ?_) (e := 5) (z := .int .u8 0) (bz := 1) (h1 := Tryd.underlying26) (h2 := info8) (hz := ?_) (n := l.length) (hl := ?_) (hc := ?_) (b2 := hb2) (b3 := hb3) (hK := ?_)); rfl; rfl; rfl; rfl; intro w5 hw5 hb5; have H5 := Go.Lib.hid hw5; have HB5 := Go.Lib.hid hb5; clear hw5 hb5))
  have H0 : Hid (w5.heap[w.heap.size]? = some (.cells (Bs (l.take 0 ++ List.replicate (l.length - 0) 0)).toArray 5 (0, 0))) := by
    have := H5.out
    show w5.heap[w.heap.size]? = _
    rw [this]
    simp [Bs]
    exact .inr rfl
  clear H5
  go_loopw [4] (fun i wr => ∃ k : Nat, k ≤ l.length ∧ i = .int .i64 (k : Int) ∧ Hid (wr.heap[w.heap.size]? = some (.cells (Bs (l.take k ++ List.replicate (l.length - k) 0)).toArray 5 (0, 0))) ∧ Hid (Below w.heap.size w wr)) (fun i _ => l.length - (intOf i).toNat)
  case atStart => exact ⟨0, by omega, rfl, H0, HB5⟩
  case round =>
    obtain ⟨k, hk, rfl, HH, HB⟩ := hrel
    clear H0 HB5
    by_cases hkl : k < l.length
    · obtain ⟨b, o, hAe, hcell⟩ := (cells_below HB.out HA.out) (by rw [Bs_length]; omega)
      have hck : wr.cell? ⟨b, o + k, none⟩ = some (.int .u8 (n8 l[k])) := by
        rw [hcell k (by rw [Bs_length]; omega)]
        simp [Bs]
      have hc2 := (cell_of_row wr w.heap.size k _ _ _ HH.out).trans (copy_cell l k hkl)
      have hf2 := heap_frozen HH.out k
      have HS := Go.Lib.hid (copy_set l k hkl)
      have hk0 : (0 : Int) ≤ (k : Int) := Int.natCast_nonneg _
      have hk1 : (k : Int) < (l.length : Int) := by omega
      subst hAe
      clear hcell
      generalize l[k] = y at *
      go_wp2
      go_roundw
      case rel =>
        have hh := heap_setCell_same wr w.heap.size k _ _ (.int .u8 (n8 y)) HH.out
        rw [HS.out] at hh
        exact ⟨k + 1, by omega, by go_num, hh, HB.out.setCell (Nat.le_refl _) _⟩
      case measure => simp [intOf]; omega
    · have hkn : k = l.length := by omega
      have hh := HH.out
      rw [hkn, List.take_length, Nat.sub_self, List.replicate_zero, List.append_nil] at hh
      have HX := Go.Lib.hid hh
      clear hh
      go_wp2
      go_ret
      exact ⟨_, rfl, ⟨by simp [Bs], .inr ⟨w.heap.size, l.length, _, by rw [Bs_length]; rfl, Nat.le_refl _, HX.out, by rw [Bs_length]; exact Nat.le_refl _, by unfold maxLen; omega, by simp [Bs], by rw [Nat.mul_one]; simp⟩⟩, HB.out⟩

set_option maxRecDepth 100000 in
set_option maxHeartbeats 1600000 in
theorem rput_calls (A : Option Addr) (c : Nat) (l : List UInt8) (x : UInt64) (n : Nat) (w : World) (hl : l.length ≤ 140737488351232) (hn : n ≤ 8) (hA : Cells w A (Bs l)) :
    Calls Tryd.prog 82 #[.slice A l.length c, .int .u64 (n64 x), .int .i64 (n : Int)] w fun e w' => Gave w w' e (l ++ leS x n) := by
  have HC := Go.Lib.hid (copied_calls A c l w (by omega) hA)
  clear hA
  go_enter Tryd.func82, Tryd.ntmps82
  go_wp2_with fail
  refine HC.out.mono ?_
  rintro e w6 ⟨v, rfl, hv, hb⟩
  have HO := Go.Lib.hid hv
  have HB6 := Go.Lib.hid hb
  clear hv hb HC
  go_wp2
  go_loopw [7, 1, 8] (fun v x' i wr => ∃ (k : Nat) (u : UInt64) (acc : List UInt8), k ≤ n ∧ i = .int .i64 (k : Int) ∧ x' = .int .u64 (n64 u) ∧ acc.length = k ∧ Hid (acc ++ leS u (n - k) = leS x n) ∧ Hid (Own wr w.heap.size 5 v (Bs (l ++ acc))) ∧ Hid (Below w.heap.size w wr)) (fun _ _ i _ => n - (intOf i).toNat)
  case atStart => exact ⟨0, x, [], by omega, rfl, rfl, rfl, rfl, by rw [List.append_nil]; exact HO.out, HB6⟩
  case round =>
    obtain ⟨k, u, acc, hk, rfl, rfl, hacc, HE, HV, HB⟩ := hrel
    clear HO HB6
    by_cases hkn : k < n
    · have hroom : (l ++ acc).length + 1 ≤ 200000000000000 := by rw [List.length_append]; omega
      have hsz := HB.out.size
      have hstep : acc ++ [u.toUInt8] ++ leS (u / 256) (n - (k + 1)) = leS x n := by
        have e := HE.out
        rw [show n - k = (n - (k + 1)) + 1 by omega] at e
        rw [← e, div_shr']
        simp [leS]
      have HS := Go.Lib.hid hstep
      clear hstep
      go_wp2_with (first
        | (at_builtin; (with_reducible refine wpList_append_byte (W := wr) (u := u.toUInt8) (base := w.heap.size) (l := l ++ acc) (s := .tmp 16) (x := .tmp 20) (hinfo := info8) (ht := Tryd.underlying26) (hown := HV.out) (hb := HB.out) (hbase := hsz) (hgd := rfl) (ho := ?_) (hz := ?_) (hs := ?_) (hx := ?_) (hroom := hroom) (h := ?_)); rfl; rfl; rfl; rfl; intro v1 wn hown1 hbn; have HO := Go.Lib.hid hown1; have HBN := Go.Lib.hid hbn; clear hown1 hbn))
      go_roundw
      case rel =>
        refine ⟨k + 1, u / 256, acc ++ [u.toUInt8], by omega, by go_num, rfl, by simp; omega, HS, ?_, HBN⟩
        have e := HO.out
        rw [List.append_assoc] at e
        exact e
      case measure => simp [intOf]; omega
    · have hkn' : k = n := by omega
      have hE := HE.out
      rw [hkn', Nat.sub_self, show leS u 0 = [] from rfl, List.append_nil] at hE
      have HS := Go.Lib.hid hE
      clear hE
      go_wp2
      go_ret
      refine ⟨_, rfl, ?_, HB.out⟩
      rw [← HS.out]
      exact HV.out

theorem rput_callsI (A : Option Addr) (c : Nat) (l : List UInt8) (x : UInt64) (n : Nat) (N : Int) (hN : N = (n : Int)) (w : World) (hl : l.length ≤ 140737488351232) (hn : n ≤ 8) (hA : Cells w A (Bs l)) :
    Calls Tryd.prog 82 #[.slice A l.length c, .int .u64 (n64 x), .int .i64 N] w fun e w' => Gave w w' e (l ++ leS x n) := by
  subst hN; exact rput_calls A c l x n w hl hn hA
theorem rPutU16_calls (A : Option Addr) (c : Nat) (l : List UInt8) (x : UInt16) (w : World) (hl : l.length ≤ 140737488351232) (hA : Cells w A (Bs l)) :
    Calls Tryd.prog 69 #[.slice A l.length c, .int .u16 (n16 x)] w fun e w' => Gave w w' e (l ++ leS x.toUInt64 2) := by
  go_enter Tryd.func69, Tryd.ntmps69
  go_wp2_with fail
  have h := rput_callsI A c l x.toUInt64 2 2 (by decide) w hl (by omega) hA
  refine h.mono ?_
  rintro e w' ⟨v, rfl, hv, hb⟩
  go_wp2
  go_ret
  exact ⟨v, rfl, hv, hb⟩
theorem rPutU32_calls (A : Option Addr) (c : Nat) (l : List UInt8) (x : UInt32) (w : World) (hl : l.length ≤ 140737488351232) (hA : Cells w A (Bs l)) :
    Calls Tryd.prog 70 #[.slice A l.length c, .int .u32 (n32 x)] w fun e w' => Gave w w' e (l ++ leS x.toUInt64 4) := by
  go_enter Tryd.func70, Tryd.ntmps70
  go_wp2_with fail
  have h := rput_callsI A c l x.toUInt64 4 4 (by decide) w hl (by omega) hA
  refine h.mono ?_
  rintro e w' ⟨v, rfl, hv, hb⟩
  go_wp2
  go_ret
  exact ⟨v, rfl, hv, hb⟩
theorem rPutU64_calls (A : Option Addr) (c : Nat) (l : List UInt8) (x : UInt64) (w : World) (hl : l.length ≤ 140737488351232) (hA : Cells w A (Bs l)) :
    Calls Tryd.prog 71 #[.slice A l.length c, .int .u64 (n64 x)] w fun e w' => Gave w w' e (l ++ leS x 8) := by
  go_enter Tryd.func71, Tryd.ntmps71
  go_wp2_with fail
  have h := rput_callsI A c l x 8 8 (by decide) w hl (by omega) hA
  refine h.mono ?_
  rintro e w' ⟨v, rfl, hv, hb⟩
  go_wp2
  go_ret
  exact ⟨v, rfl, hv, hb⟩

theorem add128 (u : UInt64) : (128 + n64 (u % 128)) % (18446744073709551616 : Int) = n64 (128 + u % 128) := add64 128 (u % 128)
theorem or128_sum (u : UInt64) : n8 (128 + (u % 128).toUInt8) = n8 (u.toUInt8 ||| 128) := by
  congr 1
  apply UInt8.toNat_inj.1
  have h : ∀ k, k < 256 → k ||| 128 = 128 + k % 128 := by decide +kernel
  rw [UInt8.toNat_or, show (128 : UInt8).toNat = 128 by decide, show u.toUInt8.toNat = u.toNat % 256 by simp, h _ (Nat.mod_lt _ (by decide))]
  simp
  omega
theorem div_shr7 (u : UInt64) : u / (128 : UInt64) = u >>> (7 : UInt64) := by
  apply UInt64.toNat_inj.1
  rw [UInt64.toNat_div, UInt64.toNat_shiftRight, show (7 : UInt64).toNat % 64 = 7 by decide, Nat.shiftRight_eq_div_pow, show (128 : UInt64).toNat = 2 ^ 7 by decide]
attribute [local go_sem] add128 or128_sum

set_option maxRecDepth 100000 in
set_option maxHeartbeats 1600000 in
theorem rputNumber_calls (A : Option Addr) (c : Nat) (l : List UInt8) (x : UInt64) (w : World) (hl : l.length ≤ 140737488351232) (hA : Cells w A (Bs l)) :
    Calls Tryd.prog 73 #[.slice A l.length c, .int .u64 (n64 x)] w fun e w' => Gave w w' e (l ++ numS x 9) := by
  have HX := Go.Lib.hid (show x.toNat < 2 ^ (64 - 7 * 0) from x.toNat_lt)
  have HC := Go.Lib.hid (copied_calls A c l w (by omega) hA)
  clear hA
  go_enter Tryd.func73, Tryd.ntmps73
  go_wp2_with fail
  refine HC.out.mono ?_
  rintro e w6 ⟨v, rfl, hv, hb⟩
  have HO := Go.Lib.hid hv
  have HB6 := Go.Lib.hid hb
  clear hv hb HC
  go_wp2
  go_loopw [5, 1] (fun v x' wr => ∃ (k : Nat) (u : UInt64) (acc : List UInt8), k ≤ 9 ∧ x' = .int .u64 (n64 u) ∧ acc.length = k ∧ Hid (u.toNat < 2 ^ (64 - 7 * k)) ∧ Hid (acc ++ numS u (9 - k) = numS x 9) ∧ Hid (Own wr w.heap.size 5 v (Bs (l ++ acc))) ∧ Hid (Below w.heap.size w wr)) (fun _ x' _ => (intOf x').toNat)
  case atStart => exact ⟨0, x, [], by omega, rfl, rfl, HX, rfl, by rw [List.append_nil]; exact HO.out, HB6⟩
  case round =>
    obtain ⟨k, u, acc, hk, rfl, hacc, HU, HE, HV, HB⟩ := hrel
    clear HO HB6 HX
    have hroom : (l ++ acc).length + 1 ≤ 200000000000000 := by rw [List.length_append]; omega
    have hsz := HB.out.size
    by_cases hgt : 127 < u
    · have hgi' := (gt127 u).1 hgt
      have hgi : (128 : Int) ≤ n64 u := by omega
      have hk8 : k ≤ 8 := by
        rcases Nat.lt_or_ge k 9 with h | h
        · omega
        · exfalso
          have hk9 : k = 9 := by omega
          have := HU.out
          rw [hk9] at this
          unfold n64 at hgi
          omega
      have HN := Go.Lib.hid (show (u / 128).toNat < 2 ^ (64 - 7 * (k + 1)) by rw [div_shr7]; exact shr7_lt u k hk8 HU.out)
      have hstep : acc ++ [u.toUInt8 ||| 128] ++ numS (u / 128) (9 - (k + 1)) = numS x 9 := by
        have e := HE.out
        rw [show 9 - k = (9 - (k + 1)) + 1 by omega, numS, if_pos hgt] at e
        rw [← e, div_shr7]
        simp
      have HS := Go.Lib.hid hstep
      have hdec : (u / 128).toNat < u.toNat := by
        rw [UInt64.toNat_div, show (128 : UInt64).toNat = 128 by decide]
        unfold n64 at hgi
        omega
      have HD := Go.Lib.hid hdec
      clear hstep hdec hgt HU HE hgi'
      go_wp2_with (first
        | (at_builtin; (with_reducible refine wpList_append_byte (W := wr) (u := u.toUInt8 ||| 128) (base := w.heap.size) (l := l ++ acc) (s := .tmp 10) (x := .tmp 15) (hinfo := info8) (ht := Tryd.underlying26) (hown := HV.out) (hb := HB.out) (hbase := hsz) (hgd := rfl) (ho := ?_) (hz := ?_) (hs := ?_) (hx := ?_) (hroom := hroom) (h := ?_)); rfl; rfl; rfl; rfl; intro v1 wn hown1 hbn; have HO := Go.Lib.hid hown1; have HBN := Go.Lib.hid hbn; clear hown1 hbn))
      go_roundw
      case rel =>
        refine ⟨k + 1, u / 128, acc ++ [u.toUInt8 ||| 128], by omega, rfl, by simp; omega, HN, HS, ?_, HBN⟩
        have e := HO.out
        rw [List.append_assoc] at e
        exact e
      case measure => have := HD.out; simp [intOf, n64] at this ⊢; exact this
    · have hgi : ¬ (128 : Int) ≤ n64 u := fun h => hgt ((gt127 u).2 (by omega))
      have hE : acc ++ [u.toUInt8] = numS x 9 := by
        rw [← HE.out]
        cases 9 - k with
        | zero => rfl
        | succ n => rw [numS, if_neg hgt]
      have HS := Go.Lib.hid hE
      clear hE hgt HU HE
      go_wp2_with (first
        | (at_builtin; (with_reducible refine wpList_append_byte (W := wr) (u := u.toUInt8) (base := w.heap.size) (l := l ++ acc) (s := .tmp 19) (x := .tmp 22) (hinfo := info8) (ht := Tryd.underlying26) (hown := HV.out) (hb := HB.out) (hbase := hsz) (hgd := rfl) (ho := ?_) (hz := ?_) (hs := ?_) (hx := ?_) (hroom := hroom) (h := ?_)); rfl; rfl; rfl; rfl; intro v1 wn hown1 hbn; have HO := Go.Lib.hid hown1; have HBN := Go.Lib.hid hbn; clear hown1 hbn))
      go_ret
      refine ⟨_, rfl, ?_, HBN.out⟩
      have e := HO.out
      rw [List.append_assoc, HS.out] at e
      exact e
end Go.Proofs.YtjkocjkfedcdoaaDoor
