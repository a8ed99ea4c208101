/- Package turnstileref11: what writes. -/
import Derived.Test.YtonfeppenhebjaaDoorReqTP
import Derived.Test.YtonfeppenhebjaaDoorRefT
namespace Go.Proofs.YtonfeppenhebjaaDoor
open Go Go.RowKit
set_option linter.unusedVariables false
set_option linter.unusedSimpArgs false
attribute [local go_sem] IntKind.wrap_u64 c64_8 c8_64 c16_64 c32_64 c64_16 c64_32 or8 and8 n64_self n8_self beq_n64 beq_n8 bne_n8 bne_n64 mod64_256 div64_256 mod_byte' mul64_256 add64 str_at

/-- blocks that hold no bytes stay -/
def KeepN (w w' : World) : Prop := ∀ (x : Nat) (cs : Array Value) (T : Nat) (fr : Nat × Nat), w.heap[x]? = some (Obj.cells cs T fr) → T ≠ 5 → w'.heap[x]? = some (Obj.cells cs T fr)
theorem keepN_refl (w : World) : KeepN w w := fun _ _ _ _ h _ => h
theorem keepN_trans {a b c : World} (h : KeepN a b) (k : KeepN b c) : KeepN a c := fun x cs T fr hx hT => k x cs T fr (h x cs T fr hx hT) hT
theorem keepN_below {a b : World} (h : Below a.heap.size a b) : KeepN a b := fun _ _ _ _ hx _ => below_heap h hx
theorem keepN_grown {a W w' : World} {base : Nat} {v : Value} {vs : List Value} (h : KeepN a W) (ho : Own W base 5 v vs) (hg : W.grownBy w' v.ownBlock) : KeepN a w' :=
  fun x cs T fr hx hT => grown_heap ho hg (h x cs T fr hx hT) hT
/-- what an append in place gives: an own row of bytes from B on; nothing below B and no block of another kind has changed -/
def GaveP (B : Nat) (w w' : World) (e : Ending) (l : List UInt8) : Prop := ∃ v, e = .returned v ∧ Own w' B 5 v (Bs l) ∧ Below B w w' ∧ KeepN w w'

set_option maxRecDepth 100000 in
set_option maxHeartbeats 1600000 in
theorem put11_calls (B : Nat) (v : Value) (l : List UInt8) (x : UInt64) (n : Nat) (N : Int) (hN : N = (n : Int)) (w : World) (hB : B ≤ w.heap.size) (hl : l.length ≤ 140737488351232) (hn : n ≤ 8) (hv : Own w B 5 v (Bs l)) :
    Calls Tryd.prog 40 #[v, .int .u64 (n64 x), .int .i64 N] w fun e w' => GaveP B w w' e (l ++ leS x n) := by
  subst hN
  have HV0 := Go.Lib.hid hv
  clear hv
  go_enter Tryd.func40, Tryd.ntmps40
  go_wp2
  go_loopw [0, 1, 7] (fun v x' i wr => ∃ (k : Nat) (u : UInt64) (acc : List UInt8), k ≤ n ∧ i = .int .i64 (k : Int) ∧ x' = .int .u64 (n64 u) ∧ acc.length = k ∧ Hid (acc ++ leS u (n - k) = leS x n) ∧ Hid (Own wr B 5 v (Bs (l ++ acc))) ∧ Hid (Below B w wr) ∧ Hid (KeepN w wr)) (fun _ _ i _ => n - (intOf i).toNat)
  case atStart => exact ⟨0, x, [], by omega, rfl, rfl, rfl, rfl, by rw [List.append_nil]; exact HV0.out, Below.refl _ _, keepN_refl w⟩
  case round =>
    obtain ⟨k, u, acc, hk, rfl, rfl, hacc, HE, HV, HB, HK⟩ := hrel
    clear HV0
    by_cases hkn : k < n
    · have hroom : (((Bs (l ++ acc)).length + 1) + ((Bs (l ++ acc)).length + 1) / 4 + 192) * 1 ≤ 281474976710656 := by rw [Bs_length, List.length_append]; omega
      have hmax : (Bs (l ++ acc)).length + 1 ≤ 9223372036854775807 := by rw [Bs_length, List.length_append]; omega
      have hsz := Nat.le_trans hB HB.out.size
      have hstep : acc ++ [u.toUInt8] ++ leS (u / 256) (n - (k + 1)) = leS x n := by
        have e := HE.out
        rw [show n - k = (n - (k + 1)) + 1 by omega] at e
        rw [← e, div_shr']
        simp [leS]
      have HS := Go.Lib.hid hstep
      clear hstep
      go_wp2_with (first
        | (at_builtin; (with_reducible refine wpList_append_val (W := wr) (u := .int .u8 (n8 u.toUInt8)) (base := B) (vs := Bs (l ++ acc)) (s := .tmp 13) (x := .tmp 17) (t := 37) (e := 5) (z := .int .u8 0) (bytes := 1) (hinfo := info8) (ht := Tryd.underlying37) (hown := HV.out) (hbase := hsz) (hgd := rfl) (ho := ?_) (hz := ?_) (hs := ?_) (hu := ?_) (hx := ?_) (hroom := hroom) (hmax := hmax) (h := ?_)); rfl; rfl; rfl; rfl; rfl; intro v1 wn hown1 hgr; have HO := Go.Lib.hid hown1; have HBN := Go.Lib.hid (below_grown HB.out HV.out hgr (Nat.le_refl _) hsz); have HKN := Go.Lib.hid (keepN_grown HK.out HV.out hgr); clear hown1 hgr))
      go_roundw
      case rel =>
        refine ⟨k + 1, u / 256, acc ++ [u.toUInt8], by omega, by go_num, rfl, by simp; omega, HS, ?_, HBN, HKN⟩
        have e := HO.out
        rw [Bs_snoc, List.append_assoc] at e
        exact e
      case measure => simp [intOf]; omega
    · have hkn' : k = n := by omega
      have hE := HE.out
      rw [hkn', Nat.sub_self, show leS u 0 = [] from rfl, List.append_nil] at hE
      have HS := Go.Lib.hid hE
      clear hE
      go_wp2
      go_ret
      refine ⟨_, rfl, ?_, HB.out, HK.out⟩
      rw [← HS.out]
      exact HV.out

set_option maxRecDepth 100000 in
set_option maxHeartbeats 1600000 in
theorem putText11_calls (B : Nat) (v : Value) (l s : List UInt8) (w : World) (hB : B ≤ w.heap.size) (hl : l.length ≤ 100000000000000) (hs : s.length ≤ 65535) (hv : Own w B 5 v (Bs l)) :
    Calls Tryd.prog 38 #[v, .string ⟨s.toArray⟩] w fun e w' => GaveP B w w' e (l ++ leS (UInt64.ofNat s.length) 2 ++ s) := by
  have hle := len_u64 s.length (by omega)
  have HP := Go.Lib.hid (put11_calls B v l (UInt64.ofNat s.length) 2 2 (by decide) w hB (by omega) (by omega) hv)
  have HL := Go.Lib.hid (show (l ++ leS (UInt64.ofNat s.length) 2).length = l.length + 2 by rw [List.length_append, leS_length])
  clear hv
  obtain ⟨q, hq⟩ : ∃ q, q = l ++ leS (UInt64.ofNat s.length) 2 := ⟨_, rfl⟩
  rw [← hq] at HP HL ⊢
  clear hq
  go_enter Tryd.func38, Tryd.ntmps38
  go_wp2_with fail
  refine HP.out.mono ?_
  rintro e w1 ⟨v, rfl, hv, hb, hkn⟩
  have HV := Go.Lib.hid hv
  have HB := Go.Lib.hid hb
  have HKN := Go.Lib.hid hkn
  clear hv hb hkn HP
  go_wp2
  go_loopw [0, 5] (fun v i wr => ∃ k : Nat, k ≤ s.length ∧ i = .int .i64 (k : Int) ∧ Hid (Own wr B 5 v (Bs (q ++ s.take k))) ∧ Hid (Below B w wr) ∧ Hid (KeepN w wr)) (fun _ i _ => s.length - (intOf i).toNat)
  case atStart => exact ⟨0, by omega, rfl, by rw [List.take_zero, List.append_nil]; exact HV.out, HB, HKN⟩
  case round =>
    obtain ⟨k, hk, rfl, HV', HB', HK'⟩ := hrel
    clear HV HB HKN
    by_cases hkl : k < s.length
    · have hroom : (((Bs (q ++ s.take k)).length + 1) + ((Bs (q ++ s.take k)).length + 1) / 4 + 192) * 1 ≤ 281474976710656 := by rw [Bs_length, List.length_append, HL.out, List.length_take]; omega
      have hmax : (Bs (q ++ s.take k)).length + 1 ≤ 9223372036854775807 := by rw [Bs_length, List.length_append, HL.out, List.length_take]; omega
      have hsz := Nat.le_trans hB HB'.out.size
      go_wp2_with (first
        | (at_builtin; (with_reducible refine wpList_append_val (W := wr) (u := .int .u8 (n8 s[k])) (base := B) (vs := Bs (q ++ s.take k)) (s := .tmp 17) (x := .tmp 21) (t := 37) (e := 5) (z := .int .u8 0) (bytes := 1) (hinfo := info8) (ht := Tryd.underlying37) (hown := HV'.out) (hbase := hsz) (hgd := rfl) (ho := ?_) (hz := ?_) (hs := ?_) (hu := ?_) (hx := ?_) (hroom := hroom) (hmax := hmax) (h := ?_)); rfl; rfl; rfl; rfl; rfl; intro v1 wn hown1 hgr; have HO := Go.Lib.hid hown1; have HBN := Go.Lib.hid (below_grown HB'.out HV'.out hgr (Nat.le_refl _) hsz); have HKN := Go.Lib.hid (keepN_grown HK'.out HV'.out hgr); clear hown1 hgr))
      go_roundw
      case rel =>
        refine ⟨k + 1, by omega, by go_num, ?_, HBN, HKN⟩
        have e := HO.out
        rw [Bs_snoc, List.append_assoc, ← List.take_succ_eq_append_getElem hkl] at e
        exact e
      case measure => simp [intOf]; omega
    · have hkn : k = s.length := by omega
      have e := HV'.out
      rw [hkn, List.take_length] at e
      have HX := Go.Lib.hid e
      clear e HV'
      go_wp2
      go_ret
      exact ⟨_, rfl, HX.out, HB'.out, HK'.out⟩

attribute [local go_sem] wrap_b8
set_option maxRecDepth 100000 in
set_option maxHeartbeats 1600000 in
theorem putPolicy11_calls (B : Nat) (v : Value) (l : List UInt8) (p : Pol) (w : World) (hk : p.kind = 1 ∨ p.kind = 2) (hB : B ≤ w.heap.size) (hl : l.length ≤ 1000000) (hv : Own w B 5 v (Bs l)) :
    Calls Tryd.prog 39 #[v, .agg (polA p)] w fun e w' => GaveP B w w' e (l ++ polB p) := by
  obtain ⟨kind, gap, slack, limit, span⟩ := p
  simp only at hk
  have hroom : (((Bs l).length + 1) + ((Bs l).length + 1) / 4 + 192) * 1 ≤ 281474976710656 := by rw [Bs_length]; omega
  have hmax : (Bs l).length + 1 ≤ 9223372036854775807 := by rw [Bs_length]; omega
  simp only [polA]
  rcases hk with rfl | rfl
  · skip
    have hbx : Below w.heap.size w (w.alloc (.cells #[.int .i64 1, .int .u64 (n64 gap), .int .u64 (n64 slack), .int .u64 (n64 limit), .int .u64 (n64 span)] 28)) := (Below.refl _ _).alloc (Nat.le_refl _) _
    have HV := Go.Lib.hid (own_drewless hv hbx)
    have HBX := Go.Lib.hid (hbx.mono hB)
    have HKX := Go.Lib.hid (keepN_below hbx)
    have hsz : B ≤ (w.alloc (.cells #[.int .i64 1, .int .u64 (n64 gap), .int .u64 (n64 slack), .int .u64 (n64 limit), .int .u64 (n64 span)] 28)).heap.size := Nat.le_trans hB hbx.size
    rw [show polB ⟨1, gap, slack, limit, span⟩ = b8 1 :: (leS gap 8 ++ leS slack 8) from rfl]
    clear hv hbx
    go_enter Tryd.func39, Tryd.ntmps39
    go_wp2_with (first
      | (at_builtin; (with_reducible refine wpList_append_valN (W := w.alloc (.cells #[.int .i64 1, .int .u64 (n64 gap), .int .u64 (n64 slack), .int .u64 (n64 limit), .int .u64 (n64 span)] 28)) (u := .int .u8 (n8 (b8 1))) (base := B) (vs := Bs l) (s := .tmp 5) (x := .tmp 9) (t := 37) (e := 5) (z := .int .u8 0) (bytes := 1) (hinfo := info8) (ht := Tryd.underlying37) (hown := HV.out) (hbase := hsz) (hgd := rfl) (ho := ?_) (hz := ?_) (hs := ?_) (hu := ?_) (n := w.heap.size + 1) (hn := ?_) (hx := ?_) (hroom := hroom) (hmax := hmax) (h := ?_)); rfl; rfl; rfl; rfl; simp; rfl; intro v4 w4 hown4 hgr4; have HO := Go.Lib.hid hown4; have HB4 := Go.Lib.hid (below_grown HBX.out HV.out hgr4 (Nat.le_refl _) hsz); have HK4 := Go.Lib.hid (keepN_grown HKX.out HV.out hgr4); have HH4 := Go.Lib.hid (grown_heap HV.out hgr4 (heap_here w _ w.heap.size rfl) (by decide)); have c0 := blk_cell HH4.out 0 (.int .i64 1) rfl; have c1 := blk_cell HH4.out 1 (.int .u64 (n64 gap)) rfl; clear hown4 hgr4))
    have hl4 : (l ++ [b8 1]).length ≤ 1000001 := by simp; omega
    have hO4 := HO.out
    rw [Bs_snoc] at hO4
    have HO4 := Go.Lib.hid hO4
    clear hO4 HO
    refine (put11_calls B v4 (l ++ [b8 1]) gap 8 8 (by decide) w4 (Nat.le_trans hB HB4.out.size) (by omega) (by omega) HO4.out).mono ?_
    rintro e w5 ⟨v5, rfl, h1, h2, h3⟩
    have HO5 := Go.Lib.hid h1
    have HB5 := Go.Lib.hid (HB4.out.trans h2)
    have HK5 := Go.Lib.hid (keepN_trans HK4.out h3)
    have HH5 := Go.Lib.hid (h3 _ _ _ _ HH4.out (by decide))
    have c2 := blk_cell HH5.out 2 (.int .u64 (n64 slack)) rfl
    clear h1 h2 h3 c0 c1
    go_wp2_with fail
    refine (put11_calls B v5 (l ++ [b8 1] ++ leS gap 8) slack 8 8 (by decide) w5 (Nat.le_trans hB HB5.out.size) (by rw [List.length_append, leS_length]; omega) (by omega) HO5.out).mono ?_
    rintro e w6 ⟨v6, rfl, h1, h2, h3⟩
    have HO6 := Go.Lib.hid h1
    have HB6 := Go.Lib.hid (HB5.out.trans h2)
    have HK6 := Go.Lib.hid (keepN_trans HK5.out h3)
    clear h1 h2 h3 c2
    go_wp2
    go_ret
    refine ⟨_, rfl, ?_, HB6.out, HK6.out⟩
    have h := HO6.out
    simpa using h
  · skip
    have hbx : Below w.heap.size w (w.alloc (.cells #[.int .i64 2, .int .u64 (n64 gap), .int .u64 (n64 slack), .int .u64 (n64 limit), .int .u64 (n64 span)] 28)) := (Below.refl _ _).alloc (Nat.le_refl _) _
    have HV := Go.Lib.hid (own_drewless hv hbx)
    have HBX := Go.Lib.hid (hbx.mono hB)
    have HKX := Go.Lib.hid (keepN_below hbx)
    have hsz : B ≤ (w.alloc (.cells #[.int .i64 2, .int .u64 (n64 gap), .int .u64 (n64 slack), .int .u64 (n64 limit), .int .u64 (n64 span)] 28)).heap.size := Nat.le_trans hB hbx.size
    rw [show polB ⟨2, gap, slack, limit, span⟩ = b8 2 :: (leS limit 8 ++ leS span 8) from rfl]
    clear hv hbx
    go_enter Tryd.func39, Tryd.ntmps39
    go_wp2_with (first
      | (at_builtin; (with_reducible refine wpList_append_valN (W := w.alloc (.cells #[.int .i64 2, .int .u64 (n64 gap), .int .u64 (n64 slack), .int .u64 (n64 limit), .int .u64 (n64 span)] 28)) (u := .int .u8 (n8 (b8 2))) (base := B) (vs := Bs l) (s := .tmp 5) (x := .tmp 9) (t := 37) (e := 5) (z := .int .u8 0) (bytes := 1) (hinfo := info8) (ht := Tryd.underlying37) (hown := HV.out) (hbase := hsz) (hgd := rfl) (ho := ?_) (hz := ?_) (hs := ?_) (hu := ?_) (n := w.heap.size + 1) (hn := ?_) (hx := ?_) (hroom := hroom) (hmax := hmax) (h := ?_)); rfl; rfl; rfl; rfl; simp; rfl; intro v4 w4 hown4 hgr4; have HO := Go.Lib.hid hown4; have HB4 := Go.Lib.hid (below_grown HBX.out HV.out hgr4 (Nat.le_refl _) hsz); have HK4 := Go.Lib.hid (keepN_grown HKX.out HV.out hgr4); have HH4 := Go.Lib.hid (grown_heap HV.out hgr4 (heap_here w _ w.heap.size rfl) (by decide)); have c0 := blk_cell HH4.out 0 (.int .i64 2) rfl; have c1 := blk_cell HH4.out 3 (.int .u64 (n64 limit)) rfl; clear hown4 hgr4))
    have hl4 : (l ++ [b8 2]).length ≤ 1000001 := by simp; omega
    have hO4 := HO.out
    rw [Bs_snoc] at hO4
    have HO4 := Go.Lib.hid hO4
    clear hO4 HO
    refine (put11_calls B v4 (l ++ [b8 2]) limit 8 8 (by decide) w4 (Nat.le_trans hB HB4.out.size) (by omega) (by omega) HO4.out).mono ?_
    rintro e w5 ⟨v5, rfl, h1, h2, h3⟩
    have HO5 := Go.Lib.hid h1
    have HB5 := Go.Lib.hid (HB4.out.trans h2)
    have HK5 := Go.Lib.hid (keepN_trans HK4.out h3)
    have HH5 := Go.Lib.hid (h3 _ _ _ _ HH4.out (by decide))
    have c2 := blk_cell HH5.out 4 (.int .u64 (n64 span)) rfl
    clear h1 h2 h3 c0 c1
    go_wp2_with fail
    refine (put11_calls B v5 (l ++ [b8 2] ++ leS limit 8) span 8 8 (by decide) w5 (Nat.le_trans hB HB5.out.size) (by rw [List.length_append, leS_length]; omega) (by omega) HO5.out).mono ?_
    rintro e w6 ⟨v6, rfl, h1, h2, h3⟩
    have HO6 := Go.Lib.hid h1
    have HB6 := Go.Lib.hid (HB5.out.trans h2)
    have HK6 := Go.Lib.hid (keepN_trans HK5.out h3)
    clear h1 h2 h3 c2
    go_wp2
    go_ret
    refine ⟨_, rfl, ?_, HB6.out, HK6.out⟩
    have h := HO6.out
    simpa using h
end Go.Proofs.YtonfeppenhebjaaDoor
