/- Package turnstileref08: Number, put, Numbered, summed, named. -/
import Derived.Test.YtipjdkdonmoojaaDoorBlkA
namespace Go.Proofs.YtipjdkdonmoojaaDoor
open Go Go.RowKit
set_option linter.unusedVariables false
set_option linter.unusedSimpArgs false
attribute [local go_sem] IntKind.wrap_u64 c64_8 c8_64 c32_64 c64_32 n64_self n8_self n32_self beq_n64 beq_n8 bne_n8 bne_n64 mod64_256 div64_256 mul64_256 add64

theorem mod_byte8 (u : UInt64) : n8 (u % 256).toUInt8 = n8 u.toUInt8 := by
  unfold n8
  simp
theorem div_shr8 (u : UInt64) : u / (256 : UInt64) = u >>> (8 : UInt64) := by
  apply UInt64.toNat_inj.1
  rw [UInt64.toNat_div, UInt64.toNat_shiftRight, show (8 : UInt64).toNat % 64 = 8 by decide, Nat.shiftRight_eq_div_pow]
  rfl
attribute [local go_sem] mod_byte8

set_option maxRecDepth 100000 in
set_option maxHeartbeats 1600000 in
theorem put8_calls (B : Nat) (v : Value) (l : List UInt8) (x : UInt64) (n : Nat) (N : Int) (hN : N = (n : Int)) (w : World) (hB : B ≤ w.heap.size) (hl : l.length ≤ 140737488351232) (hn : n ≤ 8) (hv : Own w B 5 v (Bs l)) :
    Calls Tryd.prog 41 #[v, .int .u64 (n64 x), .int .i64 N] w fun e w' => ∃ v', e = .returned v' ∧ Own w' B 5 v' (Bs (l ++ leS x n)) ∧ Below B w w' := by
  subst hN
  have HV0 := Go.Lib.hid hv
  clear hv
  go_enter Tryd.func41, Tryd.ntmps41
  go_wp2
  go_loopw [0, 1, 7] (fun v x' i wr => ∃ (k : Nat) (u : UInt64) (acc : List UInt8), k ≤ n ∧ i = .int .i64 (k : Int) ∧ x' = .int .u64 (n64 u) ∧ acc.length = k ∧ Hid (acc ++ leS u (n - k) = leS x n) ∧ Hid (Own wr B 5 v (Bs (l ++ acc))) ∧ Hid (Below B w wr)) (fun _ _ i _ => n - (intOf i).toNat)
  case atStart => exact ⟨0, x, [], by omega, rfl, rfl, rfl, rfl, by rw [List.append_nil]; exact HV0.out, Below.refl _ _⟩
  case round =>
    obtain ⟨k, u, acc, hk, rfl, rfl, hacc, HE, HV, HB⟩ := hrel
    clear HV0
    by_cases hkn : k < n
    · have hroom : (((Bs (l ++ acc)).length + 1) + ((Bs (l ++ acc)).length + 1) / 4 + 192) * 1 ≤ 281474976710656 := by rw [Bs_length, List.length_append]; omega
      have hmax : (Bs (l ++ acc)).length + 1 ≤ 9223372036854775807 := by rw [Bs_length, List.length_append]; omega
      have hsz := Nat.le_trans hB HB.out.size
      have hstep : acc ++ [u.toUInt8] ++ leS (u / 256) (n - (k + 1)) = leS x n := by
        have e := HE.out
        rw [show n - k = (n - (k + 1)) + 1 by omega] at e
        rw [← e, div_shr8]
        simp [leS]
      have HS := Go.Lib.hid hstep
      clear hstep
      go_wp2_with (first
        | (at_builtin; (with_reducible refine wpList_append_val (W := wr) (u := .int .u8 (n8 u.toUInt8)) (base := B) (vs := Bs (l ++ acc)) (s := .tmp 13) (x := .tmp 17) (t := 28) (e := 5) (z := .int .u8 0) (bytes := 1) (hinfo := info8) (ht := Tryd.underlying28) (hown := HV.out) (hbase := hsz) (hgd := rfl) (ho := ?_) (hz := ?_) (hs := ?_) (hu := ?_) (hx := ?_) (hroom := hroom) (hmax := hmax) (h := ?_)); rfl; rfl; rfl; rfl; rfl; intro v1 wn hown1 hgr; have HO := Go.Lib.hid hown1; have HBN := Go.Lib.hid (below_grown HB.out HV.out hgr (Nat.le_refl _) hsz); clear hown1 hgr))
      go_roundw
      case rel =>
        refine ⟨k + 1, u / 256, acc ++ [u.toUInt8], by omega, by go_num, rfl, by simp; omega, HS, ?_, HBN⟩
        have e := HO.out
        rw [Bs_snoc, List.append_assoc] at e
        exact e
      case measure => simp [intOf]; omega
    · have hkn' : k = n := by omega
      have hE := HE.out
      rw [hkn', Nat.sub_self, show leS u 0 = [] from rfl, List.append_nil] at hE
      have HS := Go.Lib.hid hE
      clear hE
      go_wp2
      go_ret
      refine ⟨_, rfl, ?_, HB.out⟩
      rw [← HS.out]
      exact HV.out

set_option maxRecDepth 100000 in
set_option maxHeartbeats 1600000 in
theorem number8_calls (A : Option Addr) (c : Nat) (b : List UInt8) (a n : Nat) (N M : Int) (hN : N = (n : Int)) (hM : M = (a : Int)) (w : World) (hn1 : 1 ≤ n) (hn : n ≤ 8) (hb : b.length ≤ 4294967296) (han : a + n ≤ b.length) (hA : Cells w A (Bs b)) :
    Calls Tryd.prog 44 #[.slice A b.length c, .int .i64 M, .int .i64 N] w fun e w' => e = .returned (.int .u64 (n64 (leV ((b.drop a).take n)))) ∧ DrN w w' := by
  subst hN
  subst hM
  have HA := Go.Lib.hid hA
  have HLN := Go.Lib.hid (show ((b.drop a).take n).length = n by rw [List.length_take, List.length_drop]; omega)
  have hwr : IntKind.i64.wrap ((n : Int) - 1) = (n : Int) - 1 := by rw [IntKind.wrap_i64]; omega
  clear hA
  go_enter Tryd.func44, Tryd.ntmps44
  go_wp2
  go_loopw [7, 8] (fun x i wr => ∃ (z : Int) (u : UInt64), Hid (DrN w wr) ∧ -1 ≤ z ∧ z < (n : Int) ∧ i = .int .i64 z ∧ x = .int .u64 (n64 u) ∧ Hid (u = leV (((b.drop a).take n).drop (z + 1).toNat))) (fun _ i _ => (intOf i + 1).toNat)
  case atStart => exact ⟨(n : Int) - 1, 0, drN_refl w, by omega, by omega, rfl, rfl, by rw [show ((n : Int) - 1 + 1).toNat = ((b.drop a).take n).length by rw [HLN.out]; omega, List.drop_length]; rfl⟩
  case round =>
    obtain ⟨z, u, HD, hz, hzl, rfl, rfl, HU⟩ := hrel
    by_cases h0 : 0 ≤ z
    · obtain ⟨j, rfl⟩ : ∃ j : Nat, z = (j : Int) := ⟨z.toNat, by omega⟩
      have hjl : j < n := by omega
      obtain ⟨K, hK⟩ : ∃ K, K = a + j := ⟨_, rfl⟩
      have hj : K < b.length := by omega
      have hj' : j < ((b.drop a).take n).length := by rw [HLN.out]; omega
      obtain ⟨bb, o, rfl, hcell⟩ := HA.out.byte K hj
      have hck : wr.cell? ⟨bb, o + K, none⟩ = some (.int .u8 (n8 b[K])) := below_cell (drN_below HD.out _) hcell
      have hbk : b[K] = ((b.drop a).take n)[j] := by
        rw [List.getElem_take]
        simp only [List.getElem_drop, hK]
      have hnext : (u <<< (8 : UInt64)) + b[K].toUInt64 = leV (((b.drop a).take n).drop j) := by
        rw [shl_or, HU.out, show ((j : Int) + 1).toNat = j + 1 by omega, List.drop_eq_getElem_cons hj', hbk]
        rfl
      have hwj : IntKind.i64.wrap ((j : Int) - 1) = (j : Int) - 1 := by rw [IntKind.wrap_i64]; omega
      have hwk : IntKind.i64.wrap ((a : Int) + (j : Int)) = (K : Int) := by rw [IntKind.wrap_i64]; omega
      have hj0 : (0 : Int) ≤ (K : Int) := Int.natCast_nonneg _
      have hj1 : (K : Int) < (b.length : Int) := by omega
      have hjj : (0 : Int) ≤ (j : Int) := Int.natCast_nonneg _
      have HN := Go.Lib.hid hnext
      have hmul : u * 256 + b[K].toUInt64 = (u <<< (8 : UInt64)) + b[K].toUInt64 := by
        congr 1
        apply UInt64.toNat_inj.1
        rw [UInt64.toNat_mul, UInt64.toNat_shiftLeft, show (8 : UInt64).toNat % 64 = 8 by decide, Nat.shiftLeft_eq, show (256 : UInt64).toNat = 2 ^ 8 by decide]
      have HMUL := Go.Lib.hid hmul
      clear hcell hnext HU hj' hbk hK hmul
      generalize b[K] = y at *
      go_wp2
      go_roundw
      case rel => exact ⟨(j : Int) - 1, _, HD, by omega, by omega, rfl, rfl, by rw [show ((j : Int) - 1 + 1).toNat = j by omega, ← HN.out, ← HMUL.out]; rfl⟩
      case measure => simp [intOf]
    · have hz1 : z = -1 := by omega
      have hu := HU.out
      rw [hz1] at hu
      have HL := Go.Lib.hid (show leV ((b.drop a).take n) = u by rw [hu]; rfl)
      clear hu HU
      subst hz1
      go_wp2
      go_ret
      exact ⟨by rw [HL.out]; rfl, HD.out⟩

set_option maxRecDepth 100000 in
set_option maxHeartbeats 800000 in
theorem numbered8_calls (first : UInt64) (n : Nat) (w : World) (h1 : 1 ≤ n) (hn : n ≤ 9223372036854775807) :
    Calls Tryd.prog 40 #[.int .u64 (n64 first), .int .i64 (n : Int)] w fun e w' => e = .returned (.bool (numOK first n)) ∧ w' = w := by
  have hf := first.toNat_lt
  have hz : n64 first = (first.toNat : Int) := rfl
  by_cases ha : 1 ≤ first.toNat
  case neg =>
    have hN : numOK first n = false := decide_eq_false (by omega)
    rw [hN, hz]
    have d1 : decide ((1 : Int) ≤ (first.toNat : Int)) = false := decide_eq_false (by omega)
    have d2 : decide (1 ≤ first.toNat) = false := decide_eq_false ha
    generalize first.toNat = f at *
    clear hz hN
    go_enter Tryd.func40, Tryd.ntmps40
    go_wp2
    go_ret
    exact ⟨rfl, rfl⟩
  by_cases hb : first.toNat ≤ 4611686018427387904
  case neg =>
    have hN : numOK first n = false := decide_eq_false (by omega)
    rw [hN, hz]
    have d1 : decide ((1 : Int) ≤ (first.toNat : Int)) = true := decide_eq_true (by omega)
    have d3 : decide ((first.toNat : Int) ≤ (4611686018427387904 : Int)) = false := decide_eq_false (by omega)
    generalize first.toNat = f at *
    clear hz hN
    go_enter Tryd.func40, Tryd.ntmps40
    go_wp2
    go_ret
    exact ⟨rfl, rfl⟩
  have hN : numOK first n = decide (n ≤ 4611686018427387904 - first.toNat + 1) := by unfold numOK; exact decide_eq_decide.2 ⟨fun h => by omega, fun h => by omega⟩
  rw [hN, hz]
  have d1 : decide ((1 : Int) ≤ (first.toNat : Int)) = true := decide_eq_true (by omega)
  have d3 : decide ((first.toNat : Int) ≤ (4611686018427387904 : Int)) = true := decide_eq_true (by omega)
  obtain ⟨r, hr⟩ : ∃ r, r = 4611686018427387904 - first.toNat := ⟨_, rfl⟩
  obtain ⟨m, hm⟩ : ∃ m, m = r + 1 := ⟨_, rfl⟩
  have w1 : (n : Int) % 18446744073709551616 = (n : Int) := by omega
  have w3 : (4611686018427387904 - (first.toNat : Int)) % 18446744073709551616 = (r : Int) := by omega
  have w2 : ((r : Int) + 1) % 18446744073709551616 = (m : Int) := by omega
  rw [← hr, ← hm]
  generalize first.toNat = f at *
  clear hz hN hm hr
  by_cases hmr : n ≤ m
  · have e1 : decide (n ≤ m) = true := decide_eq_true hmr
    have e2 : decide ((n : Int) ≤ (m : Int)) = true := decide_eq_true (by omega)
    rw [e1]
    go_enter Tryd.func40, Tryd.ntmps40
    go_wp2
    go_ret
    exact ⟨rfl, rfl⟩
  · have e1 : decide (n ≤ m) = false := decide_eq_false hmr
    have e2 : decide ((n : Int) ≤ (m : Int)) = false := decide_eq_false (by omega)
    rw [e1]
    go_enter Tryd.func40, Tryd.ntmps40
    go_wp2
    go_ret
    exact ⟨rfl, rfl⟩

set_option maxRecDepth 100000 in
set_option maxHeartbeats 800000 in
theorem named8_calls (A : Option Addr) (c : Nat) (l : List Int) (x : Int) (w : World) (hl : l.length ≤ 9223372036854775807) (hA : Cells w A (l.map (Value.int .i64))) :
    Calls Tryd.prog 46 #[.slice A l.length c, .int .i64 x] w fun e w' => e = .returned (.bool (l.contains x)) ∧ DrN w w' := by
  have HA := Go.Lib.hid hA
  clear hA
  obtain ⟨ans, hans⟩ : ∃ ans, ans = l.contains x := ⟨_, rfl⟩
  rw [← hans]
  have HANS := Go.Lib.hid hans
  clear hans
  go_enter Tryd.func46, Tryd.ntmps46
  go_wp2
  go_loopw [5] (fun i wr => ∃ (k : Nat), k ≤ l.length ∧ i = .int .i64 (k : Int) ∧ Hid (DrN w wr) ∧ Hid (¬ x ∈ l.take k)) (fun i _ => l.length - (intOf i).toNat)
  case atStart => exact ⟨0, by omega, rfl, drN_refl w, fun h => by simp at h⟩
  case round =>
    obtain ⟨k, hk, rfl, HD, HC⟩ := hrel
    by_cases hlt : k < l.length
    · obtain ⟨bb, o, rfl, hcell⟩ := HA.out (by simp; omega)
      have hck : wr.cell? ⟨bb, o + k, none⟩ = some (.int .i64 l[k]) := by
        have := below_cell (drN_below HD.out w.heap.size) (hcell k (by simp; omega))
        simpa using this
      have hk0 : (0 : Int) ≤ (k : Int) := Int.natCast_nonneg _
      have hk1 : (k : Int) < (l.length : Int) := by omega
      have HT := Go.Lib.hid (show l.take (k + 1) = l.take k ++ [l[k]] from (List.take_append_getElem hlt).symm)
      have HM : Hid (∀ y, l[k] = y → y = x → ans = true) := fun y h' h => by subst h'; rw [HANS.out, List.contains_iff_mem, ← h]; exact List.getElem_mem hlt
      clear hcell
      generalize hly : l[k] = y at *
      have HM2 : Hid (y = x → ans = true) := HM.out y rfl
      clear hly HM
      by_cases hxy : y = x
      · subst hxy
        go_wp2
        go_ret
        rw [HM2.out (by first | rfl | assumption | trivial)]
        exact ⟨rfl, HD.out⟩
      · have g1 : (y == x) = false := by simpa using hxy
        go_wp2
        go_roundw
        case rel => exact ⟨k + 1, by omega, by go_num, HD, by rw [Hid, HT.out, List.mem_append]; intro h; rcases h with h | h; exact HC.out h; exact hxy (List.mem_singleton.1 h).symm⟩
        case measure => simp [intOf]; omega
    · have hkl : k = l.length := by omega
      have hc := HC.out
      rw [hkl, List.take_length] at hc
      have HF : Hid (ans = false) := by rw [Hid, HANS.out]; cases h : l.contains x; rfl; exact absurd (List.contains_iff_mem.1 h) hc
      clear hc HC
      go_wp2
      go_ret
      rw [HF.out]
      exact ⟨rfl, HD.out⟩

theorem run_cut_any {P : Program} (t e : TypeId) (ht : P.underlying t = some (.slice e)) (hsz : (P.info? e).map (·.size) = some 1) (A : Option Addr) (n c lo hi : Nat) (h1 : lo ≤ hi) (h2 : hi ≤ c) (L H : Int) (hL : L = (lo : Int)) (hH : H = (hi : Int)) :
    ∀ W : World, (Instr.slice t (.slice A n c) (some (.int .i64 L)) (some (.int .i64 H)) none).run P W = .ok (.slice (cutA A c lo) (hi - lo) (c - lo)) W := by
  subst hL hH
  exact run_cut_lh t e ht hsz A n c lo hi h1 h2

set_option maxRecDepth 100000 in
set_option maxHeartbeats 800000 in
theorem summed8_calls (A : Option Addr) (c : Nat) (b : List UInt8) (w : World) (hl : b.length = 512) (hc : 512 ≤ c) (hc2 : c ≤ 9223372036854775807) (hA : Cells w A (Bs b)) :
    Calls Tryd.prog 42 #[.slice A 512 c] w fun e w' => e = .returned (.int .u32 (n32 (sumB (b.take 14) (b.drop 18)))) ∧ Below w.heap.size w w' := by
  have hk1 : (14 : Int) ≤ (c : Int) := by omega
  have hk2 : (0 : Int) ≤ (c : Int) := by omega
  have hk3 : (18 : Int) ≤ (c : Int) := by omega
  have hk4 : (512 : Int) ≤ (c : Int) := by omega
  have hcut1 : ∀ W : World, (Instr.slice 28 (.slice A 512 c) none (some (.int .i64 14)) none).run Tryd.prog W = .ok (.slice A 14 c) W := run_cut_h (P := Tryd.prog) 28 5 Tryd.underlying28 size8' A 512 c 14 (by omega)
  have hcut2 : ∀ W : World, (Instr.slice 28 (.slice A 512 c) (some (.int .i64 18)) (some (.int .i64 512)) none).run Tryd.prog W = .ok (.slice (cutA A c 18) (512 - 18) (c - 18)) W := run_cut_lh (P := Tryd.prog) 28 5 Tryd.underlying28 size8' A 512 c 18 512 (by omega) hc
  have H1 : Hid (∀ W, Below w.heap.size w W → Calls Tryd.prog 59 #[.int .u32 (n32 0), .slice A 14 c] W (fun e w' => e = .returned (.int .u32 (n32 (addR 0 (b.take 14)))) ∧ w' = W)) := fun W hW => by
    have h := addR_calls 0 A c (b.take 14) W (by rw [List.length_take]; omega) (by rw [Bs_take]; exact cells_take (cells_below hW hA) 14)
    rw [List.length_take, Nat.min_eq_left (by omega)] at h
    exact h
  have H3 : Hid (∀ (s : UInt32) W, Below w.heap.size w W → Calls Tryd.prog 59 #[.int .u32 (n32 s), .slice (cutA A c 18) 494 (c - 18)] W (fun e w' => e = .returned (.int .u32 (n32 (addR s (b.drop 18)))) ∧ w' = W)) := fun s W hW => by
    have h := addR_calls s (cutA A c 18) (c - 18) (b.drop 18) W (by rw [List.length_drop]; omega) (by rw [Bs_drop]; exact cells_drop (cells_below hW hA) c 18 (by rw [Bs_length]; omega))
    rw [List.length_drop, hl] at h
    exact h
  have HS : Hid (addR (addR (addR 0 (b.take 14)) [0, 0, 0, 0]) (b.drop 18) = sumB (b.take 14) (b.drop 18)) := by unfold sumB; rw [addS_eq, addS_eq, addS_eq]; rfl
  generalize sumB (b.take 14) (b.drop 18) = su at *
  have z0 : n32 0 = 0 := rfl
  obtain ⟨W, hW⟩ : ∃ W, W = w.alloc (.cells #[.int .u8 0, .int .u8 0, .int .u8 0, .int .u8 0] 5) := ⟨_, rfl⟩
  have hb : Below w.heap.size w W := by rw [hW]; exact (Below.refl _ _).alloc (Nat.le_refl _) _
  have h0 : W.heap[w.heap.size]? = some (.cells (Bs [0, 0, 0, 0]).toArray 5 (0, 0)) := by rw [hW]; exact heap_here w _ w.heap.size rfl
  have H2 : Hid (∀ s, Calls Tryd.prog 59 #[.int .u32 (n32 s), .slice (some ⟨w.heap.size, 0, none⟩) 4 4] W (fun e w' => e = .returned (.int .u32 (n32 (addR s [0, 0, 0, 0]))) ∧ w' = W)) := fun s => addR_calls s _ 4 [0, 0, 0, 0] W (by simp) (cells_at h0)
  have HB := Go.Lib.hid hb
  clear hA hb h0
  go_enter Tryd.func42, Tryd.ntmps42
  go_wp2_with fail
  refine (H1.out w (Below.refl _ _)).mono ?_
  rintro e w1 ⟨rfl, rfl⟩
  go_wp2_with fail
  rw [← hW]
  refine (H2.out _).mono ?_
  rintro e w2 ⟨rfl, rfl⟩
  clear hW
  go_wp2_with fail
  refine (H3.out _ _ HB.out).mono ?_
  rintro e w3 ⟨rfl, rfl⟩
  rw [HS.out]
  go_wp2
  go_ret
  exact ⟨rfl, HB.out⟩
end Go.Proofs.YtipjdkdonmoojaaDoor
