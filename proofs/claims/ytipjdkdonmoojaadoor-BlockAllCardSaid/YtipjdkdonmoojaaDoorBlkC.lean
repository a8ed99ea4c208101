/- Package block: Scan. -/
import Derived.Test.YtipjdkdonmoojaaDoorBlkK
namespace Go.Proofs.YtipjdkdonmoojaaDoor
open Go Go.RowKit
set_option linter.unusedVariables false
set_option linter.unusedSimpArgs false
attribute [local go_sem] n8_self n64_self beq_n8 bne_n8 beq_n64 bne_n64

/-- 'append(v, us...)' -/
theorem wpList_append_vals {P : Program} {W : World} {ops : Array Oper} {rest : List Oper} {o : Oper} {a : Act} {Q : Exit → Act → World → Prop} (hgd : o.guard = none) (s x : Operand) (t e : TypeId) (z : Value) (bytes : Nat)
    (ht : P.underlying t = some (.slice e)) (hinfo : (P.info? e).map (fun i => (i.zero, i.size, i.bytes)) = some (some z, 1, bytes)) (hz : z.cells.size = 1)
    (ho : o.op = .call { callee := .builtin .append, args := #[s, x], argTypes := #[t, t] })
    (base : Nat) (v : Value) (vs : List Value) (hs : a.eval s = v) (hown : Own W base e v vs) (hbase : base ≤ W.heap.size) (A : Option Addr) (c : Nat) (us : List Value)
    (hx : a.eval x = .slice A us.length c) (hA : Cells W A us) (h1 : ∀ u ∈ us, u.oneCell' = true) (hroom : (vs.length + us.length) * bytes ≤ 140737488355328) (hmax : vs.length + us.length ≤ 9223372036854775807)
    (h : ∀ v' w', Own w' base e v' (vs ++ us) → W.grownBy w' v.ownBlock → wpList P ops Q rest (a.put o.dst v') w') : wpList P ops Q (o :: rest) a W := by
  obtain ⟨i, hi, hz0, hz1, hz2⟩ := info_parts hinfo
  cases A with
  | none =>
    have h0 : us = [] := by
      rcases us with _ | ⟨u, l⟩
      · rfl
      · obtain ⟨b, o, hx, _⟩ := hA (by simp); cases hx
    subst h0
    refine wpList_plain hgd fun K hK => ?_
    have hr : (Builtin.append_ #[t, t] o.type #[v, .slice none 0 c]).run P W = .ok v W := by
      rcases hown.2 with ⟨rfl, h0⟩ | ⟨g, cap, cur, rfl, _, _, hnc, _⟩
      · simp [Builtin.append_, run_underlying ht, sizeOf, typeInfo, hi, Builtin.lenOf, Builtin.firstCells]
      · simp [Builtin.append_, run_underlying ht, sizeOf, typeInfo, hi, Builtin.lenOf, Builtin.firstCells, hnc, storeCells]
    have h' := h v W (by rw [List.append_nil]; exact hown) ⟨rfl, rfl, rfl, Nat.le_refl _, fun _ _ _ => rfl⟩
    unfold Oper.wp execOp
    have hx' : a.eval x = .slice none 0 c := hx
    simp only [ho, resolve, invoke, builtin, Sem.run_bind, Sem.run_pure, Result.andThen_ok, List.map_toArray, List.map_cons, List.map_nil, hs, hx', hr]
    exact hK _ _ h'
  | some ad =>
    refine wpList_append_own _ hgd s x t ho base e i z 1 bytes ht hi hz0 hz1 hz2 hz (by decide) v vs.length vs hs hown ad us.length c us hx (by rw [Nat.mul_one]) ?_ h1 (by unfold maxLen; omega) (by omega) hbase ?_
    · intro j u hu
      have hj := (List.getElem?_eq_some_iff.1 hu).1
      obtain ⟨b, o, hb, hc⟩ := hA (by omega)
      cases hb
      rw [Addr.add_mid, hc j hj]
      exact hu ▸ (List.getElem?_eq_getElem hj).symm
    · intro v' w' h1 h2 _
      exact h v' w' (by unfold Own; rw [List.length_append]; exact h1) h2
theorem allT_append {w : World} {vs us : List Value} {ls ms : List (List UInt8)} (h : AllT w vs ls) (k : AllT w us ms) : AllT w (vs ++ us) (ls ++ ms) := by
  obtain ⟨h1, h2⟩ := h
  obtain ⟨k1, k2⟩ := k
  refine ⟨by simp [h1, k1], fun i hi hj => ?_⟩
  by_cases hlt : i < vs.length
  · rw [List.getElem_append_left hlt, List.getElem_append_left (by omega)]
    exact h2 i hlt (by omega)
  · rw [List.getElem_append_right (by omega), List.getElem_append_right (by omega)]
    simp only [List.length_append] at hi hj
    have := k2 (i - vs.length) (by omega) (by omega)
    simpa only [h1] using this
theorem allT_one {w : World} {vs : List Value} {ls : List (List UInt8)} (h : AllT w vs ls) : ∀ u ∈ vs, u.oneCell' = true := by
  intro u hu
  obtain ⟨i, hi, rfl⟩ := List.getElem_of_mem hu
  obtain ⟨A, c, h1, _⟩ := h.2 i hi (by rw [← h.1]; exact hi)
  rw [h1]; rfl
theorem dec_count (b : List UInt8) : (decB b).2.1.length ≤ 65535 := by
  rcases decB_cases b with ⟨k, hk, _⟩ | ⟨l, q, hd, hlen, _, _, _, _, htk, _⟩
  · rw [hk]; simp
  · rw [hd]
    obtain ⟨_, e2, _⟩ := takeRecs_inv _ _ _ _ htk
    have := count_lt b hlen
    have e3 : countB b = (leV ((b.drop 12).take 2)).toNat := rfl
    show l.length ≤ 65535
    omega
/-- how far scanning has come -/
def ScR (data : List UInt8) (bad : List Int) (first : UInt64) (k : Nat) (f : UInt64) (acc : List (List UInt8)) : Prop :=
  k * 512 ≤ data.length ∧ acc.length ≤ 65535 * k ∧ scanB data bad first = (acc ++ (scanF (data.length / 512 - k) k (data.drop (k * 512)) bad f).1, (scanF (data.length / 512 - k) k (data.drop (k * 512)) bad f).2)
theorem sc_zero (data : List UInt8) (bad : List Int) (first : UInt64) : ScR data bad first 0 first [] := ⟨by omega, by simp, by simp [scanB]⟩
theorem sc_end {data : List UInt8} {bad : List Int} {first : UInt64} {k : Nat} {f : UInt64} {acc : List (List UInt8)} (h : ScR data bad first k f acc) (hk : data.length < (k + 1) * 512) : scanB data bad first = (acc, k) := by
  rw [h.2.2, show data.length / 512 - k = 0 by omega, scanF]
  simp
theorem sc_bad {data : List UInt8} {bad : List Int} {first : UInt64} {k : Nat} {f : UInt64} {acc : List (List UInt8)} (h : ScR data bad first k f acc) (hb : bad.contains (k : Int) = true) : scanB data bad first = (acc, k) := by
  rw [h.2.2, scanF_bad _ _ _ _ _ hb]
  simp
theorem sc_stop {data : List UInt8} {bad : List Int} {first : UInt64} {k : Nat} {f : UInt64} {acc : List (List UInt8)} (h : ScR data bad first k f acc) (hd : (decB ((data.drop (k * 512)).take 512)).2.2 ≠ 0 ∨ (decB ((data.drop (k * 512)).take 512)).1 ≠ f) : scanB data bad first = (acc, k) := by
  rw [h.2.2, scanF_stop _ _ _ _ _ hd]
  simp
theorem sc_step {data : List UInt8} {bad : List Int} {first : UInt64} {k : Nat} {f : UInt64} {acc : List (List UInt8)} (h : ScR data bad first k f acc) (hk : (k + 1) * 512 ≤ data.length) (hb : bad.contains (k : Int) = false)
    (h1 : (decB ((data.drop (k * 512)).take 512)).2.2 = 0) (h2 : (decB ((data.drop (k * 512)).take 512)).1 = f) :
    ScR data bad first (k + 1) (f + UInt64.ofNat (decB ((data.drop (k * 512)).take 512)).2.1.length) (acc ++ (decB ((data.drop (k * 512)).take 512)).2.1) := by
  have hc := dec_count ((data.drop (k * 512)).take 512)
  refine ⟨hk, by rw [List.length_append]; have := h.2.1; omega, ?_⟩
  rw [h.2.2, show data.length / 512 - k = (data.length / 512 - (k + 1)) + 1 by omega, scanF, if_neg (by rw [hb]; simp), if_neg (by rw [h1, h2]; simp), List.drop_drop, show k * 512 + 512 = (k + 1) * 512 by omega, List.append_assoc]
/-- what Scan gives -/
def GaveN (w w' : World) (e : Ending) (d : List (List UInt8) × Nat) : Prop :=
  ∃ v vs, e = .returned (.tuple #[v, .int .i64 (d.2 : Int)]) ∧ Own w' w.heap.size 28 v vs ∧ AllT w' vs d.1 ∧ Below w.heap.size w w'

set_option maxRecDepth 100000 in
set_option maxHeartbeats 3200000 in
theorem bScan_calls (A : Option Addr) (c : Nat) (data : List UInt8) (Ab : Option Addr) (cb : Nat) (bad : List Int) (first : UInt64) (p : Nat → Addr) (w : World) (hT : Tab w) (hp : E5 w p) (hn : data.length ≤ 4294967296) (hnc : data.length ≤ c) (hc : c ≤ 9223372036854775807) (hA : Cells w A (Bs data)) (hbl : bad.length ≤ 9223372036854775807) (hAb : Cells w Ab (bad.map (Value.int .i64))) :
    Calls Tryd.prog 19 #[.slice A data.length c, .slice Ab bad.length cb, .int .u64 (n64 first)] w fun e w' => GaveN w w' e (scanB data bad first) := by
  have HP := Go.Lib.hid hp
  have HA := Go.Lib.hid hA
  have HAB := Go.Lib.hid hAb
  have HT := Go.Lib.hid hT
  have HS0 := Go.Lib.hid (sc_zero data bad first)
  obtain ⟨ans, hans⟩ : ∃ ans, ans = scanB data bad first := ⟨_, rfl⟩
  rw [← hans]
  have HANS := Go.Lib.hid hans
  clear hp hA hT hAb hans
  go_enter Tryd.func19, Tryd.ntmps19
  go_wp2
  go_loopw [2, 8, 9] (fun x v i wr => ∃ (k : Nat) (f : UInt64) (acc : List (List UInt8)) (vs : List Value), x = .int .u64 (n64 f) ∧ i = .int .i64 (k : Int) ∧ k ≤ 8388608 ∧ Hid (ScR data bad first k f acc) ∧ Hid (Own wr w.heap.size 28 v vs) ∧ Hid (AllT wr vs acc) ∧ Hid (Below w.heap.size w wr)) (fun _ _ i _ => 8388609 - (intOf i).toNat)
  case atStart => exact ⟨0, first, [], [], rfl, rfl, by omega, HS0, World.ownsRow_nil _ _ _ 1, allT_nil _, Below.refl _ _⟩
  case round =>
    obtain ⟨k, f, acc, vs, rfl, rfl, hk, HS, HO, HAT, HB⟩ := hrel
    clear HS0
    have hk0 : (0 : Int) ≤ (k : Int) := Int.natCast_nonneg _
    by_cases hend : data.length < (k + 1) * 512
    · have HE := Go.Lib.hid (HANS.out.trans (sc_end HS.out hend))
      have n1 : ¬ (((k : Int) + 1) * 512 ≤ (data.length : Int)) := by omega
      have d1 : decide (((k : Int) + 1) * 512 ≤ (data.length : Int)) = false := decide_eq_false n1
      clear HS
      generalize data.length = N at *
      go_wp2
      go_ret2
      rw [HE.out]
      exact ⟨_, _, rfl, HO.out, HAT.out, HB.out⟩
    have y1 : ((k : Int) + 1) * 512 ≤ (data.length : Int) := by omega
    have HY1 : (k + 1) * 512 ≤ data.length := by omega
    have d1 : decide (((k : Int) + 1) * 512 ≤ (data.length : Int)) = true := decide_eq_true y1
    have HC := Go.Lib.hid (contains_calls Ab cb bad (k : Int) wr hbl (cells_below HB.out HAB.out))
    cases hbad : bad.contains (k : Int)
    case true =>
      have HE := Go.Lib.hid (HANS.out.trans (sc_bad HS.out hbad))
      rw [hbad] at HC
      clear HS
      go_wp2_with fail
      refine HC.out.mono ?_
      rintro e w1 ⟨rfl, rfl⟩
      go_wp2
      go_ret2
      rw [HE.out]
      exact ⟨_, _, rfl, HO.out, HAT.out, HB.out⟩
    rw [hbad] at HC
    have HBF := Go.Lib.hid hbad
    have hlo : ((k : Int) * 512) = ((k * 512 : Nat) : Int) := by omega
    have hhi : (((k : Int) + 1) * 512) = (((k + 1) * 512 : Nat) : Int) := by omega
    have hcut : ∀ W : World, (Instr.slice 28 (.slice A data.length c) (some (.int .i64 ((k : Int) * 512))) (some (.int .i64 (((k : Int) + 1) * 512))) none).run Tryd.prog W = .ok (.slice (cutA A c (k * 512)) 512 (c - k * 512)) W := by
      rw [hlo, hhi]
      have h := run_cut_lh (P := Tryd.prog) 28 5 Tryd.underlying28 size8' A data.length c (k * 512) ((k + 1) * 512) (by omega) (by omega)
      rw [show (k + 1) * 512 - k * 512 = 512 by omega] at h
      exact h
    have hy2 : (((k : Int) + 1) * 512) ≤ (c : Int) := by omega
    have hy3 : ((k : Int) * 512) ≤ (((k : Int) + 1) * 512) := by omega
    have hy4 : (0 : Int) ≤ ((k : Int) * 512) := by omega
    have HST := Go.Lib.hid (sc_step HS.out HY1 hbad)
    have HSP := Go.Lib.hid (fun hd => HANS.out.trans (sc_stop HS.out hd))
    have hacc := HS.out.2.1
    have HD : Hid (Calls Tryd.prog 16 #[.slice (cutA A c (k * 512)) 512 (c - k * 512)] wr (fun e w' => GaveD p wr w' e (decB ((data.drop (k * 512)).take 512)))) := by
      have hl : ((data.drop (k * 512)).take 512).length = 512 := by rw [List.length_take, List.length_drop]; omega
      have h := bDecode_calls (cutA A c (k * 512)) (c - k * 512) ((data.drop (k * 512)).take 512) p wr (fun x => below_cell HB.out (HT.out x)) (e5_below HP.out HB.out) (by rw [hl]; omega) (by omega)
        (by rw [Bs_take, Bs_drop]; exact cells_take (cells_drop (cells_below HB.out HA.out) c (k * 512) (by rw [Bs_length]; exact hnc)) 512)
      rw [hl] at h
      exact h
    have hDC := dec_count ((data.drop (k * 512)).take 512)
    clear hlo hhi HS hbad
    generalize decB ((data.drop (k * 512)).take 512) = dd at *
    obtain ⟨d1', dl, de⟩ := dd
    simp only at HST HSP hDC
    go_wp2_with fail
    refine HC.out.mono ?_
    rintro e w1 ⟨rfl, rfl⟩
    go_wp2_with fail
    refine HD.out.mono ?_
    rintro e w2 ⟨v2, vs2, rfl, ho2, hat2, hb2⟩
    simp only at hat2
    have HB2 := Go.Lib.hid (HB.out.trans (hb2.mono HB.out.size))
    have HO2 := Go.Lib.hid (own_drewless HO.out hb2)
    have HAT2 := Go.Lib.hid (allT_keep HAT.out (keepB_below hb2))
    have HN2 := Go.Lib.hid ho2
    have HNT2 := Go.Lib.hid hat2
    clear hb2 ho2 hat2 HO HAT HB HC HD hcut
    cases de with
    | succ j =>
      have HE := Go.Lib.hid (HSP.out (.inl (by simp)))
      simp only [errv]
      clear HSP HST HN2 HNT2
      go_wp2
      go_ret2
      rw [HE.out]
      exact ⟨_, _, rfl, HO2.out, HAT2.out, HB2.out⟩
    | zero =>
      simp only [errv]
      by_cases hf : d1' = f
      case neg =>
        have HE := Go.Lib.hid (HSP.out (.inr hf))
        have hnf : (d1' == f) = false := beq_eq_false_iff_ne.2 hf
        have hnf2 : (d1' != f) = true := bne_iff_ne.2 hf
        clear HSP HST HN2 HNT2
        go_wp2
        go_ret2
        rw [HE.out]
        exact ⟨_, _, rfl, HO2.out, HAT2.out, HB2.out⟩
      have HST2 := Go.Lib.hid (HST.out rfl hf)
      subst hf
      obtain ⟨A9, c9, rfl, _, _, hc9⟩ := own_slice HN2.out
      have HC9 := Go.Lib.hid hc9
      have hvl : vs2.length = dl.length := HNT2.out.1
      have hvl2 : vs.length = acc.length := HAT2.out.1
      have hr1 : (vs.length + vs2.length) * 24 ≤ 140737488355328 := by omega
      have hr2 : vs.length + vs2.length ≤ 9223372036854775807 := by omega
      have H1 := Go.Lib.hid (allT_one HNT2.out)
      have hsz := HB2.out.size
      have hw1 : IntKind.u64.wrap (vs2.length : Int) = (vs2.length : Int) := u64w _ (by omega) (by omega)
      have hw2 := u64_addN d1' vs2.length (by omega)
      have hkk : k ≤ 8388607 := by omega
      have HVL := Go.Lib.hid hvl
      clear hc9 HSP HST HN2 hvl hvl2 hDC hacc
      go_wp2_with (first
        | (at_builtin; go_must (refine wpList_append_vals (W := w2) (s := .tmp 44) (x := .tmp 45) (t := 27) (e := 28) (z := .slice none 0 0) (bytes := 24) (ht := Tryd.underlying27) (hinfo := infoRow) (base := w.heap.size) (vs := vs) (hown := HO2.out) (hbase := hsz) (A := A9) (c := c9) (us := vs2) (hA := HC9.out) (h1 := H1.out) (hroom := hr1) (hmax := hr2) (hgd := rfl) (hz := ?_) (ho := ?_) (hs := ?_) (hx := ?_) (h := ?_)); rfl; rfl; rfl; rfl; go_must (intro v6 w6 hown6 hgr6); have HO6 := Go.Lib.hid hown6; have HB6 := Go.Lib.hid (below_grown HB2.out HO2.out hgr6 (Nat.le_refl _) hsz); have HAT6 := Go.Lib.hid (allT_keep (allT_append HAT2.out HNT2.out) (keepB_grown HO2.out (by decide) hgr6)); clear hown6 hgr6))
      go_wp2
      go_roundw
      case rel => exact ⟨k + 1, _, _, vs ++ vs2, rfl, by go_num, by omega, HVL.out ▸ HST2, HO6, HAT6, HB6⟩
      case measure => simp [intOf]; omega
end Go.Proofs.YtipjdkdonmoojaaDoor
