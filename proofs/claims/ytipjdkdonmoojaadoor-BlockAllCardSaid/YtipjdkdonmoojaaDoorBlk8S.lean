/- Package turnstileref08: Scan. -/
import Derived.Test.YtipjdkdonmoojaaDoorBlk8P
namespace Go.Proofs.YtipjdkdonmoojaaDoor
open Go Go.RowKit
set_option linter.unusedVariables false
set_option linter.unusedSimpArgs false
attribute [local go_sem] c64_8 c8_64 c32_64 c64_32 n64_self n8_self n32_self beq_n64 beq_n8 bne_n8 bne_n64

/-- where an append leaves its row: in place, or in a new block -/
theorem append_block {P : Program} (w : World) (t ty e : TypeId) (i : TypeInfo) (z : Value) (bytes : Nat) (ht : P.underlying t = some (.slice e)) (hi : P.info? e = some i) (hz : i.zero = some z)
    (hsize : i.size = 1) (hby : i.bytes = bytes) (base : Nat) (v : Value) (n : Nat) (xs : List Value) (hown : w.ownsRow base e 1 v n xs)
    (a : Addr) (c : Nat) (u : Value) (hnews : w.cell? (a.add 0) = some u) (h1 : u.oneCell' = true)
    (h63 : n + 1 ≤ maxLen) (hbytes : ((n + 1) + (n + 1) / 4 + 192) * bytes ≤ 281474976710656) {v' : Value} {w' : World}
    (hr : (Builtin.append_ #[t, t] ty #[v, .slice (some a) 1 c]).run P w = .ok v' w') : v'.ownBlock = v.ownBlock ∨ v'.ownBlock = some w.heap.size := by
  have hn' : ∀ j u', [u][j]? = some u' → w.cell? (a.add j) = some u' := by
    intro j u' h
    cases j with
    | zero => simp at h; rw [← h]; exact hnews
    | succ j => simp at h
  have h1' : ∀ x ∈ [u], x.oneCell' = true := by intro x hx; simp at hx; rw [hx]; exact h1
  have hsmall : n + 1 ≤ 9223372036854775807 := by simp only [maxLen] at h63; omega
  rcases hown.2 with ⟨rfl, rfl⟩ | ⟨g, cap, cur, rfl, hbg, hg, hnc, hcm, hcs, htake⟩
  · have h := run_append_nil (P := P) w t ty e i z ht hi hz a 1 c [u] (by rw [hsize]; rfl) hn' (by omega) (by omega) (by rw [hby]; have hb := hbytes; simp only [Nat.zero_add] at hb; exact Nat.le_trans (Nat.mul_le_mul_right _ (by omega)) hb)
    rw [h] at hr
    right
    simp only [Result.ok.injEq] at hr
    rw [← hr.1]
    rfl
  · by_cases hroom : n + 1 ≤ cap
    · have h := run_append_room (P := P) w t ty e i ht hi g n cap cur hg a 1 c [u] (by rw [hsize]; rfl) hn' h1' hroom (by rw [hsize, hcs]; simp; omega)
      rw [h] at hr
      left
      simp only [Result.ok.injEq] at hr
      rw [← hr.1]
      rfl
    · have hlx : xs.length = n * i.size := by rw [hsize]; exact hown.1
      have h := run_append_grow (P := P) w t ty e i z ht hi hz ⟨g, 0, none⟩ n cap xs hlx (hown.cells (g := g) rfl) a 1 c [u] (by rw [hsize]; rfl) hn' (by omega) (by omega) (by rw [hby]; exact growslice_fits_wide (by omega) hbytes)
      rw [h] at hr
      right
      simp only [Result.ok.injEq] at hr
      rw [← hr.1]
      rfl
/-- 'append(v, u)', with word of the row's block -/
theorem wpList_append_valB {P : Program} {W : World} {ops : Array Oper} {rest : List Oper} {o : Oper} {a : Act} {Q : Exit → Act → World → Prop} (hgd : o.guard = none) (s x : Operand) (t e : TypeId) (z : Value) (bytes : Nat)
    (ht : P.underlying t = some (.slice e)) (hinfo : (P.info? e).map (fun i => (i.zero, i.size, i.bytes)) = some (some z, 1, bytes)) (hz : z.cells.size = 1)
    (ho : o.op = .call { callee := .builtin .append, args := #[s, x], argTypes := #[t, t] })
    (base : Nat) (v : Value) (vs : List Value) (hs : a.eval s = v) (hown : Own W base e v vs) (hbase : base ≤ W.heap.size) (u : Value) (hu : u.oneCell' = true)
    (hx : a.eval x = .slice (some ⟨W.heap.size, 0, none⟩) 1 1) (hroom : ((vs.length + 1) + (vs.length + 1) / 4 + 192) * bytes ≤ 281474976710656) (hmax : vs.length + 1 ≤ 9223372036854775807)
    (h : ∀ v' w', Own w' base e v' (vs ++ [u]) → W.grownBy w' v.ownBlock → (v'.ownBlock = v.ownBlock ∨ ∃ k, v'.ownBlock = some k ∧ W.heap.size ≤ k) → wpList P ops Q rest (a.put o.dst v') w') : wpList P ops Q (o :: rest) a (W.alloc (.cells #[u] e)) := by
  obtain ⟨i, hi, hz0, hz1, hz2⟩ := info_parts hinfo
  have hown' : (W.alloc (.cells #[u] e)).ownsRow base e 1 v vs.length vs := World.ownsRow.alloc hown _
  have hcell : ∀ j w, [u][j]? = some w → (W.alloc (.cells #[u] e)).cell? ((⟨W.heap.size, 0, none⟩ : Addr).add j) = some w := by
    intro j w hw
    rw [Addr.add_mid, cell_of_row _ _ _ _ _ _ (heap_here W _ _ rfl)]
    cases j with
    | zero => simpa using hw
    | succ j => simp at hw
  have h1 : ∀ w ∈ [u], w.oneCell' = true := by intro w hw; simp at hw; rw [hw]; exact hu
  obtain ⟨v', w', hr, h2, h3, h4⟩ := run_append_own_wide (P := P) (W.alloc (.cells #[u] e)) base t o.type e i z 1 bytes ht hi hz0 hz1 hz2 hz (by decide) v vs.length vs hown' ⟨W.heap.size, 0, none⟩ 1 1 [u] rfl hcell h1 (by unfold maxLen; omega) hroom (by simp; omega)
  have hb := append_block (P := P) (W.alloc (.cells #[u] e)) t o.type e i z bytes ht hi hz0 hz1 hz2 base v vs.length vs hown' ⟨W.heap.size, 0, none⟩ 1 u (hcell 0 u rfl) hu (by unfold maxLen; omega) hroom hr
  refine wpList_plain hgd fun K hK => ?_
  unfold Oper.wp execOp
  simp only [ho, resolve, invoke, builtin, Sem.run_bind, Sem.run_pure, Result.andThen_ok, List.map_toArray, List.map_cons, List.map_nil, hs, hx, hr]
  refine hK _ _ (h v' w' (by unfold Own; simpa using h2) ⟨h3.os, h3.tape, h3.output, Nat.le_trans (by simp) h3.size, fun k hk hne => (h3.block k (by simp; omega) hne).trans (heap_before W _ k _ (Nat.ne_of_lt hk) rfl)⟩ ?_)
  rcases hb with hb | hb
  · exact .inl hb
  · exact .inr ⟨_, hb, by simp⟩

theorem room24 (n : Nat) (h : n ≤ 549755879423) : ((n + 1) + (n + 1) / 4 + 192) * 24 ≤ 281474976710656 ∧ n + 1 ≤ 9223372036854775807 := by omega
set_option maxRecDepth 100000 in
set_option maxHeartbeats 1600000 in
theorem scan8_calls (A : Option Addr) (c : Nat) (data : List UInt8) (Ab : Option Addr) (cb : Nat) (bad : List Int) (first : UInt64) (w : World) (hn : data.length ≤ 4294967296) (hnc : data.length ≤ c) (hc : c ≤ 9223372036854775807) (hA : Cells w A (Bs data)) (hbl : bad.length ≤ 9223372036854775807) (hAb : Cells w Ab (bad.map (Value.int .i64))) :
    Calls Tryd.prog 25 #[.slice A data.length c, .slice Ab bad.length cb, .int .u64 (n64 first)] w fun e w' => GaveN w w' e (scanB data bad first) := by
  have HA := Go.Lib.hid hA
  have HAB := Go.Lib.hid hAb
  have HS0 := Go.Lib.hid (sc_zero data bad first)
  obtain ⟨ans, hans⟩ : ∃ ans, ans = scanB data bad first := ⟨_, rfl⟩
  rw [← hans]
  have HANS := Go.Lib.hid hans
  obtain ⟨W, hW⟩ : ∃ W, W = w.alloc (.cells #[] 28) := ⟨_, rfl⟩
  have HBW : Hid (Below w.heap.size w W) := by rw [hW]; exact (Below.refl _ _).alloc (Nat.le_refl _) _
  have HOW : Hid (Own W w.heap.size 28 (.slice (some ⟨w.heap.size, 0, none⟩) 0 0) []) := own_nilRow (by rw [hW]; exact heap_here w _ w.heap.size rfl) (Nat.le_refl _)
  clear hA hAb hans
  go_enter Tryd.func25, Tryd.ntmps25
  go_wp2
  rw [← hW]
  clear hW
  go_loopw [8, 9, 10] (fun v i x wr => ∃ (k : Nat) (f : UInt64) (acc : List (List UInt8)) (vs : List Value), x = .int .u64 (n64 f) ∧ i = .int .i64 (k : Int) ∧ k ≤ 8388608 ∧ Hid (ScR data bad first k f acc) ∧ Hid (Own wr w.heap.size 28 v vs) ∧ Hid (AllT wr vs acc) ∧ Hid (Below w.heap.size w wr)) (fun _ i _ _ => 8388609 - (intOf i).toNat)
  case atStart => exact ⟨0, first, [], [], rfl, rfl, by omega, HS0, HOW, allT_nil _, HBW⟩
  case round =>
    obtain ⟨k, f, acc, vs, rfl, rfl, hk, HS, HO, HAT, HB⟩ := hrel
    clear HS0 HOW HBW
    have hk0 : (0 : Int) ≤ (k : Int) := Int.natCast_nonneg _
    by_cases hend : data.length < (k + 1) * 512
    · have HE := Go.Lib.hid (HANS.out.trans (sc_end HS.out hend))
      have n1 : ¬ (((k : Int) + 1) * 512 ≤ (data.length : Int)) := by omega
      have d1 : decide (((k : Int) + 1) * 512 ≤ (data.length : Int)) = false := decide_eq_false n1
      clear HS
      generalize data.length = N at *
      go_wp2
      go_ret2
      rw [HE.out]
      exact ⟨_, _, rfl, HO.out, HAT.out, HB.out⟩
    have HY1 : (k + 1) * 512 ≤ data.length := by omega
    have y1 : ((k : Int) + 1) * 512 ≤ (data.length : Int) := by omega
    have d1 : decide (((k : Int) + 1) * 512 ≤ (data.length : Int)) = true := decide_eq_true y1
    have HC := Go.Lib.hid (named8_calls Ab cb bad (k : Int) wr hbl (cells_below HB.out HAB.out))
    have hlo : ((k : Int) * 512) = ((k * 512 : Nat) : Int) := by omega
    have hhi : (((k : Int) + 1) * 512) = (((k + 1) * 512 : Nat) : Int) := by omega
    have hcut : ∀ W : World, (Instr.slice 28 (.slice A data.length c) (some (.int .i64 ((k : Int) * 512))) (some (.int .i64 (((k : Int) + 1) * 512))) none).run Tryd.prog W = .ok (.slice (cutA A c (k * 512)) 512 (c - k * 512)) W := by
      rw [hlo, hhi]
      have h := run_cut_lh (P := Tryd.prog) 28 5 Tryd.underlying28 size8' A data.length c (k * 512) ((k + 1) * 512) (by omega) (by omega)
      rw [show (k + 1) * 512 - k * 512 = 512 by omega] at h
      exact h
    have hy2 : (((k : Int) + 1) * 512) ≤ (c : Int) := by omega
    have hy3 : ((k : Int) * 512) ≤ (((k : Int) + 1) * 512) := by omega
    have hy4 : (0 : Int) ≤ ((k : Int) * 512) := by omega
    clear hlo hhi
    cases hbad : bad.contains (k : Int)
    case true =>
      have HE := Go.Lib.hid (HANS.out.trans (sc_bad HS.out hbad))
      rw [hbad] at HC
      clear HS
      go_wp2_with fail
      refine HC.out.mono ?_
      rintro e w1 ⟨rfl, hd1⟩
      have HB1 := Go.Lib.hid (HB.out.trans (drN_below hd1 w.heap.size))
      have HO1 := Go.Lib.hid (own_drewless HO.out (drN_below hd1 _))
      have HAT1 := Go.Lib.hid (allT_keep HAT.out (keepB_below (drN_below hd1 _)))
      clear hd1
      go_wp2
      go_ret2
      rw [HE.out]
      exact ⟨_, _, rfl, HO1.out, HAT1.out, HB1.out⟩
    rw [hbad] at HC
    have HBF := Go.Lib.hid hbad
    have HST := Go.Lib.hid (sc_step HS.out HY1 hbad)
    have HSP := Go.Lib.hid (fun hd => HANS.out.trans (sc_stop HS.out hd))
    have hacc := HS.out.2.1
    have HD : Hid (∀ V, Below wr.heap.size wr V → Calls Tryd.prog 23 #[.slice (cutA A c (k * 512)) 512 (c - k * 512)] V (fun e w' => GaveD8 V w' e (decB ((data.drop (k * 512)).take 512)))) := fun V hV => by
      have hl : ((data.drop (k * 512)).take 512).length = 512 := by rw [List.length_take, List.length_drop]; omega
      have h := decode8_calls (cutA A c (k * 512)) (c - k * 512) ((data.drop (k * 512)).take 512) V (by rw [hl]; omega) (by omega)
        (by rw [Bs_take, Bs_drop]; exact cells_take (cells_drop (cells_below (HB.out.trans (hV.mono HB.out.size)) HA.out) c (k * 512) (by rw [Bs_length]; exact hnc)) 512)
      rw [hl] at h
      exact h
    have hDC := dec_count ((data.drop (k * 512)).take 512)
    clear HS hbad
    generalize decB ((data.drop (k * 512)).take 512) = dd at *
    obtain ⟨d1', dl, de⟩ := dd
    simp only at HST HSP hDC
    go_wp2_with fail
    refine HC.out.mono ?_
    rintro e w1 ⟨rfl, hd1⟩
    have hb1 : Below wr.heap.size wr w1 := drN_below hd1 _
    have HB1 := Go.Lib.hid (HB.out.trans (drN_below hd1 w.heap.size))
    have HO1 := Go.Lib.hid (own_drewless HO.out (drN_below hd1 _))
    have HAT1 := Go.Lib.hid (allT_keep HAT.out (keepB_below (drN_below hd1 _)))
    have HDD := Go.Lib.hid (HD.out w1 hb1)
    clear hd1 hb1 HC HD HB HO HAT
    go_wp2_with fail
    refine HDD.out.mono ?_
    rintro e w2 ⟨v2, vs2, rfl, ho2, hat2, hb2⟩
    simp only at hat2
    have HB2 := Go.Lib.hid (HB1.out.trans (hb2.mono HB1.out.size))
    have HO2 := Go.Lib.hid (own_drewless HO1.out hb2)
    have HAT2 := Go.Lib.hid (allT_keep HAT1.out (keepB_below hb2))
    have HN2 := Go.Lib.hid ho2
    have HNT2 := Go.Lib.hid hat2
    have HLT := Go.Lib.hid (fun k hk => (World.ownsRow.lt HO1.out k hk).2)
    clear hb2 ho2 hat2 HO1 HAT1 HB1 HDD hcut
    cases de with
    | succ j =>
      have HE := Go.Lib.hid (HSP.out (.inl (by simp)))
      have g1 : (((j + 1 : Nat) : Int) == 0) = false := by rw [beq_eq_false_iff_ne]; omega
      have g2 : (((j + 1 : Nat) : Int) != 0) = true := by unfold bne; rw [g1]; rfl
      clear HSP HST HN2 HNT2 HLT
      go_wp2
      go_ret2
      rw [HE.out]
      exact ⟨_, _, rfl, HO2.out, HAT2.out, HB2.out⟩
    | zero =>
      by_cases hf : d1' = f
      case neg =>
        have HE := Go.Lib.hid (HSP.out (.inr hf))
        have hnf : (d1' == f) = false := beq_eq_false_iff_ne.2 hf
        have hnf2 : (d1' != f) = true := bne_iff_ne.2 hf
        clear HSP HST HN2 HNT2 HLT
        go_wp2
        go_ret2
        rw [HE.out]
        exact ⟨_, _, rfl, HO2.out, HAT2.out, HB2.out⟩
      have HST2 := Go.Lib.hid (HST.out rfl hf)
      subst hf
      have hvl : vs2.length = dl.length := HNT2.out.1
      have hvl2 : vs.length = acc.length := HAT2.out.1
      have HVL := Go.Lib.hid hvl
      have hw1 : IntKind.u64.wrap (vs2.length : Int) = (vs2.length : Int) := u64w _ (by omega) (by omega)
      have hw2 := u64_addN d1' vs2.length (by omega)
      have hkk : k ≤ 8388607 := by omega
      have hv2b : vs2.length ≤ 65535 := by omega
      have hvb : vs.length ≤ 549755813888 := by omega
      obtain ⟨A9, c9, rfl, _, _, _⟩ := own_slice HN2.out
      have H1 := Go.Lib.hid (allT_one HNT2.out)
      have HAP : Hid (∀ v0, Own w2 w.heap.size 28 v0 vs → True) := fun _ _ => trivial
      clear HSP HST hvl hvl2 hDC hacc HAP
      go_wp2
      go_loopw [8, 15] (fun v i wr => ∃ m : Nat, m ≤ vs2.length ∧ i = .int .i64 (m : Int) ∧ Hid (Own wr w.heap.size 28 v (vs ++ vs2.take m)) ∧ Hid (Own wr w1.heap.size 28 (.slice A9 vs2.length c9) vs2) ∧ Hid ((Value.slice A9 vs2.length c9).ownBlock = none ∨ (Value.slice A9 vs2.length c9).ownBlock ≠ v.ownBlock) ∧ Hid (AllT wr vs acc) ∧ Hid (AllT wr vs2 dl) ∧ Hid (Below w.heap.size w wr)) (fun _ i _ => vs2.length - (intOf i).toNat)
      case atStart =>
        refine ⟨0, by omega, rfl, by rw [List.take_zero, List.append_nil]; exact HO2, HN2, ?_, HAT2, HNT2, HB2⟩
        show _ ∨ _
        cases A9 with
        | none => exact .inl rfl
        | some ad =>
          right
          intro he
          have h1 := (World.ownsRow.lt HN2.out ad.block rfl).1
          have h2 := HLT.out ad.block he.symm
          omega
      case round =>
        obtain ⟨m, hm, rfl, HOm, HNm, HNE, HATm, HNTm, HBm⟩ := hrel
        clear HO2 HN2 HAT2 HNT2 HB2 HLT
        by_cases hml : m < vs2.length
        · obtain ⟨Ax, cx, hvx, _, _, hcx⟩ := own_slice HNm.out
          obtain ⟨bb, oo, hAx, hcell⟩ := hcx (by omega)
          have hAA : A9 = some ⟨bb, oo, none⟩ := by
            simp only [Value.slice.injEq] at hvx
            rw [hvx.1, hAx]
          have hck := hcell m hml
          have hm0 : (0 : Int) ≤ (m : Int) := Int.natCast_nonneg _
          have hm1 : (m : Int) < (vs2.length : Int) := by omega
          obtain ⟨A3, c3, hu3, _⟩ := HNTm.out.2 m hml (by rw [← HVL.out]; exact hml)
          have HTK := Go.Lib.hid (show vs2.take (m + 1) = vs2.take m ++ [vs2[m]] from (List.take_append_getElem hml).symm)
          subst hAA
          clear hvx hcx hAx hcell
          rw [hu3] at hck HTK
          clear hu3
          generalize dl[m].length = n3 at *
          obtain ⟨q, hq⟩ : ∃ q, q = vs ++ vs2.take m := ⟨_, rfl⟩
          have hql : q.length ≤ 549755879423 := by rw [hq, List.length_append, List.length_take]; omega
          rw [← hq] at HOm
          have HQ := Go.Lib.hid hq
          have hsz := HBm.out.size
          obtain ⟨hroom, hmax⟩ := room24 q.length hql
          clear hq
          go_wp2_with (first
            | (at_builtin; (with_reducible refine wpList_append_valB (W := wr) (u := .slice A3 n3 c3) (base := w.heap.size) (vs := q) (s := .tmp 57) (x := .tmp 62) (t := 27) (e := 28) (z := .slice none 0 0) (bytes := 24) (hinfo := infoRow) (ht := Tryd.underlying27) (hown := HOm.out) (hbase := hsz) (hgd := rfl) (ho := ?_) (hz := ?_) (hs := ?_) (hu := ?_) (hx := ?_) (hroom := hroom) (hmax := hmax) (h := ?_)); rfl; rfl; rfl; rfl; rfl; intro v6 w6 hown6 hgr6 hbk6; have HO6 := Go.Lib.hid hown6; have HG6 := Go.Lib.hid hgr6; have HBK := Go.Lib.hid hbk6; clear hown6 hgr6 hbk6))
          have HB6 := Go.Lib.hid (below_grown HBm.out HOm.out HG6.out (Nat.le_refl _) hsz)
          have HK6 := keepB_grown HOm.out (by decide) HG6.out
          have HATN := Go.Lib.hid (allT_keep HATm.out HK6)
          have HNTN := Go.Lib.hid (allT_keep HNTm.out HK6)
          have HNN := Go.Lib.hid (own_kept HNm.out HG6.out HNE.out)
          have HLTB := (World.ownsRow.lt HNm.out bb rfl).2
          have HNEN : Hid ((Value.slice (some ⟨bb, oo, none⟩) vs2.length c9).ownBlock = none ∨ (Value.slice (some ⟨bb, oo, none⟩) vs2.length c9).ownBlock ≠ v6.ownBlock) := by
            right
            rcases HBK.out with h | ⟨kk, h, hge⟩
            · rw [h]
              exact HNE.out.resolve_left (by simp [Value.ownBlock])
            · rw [h]
              simp only [Value.ownBlock, ne_eq, Option.some.injEq]
              omega
          clear HK6 HLTB HATm HNTm HNm HNE HOm HG6 HBK HBm
          go_roundw
          case rel =>
            refine ⟨m + 1, by omega, by go_num, ?_, HNN, HNEN, HATN, HNTN, HB6⟩
            have e := HO6.out
            rw [HQ.out, List.append_assoc, ← HTK.out] at e
            exact e
          case measure => simp [intOf]; omega
        · have hmv : m = vs2.length := by omega
          have ho := HOm.out
          rw [hmv, List.take_length] at ho
          have HOF := Go.Lib.hid ho
          have HATF := Go.Lib.hid (allT_append HATm.out HNTm.out)
          clear ho HOm HNm HNE HATm HNTm hmv
          go_wp2
          go_roundw
          case rel => exact ⟨k + 1, _, _, vs ++ vs2, rfl, by go_num, by omega, HVL.out ▸ HST2, HOF, HATF, HBm⟩
          case measure => simp [intOf]; omega
end Go.Proofs.YtipjdkdonmoojaaDoor
