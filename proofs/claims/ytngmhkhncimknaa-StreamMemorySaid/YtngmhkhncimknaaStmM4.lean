/- StreamMemory: its two pieces, as pieces of the law's walk. -/
import Derived.Test.YtngmhkhncimknaaStmM2
namespace Go.Proofs.Ytngmhkhncimknaa
open Go Go.Conc Go.RowKit
set_option linter.unusedVariables false
set_option linter.unusedSimpArgs false
section
attribute [local go_sem] n8_self beq_n8 bne_n8

/-- append(rows, more...), with where it lies -/
theorem run_append_rows2 {P : Program} (w : World) (base : Nat) (t ty e : TypeId) (ht : P.underlying t = some (.slice e)) (hinfo : (P.info? e).map (fun i => (i.zero, i.size, i.bytes)) = some (some (.slice none 0 0), 1, 24)) (v x : Value) (us vs : List Value) {b2 : Nat}
    (hown : Own w base e v us) (hx : Own w b2 e x vs) (h1 : ∀ u ∈ vs, u.oneCell' = true) (hroom : us.length + vs.length ≤ 4000000000000) (hbase : base ≤ w.heap.size) :
    ∃ v' w', (Builtin.append_ #[t, t] ty #[v, x]).run P w = .ok v' w' ∧ Own w' base e v' (us ++ vs) ∧ w.grownBy w' v.ownBlock ∧ (v'.ownBlock = v.ownBlock ∨ ∃ g, v'.ownBlock = some g ∧ w.heap.size ≤ g) := by
  obtain ⟨i, hi, hz0, hz1, hz2⟩ := info_parts hinfo
  obtain ⟨A, c, rfl, _, _, hA⟩ := own_slice hx
  rcases Nat.eq_zero_or_pos vs.length with h0 | h0
  · obtain rfl := List.eq_nil_of_length_eq_zero h0
    refine ⟨v, w, ?_, by simpa using hown, ⟨rfl, rfl, rfl, Nat.le_refl _, fun _ _ _ => rfl⟩, .inl rfl⟩
    rcases hown.2 with ⟨rfl, _⟩ | ⟨g, cap, cur, rfl, _, hg, hn, _⟩
    · cases A <;> simp [Builtin.append_, run_underlying ht, sizeOf, typeInfo, hi, Builtin.lenOf, Builtin.firstCells, loadCells, loadCellsFrom]
    · cases A <;> simp [Builtin.append_, run_underlying ht, sizeOf, typeInfo, hi, Builtin.lenOf, Builtin.firstCells, loadCells, loadCellsFrom, storeCells, hn]
  · obtain ⟨ad, rfl, hc⟩ := cells_src hA h0
    obtain ⟨v', w', hr, h2, h3, h4⟩ := run_append_blk2 (P := P) w base t ty e i (.slice none 0 0) 1 24 ht hi hz0 hz1 hz2 rfl (by decide) v us.length us hown ad vs.length c vs (by simp) hc h1 (by unfold maxLen; omega) (by omega) hbase
    refine ⟨v', w', hr, ?_, h3, h4.imp id fun ⟨g, a, b, _⟩ => ⟨g, a, b⟩⟩
    unfold Own
    simpa using h2
theorem wpList_append_rows2 {P : Program} {W : World} {ops : Array Oper} {rest : List Oper} {o : Oper} {a : Act} {Q : Exit → Act → World → Prop} (hgd : o.guard = none) (s x : Operand) (t e : TypeId)
    (ht : P.underlying t = some (.slice e)) (hinfo : (P.info? e).map (fun i => (i.zero, i.size, i.bytes)) = some (some (.slice none 0 0), 1, 24))
    (ho : o.op = .call { callee := .builtin .append, args := #[s, x], argTypes := #[t, t] })
    (base : Nat) (v xv : Value) (us vs : List Value) (b2 : Nat) (hs : a.eval s = v) (hx : a.eval x = xv) (hown : Own W base e v us) (hsrc : Own W b2 e xv vs) (h1 : ∀ u ∈ vs, u.oneCell' = true) (hroom : us.length + vs.length ≤ 4000000000000) (hbase : base ≤ W.heap.size)
    (h : ∀ v' w', Own w' base e v' (us ++ vs) → W.grownBy w' v.ownBlock → (v'.ownBlock = v.ownBlock ∨ ∃ g, v'.ownBlock = some g ∧ W.heap.size ≤ g) → wpList P ops Q rest (a.put o.dst v') w') : wpList P ops Q (o :: rest) a W := by
  refine wpList_plain hgd fun K hK => ?_
  obtain ⟨v', w', hr, h2, h3, h4⟩ := run_append_rows2 (P := P) W base t o.type e ht hinfo v xv us vs hown hsrc h1 hroom hbase
  unfold Oper.wp execOp
  simp only [ho, resolve, invoke, builtin, Sem.run_bind, Sem.run_pure, Result.andThen_ok, List.map_toArray, List.map_cons, List.map_nil, hs, hx, hr]
  exact hK _ _ (h v' w' h2 h3 h4)

theorem pays_right {w : World} {B0 B1 : Nat} {ks vs : List Value} {ps qs : List (List UInt8)} (h : Pays w B0 B1 (ks ++ vs) (ps ++ qs)) (hl : ks.length = ps.length) : Pays w B0 B1 vs qs := by
  have hlen := h.len
  simp only [List.length_append] at hlen
  refine ⟨by omega, fun i h1 h2 => ?_, fun i j h1 h2 b hij hb => ?_, fun i h1 b hb => ?_⟩
  · have := h.own (ks.length + i) (by simp; omega) (by simp; omega)
    rw [List.getElem_append_right (by omega), List.getElem_append_right (by omega)] at this
    simpa [hl] using this
  · have := h.apart (ks.length + i) (ks.length + j) (by simp; omega) (by simp; omega) b (by omega)
    rw [List.getElem_append_right (by omega), List.getElem_append_right (by omega)] at this
    simp only [Nat.add_sub_cancel_left] at this
    exact this hb
  · have := h.lt (ks.length + i) (by simp; omega) b
    rw [List.getElem_append_right (by omega)] at this
    simp only [Nat.add_sub_cancel_left] at this
    exact this hb
theorem payR_right {w : World} {x : Option Nat} {us xs : List Value} {ps qs : List (List UInt8)} (h : PayR w x (us ++ xs) (ps ++ qs)) (hl : us.length = ps.length) : PayR w x xs qs := by
  have hlen := h.1
  simp only [List.length_append] at hlen
  refine ⟨by omega, fun i h1 h2 => ?_⟩
  have := h.2 (us.length + i) (by simp; omega) (by simp; omega)
  rw [List.getElem_append_right (by omega), List.getElem_append_right (by omega)] at this
  simpa [hl] using this
theorem payR_one {w : World} {x : Option Nat} {us : List Value} {ps : List (List UInt8)} (h : PayR w x us ps) : ∀ u ∈ us, u.oneCell' = true := by
  intro u hu
  obtain ⟨i, hi, rfl⟩ := List.mem_iff_getElem.1 hu
  obtain ⟨g, o, c, e, _⟩ := h.2 i hi (by rw [← h.1]; exact hi)
  rw [e]; rfl

/-- the kept rows are taken over, the wanted ones not yet -/
structure MSQ (w0 : World) (sp tp : Nat) (h : List UInt8) (b : Bool) (v u kv wv qv : Value) (ks us xs : List Value) (ps : List (List UInt8)) (w : World) : Prop where
  below : Below w0.heap.size w0 w
  spl : Spl w0.heap.size sp h b v w
  ref : RefS w0.heap.size tp h b u w
  whole : b = false → Whole0 h
  kown : Own w w0.heap.size 30 kv ks
  kpay : Pays w w0.heap.size w.heap.size ks ps
  wown : Own w w0.heap.size 30 wv us
  qown : Own w w0.heap.size 30 qv xs
  wpay : PayR w u.ownBlock (us ++ xs) ps
  kw : ∀ g, kv.ownBlock = some g → wv.ownBlock ≠ some g
  uk : ∀ x ∈ ks, ∀ g, x.ownBlock = some g → u.ownBlock ≠ some g
  uv : ∀ g, u.ownBlock = some g → v.ownBlock ≠ some g
section
variable {w0 w w' : World} {sp tp : Nat} {h : List UInt8} {b : Bool} {v u kv wv pv qv v' : Value} {ks us vs xs : List Value} {ps qs : List (List UInt8)}
theorem MSR.keep1 (H : MSR w0 sp tp h b v u kv wv ks us ps pv qv vs xs qs w) (ho : Own w' w0.heap.size 30 v' (ks ++ vs)) (hg : w.grownBy w' kv.ownBlock) (hb : v'.ownBlock = kv.ownBlock ∨ ∃ g, v'.ownBlock = some g ∧ w.heap.size ≤ g) : MSQ w0 sp tp h b v u v' wv qv (ks ++ vs) us xs (ps ++ qs) w' := by
  have hne : ∀ {g e}, isCells w g e → e ≠ 30 → some g ≠ kv.ownBlock := fun hc he e2 => he (isCells_inj hc (own_block H.kown e2.symm).2.2)
  have hk : ∀ {g e}, isCells w g e → e ≠ 30 → w'.heap[g]? = w.heap[g]? := fun hc he => hg.block _ (lt_of_isCells hc) (hne hc he)
  refine ⟨H.below.grown hg H.below.size fun k hk => (own_block H.kown hk).1, ⟨(hk ⟨_, _, H.spl.blk⟩ (by decide)).trans H.spl.blk, own_same H.spl.own fun g hx => hk (own_block H.spl.own hx).2.2 (by decide), H.spl.ge⟩,
    ⟨(hk ⟨_, _, H.ref.blk⟩ (by decide)).trans H.ref.blk, own_same H.ref.own fun g hx => hk (own_block H.ref.own hx).2.2 (by decide), H.ref.ge⟩, H.whole, ho, ?_, own_same H.wown fun g hx => hg.block g (own_block H.wown hx).2.1 fun e => H.kw g e.symm hx, own_same H.qown fun g hx => hg.block g (own_block H.qown hx).2.1 fun e => H.kq g e.symm hx,
    H.wpay.same fun g hc hn => ⟨hk hc (by decide), hn⟩, fun g hx e => ?_, H.uk, H.uv⟩
  · exact (pays_same2 H.kpay fun x hx g hgx hc => hk hc (by decide)).up hg.size
  · rcases hb with hb | ⟨g1, hb1, hb2⟩
    · exact H.kw g (by rw [← hb]; exact hx) e
    · rw [hb1] at hx; cases hx
      have := (own_block H.wown e).2.1; omega
theorem MSQ.keep2 (H : MSQ w0 sp tp h b v u kv wv qv ks us xs ps w) (ho : Own w' w0.heap.size 30 v' (us ++ xs)) (hg : w.grownBy w' wv.ownBlock) (hb : v'.ownBlock = wv.ownBlock ∨ ∃ g, v'.ownBlock = some g ∧ w.heap.size ≤ g) : MS w0 sp tp h b v u kv v' ks (us ++ xs) ps w' := by
  have hne : ∀ {g e}, isCells w g e → e ≠ 30 → some g ≠ wv.ownBlock := fun hc he e2 => he (isCells_inj hc (own_block H.wown e2.symm).2.2)
  have hk : ∀ {g e}, isCells w g e → e ≠ 30 → w'.heap[g]? = w.heap[g]? := fun hc he => hg.block _ (lt_of_isCells hc) (hne hc he)
  refine ⟨H.below.grown hg H.below.size fun k hk => (own_block H.wown hk).1, ⟨(hk ⟨_, _, H.spl.blk⟩ (by decide)).trans H.spl.blk, own_same H.spl.own fun g hx => hk (own_block H.spl.own hx).2.2 (by decide), H.spl.ge⟩,
    ⟨(hk ⟨_, _, H.ref.blk⟩ (by decide)).trans H.ref.blk, own_same H.ref.own fun g hx => hk (own_block H.ref.own hx).2.2 (by decide), H.ref.ge⟩, H.whole, own_same H.kown fun g hx => hg.block g (own_block H.kown hx).2.1 fun e => H.kw g hx e.symm, ?_, ho,
    H.wpay.same fun g hc hn => ⟨hk hc (by decide), hn⟩, fun g hx e => ?_, H.uk, H.uv⟩
  · exact (pays_same2 H.kpay fun x hx g hgx hc => hk hc (by decide)).up hg.size
  · rcases hb with hb | ⟨g1, hb1, hb2⟩
    · exact H.kw g hx (by rw [← hb]; exact e)
    · rw [hb1] at e; cases e
      have := (own_block H.kown hx).2.1; omega
end

/-- how a round ends -/
def RoundEnd (A : Option Addr) (ll cc k : Nat) (s3 s4 : Value) (w0 : World) (sp tp : Nat) (h : List UInt8) (b : Bool) (v u : Value) (ks us : List Value) (ps : List (List UInt8)) (e : Exit) (a' : Act) (w' : World) : Prop :=
  e = .normal ∧ ∃ (F : Nat → Value) (kv' wv' : Value), a' = { tmps := #[.slice A ll cc, F 1, F 2, s3, s4, kv', wv', .int .i64 (k : Int), F 8, F 9, F 10, F 11, F 12, F 13, F 14, F 15, F 16, F 17, F 18, F 19, F 20, F 21, F 22, F 23, F 24, F 25, F 26, F 27, F 28, F 29, F 30, F 31, F 32, F 33, F 34, F 35, F 36, F 37, F 38, F 39, F 40, F 41, F 42, F 43, F 44, F 45, F 46, F 47, F 48, F 49, F 50, F 51, F 52, F 53, F 54, F 55, F 56, F 57, F 58, F 59, F 60, F 61, F 62, F 63, F 64, F 65, F 66, F 67, F 68, F 69, F 70, F 71, F 72, F 73, F 74, F 75, F 76, F 77, F 78, F 79, F 80, F 81, F 82, F 83, F 84, F 85, F 86, F 87, F 88, F 89, F 90, F 91, F 92, F 93, F 94, F 95, F 96, F 97, F 98, F 99, F 100, F 101, F 102, F 103, F 104, F 105, F 106, F 107, F 108, F 109, F 110, F 111, F 112, F 113, F 114, F 115, F 116, F 117, F 118, F 119, F 120, F 121, F 122, F 123, F 124, F 125, F 126, F 127, F 128, F 129, F 130, F 131, F 132, F 133, F 134, F 135, F 136, F 137, F 138, F 139, F 140, F 141, F 142, F 143, F 144, F 145, F 146, F 147, F 148, F 149, F 150, F 151, F 152, F 153, F 154, F 155, F 156, F 157, F 158, F 159, F 160, F 161, F 162, F 163, F 164, F 165, F 166, F 167, F 168, F 169, F 170, F 171, F 172, F 173, F 174, F 175, F 176, F 177, F 178, F 179, F 180, F 181, F 182, F 183, F 184, F 185, F 186, F 187, F 188, F 189, F 190, F 191, F 192, F 193, F 194, F 195, F 196, F 197, F 198, F 199, F 200, F 201, F 202, F 203, F 204, F 205, F 206, F 207, F 208, F 209, F 210, F 211, F 212, F 213, F 214, F 215, F 216, F 217, F 218, F 219], defers := [] } ∧ MS w0 sp tp h b v u kv' wv' ks us ps w'

noncomputable def memLoop : Code := sqL (sqR (sqR (sqR (sqR (sqR (sqR (sqR (sqR memBody))))))))
noncomputable def memRound : Code := sqR (sqR (sqR (inB (sqL (sqR (inL (inB (sqR memLoop))))))))

set_option maxRecDepth 100000 in
set_option maxHeartbeats 3200000 in
theorem round_wp (F : Nat → Value) (A : Option Addr) (ll cc k : Nat) (s3 s4 : Value) (w0 : World) (sp tp : Nat) (h : List UInt8) (bd : Bool) (v u kv wv : Value) (ks us : List Value) (ps : List (List UInt8)) (PA QA : Option Addr) (pc qc : Nat) (vs xs : List Value) (qs : List (List UInt8)) (g d : Nat) (lb : List UInt8) (A1 : Option Addr) (c1 b o : Nat) (W : World)
    (hA : A = some ⟨b, o, none⟩) (hlt : k < ll) (hc : W.cell? ⟨b, o + k, none⟩ = some (.slice A1 lb.length c1)) (hr : Cells W A1 (Bs lb)) (hlow : 0 < lb.length → ∀ a, A1 = some a → a.block < w0.heap.size) (hlen : lb.length ≤ 16777216) (hd : lb.length + 20 ≤ d ∧ d ≤ 9223372036854775807)
    (hM : MSR w0 sp tp h bd v u kv wv ks us ps (.slice PA qs.length pc) (.slice QA qs.length qc) vs xs qs W) (hg : Own W w0.heap.size 5 (.slice (some ⟨g, 0, none⟩) (lb.length + 20) d) (Bs (lb ++ marks 20))) (hne : GNe g v u (ks ++ vs) (us ++ xs)) (hsz : ks.length + vs.length ≤ 4000000000) :
    memRound.wp Try.prog (RoundEnd A ll cc k s3 s4 w0 sp tp h bd v u (ks ++ vs) (us ++ xs) (ps ++ qs)) { tmps := #[.slice A ll cc, F 1, F 2, s3, s4, kv, wv, .int .i64 (k : Int), .slice (some ⟨g, 0, none⟩) lb.length d, .slice PA qs.length pc, .bool bd, .slice QA qs.length qc, .bool bd, F 13, F 14, F 15, F 16, F 17, F 18, F 19, F 20, F 21, F 22, F 23, F 24, F 25, F 26, F 27, F 28, F 29, F 30, F 31, F 32, F 33, F 34, F 35, F 36, F 37, F 38, F 39, F 40, F 41, F 42, F 43, F 44, F 45, F 46, F 47, F 48, F 49, F 50, F 51, F 52, F 53, F 54, F 55, F 56, F 57, F 58, F 59, F 60, F 61, F 62, F 63, F 64, F 65, F 66, F 67, F 68, F 69, F 70, F 71, F 72, F 73, F 74, F 75, F 76, F 77, F 78, F 79, F 80, F 81, F 82, F 83, F 84, F 85, F 86, F 87, F 88, F 89, F 90, F 91, F 92, F 93, F 94, F 95, F 96, F 97, F 98, F 99, F 100, F 101, F 102, F 103, F 104, F 105, F 106, F 107, F 108, F 109, F 110, F 111, F 112, F 113, F 114, F 115, F 116, F 117, F 118, F 119, F 120, F 121, F 122, F 123, F 124, F 125, F 126, F 127, F 128, F 129, F 130, F 131, F 132, F 133, F 134, F 135, F 136, F 137, F 138, F 139, F 140, F 141, F 142, F 143, F 144, F 145, F 146, F 147, F 148, F 149, F 150, F 151, F 152, F 153, F 154, F 155, F 156, F 157, F 158, F 159, F 160, F 161, F 162, F 163, F 164, F 165, F 166, F 167, F 168, F 169, F 170, F 171, F 172, F 173, F 174, F 175, F 176, F 177, F 178, F 179, F 180, F 181, F 182, F 183, F 184, F 185, F 186, F 187, F 188, F 189, F 190, F 191, F 192, F 193, F 194, F 195, F 196, F 197, F 198, F 199, F 200, F 201, F 202, F 203, F 204, F 205, F 206, F 207, F 208, F 209, F 210, F 211, F 212, F 213, F 214, F 215, F 216, F 217, F 218, F 219], defers := [] } W := by
  have hrP : RowsB W PA qs := by
    obtain ⟨A', c', e1, _, _, hr⟩ := rows_of hM.pown (pays_right hM.kpay hM.len.1)
    obtain ⟨rfl, _⟩ : PA = A' ∧ pc = c' := by simpa using e1
    exact hr
  have hrQ : RowsB W QA qs := by
    obtain ⟨A', c', e1, _, _, hr⟩ := (payR_right hM.wpay hM.len.2.1).rows hM.qown
    obtain ⟨rfl, _⟩ : QA = A' ∧ qc = c' := by simpa using e1
    exact hr
  have hql : qs.length ≤ 4000000000 := by have := hM.len.2.2.1; omega
  have HS : Hid (∀ n, Calls Try.prog 13 #[.slice PA qs.length pc, .slice QA qs.length qc] (W.drewN n) (fun e w'' => e = .returned (.bool true) ∧ ∃ m, w'' = W.drewN m)) := fun n => by
    refine (same_calls PA QA pc qc qs qs (W.drewN n) (by omega) (rowsB_below (drewN_below _ _ _) hrP) (rowsB_below (drewN_below _ _ _) hrQ)).mono ?_
    rintro e w'' ⟨he, q, hq⟩
    exact ⟨by rw [he, beq_self_eq_true], n + q, by rw [hq, World.drewN_drewN]⟩
  have hgc : Cells W (some ⟨g, 0, none⟩) (Bs (lb ++ marks 20)) := by
    obtain ⟨A', c', e1, _, _, hr⟩ := own_slice hg
    obtain ⟨rfl, _⟩ : some (⟨g, 0, none⟩ : Addr) = A' ∧ _ := by simpa using e1
    exact hr
  have hgl : Cells W (some ⟨g, 0, none⟩) (Bs lb) := by
    have := cells_take hgc lb.length
    rwa [← Bs_take, List.take_left'] at this
    rfl
  have e1 := fun n => lone_str (c := d) (cells_below (drewN_below W.heap.size W n) hgl)
  have e2 := fun n => lone_str (c := c1) (cells_below (drewN_below W.heap.size W n) hr)
  have nb : (bd != bd) = false := by cases bd <;> rfl
  have i1 : (k : Int) < (ll : Int) := by omega
  have i0 : (0 : Int) ≤ (k : Int) := Int.natCast_nonneg _
  have HGC : Hid (∀ j, j < 20 → W.cell? ⟨g, lb.length + j, none⟩ = some (.int .u8 (n8 (UInt8.ofNat (224 + j))))) := by
    intro j hj
    have hl : (Bs (lb ++ marks 20)).length = lb.length + 20 := by rw [Bs_length, List.length_append, marks_length]
    obtain ⟨b', o', e, hcc⟩ := hgc (by rw [hl]; omega)
    cases e
    have := hcc (lb.length + j) (by rw [hl]; omega)
    rw [Nat.zero_add] at this
    rw [this]
    simp only [Bs, List.getElem_map]
    rw [List.getElem_append_right (by omega)]
    simp [marks]
  have HM := Go.Lib.hid hM
  have HG := Go.Lib.hid hg
  have HNE := Go.Lib.hid hne
  obtain ⟨M, hMM⟩ : ∃ M, M = lb.length + 20 := ⟨_, rfl⟩
  have HMM := Go.Lib.hid hMM
  have wM : IntKind.i64.wrap ((lb.length : Int) + 20) = (M : Int) := by rw [IntKind.wrap_i64]; omega
  have hcutW : ∀ W : World, (Instr.slice 30 (.slice (some ⟨g, 0, none⟩) lb.length d) none (some (.int .i64 (M : Int))) none).run Try.prog W = .ok (.slice (some ⟨g, 0, none⟩) M d) W :=
    run_cut_h (P := Try.prog) 30 5 Try.underlying30 (by kernel_rfl) (some ⟨g, 0, none⟩) lb.length d M (by omega)
  have hMb : M ≤ 16777236 := by omega
  clear hrP hrQ hgc hgl hr hlow hM hg hne hMM hql
  subst hA
  simp only [memRound, memLoop, memBody, Try.f4, sqR, sqL, inB, inL, Option.getD]
  go_wp2
  go_quiet ((go_at_call 13; exact HS.out _))
  go_wp2
  go_loopw [14] (fun iv wr => ∃ (j n : Nat), j ≤ 20 ∧ iv = .int .i64 (j : Int) ∧ Hid (wr = W.drewN n)) (fun iv _ => 20 - (intOf iv).toNat)
  case atStart => exact ⟨0, _, by omega, rfl, rfl⟩
  case round =>
    obtain ⟨j, n, hj, rfl, HW⟩ := hrel
    obtain rfl := HW.out
    by_cases hj20 : j < 20
    · have j1 : (j : Int) < 20 := by omega
      have hgj := HGC.out j hj20
      obtain ⟨p, hp⟩ : ∃ p, p = lb.length + j := ⟨_, rfl⟩
      rw [← hp] at hgj
      have w1 : IntKind.i64.wrap ((lb.length : Int) + (j : Int)) = (p : Int) := by rw [IntKind.wrap_i64]; omega
      have p0 : (0 : Int) ≤ (p : Int) := Int.natCast_nonneg _
      have p1 : (p : Int) < (M : Int) := by have := HMM.out; omega
      have w2 : IntKind.i64.wrap (224 + (j : Int)) = 224 + (j : Int) := by rw [IntKind.wrap_i64]; omega
      have w8 : IntKind.u8.wrap (224 + (j : Int)) = n8 (UInt8.ofNat (224 + j)) := by
        rw [IntKind.wrap_u8]
        unfold n8
        rw [UInt8.toNat_ofNat', Nat.mod_eq_of_lt (by omega)]
        omega
      generalize UInt8.ofNat (224 + j) = y at *
      clear hp
      go_wp2
      go_roundw
      case rel => exact ⟨j + 1, n, by omega, by go_num, rfl⟩
      case measure => simp [intOf]; omega
    · obtain rfl : j = 20 := by omega
      have HR0 : Hid (MSR w0 sp tp h bd v u kv wv ks us ps (.slice PA qs.length pc) (.slice QA qs.length qc) vs xs qs (W.drewN n) ∧ ∃ cur, (W.drewN n).heap[g]? = some (.cells cur 5 (0, 0)) ∧ M ≤ cur.size) := by
        refine ⟨HM.out.next (drewN_below _ _ _), ?_⟩
        rcases HG.out.2 with ⟨e, _⟩ | ⟨g', cap, cur, e, _, q2, q3, _, q5, _⟩
        · cases e
        · simp only [Value.slice.injEq, Option.some.injEq, Addr.mk.injEq] at e
          obtain ⟨⟨rfl, _⟩, e2, _⟩ := e
          refine ⟨cur, q2, ?_⟩
          have := HMM.out
          omega
      have hg0 : w0.heap.size ≤ g := (own_block HG.out rfl).1
      clear HM HG HGC e1 e2 hc
      go_wp2
      go_loopw [15] (fun iv wr => ∃ (j : Nat), j ≤ M ∧ iv = .int .i64 (j : Int) ∧ Hid (MSR w0 sp tp h bd v u kv wv ks us ps (.slice PA qs.length pc) (.slice QA qs.length qc) vs xs qs wr ∧ ∃ cur, wr.heap[g]? = some (.cells cur 5 (0, 0)) ∧ M ≤ cur.size)) (fun iv _ => M - (intOf iv).toNat)
      case atStart => exact ⟨0, by omega, rfl, HR0⟩
      case round =>
        obtain ⟨j, hj, rfl, HR⟩ := hrel
        obtain ⟨HM1, cur, hcur, hcs⟩ := HR.out
        by_cases hjM : j < M
        · have j0 : (0 : Int) ≤ (j : Int) := Int.natCast_nonneg _
          have j1 : (j : Int) < (M : Int) := by omega
          have hcj : wr.cell? ⟨g, j, none⟩ = some cur[j] := by
            rw [cell_of_row wr g j _ _ _ hcur]
            simp [Array.getElem?_eq_getElem (show j < cur.size by omega)]
          have fz := heap_frozen hcur j
          have HR2 : Hid (MSR w0 sp tp h bd v u kv wv ks us ps (.slice PA qs.length pc) (.slice QA qs.length qc) vs xs qs (wr.setCell ⟨g, j, none⟩ (.int .u8 90)) ∧ ∃ cur, (wr.setCell ⟨g, j, none⟩ (.int .u8 90)).heap[g]? = some (.cells cur 5 (0, 0)) ∧ M ≤ cur.size) :=
            ⟨HM1.write HNE.out ⟨_, _, hcur⟩ hg0 j _, _, heap_setCell_same wr g j cur _ _ hcur, by simpa using hcs⟩
          clear HM1 HR HR0
          go_wp2
          go_roundw
          case rel => exact ⟨j + 1, by omega, by go_num, HR2⟩
          case measure => simp [intOf]; omega
        · obtain rfl : j = M := by omega
          have HM2 := Go.Lib.hid HM1
          have hown1 := Go.Lib.hid HM1.kown
          have hpown1 := Go.Lib.hid HM1.pown
          have hsz1 := HM1.below.size
          have h11 : ∀ y ∈ vs, y.oneCell' = true := fun y hy => pays_one HM1.kpay y (List.mem_append_right _ hy)
          have hro1 : ks.length + vs.length ≤ 4000000000000 := by omega
          have H21 : Hid (∀ y ∈ xs, y.oneCell' = true) := fun y hy => payR_one HM1.wpay y (List.mem_append_right _ hy)
          have hro2 : us.length + xs.length ≤ 4000000000000 := by have := HM1.len; omega
          have H11 := Go.Lib.hid h11
          clear HM1 hcur hcs HR HR0 h11 hj hjM
          go_wp2_with (first
            | (at_builtin; (with_reducible refine wpList_append_rows2 (W := wr) (s := .tmp 106) (x := .tmp 107) (t := 34) (e := 30) (ht := Try.underlying34) (hinfo := infoRow) (base := w0.heap.size) (v := kv) (xv := .slice PA qs.length pc) (us := ks) (vs := vs) (b2 := w0.heap.size) (hown := hown1.out) (hsrc := hpown1.out) (h1 := H11.out) (hroom := hro1) (hbase := hsz1) (hgd := rfl) (ho := ?_) (hs := ?_) (hx := ?_) (h := ?_)); rfl; rfl; rfl; intro v3 w3 hown3 hgr3 hblk3; have HQ3 := Go.Lib.hid (HM2.out.keep1 hown3 hgr3 hblk3); have hown4 := Go.Lib.hid HQ3.out.wown; have hsrc4 := Go.Lib.hid HQ3.out.qown; have hsz4 := HQ3.out.below.size; clear hown3 hgr3 hblk3)
            | (at_builtin; (with_reducible refine wpList_append_rows2 (W := w3) (s := .tmp 109) (x := .tmp 110) (t := 34) (e := 30) (ht := Try.underlying34) (hinfo := infoRow) (base := w0.heap.size) (v := wv) (xv := .slice QA qs.length qc) (us := us) (vs := xs) (b2 := w0.heap.size) (hown := hown4.out) (hsrc := hsrc4.out) (h1 := H21.out) (hroom := hro2) (hbase := hsz4) (hgd := rfl) (ho := ?_) (hs := ?_) (hx := ?_) (h := ?_)); rfl; rfl; rfl; intro v5 w5 hown5 hgr5 hblk5; have HQ5 := Go.Lib.hid (HQ3.out.keep2 hown5 hgr5 hblk5); clear hown5 hgr5 hblk5))
          exact ⟨rfl, (fun i => (#[undef, _, _, undef, undef, undef, undef, undef, _, _, _, _, _, _, _, _, _, _, _, _, _, _, _, _, _, _, _, _, _, _, _, _, _, _, _, _, _, _, _, _, _, _, _, _, _, _, _, _, _, _, _, _, _, _, _, _, _, _, _, _, _, _, _, _, _, _, _, _, _, _, _, _, _, _, _, _, _, _, _, _, _, _, _, _, _, _, _, _, _, _, _, _, _, _, _, _, _, _, _, _, _, _, _, _, _, _, _, _, _, _, _, _, _, _, _, _, _, _, _, _, _, _, _, _, _, _, _, _, _, _, _, _, _, _, _, _, _, _, _, _, _, _, _, _, _, _, _, _, _, _, _, _, _, _, _, _, _, _, _, _, _, _, _, _, _, _, _, _, _, _, _, _, _, _, _, _, _, _, _, _, _, _, _, _, _, _, _, _, _, _, _, _, _, _, _, _, _, _, _, _, _, _, _, _, _, _, _, _, _, _, _, _, _, _, _, _, _, _, _, _] : Array Value).getD i undef), _, _, rfl, HQ5.out⟩
end
section

section
variable {w0 w W : World} {sp tp : Nat} {h : List UInt8} {b : Bool} {v u kv wv pv qv : Value} {ks us vs xs : List Value} {ps qs : List (List UInt8)}
theorem below_in {n : Nat} (hb : Below n w0 w) (h1 : W.heap = w.heap) (h2 : W.os = w.os) (h3 : W.output = w.output) : Below n (turn w0 W.tape 0) W :=
  ⟨h2.trans hb.os, rfl, h3.trans hb.output, by rw [h1]; exact hb.size, fun i hi => by rw [h1]; exact hb.block i hi⟩
theorem MSR.turnIn (H : MSR w0 sp tp h b v u kv wv ks us ps pv qv vs xs qs w) (h1 : W.heap = w.heap) (h2 : W.os = w.os) (h3 : W.output = w.output) : MSR (turn w0 W.tape 0) sp tp h b v u kv wv ks us ps pv qv vs xs qs W := by
  have hs : ∀ {B e x xs}, Own w B e x xs → Own W B e x xs := fun hx => own_same hx fun g _ => by rw [h1]
  refine ⟨below_in H.below h1 h2 h3, ⟨by rw [h1]; exact H.spl.blk, hs H.spl.own, H.spl.ge⟩, ⟨by rw [h1]; exact H.ref.blk, hs H.ref.own, H.ref.ge⟩, H.whole, hs H.kown, ?_, hs H.wown, H.wpay.same fun g _ hn => ⟨by rw [h1], hn⟩, hs H.pown, hs H.qown, H.len, H.kw, H.kq, H.uk, H.uv⟩
  rw [h1]
  exact H.kpay.same fun g _ _ => by rw [h1]
theorem MS.turnOut {t : Nat → Question → Nat} (H : MS (turn w0 t 0) sp tp h b v u kv wv ks us ps W) (d : Nat) : MS w0 sp tp h b v u kv wv ks us ps (turn W w0.tape d) := by
  have hs : ∀ {B e x xs}, Own W B e x xs → Own (turn W w0.tape d) B e x xs := fun hx => own_same hx fun g _ => rfl
  exact ⟨⟨H.below.os, rfl, H.below.output, H.below.size, H.below.block⟩, ⟨H.spl.blk, hs H.spl.own, H.spl.ge⟩, ⟨H.ref.blk, hs H.ref.own, H.ref.ge⟩, H.whole, hs H.kown, H.kpay.same fun g _ _ => rfl, hs H.wown, H.wpay.same fun g _ hn => ⟨rfl, hn⟩, H.kw, H.uk, H.uv⟩
end

theorem round_m {Post : Value → World → Prop} (F : Nat → Value) (A : Option Addr) (ll cc k : Nat) (s3 s4 : Value) (w0 : World) (sp tp : Nat) (h : List UInt8) (bd : Bool) (v u kv wv : Value) (ks us : List Value) (ps : List (List UInt8)) (PA QA : Option Addr) (pc qc : Nat) (vs xs : List Value) (qs : List (List UInt8)) (g d : Nat) (lb : List UInt8) (A1 : Option Addr) (c1 b o : Nat) (w : World)
    (hA : A = some ⟨b, o, none⟩) (hlt : k < ll) (hc : w.cell? ⟨b, o + k, none⟩ = some (.slice A1 lb.length c1)) (hr : Cells w A1 (Bs lb)) (hlow : 0 < lb.length → ∀ a, A1 = some a → a.block < w0.heap.size) (hlen : lb.length ≤ 16777216) (hd : lb.length + 20 ≤ d ∧ d ≤ 9223372036854775807)
    (hM : MSR w0 sp tp h bd v u kv wv ks us ps (.slice PA qs.length pc) (.slice QA qs.length qc) vs xs qs w) (hg : Own w w0.heap.size 5 (.slice (some ⟨g, 0, none⟩) (lb.length + 20) d) (Bs (lb ++ marks 20))) (hne : GNe g v u (ks ++ vs) (us ++ xs)) (hsz : ks.length + vs.length ≤ 4000000000)
    {Q : Option (Duet × Proto) → Exit → Act → World → Prop} (hQ : ∀ (F : Nat → Value) kv' wv' w', MS w0 sp tp h bd v u kv' wv' (ks ++ vs) (us ++ xs) (ps ++ qs) w' → Q none .normal { tmps := #[.slice A ll cc, F 1, F 2, s3, s4, kv', wv', .int .i64 (k : Int), F 8, F 9, F 10, F 11, F 12, F 13, F 14, F 15, F 16, F 17, F 18, F 19, F 20, F 21, F 22, F 23, F 24, F 25, F 26, F 27, F 28, F 29, F 30, F 31, F 32, F 33, F 34, F 35, F 36, F 37, F 38, F 39, F 40, F 41, F 42, F 43, F 44, F 45, F 46, F 47, F 48, F 49, F 50, F 51, F 52, F 53, F 54, F 55, F 56, F 57, F 58, F 59, F 60, F 61, F 62, F 63, F 64, F 65, F 66, F 67, F 68, F 69, F 70, F 71, F 72, F 73, F 74, F 75, F 76, F 77, F 78, F 79, F 80, F 81, F 82, F 83, F 84, F 85, F 86, F 87, F 88, F 89, F 90, F 91, F 92, F 93, F 94, F 95, F 96, F 97, F 98, F 99, F 100, F 101, F 102, F 103, F 104, F 105, F 106, F 107, F 108, F 109, F 110, F 111, F 112, F 113, F 114, F 115, F 116, F 117, F 118, F 119, F 120, F 121, F 122, F 123, F 124, F 125, F 126, F 127, F 128, F 129, F 130, F 131, F 132, F 133, F 134, F 135, F 136, F 137, F 138, F 139, F 140, F 141, F 142, F 143, F 144, F 145, F 146, F 147, F 148, F 149, F 150, F 151, F 152, F 153, F 154, F 155, F 156, F 157, F 158, F 159, F 160, F 161, F 162, F 163, F 164, F 165, F 166, F 167, F 168, F 169, F 170, F 171, F 172, F 173, F 174, F 175, F 176, F 177, F 178, F 179, F 180, F 181, F 182, F 183, F 184, F 185, F 186, F 187, F 188, F 189, F 190, F 191, F 192, F 193, F 194, F 195, F 196, F 197, F 198, F 199, F 200, F 201, F 202, F 203, F 204, F 205, F 206, F 207, F 208, F 209, F 210, F 211, F 212, F 213, F 214, F 215, F 216, F 217, F 218, F 219], defers := [] } w') :
    wpM Try.prog (XF Try.prog (XEnds Try.prog Post)) 4 memRound Q none { tmps := #[.slice A ll cc, F 1, F 2, s3, s4, kv, wv, .int .i64 (k : Int), .slice (some ⟨g, 0, none⟩) lb.length d, .slice PA qs.length pc, .bool bd, .slice QA qs.length qc, .bool bd, F 13, F 14, F 15, F 16, F 17, F 18, F 19, F 20, F 21, F 22, F 23, F 24, F 25, F 26, F 27, F 28, F 29, F 30, F 31, F 32, F 33, F 34, F 35, F 36, F 37, F 38, F 39, F 40, F 41, F 42, F 43, F 44, F 45, F 46, F 47, F 48, F 49, F 50, F 51, F 52, F 53, F 54, F 55, F 56, F 57, F 58, F 59, F 60, F 61, F 62, F 63, F 64, F 65, F 66, F 67, F 68, F 69, F 70, F 71, F 72, F 73, F 74, F 75, F 76, F 77, F 78, F 79, F 80, F 81, F 82, F 83, F 84, F 85, F 86, F 87, F 88, F 89, F 90, F 91, F 92, F 93, F 94, F 95, F 96, F 97, F 98, F 99, F 100, F 101, F 102, F 103, F 104, F 105, F 106, F 107, F 108, F 109, F 110, F 111, F 112, F 113, F 114, F 115, F 116, F 117, F 118, F 119, F 120, F 121, F 122, F 123, F 124, F 125, F 126, F 127, F 128, F 129, F 130, F 131, F 132, F 133, F 134, F 135, F 136, F 137, F 138, F 139, F 140, F 141, F 142, F 143, F 144, F 145, F 146, F 147, F 148, F 149, F 150, F 151, F 152, F 153, F 154, F 155, F 156, F 157, F 158, F 159, F 160, F 161, F 162, F 163, F 164, F 165, F 166, F 167, F 168, F 169, F 170, F 171, F 172, F 173, F 174, F 175, F 176, F 177, F 178, F 179, F 180, F 181, F 182, F 183, F 184, F 185, F 186, F 187, F 188, F 189, F 190, F 191, F 192, F 193, F 194, F 195, F 196, F 197, F 198, F 199, F 200, F 201, F 202, F 203, F 204, F 205, F 206, F 207, F 208, F 209, F 210, F 211, F 212, F 213, F 214, F 215, F 216, F 217, F 218, F 219], defers := [] } w := by
  refine wpM_of_wp (kit_ends same_shut (by kernel_rfl)) Try.func4 (by kernel_rfl) (by decide) (by kernel_rfl) rfl (laid0_all w)
    (Q' := fun e a' w' => ∃ t, RoundEnd A ll cc k s3 s4 (turn w0 t 0) sp tp h bd v u (ks ++ vs) (us ++ xs) (ps ++ qs) e a' w') (fun W h1 h2 h3 => ?_) ?_
  · refine Code.wp_mono (fun e a' w' q => ⟨W.tape, q⟩) (round_wp F A ll cc k s3 s4 (turn w0 W.tape 0) sp tp h bd v u kv wv ks us ps PA QA pc qc vs xs qs g d lb A1 c1 b o W hA hlt ?_ (cells_heap h1 hr) hlow hlen hd (hM.turnIn h1 h2 h3) (own_same hg fun g _ => by rw [h1]) hne hsz)
    unfold World.cell? at hc ⊢
    rw [h1]
    exact hc
  · rintro e a' w' ⟨t, rfl, F', kv', wv', rfl, hMS⟩
    have htape : w.tape = w0.tape := hM.below.tape
    exact ⟨.inl rfl, fun d => hQ F' kv' wv' _ (by rw [htape]; exact hMS.turnOut d)⟩

theorem rest_m {Post : Value → World → Prop} (F : Nat → Value) (w0 : World) (sp tp : Nat) (h : List UInt8) (bd : Bool) (v u : Value) (KA WA : Option Addr) (kc wc : Nat) (ks us : List Value) (ps : List (List UInt8)) (w : World)
    (H : MS w0 sp tp h bd v u (.slice KA ps.length kc) (.slice WA ps.length wc) ks us ps w) (hps : ps.length ≤ 16777474) (hpl : ∀ p ∈ ps, p.length ≤ 16777474) (hpost : ∀ w', Below w0.heap.size w0 w' → Post (.bool true) w') :
    wpM Try.prog (XF Try.prog (XEnds Try.prog Post)) 4 memRest (bodyPostM Try.prog Try.f4 fun γ v w' => γ = none ∧ ∀ d, Post v (w'.at d)) none { tmps := #[F 0, F 1, F 2, F 3, F 4, .slice KA ps.length kc, .slice WA ps.length wc, F 7, F 8, F 9, F 10, F 11, F 12, F 13, F 14, F 15, F 16, F 17, F 18, F 19, F 20, F 21, F 22, F 23, F 24, F 25, F 26, F 27, F 28, F 29, F 30, F 31, F 32, F 33, F 34, F 35, F 36, F 37, F 38, F 39, F 40, F 41, F 42, F 43, F 44, F 45, F 46, F 47, F 48, F 49, F 50, F 51, F 52, F 53, F 54, F 55, F 56, F 57, F 58, F 59, F 60, F 61, F 62, F 63, F 64, F 65, F 66, F 67, F 68, F 69, F 70, F 71, F 72, F 73, F 74, F 75, F 76, F 77, F 78, F 79, F 80, F 81, F 82, F 83, F 84, F 85, F 86, F 87, F 88, F 89, F 90, F 91, F 92, F 93, F 94, F 95, F 96, F 97, F 98, F 99, F 100, F 101, F 102, F 103, F 104, F 105, F 106, F 107, F 108, F 109, F 110, F 111, F 112, F 113, F 114, F 115, F 116, F 117, F 118, F 119, F 120, F 121, F 122, F 123, F 124, F 125, F 126, F 127, F 128, F 129, F 130, F 131, F 132, F 133, F 134, F 135, F 136, F 137, F 138, F 139, F 140, F 141, F 142, F 143, F 144, F 145, F 146, F 147, F 148, F 149, F 150, F 151, F 152, F 153, F 154, F 155, F 156, F 157, F 158, F 159, F 160, F 161, F 162, F 163, F 164, F 165, F 166, F 167, F 168, F 169, F 170, F 171, F 172, F 173, F 174, F 175, F 176, F 177, F 178, F 179, F 180, F 181, F 182, F 183, F 184, F 185, F 186, F 187, F 188, F 189, F 190, F 191, F 192, F 193, F 194, F 195, F 196, F 197, F 198, F 199, F 200, F 201, F 202, F 203, F 204, F 205, F 206, F 207, F 208, F 209, F 210, F 211, F 212, F 213, F 214, F 215, F 216, F 217, F 218, F 219], defers := [] } w := by
  refine wpM_of_wp (kit_ends same_shut (by kernel_rfl)) Try.func4 (by kernel_rfl) (by decide) (by kernel_rfl) rfl (laid0_all w)
    (Q' := fun e a' w' => ∃ W : World, (W.heap = w.heap ∧ W.os = w.os ∧ W.output = w.output) ∧ bodyPost Try.prog Try.f4 (fun e w' => e = .returned (.bool true) ∧ Below w0.heap.size W w') e a' w') (fun W h1 h2 h3 => ?_) ?_
  · have hs : ∀ {B e x xs}, Own w B e x xs → Own W B e x xs := fun hx => own_same hx fun g _ => by rw [h1]
    exact Code.wp_mono (fun e a' w' q => ⟨W, ⟨h1, h2, h3⟩, q⟩) (rest_wp F w0.heap.size KA WA kc wc ks us ps u.ownBlock W (by rw [h1]; exact H.below.size) (hs H.kown) (by rw [h1]; exact H.kpay.same fun g _ _ => by rw [h1]) (hs H.wown) (H.wpay.same fun g _ hn => ⟨by rw [h1], hn⟩) hps hpl)
  · have key : ∀ (a' : Act) (w' W : World), W.heap = w.heap → W.os = w.os → W.output = w.output → (a'.defers = [] ∧ ∃ v, (results Try.f4 a'.tmps).run Try.prog w' = .ok v w' ∧ Ending.returned v = .returned (.bool true) ∧ Below w0.heap.size W w') → ∀ d, a'.defers = [] ∧ ∃ v, ResultsC Try.prog Try.f4 a'.tmps v ∧ none = (none : Option (Duet × Proto)) ∧ ∀ d', Post v ((turn w' w.tape d).at d') := by
      rintro a' w' W h1 h2 h3 ⟨hd, v, hr, hv, hb⟩ d
      obtain rfl : v = .bool true := by simpa using hv
      have hres : Try.f4.results = #[.tmp 2] := rfl
      have hc := resultsC_tmp (P := Try.prog) hres a'.tmps
      have e := (hc w').1
      rw [hr] at e
      obtain ⟨e2, _⟩ := Result.ok.inj e
      refine ⟨hd, _, hc, rfl, fun d' => ?_⟩
      rw [← e2]
      refine hpost _ ⟨?_, ?_, ?_, ?_, fun i hi => ?_⟩
      · exact hb.os.trans (h2.trans H.below.os)
      · exact H.below.tape
      · exact hb.output.trans (h3.trans H.below.output)
      · exact Nat.le_trans (by rw [h1]; exact H.below.size) hb.size
      · exact (hb.block i hi).trans ((by rw [h1] : W.heap[i]? = w.heap[i]?).trans (H.below.block i hi))
    rintro e a' w' ⟨W, ⟨h1, h2, h3⟩, q⟩
    cases e with
    | normal => exact ⟨.inl rfl, fun d => key a' w' W h1 h2 h3 q d⟩
    | ret => exact ⟨.inr rfl, fun d => key a' w' W h1 h2 h3 q d⟩
    | exit id => exact q.elim
    | goto l => exact q.elim
    | panic ch => exact absurd q.2.1 (by simp)
    | outgrown => exact absurd q.1 (by simp)
end
end Go.Proofs.Ytngmhkhncimknaa
