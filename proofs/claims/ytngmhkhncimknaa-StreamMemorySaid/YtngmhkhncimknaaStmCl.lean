/- 'append' in company: what it makes, what it lists; slices.Clone beside goroutine 0. -/
import Derived.Test.YtngmhkhncimknaaStmB
import Derived.Conc.AppendWalk
import Derived.Conc.AppendEvents3
namespace Go.Proofs.Ytngmhkhncimknaa
open Go Go.Conc Go.RowKit
set_option linter.unusedVariables false
set_option linter.unusedSimpArgs false

/-- all new blocks hold elements of this type -/
def NewOf (w w' : World) (e : TypeId) : Prop := ∀ i, w.heap.size ≤ i → i < w'.heap.size → isCells w' i e

theorem new_alloc (w : World) (cs : Array Value) (e : TypeId) : NewOf w (w.alloc (.cells cs e)) e := fun i h1 h2 => by
  have : i = w.heap.size := by simp at h2; omega
  subst this
  exact ⟨cs, (0, 0), heap_alloc_new w _⟩

theorem keep_alloc (w : World) (o : Obj) : ∀ i t', isCells w i t' → isCells (w.alloc o) i t' := fun i t' ⟨a, b, h⟩ => ⟨a, b, heap_before w o i _ (by have := heap_lt h; omega) h⟩

/-- 'run_append_own', and what the new blocks are -/
theorem run_append_new {P : Program} (w : World) (base : Nat) (t ty e : TypeId) (i : TypeInfo) (z : Value) (size bytes : Nat) (ht : P.underlying t = some (.slice e)) (hi : P.info? e = some i) (hz : i.zero = some z)
    (hsize : i.size = size) (hby : i.bytes = bytes) (hzs : z.cells.size = size) (hsz : 0 < size)
    (v : Value) (n : Nat) (xs : List Value) (hown : w.ownsRow base e size v n xs)
    (a : Addr) (m c : Nat) (news : List Value) (hl : news.length = m * size) (hnews : ∀ j u, news[j]? = some u → w.cell? (a.add j) = some u) (h1 : ∀ u ∈ news, u.oneCell' = true)
    (h63 : n + m ≤ maxLen) (hbytes : (n + m) * bytes ≤ 140737488355328) (hbase : base ≤ w.heap.size) :
    ∃ v' w', (Builtin.append_ #[t, t] ty #[v, .slice (some a) m c]).run P w = .ok v' w' ∧ w'.ownsRow base e size v' (n + m) (xs ++ news) ∧ w.grownBy w' v.ownBlock ∧
      (v' = .slice none 0 0 ↔ v = .slice none 0 0 ∧ m = 0) ∧ NewOf w w' e ∧ ∀ i t', isCells w i t' → isCells w' i t' := by
  obtain ⟨v', w', hr, h2, h3, h4⟩ := run_append_own (P := P) w base t ty e i z size bytes ht hi hz hsize hby hzs hsz v n xs hown a m c news hl hnews h1 h63 hbytes hbase
  refine ⟨v', w', hr, h2, h3, h4, ?_⟩
  subst hsize
  subst hby
  have hsmall : n + m ≤ 9223372036854775807 := by simp only [maxLen] at h63; omega
  rcases hown.2 with ⟨rfl, rfl⟩ | ⟨g, cap, cur, rfl, hbg, hg, hnc, hcm, hcs, htake⟩
  · by_cases hm : m = 0
    · subst hm
      have hn : news = [] := List.eq_nil_of_length_eq_zero (by simpa using hl)
      subst hn
      simp [Builtin.append_, run_underlying ht, sizeOf, typeInfo, hi, Builtin.lenOf, Builtin.firstCells, loadCells, loadCellsFrom] at hr
      obtain ⟨_, rfl⟩ := hr
      exact ⟨fun i h1 h2 => absurd h2 (by omega), fun _ _ h => h⟩
    · have hr' := run_append_nil (P := P) w t ty e i z ht hi hz a m c news hl hnews (by omega) (by omega) (by have hb := hbytes; simp only [Nat.zero_add] at hb; omega)
      rw [hr'] at hr
      obtain ⟨_, rfl⟩ := Result.ok.inj hr
      exact ⟨new_alloc w.drew _ _, keep_alloc w.drew _⟩
  · by_cases hroom : n + m ≤ cap
    · have hfit : n * i.size + news.length ≤ cur.size := by rw [hl, hcs, ← Nat.add_mul]; exact Nat.mul_le_mul_right _ hroom
      have hr' := run_append_room (P := P) w t ty e i ht hi g n cap cur hg a m c news hl hnews h1 hroom hfit
      rw [hr'] at hr
      obtain ⟨_, rfl⟩ := Result.ok.inj hr
      refine ⟨fun i h1 h2 => absurd h2 (by simp [World.setRow]; omega), fun i t' h => ?_⟩
      by_cases hi : i = g
      · subst hi
        obtain rfl := isCells_inj h ⟨_, _, hg⟩
        exact ⟨_, _, setRow_heap w i cur _ _ _ hg⟩
      · obtain ⟨a, b, h⟩ := h
        exact ⟨a, b, (setRow_other w g i _ hi).trans h⟩
    · have holds : ∀ j u, xs[j]? = some u → w.cell? ((⟨g, 0, none⟩ : Addr).add j) = some u := hown.cells (g := g) rfl
      have hr' := run_append_grow (P := P) w t ty e i z ht hi hz ⟨g, 0, none⟩ n cap xs hown.1 holds a m c news hl hnews (by omega) (by omega) (growslice_fits (by omega) hbytes)
      rw [hr'] at hr
      obtain ⟨_, rfl⟩ := Result.ok.inj hr
      exact ⟨new_alloc w.drew _ _, keep_alloc w.drew _⟩

theorem ev_eql_slice {P : Program} (w : World) {t e : TypeId} (A : Option Addr) (n c : Nat) (ht : P.underlying t = some (.slice e)) :
    (binOp .eql t (.slice A n c) (.slice none 0 0)).events P w #[] = #[] := by
  have h : ∀ d : Nat, (Op.equalIn (d + 1) t (.slice A n c) (.slice none 0 0)).events P w #[] = #[] := fun d => by
    cases A <;> simp [Op.equalIn, run_underlying ht]
  have hr : ∀ d : Nat, ∃ b, (Op.equalIn (d + 1) t (.slice A n c) (.slice none 0 0)).run P w = .ok b w := fun d => by
    cases A <;> simp [Op.equalIn, run_underlying ht]
  obtain ⟨b, hb⟩ := hr 9999
  simp only [binOp]
  simp [Op.equal, Op.maxDepth, h 9999, hb]

theorem grow_alloc (D : Duet) (hD : Du D) (w : World) (cs : Array Value) (h : D.ch < w.heap.size) (h' : D.sp < w.heap.size) : GrowB D w (w.alloc (.cells cs 5)) := by
  have hk : ∀ i, i < w.heap.size → (w.alloc (.cells cs 5)).heap[i]? = w.heap[i]? := fun i hi => heap_before w _ i _ (by omega) rfl
  refine ⟨⟨rfl, rfl, rfl, by simp, fun i hi _ _ => hk i hi, fun t ⟨a, b, hc⟩ => ⟨a, b, by rw [hk _ h']; exact hc⟩, fun i h1 h2 => by rw [hD.B]; exact new_alloc w cs _ i h1 h2, fun ⟨a, b, c, hc⟩ => ⟨a, b, c, by rw [hk _ h]; exact hc⟩⟩, hk⟩
theorem GrowB.gB {D : Duet} {w w' : World} {es : Array Event} (h : GrowB D w w') (hev : evIn (zoneB D w') (zoneS D) es) : gB D w w' es :=
  ⟨h.1, fun ⟨a, b, c, hc⟩ => ⟨a, b, c, by rw [h.2 _ (heap_lt hc)]; exact hc⟩, hev⟩
/-- accesses to cells, each where the goroutine may -/
theorem evIn_cells {Z sh : Loc → Prop} {es : Array Event} (h : ∀ e ∈ es, (∃ ad, e.loc = .cell ad ∧ (Z (.cell ad) ∨ (sh (.cell ad) ∧ e.write = false))) ∨ ∃ m, e = ⟨.mark m, false, true⟩ ∧ Neutral m) : evIn Z sh es := fun e he => by
  rcases h e he with ⟨ad, hl, hz⟩ | ⟨m, rfl, hn⟩
  · obtain ⟨loc, wr, sy⟩ := e
    dsimp only at hl hz
    subst hl
    refine ⟨⟨by simp, by simp⟩, fun b hb _ => ?_⟩
    simp only [MemAct.ofEvent, MemAct.touch?, Option.some.injEq] at hb
    subst hb
    exact hz
  · refine ⟨⟨fun e => hn.ne_disable (by simpa using e), fun e => hn.ne_enable (by simpa using e)⟩, fun b hb _ => ?_⟩
    have := hn.touch
    simp only [MemAct.ofEvent] at hb
    rw [this] at hb; cases hb
theorem Hold.andB {D : Duet} (hD : Du D) {S : World → Prop} (hS : Hold D S) (g : Nat) (cs : Array Value) : Hold D (fun w => S w ∧ HB D g cs w) :=
  ⟨fun h r => ⟨hS.rely h.1 r, h.2.rely hD r⟩, fun h r => ⟨hS.grow h.1 r, h.2.relB r.1⟩⟩

theorem grow_of (D : Duet) (hD : Du D) {w w' : World} (hg : w.grownBy w' none) (hn : NewOf w w' 5) (h : D.ch < w.heap.size) (h' : D.sp < w.heap.size) : GrowB D w w' := by
  have hk : ∀ i, i < w.heap.size → w'.heap[i]? = w.heap[i]? := fun i hi => hg.block i hi (by simp)
  refine ⟨⟨hg.os, hg.output, hg.tape, hg.size, fun i hi _ _ => hk i hi, fun t ⟨a, b, hc⟩ => ⟨a, b, by rw [hk _ h']; exact hc⟩, fun i h1 h2 => by rw [hD.B]; exact hn i h1 h2, fun ⟨a, b, c, hc⟩ => ⟨a, b, c, by rw [hk _ h]; exact hc⟩⟩, hk⟩

set_option maxRecDepth 100000 in
theorem clone_some {D : Duet} (hD : Du D) {S : World → Prop} (hS : Hold D S) (ad : Addr) (c : Nat) (l : List UInt8) (hl : l.length ≤ 1000000000) (hA : At D S (some ad) l) (B : Nat) (hB : ∀ w, S w → B ≤ w.heap.size) (hBb : D.base ≤ B) (ms : Proto) (w : World) (hF : S w) :
    callM Try.prog (XB Try.prog D) 27 #[.slice (some ad) l.length c] (fun ms' v w' => ms' = ms ∧ Own w' B 5 v (Bs l) ∧ v ≠ .slice none 0 0 ∧ S w') ms w := by
  refine callM_of_wpM kitB Try.func27 rfl ?_
  simp only [Try.ntmps27, List.size_toArray, List.length_cons, List.length_nil, Nat.reduceAdd, Nat.reduceSub, Array.replicate_succ, Array.replicate_zero, List.push_toArray, List.append_toArray, List.nil_append, List.cons_append]
  refine wpM_seq kitB ?_
  refine wpM_region kitB ?_
  simp only [List.size_toArray, List.length_cons, List.length_nil, Nat.reduceAdd, Nat.zero_add, List.range, List.range.loop]
  refine opsM_cons_k kitB rfl (by rfl) ?_
  intro _ hR C hC
  replace hF := hS.rely hF hR
  clear hR
  go_simp
  refine hC _ _ ⟨?_, ?_⟩
  · (co_still (termsB D))
  clear hC C
  try walk_nrm
  refine opsM_nil kitB ?_
  try simp only [thenM, Exit.inBlock, if_true, if_false, reduceIte, Nat.reduceEqDiff]
  refine wpM_seq kitB ?_
  refine wpM_seq kitB ?_
  refine wpM_region kitB ?_
  simp only [List.size_toArray, List.length_cons, List.length_nil, Nat.reduceAdd, Nat.zero_add, List.range, List.range.loop]
  refine opsM_cons_k kitB rfl (by rfl) ?_
  intro _ hR C hC
  replace hF := hS.rely hF hR
  clear hR
  go_simp
  refine hC _ _ ⟨?_, ?_⟩
  · (co_still (termsB D))
  clear hC C
  try walk_nrm
  refine opsM_cons_k kitB rfl (by rfl) ?_
  intro _ hR C hC
  replace hF := hS.rely hF hR
  clear hR
  go_simp
  refine hC _ _ ⟨?_, ?_⟩
  · (rw [listed_nil (by simp [go_sem, ev_eql_slice]; done)]; exact gB_still _)
  clear hC C
  try walk_nrm
  refine opsM_nil kitB ?_
  try simp only [thenM, Exit.inBlock, if_true, if_false, reduceIte, Nat.reduceEqDiff]
  refine wpM_cond kitB rfl ?_
  first | simp only [if_true, if_false, reduceIte, Bool.false_eq_true] | fail "COND"
  refine wpM_skip kitB ?_
  try simp only [thenM, Exit.inBlock, if_true, if_false, reduceIte, Nat.reduceEqDiff]
  refine wpM_seq kitB ?_
  refine wpM_region kitB ?_
  simp only [List.size_toArray, List.length_cons, List.length_nil, Nat.reduceAdd, Nat.zero_add, List.range, List.range.loop]
  refine opsM_cons_k kitB rfl (by rfl) ?_
  intro w1 hR C hC
  replace hF := hS.rely hF hR
  clear hR
  go_simp
  have hsz := hB _ hF
  have c1 := D.ch_lt
  have c2 := D.sp_lt
  refine hC _ _ ⟨?_, ?_⟩
  · rw [listed_nil (by simp [go_sem]; done)]
    exact (grow_alloc D hD w1 #[] (by omega) (by omega)).gB evIn_none
  clear hC C
  try walk_nrm
  have hS2 := hS.andB hD w1.heap.size #[]
  replace hF : S _ ∧ HB D w1.heap.size #[] _ := ⟨hS.grow hF (grow_alloc D hD w1 #[] (by omega) (by omega)), heap_alloc_new w1 _, by omega, by omega⟩
  refine opsM_cons_k kitB rfl (by rfl) ?_
  intro _ hR C hC
  replace hF := hS2.rely hF hR
  clear hR
  go_simp
  refine hC _ _ ⟨?_, ?_⟩
  · (co_still (termsB D))
  clear hC C
  try walk_nrm
  obtain ⟨ii, hi, hz0, hz1, hz2⟩ := info_parts (show (Try.prog.info? 5).map (fun i => (i.zero, i.size, i.bytes)) = some (some (.int .u8 0), 1, 1) by kernel_rfl)
  refine opsM_cons kitB rfl (by rfl) fun w2 hR => ?_
  replace hF := hS2.rely hF hR
  clear hR
  have hsz2 := hB _ hF.1
  have hnews : ∀ j u, (Bs l)[j]? = some u → w2.cell? (ad.add j) = some u := fun j u hu => by
    have hj : j < l.length := by have := (List.getElem?_eq_some_iff.1 hu).1; simpa [Bs_length] using this
    obtain ⟨g, o, cs, e, hb, hcs⟩ := hA (by omega)
    obtain rfl := Option.some.inj e
    rw [Addr.add_mid, (hb _ hF.1).cell (hcs j hj)]
    rw [← hu]; simp [Bs, List.getElem?_eq_getElem hj]
  have hsrc : 0 < l.length → zoneS D (.cell ⟨ad.block, 0, none⟩) ∨ (D.base ≤ ad.block ∧ isCells w2 ad.block 5) := fun h0 => by
    obtain ⟨g, o, cs, e, hb, hcs⟩ := hA h0
    obtain rfl := Option.some.inj e
    have hx := hb _ hF.1
    by_cases hlt : g < D.base
    · exact .inl ⟨_, rfl, hlt, hx.sp⟩
    · exact .inr ⟨by simpa using hlt, ⟨cs, (0, 0), hx.blk⟩⟩
  have hown : w2.ownsRow B 5 1 (.slice (some ⟨w1.heap.size, 0, none⟩) 0 0) 0 [] := ⟨by simp, .inr ⟨w1.heap.size, 0, #[], rfl, by omega, hF.2.blk, by omega, by simp [maxLen], by simp, by simp⟩⟩
  have hev := fun e (he : e ∈ _) => events_append_where (P := Try.prog) w2 B 30 30 5 ii (.int .u8 0) 1 1 (by kernel_rfl) hi hz0 hz1 hz2 _ _ _ hown ad l.length c (Bs l) (by simp [Bs]) hnews (Bs_one l) (by unfold maxLen; omega) (by omega) e he
  rcases Nat.eq_zero_or_pos l.length with h0 | h0
  · have hl0 : l = [] := List.eq_nil_of_length_eq_zero h0
    subst hl0
    have hr := run_append_room (P := Try.prog) w2 30 30 5 ii (by kernel_rfl) hi w1.heap.size 0 0 #[] hF.2.blk ad 0 c [] (by simp) (by simp) (by simp) (by omega) (by simp)
    have hsame : ∀ i, (w2.setRow w1.heap.size #[]).heap[i]? = w2.heap[i]? := fun i => by
      by_cases hi : i = w1.heap.size
      · subst hi; rw [setRow_heap w2 _ _ _ _ _ hF.2.blk, hF.2.blk]
      · exact setRow_other w2 _ i _ hi
    have hgr : GrowB D w2 (w2.setRow w1.heap.size #[]) := ⟨⟨rfl, rfl, rfl, by simp, fun i _ _ _ => hsame i, fun t ⟨a, b, h⟩ => ⟨a, b, by rw [hsame]; exact h⟩, fun i h1 h2 => absurd h2 (by simp [World.setRow]; omega), fun ⟨a, b, c, h⟩ => ⟨a, b, c, by rw [hsame]; exact h⟩⟩, fun i _ => hsame i⟩
    have hev0 : (Builtin.append_ #[30, 30] 30 #[.slice (some ⟨w1.heap.size, 0, none⟩) 0 0, .slice (some ad) 0 c]).events Try.prog w2 #[] = #[] := by
      have hu : Try.prog.underlying 30 = some (.slice 5) := by kernel_rfl
      simp [Builtin.append_, run_underlying hu, sizeOf, typeInfo, hi, Builtin.lenOf, Builtin.firstCells, loadCells, loadCellsFrom, storeCells]
    simp at hr
    refine uponK_append _ _ _ rfl rfl rfl hr ⟨hgr.gB ?_, ?_⟩
    · rw [listed_nil (by rw [events_append_op _ _ _ rfl rfl rfl]; exact hev0)]
      exact evIn_none
    replace hF := hS2.grow hF hgr
    try walk_nrm
    refine opsM_cons_k kitB rfl (by rfl) ?_
    intro _ hR C hC
    replace hF := hS2.rely hF hR
    clear hR
    go_simp
    refine hC _ _ ⟨?_, ?_⟩
    · (co_still (termsB D))
    clear hC C
    try walk_nrm
    refine opsM_nil kitB ?_
    try simp only [thenM, Exit.inBlock, if_true, if_false, reduceIte, Nat.reduceEqDiff]
    refine wpM_ret kitB ?_
    try simp only [thenM, Exit.inBlock, if_true, if_false, reduceIte, Nat.reduceEqDiff]
    refine ⟨rfl, _, resultsC_tmp (by rfl) _, rfl, ?_, by simp, hF.1⟩
    exact ⟨by simp [Bs], .inr ⟨w1.heap.size, 0, #[], rfl, by omega, hF.2.blk, by simp [Bs], by simp [maxLen], by simp, by simp [Bs]⟩⟩
  have hr := run_append_grow (P := Try.prog) w2 30 30 5 ii (.int .u8 0) (by kernel_rfl) hi hz0 ⟨w1.heap.size, 0, none⟩ 0 0 [] (by simp) (by simp) ad l.length c (Bs l) (by rw [hz1]; simp [Bs]) hnews (by omega) (by omega) (growslice_fits (by omega) (by rw [hz2]; omega))
  have hgr := grow_alloc D hD w2.drew ((#[] : Array Value) ++ (Bs l).toArray ++ Builtin.zeroCells (Value.int .u8 0).cells (grownCap w2 (0 + l.length) 0 5 - (0 + l.length))) (by show _ < w2.heap.size; omega) (by show _ < w2.heap.size; omega)
  have hge := grownCap_ge w2 (0 + l.length) 0 5
  have hcm := grownCap_le_maxLen w2 (0 + l.length) 0 5 (by unfold maxLen; omega)
  have hnew := heap_alloc_new w2.drew (Obj.cells ((#[] : Array Value) ++ (Bs l).toArray ++ Builtin.zeroCells (Value.int .u8 0).cells (grownCap w2 (0 + l.length) 0 5 - (0 + l.length))) 5)
  generalize hcap : grownCap w2 (0 + l.length) 0 5 = cap at hr hgr hge hcm hnew
  generalize hAR : (#[] : Array Value) ++ (Bs l).toArray ++ Builtin.zeroCells (Value.int .u8 0).cells (cap - (0 + l.length)) = AR at hr hgr hnew
  generalize hW : w2.drew.alloc (Obj.cells AR 5) = W at hr hgr hnew
  have hsr := hsrc h0
  have hrel : RelA D w2 w2.drew := RelA.at_ w2 _
  refine uponK_append _ _ _ rfl rfl rfl hr ⟨?_, ?_⟩
  · refine ⟨⟨hgr.1.os, hgr.1.output, hgr.1.tape, hgr.1.size, hgr.1.keep, hgr.1.own, hgr.1.new, hgr.1.chan⟩, (hgr.gB evIn_none).2.1, evIn_cells fun e he => ?_⟩
    have hm := mem_listed he
    rw [events_append_op _ _ _ rfl rfl rfl] at hm
    rcases hev e hm with ⟨ad', hl', ⟨hw', h⟩ | h⟩ | h
    · refine .inl ⟨ad', hl', ?_⟩
      rcases hsr with ⟨a2, e2, h2⟩ | ⟨h2, a2, fz, h3⟩
      · have e3 : a2.block = ad'.block := by have := congrArg (fun l => match l with | Loc.cell a => a.block | _ => 0) e2; simp at this; omega
        exact .inr ⟨⟨ad', rfl, by omega, by omega⟩, hw'⟩
      · exact .inl (.inl ⟨ad', rfl, .inl ⟨by omega, by rw [h, hD.B]; exact ⟨a2, fz, (hgr.2 _ (heap_lt h3)).trans h3⟩⟩⟩)
    · exact .inl ⟨ad', hl', .inl (.inl ⟨_, rfl, .inl ⟨by simp [Value.ownBlock] at h; omega, by simp [Value.ownBlock] at h; rw [h, hD.B]; exact ⟨#[], (0, 0), (hgr.2 _ (heap_lt hF.2.blk)).trans hF.2.blk⟩⟩⟩)⟩
    · exact .inr h
  have hS3 := hS.andB hD w2.heap.size AR
  replace hF : S _ ∧ HB D w2.heap.size AR _ := ⟨hS.grow (hS.rely hF.1 hrel) hgr, hnew, by show w2.heap.size ≠ _; omega, by show w2.heap.size ≠ _; omega⟩
  try walk_nrm
  refine opsM_cons_k kitB rfl (by rfl) ?_
  intro _ hR C hC
  replace hF := hS3.rely hF hR
  clear hR
  go_simp
  refine hC _ _ ⟨?_, ?_⟩
  · (co_still (termsB D))
  clear hC C
  try walk_nrm
  refine opsM_nil kitB ?_
  try simp only [thenM, Exit.inBlock, if_true, if_false, reduceIte, Nat.reduceEqDiff]
  refine wpM_ret kitB ?_
  try simp only [thenM, Exit.inBlock, if_true, if_false, reduceIte, Nat.reduceEqDiff]
  refine ⟨rfl, _, resultsC_tmp (by rfl) _, rfl, ?_, by simp, hF.1⟩
  have hz : (Value.int IntKind.u8 0).cells.size = 1 := rfl
  refine ⟨by simp [Bs], .inr ⟨w2.heap.size, cap, AR, by simp [Bs], by omega, hF.2.blk, by simp [Bs] at hge ⊢; omega, hcm, ?_, ?_⟩⟩
  · rw [← hAR]; simp only [Array.size_append, size_zeroCells, hz]; simp [Bs]; omega
  · rw [← hAR]; simp [Bs]
set_option maxRecDepth 100000 in
theorem clone_nil {D : Duet} {S : World → Prop} (hS : Hold D S) (B : Nat) (ms : Proto) (w : World) (hF : S w) :
    callM Try.prog (XB Try.prog D) 27 #[.slice none 0 0] (fun ms' v w' => ms' = ms ∧ Own w' B 5 v (Bs []) ∧ S w') ms w := by
  refine callM_of_wpM kitB Try.func27 rfl ?_
  simp only [Try.ntmps27, List.size_toArray, List.length_cons, List.length_nil, Nat.reduceAdd, Nat.reduceSub, Array.replicate_succ, Array.replicate_zero, List.push_toArray, List.append_toArray, List.nil_append, List.cons_append]
  refine wpM_seq kitB ?_
  refine wpM_region kitB ?_
  simp only [List.size_toArray, List.length_cons, List.length_nil, Nat.reduceAdd, Nat.zero_add, List.range, List.range.loop]
  refine opsM_cons_k kitB rfl (by rfl) ?_
  intro _ hR C hC
  replace hF := hS.rely hF hR
  clear hR
  go_simp
  refine hC _ _ ⟨?_, ?_⟩
  · (co_still (termsB D))
  clear hC C
  try walk_nrm
  refine opsM_nil kitB ?_
  try simp only [thenM, Exit.inBlock, if_true, if_false, reduceIte, Nat.reduceEqDiff]
  refine wpM_seq kitB ?_
  refine wpM_seq kitB ?_
  refine wpM_region kitB ?_
  simp only [List.size_toArray, List.length_cons, List.length_nil, Nat.reduceAdd, Nat.zero_add, List.range, List.range.loop]
  refine opsM_cons_k kitB rfl (by rfl) ?_
  intro _ hR C hC
  replace hF := hS.rely hF hR
  clear hR
  go_simp
  refine hC _ _ ⟨?_, ?_⟩
  · (co_still (termsB D))
  clear hC C
  try walk_nrm
  refine opsM_cons_k kitB rfl (by rfl) ?_
  intro _ hR C hC
  replace hF := hS.rely hF hR
  clear hR
  go_simp
  refine hC _ _ ⟨?_, ?_⟩
  · (rw [listed_nil (by simp [go_sem, ev_eql_slice]; done)]; exact gB_still _)
  clear hC C
  try walk_nrm
  refine opsM_nil kitB ?_
  try simp only [thenM, Exit.inBlock, if_true, if_false, reduceIte, Nat.reduceEqDiff]
  refine wpM_cond kitB rfl ?_
  first | simp only [Option.isNone_none, if_true, if_false, reduceIte, Bool.false_eq_true] | fail "COND"
  refine wpM_seq kitB ?_
  refine wpM_region kitB ?_
  simp only [List.size_toArray, List.length_cons, List.length_nil, Nat.reduceAdd, Nat.zero_add, List.range, List.range.loop]
  refine opsM_cons_k kitB rfl (by rfl) ?_
  intro _ hR C hC
  replace hF := hS.rely hF hR
  clear hR
  go_simp
  refine hC _ _ ⟨?_, ?_⟩
  · (co_still (termsB D))
  clear hC C
  try walk_nrm
  refine opsM_nil kitB ?_
  try simp only [thenM, Exit.inBlock, if_true, if_false, reduceIte, Nat.reduceEqDiff]
  refine wpM_ret kitB ?_
  try simp only [thenM, Exit.inBlock, if_true, if_false, reduceIte, Nat.reduceEqDiff]
  exact ⟨rfl, _, resultsC_tmp (by rfl) _, rfl, ⟨by simp [Bs], .inl ⟨by simp, by simp [Bs]⟩⟩, hF⟩

theorem clone_calls {D : Duet} (hD : Du D) {S : World → Prop} (hS : Hold D S) (A : Option Addr) (c : Nat) (l : List UInt8) (hl : l.length ≤ 1000000000) (hA : At D S A l) (hn : A = none → c = 0 ∧ l = []) (B : Nat) (hB : ∀ w, S w → B ≤ w.heap.size) (hBb : D.base ≤ B) (ms : Proto) (w : World) (hF : S w) :
    callM Try.prog (XB Try.prog D) 27 #[.slice A l.length c] (fun ms' v w' => ms' = ms ∧ Own w' B 5 v (Bs l) ∧ S w') ms w := by
  cases A with
  | none =>
    obtain ⟨rfl, rfl⟩ := hn rfl
    exact clone_nil hS B ms w hF
  | some ad => exact callM_mono (clone_some hD hS ad c l hl hA B hB hBb ms w hF) fun γ v w' ⟨h1, h2, _, h3⟩ => ⟨h1, h2, h3⟩
end Go.Proofs.Ytngmhkhncimknaa
