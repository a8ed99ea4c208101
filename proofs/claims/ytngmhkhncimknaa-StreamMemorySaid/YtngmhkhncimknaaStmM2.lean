/- StreamMemory: what comes behind the feeding. -/
import Derived.Test.YtngmhkhncimknaaStmMe
import Derived.Test.YtngmhkhncimknaaStmMc
namespace Go.Proofs.Ytngmhkhncimknaa
open Go Go.Conc Go.RowKit
set_option linter.unusedVariables false
set_option linter.unusedSimpArgs false
section

theorem own_set {w : World} {B e g n c : Nat} {vs : List Value} (h : Own w B e (.slice (some ⟨g, 0, none⟩) n c) vs) (k : Nat) (y : Value) : Own (w.setCell ⟨g, k, none⟩ y) B e (.slice (some ⟨g, 0, none⟩) n c) (vs.set k y) := by
  rcases h.2 with ⟨h1, _⟩ | ⟨g', cap, cur, e1, h2, h3, h4, h5, h6, h7⟩
  · cases h1
  · simp only [Value.slice.injEq, Option.some.injEq, Addr.mk.injEq] at e1
    obtain ⟨⟨rfl, _⟩, rfl, rfl⟩ := e1
    have hz : (w.setCell ⟨g, k, none⟩ y).heap[g]? = some (.cells (cur.setIfInBounds k y) e (0, 0)) := heap_setCell_same w g k cur _ y h3
    refine ⟨by simp, .inr ⟨g, c, cur.setIfInBounds k y, by simp, h2, hz, by simpa using h4, h5, by simpa using h6, ?_⟩⟩
    simp only [Array.toList_setIfInBounds, List.length_set]
    rw [List.take_set, h7]
theorem pays_set {w : World} {B0 B1 : Nat} {vs : List Value} {qs : List (List UInt8)} (h : Pays w B0 B1 vs qs) {i g n c : Nat} (hi : i < vs.length) (hq : i < qs.length) (hv : vs[i] = .slice (some ⟨g, 0, none⟩) n c) (k : Nat) (x : UInt8) : Pays (w.setCell ⟨g, k, none⟩ (.int .u8 (n8 x))) B0 B1 vs (qs.set i (qs[i].set k x)) := by
  refine ⟨by simp [h.len], fun j h1 h2 => ?_, h.apart, h.lt⟩
  by_cases e : j = i
  · subst e
    rw [List.getElem_set_self]
    have ho := h.own j h1 hq
    rw [hv] at ho ⊢
    have := own_set ho k (.int .u8 (n8 x))
    unfold Bs
    rw [List.map_set]
    exact this
  · rw [List.getElem_set_ne (fun e2 => e e2.symm)]
    refine own_same (h.own j h1 (by simpa using h2)) fun b hb => heap_setCell_other w ⟨g, k, none⟩ b _ fun e2 => ?_
    exact h.apart j i h1 hi b e hb (by rw [hv]; simp [Value.ownBlock, e2])

theorem PayR.lens {w : World} {x : Option Nat} {us : List Value} {ps : List (List UInt8)} (h : PayR w x us ps) : us.length = ps.length ∧ ∀ i (h1 : i < us.length) (h2 : i < ps.length), ∃ A c, us[i] = .slice A ps[i].length c :=
  ⟨h.1, fun i h1 h2 => by
    obtain ⟨g, o, c, e, _⟩ := h.2 i h1 h2
    exact ⟨_, _, e⟩⟩

/-- a row's number as a byte -/
def bt (i : Nat) : UInt8 := UInt8.ofNat i
theorem bt_wrap (i : Nat) : IntKind.u8.wrap (i : Int) = n8 (bt i) := by
  rw [IntKind.wrap_u8]
  unfold n8 bt
  rw [UInt8.toNat_ofNat']
  omega
/-- rows filled up to here -/
structure Fil (ps qs : List (List UInt8)) (i k : Nat) : Prop where
  len : qs.length = ps.length
  lens : ∀ j (h1 : j < qs.length) (h2 : j < ps.length), qs[j].length = ps[j].length
  done : ∀ j (h1 : j < qs.length), j < i → qs[j] = List.replicate qs[j].length (bt j)
  part : ∀ (h : i < qs.length), qs[i].take k = List.replicate k (bt i)
theorem fil_start (ps : List (List UInt8)) : Fil ps ps 0 0 := ⟨rfl, fun _ _ _ => rfl, fun _ _ h => absurd h (by omega), fun _ => rfl⟩
theorem Fil.step {ps qs : List (List UInt8)} {i k : Nat} (h : Fil ps qs i k) (hi : i < qs.length) (hk : k < qs[i].length) : Fil ps (qs.set i (qs[i].set k (bt i))) i (k + 1) := by
  refine ⟨by simp [h.len], fun j h1 h2 => ?_, fun j h1 hj => ?_, fun _ => ?_⟩
  · rw [List.length_set] at h1
    by_cases e : j = i
    · subst e; rw [List.getElem_set_self, List.length_set]; exact h.lens j hi h2
    · rw [List.getElem_set_ne (fun e2 => e e2.symm)]; exact h.lens j h1 h2
  · rw [List.length_set] at h1
    rw [List.getElem_set_ne (by omega)]
    exact h.done j h1 hj
  · rw [List.getElem_set_self]
    have hp := h.part hi
    refine List.ext_getElem (by simp; omega) fun m h1 h2 => ?_
    rw [List.getElem_take, List.getElem_replicate]
    by_cases e : m = k
    · subst e; rw [List.getElem_set_self]
    · rw [List.getElem_set_ne (fun e2 => e e2.symm)]
      have hm : m < k := by simp at h2; omega
      have := congrArg (fun l => l[m]?) hp
      simp only [List.getElem?_take, hm, if_true, List.getElem?_replicate] at this
      rw [List.getElem?_eq_getElem (by omega)] at this
      simpa using this
theorem Fil.next {ps qs : List (List UInt8)} {i : Nat} (hi : i < qs.length) (h : Fil ps qs i qs[i].length) : Fil ps qs (i + 1) 0 := by
  refine ⟨h.len, h.lens, fun j h1 hj => ?_, fun _ => rfl⟩
  by_cases e : j = i
  · subst e
    have := h.part h1
    rwa [List.take_length] at this
  · exact h.done j h1 (by omega)
theorem Fil.all {ps qs : List (List UInt8)} {i k : Nat} (h : Fil ps qs i k) (hi : qs.length ≤ i) : ∀ j (h1 : j < qs.length) (h2 : j < ps.length), qs[j] = List.replicate ps[j].length (bt j) := fun j h1 h2 => by
  rw [h.done j h1 (by omega)]
  simp [h.lens j h1 h2]

/-- append to a row of the goroutine's own: in its block, or in a new one with all else as it was -/
theorem run_append_blk2 {P : Program} (w : World) (base : Nat) (t ty e : TypeId) (i : TypeInfo) (z : Value) (size bytes : Nat) (ht : P.underlying t = some (.slice e)) (hi : P.info? e = some i) (hz : i.zero = some z)
    (hsize : i.size = size) (hby : i.bytes = bytes) (hzs : z.cells.size = size) (hsz : 0 < size)
    (v : Value) (n : Nat) (xs : List Value) (hown : w.ownsRow base e size v n xs)
    (a : Addr) (m c : Nat) (news : List Value) (hl : news.length = m * size) (hnews : ∀ j u, news[j]? = some u → w.cell? (a.add j) = some u) (h1 : ∀ u ∈ news, u.oneCell' = true)
    (h63 : n + m ≤ maxLen) (hbytes : (n + m) * bytes ≤ 140737488355328) (hbase : base ≤ w.heap.size) :
    ∃ v' w', (Builtin.append_ #[t, t] ty #[v, .slice (some a) m c]).run P w = .ok v' w' ∧ w'.ownsRow base e size v' (n + m) (xs ++ news) ∧ w.grownBy w' v.ownBlock ∧
      (v'.ownBlock = v.ownBlock ∨ ∃ g, v'.ownBlock = some g ∧ w.heap.size ≤ g ∧ ∀ j, j < w.heap.size → w'.heap[j]? = w.heap[j]?) := by
  obtain ⟨v', w', hr, h2, h3, h4⟩ := run_append_own (P := P) w base t ty e i z size bytes ht hi hz hsize hby hzs hsz v n xs hown a m c news hl hnews h1 h63 hbytes hbase
  refine ⟨v', w', hr, h2, h3, ?_⟩
  subst hsize
  subst hby
  have hsmall : n + m ≤ 9223372036854775807 := by simp only [maxLen] at h63; omega
  rcases hown.2 with ⟨rfl, rfl⟩ | ⟨g, cap, cur, rfl, hbg, hg, hnc, hcm, hcs, htake⟩
  · by_cases hm : m = 0
    · left
      rw [(h4.2 ⟨rfl, hm⟩)]
    · right
      have hr' := run_append_nil (P := P) w t ty e i z ht hi hz a m c news hl hnews (by omega) (by omega) (by have hb := hbytes; simp only [Nat.zero_add] at hb; omega)
      rw [hr'] at hr
      obtain ⟨rfl, rfl⟩ := Result.ok.inj hr
      exact ⟨_, rfl, Nat.le_refl _, fun j hj => heap_before w.drew _ j _ (Nat.ne_of_lt hj) rfl⟩
  · by_cases hroom : n + m ≤ cap
    · left
      have hfit : n * i.size + news.length ≤ cur.size := by rw [hl, hcs, ← Nat.add_mul]; exact Nat.mul_le_mul_right _ hroom
      have hr' := run_append_room (P := P) w t ty e i ht hi g n cap cur hg a m c news hl hnews h1 hroom hfit
      rw [hr'] at hr
      obtain ⟨rfl, rfl⟩ := Result.ok.inj hr
      rfl
    · right
      have holds : ∀ j u, xs[j]? = some u → w.cell? ((⟨g, 0, none⟩ : Addr).add j) = some u := hown.cells (g := g) rfl
      have hr' := run_append_grow (P := P) w t ty e i z ht hi hz ⟨g, 0, none⟩ n cap xs hown.1 holds a m c news hl hnews (by omega) (by omega) (growslice_fits (by omega) hbytes)
      rw [hr'] at hr
      obtain ⟨rfl, rfl⟩ := Result.ok.inj hr
      exact ⟨_, rfl, Nat.le_refl _, fun j hj => heap_before w.drew _ j _ (Nat.ne_of_lt hj) rfl⟩

/-- 'append(v, x)', the one value in a block of its own -/
theorem wpList_append_blk {P : Program} {W : World} {ops : Array Oper} {rest : List Oper} {o : Oper} {a : Act} {Q : Exit → Act → World → Prop} (hgd : o.guard = none) (s x : Operand) (t e : TypeId) (z : Value) (bytes : Nat)
    (ht : P.underlying t = some (.slice e)) (hinfo : (P.info? e).map (fun i => (i.zero, i.size, i.bytes)) = some (some z, 1, bytes)) (hz : z.cells.size = 1)
    (ho : o.op = .call { callee := .builtin .append, args := #[s, x], argTypes := #[t, t] })
    (base : Nat) (v : Value) (vs : List Value) (hs : a.eval s = v) (hown : Own W base e v vs) (hbase : base ≤ W.heap.size) (u : Value) (hu : u.oneCell' = true)
    (hx : a.eval x = .slice (some ⟨W.heap.size, 0, none⟩) 1 1) (hroom : (vs.length + 1) * bytes ≤ 140737488355328) (hmax : vs.length + 1 ≤ 9223372036854775807)
    (h : ∀ v' w', Own w' base e v' (vs ++ [u]) → W.grownBy w' v.ownBlock → (v'.ownBlock = v.ownBlock ∨ ∃ g, v'.ownBlock = some g ∧ W.heap.size ≤ g ∧ ∀ j, j < W.heap.size → w'.heap[j]? = W.heap[j]?) → wpList P ops Q rest (a.put o.dst v') w') : wpList P ops Q (o :: rest) a (W.alloc (.cells #[u] e)) := by
  obtain ⟨i, hi, hz0, hz1, hz2⟩ := info_parts hinfo
  refine wpList_plain hgd fun K hK => ?_
  obtain ⟨v', w', hr, h2, h3, h4⟩ := run_append_blk2 (P := P) (W.alloc (.cells #[u] e)) base t o.type e i z 1 bytes ht hi hz0 hz1 hz2 hz (by decide) v vs.length vs (World.ownsRow.alloc hown _) ⟨W.heap.size, 0, none⟩ 1 1 [u] rfl (fun j y hy => by
    rw [Addr.add_mid, cell_of_row _ _ _ _ _ _ (heap_here W _ _ rfl)]
    cases j with
    | zero => simpa using hy
    | succ j => simp at hy) (fun y hy => by obtain rfl := List.mem_singleton.1 hy; exact hu) (by unfold maxLen; omega) hroom (by simp; omega)
  unfold Oper.wp execOp
  simp only [ho, resolve, invoke, builtin, Sem.run_bind, Sem.run_pure, Result.andThen_ok, List.map_toArray, List.map_cons, List.map_nil, hs, hx, hr]
  have hal : ∀ k, k < W.heap.size → (W.alloc (.cells #[u] e)).heap[k]? = W.heap[k]? := fun k hk => heap_before W _ k _ (Nat.ne_of_lt hk) rfl
  refine hK _ _ (h v' w' (by unfold Own; simpa using h2) ⟨h3.os, h3.tape, h3.output, Nat.le_trans (by simp) h3.size, fun k hk hne => (h3.block k (by simp; omega) hne).trans (hal k hk)⟩ ?_)
  rcases h4 with h4 | ⟨g, q1, q2, q3⟩
  · exact .inl h4
  · exact .inr ⟨g, q1, by have : W.heap.size ≤ (W.alloc (.cells #[u] e)).heap.size := by simp
                          omega, fun j hj => (q3 j (by simp; omega)).trans (hal j hj)⟩
end
section
attribute [local go_sem] n8_self beq_n8 bne_n8

def sqR : Code → Code
  | .seq _ y => y
  | c => c
def sqL : Code → Code
  | .seq x _ => x
  | c => c
def inB : Code → Code
  | .block _ c => c
  | c => c
def inL : Code → Code
  | .loop c => c
  | c => c
noncomputable def memBody : Code := (Try.f4).body.getD .skip
noncomputable def memRest : Code := sqR (sqR (sqR (sqR (sqR (sqR (sqR (sqR (sqR memBody))))))))

/-- the rows that were kept, and those that were wanted -/
structure MR (n0 : Nat) (W0 : World) (kv wv : Value) (ks us : List Value) (qs : List (List UInt8)) (w : World) : Prop where
  below : Below n0 W0 w
  size : n0 ≤ w.heap.size
  kown : Own w n0 30 kv ks
  kpay : Pays w n0 w.heap.size ks qs
  wown : Own w n0 30 wv us
section
variable {n0 : Nat} {W0 w w' : World} {kv wv : Value} {ks us : List Value} {qs ps : List (List UInt8)}
theorem MR.drewN (h : MR n0 W0 kv wv ks us qs w) (n : Nat) : MR n0 W0 kv wv ks us qs (w.drewN n) :=
  ⟨h.below.trans (drewN_below _ _ _), h.size, own_drewless h.kown (drewN_below _ _ _), h.kpay.same fun g _ _ => rfl, own_drewless h.wown (drewN_below _ _ _)⟩
theorem MR.row {KA : Option Addr} {kc i k : Nat} (h : MR n0 W0 (.slice KA ps.length kc) wv ks us qs w) (hf : Fil ps qs i k) {j : Nat} (hj : j < ps.length) :
    ∃ kb A c, KA = some ⟨kb, 0, none⟩ ∧ w.cell? ⟨kb, j, none⟩ = some (.slice A ps[j].length c) ∧ ps[j].length ≤ c ∧ (0 < ps[j].length → ∃ g, A = some ⟨g, 0, none⟩ ∧ (∀ k, w.frozen? ⟨g, k, none⟩ = false) ∧ (∀ k, k < ps[j].length → ∃ y, w.cell? ⟨g, k, none⟩ = some (.int .u8 y)) ∧ isCells w g 5 ∧ n0 ≤ g ∧ ∃ hk : j < ks.length, ks[j] = .slice (some ⟨g, 0, none⟩) ps[j].length c) := by
  have hl : ks.length = ps.length := h.kpay.len.trans hf.len
  have hjk : j < ks.length := by omega
  have hjq : j < qs.length := by rw [hf.len]; exact hj
  obtain ⟨kb, kd, e, _, _, hc⟩ := own_someB h.kown (by omega)
  obtain ⟨rfl, _, rfl⟩ : KA = some ⟨kb, 0, none⟩ ∧ ps.length = ks.length ∧ kc = kd := by simpa using e
  obtain ⟨kb', o', e2, hc⟩ := hc (by omega)
  obtain ⟨rfl, rfl⟩ : kb = kb' ∧ 0 = o' := by simpa using e2
  have hcj := hc j hjk
  rw [Nat.zero_add] at hcj
  have hoj := h.kpay.own j hjk hjq
  obtain ⟨A, c, ea, h1, _, hcb⟩ := own_slice hoj
  rw [Bs_length, hf.lens j hjq hj] at ea h1
  rw [ea] at hcj
  refine ⟨kb, A, c, rfl, hcj, h1, fun h0 => ?_⟩
  have hb0 : 0 < (Bs qs[j]).length := by rw [Bs_length, hf.lens j hjq hj]; exact h0
  rcases hoj.2 with ⟨_, hz⟩ | ⟨g, cap, cur, eg, q1, q2, _⟩
  · omega
  · rw [ea] at eg
    obtain ⟨rfl, _⟩ : A = some ⟨g, 0, none⟩ ∧ _ := by simpa using eg
    refine ⟨g, rfl, fun k => heap_frozen q2 k, fun k hk => ?_, ⟨_, _, q2⟩, q1, hjk, ea⟩
    obtain ⟨b, o, eb, hcc⟩ := hcb hb0
    cases eb
    have := hcc k (by rw [Bs_length, hf.lens j hjq hj]; exact hk)
    rw [Nat.zero_add] at this
    exact ⟨_, this.trans (by simp [Bs]; rfl)⟩
theorem MR.write {i k g c N : Nat} (h : MR n0 W0 kv wv ks us qs w) (hg : isCells w g 5) (h0 : n0 ≤ g) (hi : i < ks.length) (hq : i < qs.length) (hv : ks[i] = .slice (some ⟨g, 0, none⟩) N c) (x : UInt8) : MR n0 W0 kv wv ks us (qs.set i (qs[i].set k x)) (w.setCell ⟨g, k, none⟩ (.int .u8 (n8 x))) := by
  have hset : ∀ j, j ≠ g → (w.setCell ⟨g, k, none⟩ (.int .u8 (n8 x))).heap[j]? = w.heap[j]? := fun j hj => heap_setCell_other w ⟨g, k, none⟩ j _ hj
  have hty : ∀ {j e}, isCells w j e → e ≠ 5 → j ≠ g := fun hc he e2 => he (by subst e2; exact isCells_inj hc hg)
  have hsz : (w.setCell ⟨g, k, none⟩ (.int .u8 (n8 x))).heap.size = w.heap.size := by simp
  refine ⟨h.below.setCell (p := ⟨g, k, none⟩) h0 _, by rw [hsz]; exact h.size, own_same h.kown fun b hb => hset b (hty (own_block h.kown hb).2.2 (by decide)), ?_, own_same h.wown fun b hb => hset b (hty (own_block h.wown hb).2.2 (by decide))⟩
  rw [hsz]
  exact pays_set h.kpay hi hq hv k x
end

theorem own_at {w : World} {n0 : Nat} {e : TypeId} {KA : Option Addr} {n kc : Nat} {ks : List Value} (h : Own w n0 e (.slice KA n kc) ks) (hl : ks.length = n) {j : Nat} (hj : j < n) : ∃ kb, KA = some ⟨kb, 0, none⟩ ∧ w.cell? ⟨kb, j, none⟩ = some (ks.getD j undef) := by
  obtain ⟨kb, kd, e, _, _, hc⟩ := own_someB h (by omega)
  obtain ⟨rfl, _⟩ : KA = some ⟨kb, 0, none⟩ ∧ _ := by simpa using e
  obtain ⟨kb', o', e2, hc⟩ := hc (by omega)
  obtain ⟨rfl, rfl⟩ : kb = kb' ∧ 0 = o' := by simpa using e2
  have := hc j (by omega)
  rw [Nat.zero_add] at this
  exact ⟨kb, rfl, by rw [this]; simp [List.getD, List.getElem?_eq_getElem (show j < ks.length by omega)]⟩
/-- a row's bytes, all its number -/
def rowB (p : List UInt8) (m j : Nat) : List UInt8 := List.replicate (p.length + m) (bt j)
theorem rowB_succ (p : List UInt8) (m j : Nat) : rowB p (m + 1) j = rowB p m j ++ [bt j] := by
  unfold rowB
  rw [← Nat.add_assoc, List.replicate_succ']
/-- where the kept rows lie -/
def KC (w : World) (ζ : Nat → Nat) (v : Value) (p : List UInt8) (j : Nat) : Prop :=
  (v = .slice none 0 0 ∧ p.length = 0) ∨ ∃ g c, v = .slice (some ⟨g, 0, none⟩) p.length c ∧ ζ g = j ∧ isCells w g 5 ∧ Cells w (some ⟨g, 0, none⟩) (Bs (rowB p 0 j))
theorem KC.keep {w w' : World} {ζ ζ' : Nat → Nat} {v : Value} {p : List UInt8} {j : Nat} (h : KC w ζ v p j) (hs : ∀ g, ζ g = j → isCells w g 5 → w'.heap[g]? = w.heap[g]? ∧ ζ' g = j) : KC w' ζ' v p j := by
  rcases h with h | ⟨g, c, h1, h2, h3, h4⟩
  · exact .inl h
  · obtain ⟨s1, s2⟩ := hs g h2 h3
    obtain ⟨a, b, h3⟩ := h3
    refine .inr ⟨g, c, h1, s2, ⟨a, b, s1.trans h3⟩, fun h0 => ?_⟩
    obtain ⟨b', o', e, hc⟩ := h4 h0
    cases e
    exact ⟨_, _, rfl, fun i hi => by rw [← hc i hi]; unfold World.cell?; rw [s1]⟩
/-- rows that grow: those ahead of i are grown, row i by m -/
structure GL (n0 : Nat) (W0 : World) (kv wv gv : Value) (ks us gs : List Value) (ps : List (List UInt8)) (i : Nat) (lv : Value) (m : Nat) (ζ : Nat → Nat) (w : World) : Prop where
  below : Below n0 W0 w
  size : n0 ≤ w.heap.size
  kown : Own w n0 30 kv ks
  wown : Own w n0 30 wv us
  gown : Own w n0 30 gv gs
  klen : ks.length = ps.length
  glen : gs.length = i
  kval : ∀ j (h1 : j < ks.length) (h2 : j < ps.length), KC w ζ ks[j] ps[j] j
  later : ∀ j (h1 : j < ks.length) (h2 : j < ps.length), i < j → Own w n0 5 ks[j] (Bs (rowB ps[j] 0 j)) ∧ ∀ g, ks[j].ownBlock = some g → ζ g = j
  gval : ∀ j (h1 : j < gs.length) (h2 : j < ps.length), Own w n0 5 gs[j] (Bs (rowB ps[j] 8 j)) ∧ ∀ g, gs[j].ownBlock = some g → ζ g = j
  row : ∀ (h : i < ps.length), Own w n0 5 lv (Bs (rowB ps[i] m i)) ∧ ∀ g, lv.ownBlock = some g → ζ g = i
  kg : ∀ g, kv.ownBlock = some g → gv.ownBlock ≠ some g
  wg : ∀ g, wv.ownBlock = some g → gv.ownBlock ≠ some g
section
variable {n0 : Nat} {W0 w w' : World} {kv wv gv lv v' : Value} {ks us gs : List Value} {ps : List (List UInt8)} {i m : Nat} {ζ : Nat → Nat}
theorem GL.same (h : GL n0 W0 kv wv gv ks us gs ps i lv m ζ w) (hb : Below w.heap.size w w') : GL n0 W0 kv wv gv ks us gs ps i lv m ζ w' :=
  ⟨h.below.trans (hb.mono h.size), Nat.le_trans h.size hb.size, own_drewless h.kown hb, own_drewless h.wown hb, own_drewless h.gown hb, h.klen, h.glen, fun j h1 h2 => (h.kval j h1 h2).keep fun g hz hc => ⟨hb.block g (lt_of_isCells hc), hz⟩,
    fun j h1 h2 h3 => ⟨own_drewless (h.later j h1 h2 h3).1 hb, (h.later j h1 h2 h3).2⟩, fun j h1 h2 => ⟨own_drewless (h.gval j h1 h2).1 hb, (h.gval j h1 h2).2⟩, fun h1 => ⟨own_drewless (h.row h1).1 hb, (h.row h1).2⟩, h.kg, h.wg⟩
/-- one byte more for row i -/
theorem GL.step (h : GL n0 W0 kv wv gv ks us gs ps i lv m ζ w) (hi : i < ps.length) (ho : Own w' n0 5 v' (Bs (rowB ps[i] (m + 1) i))) (hg : w.grownBy w' lv.ownBlock) (hb : v'.ownBlock = lv.ownBlock ∨ ∃ g, v'.ownBlock = some g ∧ w.heap.size ≤ g ∧ ∀ j, j < w.heap.size → w'.heap[j]? = w.heap[j]?) :
    ∃ ζ', GL n0 W0 kv wv gv ks us gs ps i v' (m + 1) ζ' w' := by
  have hrow := h.row hi
  have hne : ∀ {g e}, isCells w g e → e ≠ 5 → some g ≠ lv.ownBlock := fun hc he e2 => he (isCells_inj hc (own_block hrow.1 e2.symm).2.2)
  have hother : ∀ {g j}, isCells w g 5 → ζ g = j → j ≠ i → w'.heap[g]? = w.heap[g]? := fun hc hz hj => hg.block _ (lt_of_isCells hc) fun e2 => hj (hz.symm.trans (hrow.2 _ e2.symm))
  have hk' : ∀ {x e xs}, Own w n0 e x xs → e ≠ 5 → Own w' n0 e x xs := fun hx he => own_same hx fun g hgx => hg.block g (own_block hx hgx).2.1 (hne (own_block hx hgx).2.2 he)
  have hbel : Below n0 W0 w' := h.below.grown hg h.size fun k hk => (own_block hrow.1 hk).1
  rcases hb with hb | ⟨g1, hb1, hb2, hb3⟩
  · refine ⟨ζ, hbel, Nat.le_trans h.size hg.size, hk' h.kown (by decide), hk' h.wown (by decide), hk' h.gown (by decide), h.klen, h.glen, fun j h1 h2 => ?_, fun j h1 h2 h3 => ?_, fun j h1 h2 => ?_, fun _ => ⟨ho, fun g hgv => hrow.2 g (by rw [← hb]; exact hgv)⟩, h.kg, h.wg⟩
    · by_cases e : j = i
      · subst e
        rcases h.kval j h1 h2 with q | ⟨g, c, q1, q2, q3, q4⟩
        · exact .inl q
        · by_cases e2 : some g = lv.ownBlock
          · have e3 : v'.ownBlock = some g := hb.trans e2.symm
            have hcells : isCells w' g 5 := (own_block ho e3).2.2
            refine .inr ⟨g, c, q1, q2, hcells, fun h0 => ?_⟩
            obtain ⟨A', c', e4, _, _, hc⟩ := own_slice ho
            have hA' : A' = some ⟨g, 0, none⟩ := by
              rcases ho.2 with ⟨e5, _⟩ | ⟨g', cap, cur, e5, _⟩
              · rw [e5] at e3; cases e3
              · rw [e5] at e3
                simp only [Value.ownBlock, Option.some.injEq] at e3
                subst e3
                rw [e4] at e5
                exact (by simpa using e5 : A' = _ ∧ _).1
            have hsp : Bs (rowB ps[j] (m + 1) j) = Bs (rowB ps[j] 0 j) ++ Bs (List.replicate (m + 1) (bt j)) := by
              rw [← Bs_append]
              unfold rowB
              rw [List.replicate_append_replicate]
              congr 2
            obtain ⟨b', o', e6, hc2⟩ := hc (by rw [hsp, List.length_append]; omega)
            rw [hA'] at e6
            cases e6
            refine ⟨_, _, rfl, fun k hk => ?_⟩
            rw [hc2 k (by rw [hsp, List.length_append]; omega)]
            congr 1
            rw [List.getElem_of_eq hsp, List.getElem_append_left hk]
          · have e3 : w'.heap[g]? = w.heap[g]? := hg.block g (lt_of_isCells q3) e2
            obtain ⟨a, b, q3⟩ := q3
            refine .inr ⟨g, c, q1, q2, ⟨a, b, e3.trans q3⟩, fun h0 => ?_⟩
            obtain ⟨b', o', e4, hc⟩ := q4 h0
            cases e4
            exact ⟨_, _, rfl, fun k hk => by rw [← hc k hk]; unfold World.cell?; rw [e3]⟩
      · exact (h.kval j h1 h2).keep fun g hz hc => ⟨hother hc hz e, hz⟩
    · have hl := h.later j h1 h2 h3
      exact ⟨own_same hl.1 fun g hgx => hother (own_block hl.1 hgx).2.2 (hl.2 g hgx) (by omega), hl.2⟩
    · have hl := h.gval j h1 h2
      have := h.glen
      exact ⟨own_same hl.1 fun g hgx => hother (own_block hl.1 hgx).2.2 (hl.2 g hgx) (by omega), hl.2⟩
  · have hz : ∀ {g j}, g < w.heap.size → ζ g = j → turnAt ζ g1 i g = j := fun hlt hz => by rw [turnAt_ne _ _ (by omega)]; exact hz
    have hs : ∀ {x e xs}, Own w n0 e x xs → Own w' n0 e x xs := fun hx => own_same hx fun g hgx => hb3 g (own_block hx hgx).2.1
    refine ⟨turnAt ζ g1 i, hbel, Nat.le_trans h.size hg.size, hs h.kown, hs h.wown, hs h.gown, h.klen, h.glen, fun j h1 h2 => (h.kval j h1 h2).keep fun g hzg hc => ⟨hb3 g (lt_of_isCells hc), hz (lt_of_isCells hc) hzg⟩, fun j h1 h2 h3 => ?_, fun j h1 h2 => ?_, fun _ => ⟨ho, fun g hgv => ?_⟩, h.kg, h.wg⟩
    · have hl := h.later j h1 h2 h3
      exact ⟨hs hl.1, fun g hgx => hz (own_block hl.1 hgx).2.1 (hl.2 g hgx)⟩
    · have hl := h.gval j h1 h2
      exact ⟨hs hl.1, fun g hgx => hz (own_block hl.1 hgx).2.1 (hl.2 g hgx)⟩
    · rw [hb1] at hgv
      cases hgv
      exact turnAt_same _ _ _
/-- all filled: they may grow -/
theorem GL.start {qs : List (List UInt8)} (h : MR n0 W0 kv wv ks us qs w) (hl : qs.length = ps.length) (hall : ∀ j (h1 : j < qs.length) (h2 : j < ps.length), qs[j] = List.replicate ps[j].length (bt j)) : ∃ ζ, GL n0 W0 kv wv (.slice none 0 0) ks us [] ps 0 (ks.getD 0 undef) 0 ζ w := by
  have hkl : ks.length = ps.length := h.kpay.len.trans hl
  have hrow : ∀ j (h1 : j < ks.length) (h2 : j < ps.length), Own w n0 5 ks[j] (Bs (rowB ps[j] 0 j)) := fun j h1 h2 => by
    have := h.kpay.own j h1 (by omega)
    rw [hall j (by omega) h2] at this
    exact this
  obtain ⟨ζ, hζ⟩ : ∃ ζ : Nat → Nat, ∀ j (h1 : j < ks.length) g, ks[j].ownBlock = some g → ζ g = j := by
    classical
    refine ⟨fun g => if h : ∃ j, ∃ h1 : j < ks.length, ks[j].ownBlock = some g then h.choose else 0, fun j h1 g hg => ?_⟩
    have hex : ∃ j, ∃ h1 : j < ks.length, ks[j].ownBlock = some g := ⟨j, h1, hg⟩
    simp only [hex, dif_pos]
    obtain ⟨h2, h3⟩ := hex.choose_spec
    refine Classical.byContradiction fun hne => ?_
    exact h.kpay.apart _ _ h2 h1 g hne h3 hg
  refine ⟨ζ, h.below, h.size, h.kown, h.wown, World.ownsRow_nil _ _ _ 1, hkl, rfl, fun j h1 h2 => ?_, fun j h1 h2 _ => ⟨hrow j h1 h2, hζ j h1⟩, fun j h1 => absurd h1 (by simp), fun h1 => ?_, fun g _ e => (by cases e), fun g _ e => (by cases e)⟩
  · have ho := hrow j h1 h2
    have hlen : (Bs (rowB ps[j] 0 j)).length = ps[j].length := by rw [Bs_length]; simp [rowB]
    rcases ho.2 with ⟨e, hz⟩ | ⟨g, cap, cur, e, q1, q2, _⟩
    · exact .inl ⟨e, by omega⟩
    · obtain ⟨A, c, e2, _, _, hc⟩ := own_slice ho
      rw [hlen] at e e2
      rw [e] at e2
      obtain ⟨rfl, rfl⟩ : some (⟨g, 0, none⟩ : Addr) = A ∧ cap = c := by simpa using e2
      exact .inr ⟨g, cap, e, hζ j h1 g (by rw [e]; rfl), ⟨_, _, q2⟩, hc⟩
  · have hk : 0 < ks.length := by omega
    rw [show ks.getD 0 undef = ks[0] by simp [List.getD, List.getElem?_eq_getElem hk]]
    exact ⟨hrow 0 hk h1, hζ 0 hk⟩
/-- row i is grown: on to the next -/
theorem GL.push (h : GL n0 W0 kv wv gv ks us gs ps i lv 8 ζ w) (hi : i < ps.length) (ho : Own w' n0 30 v' (gs ++ [lv])) (hg : w.grownBy w' gv.ownBlock) (hb : v'.ownBlock = gv.ownBlock ∨ ∃ g, v'.ownBlock = some g ∧ w.heap.size ≤ g ∧ ∀ j, j < w.heap.size → w'.heap[j]? = w.heap[j]?) :
    GL n0 W0 kv wv v' ks us (gs ++ [lv]) ps (i + 1) (ks.getD (i + 1) undef) 0 ζ w' := by
  have hrow := h.row hi
  have hne : ∀ {g e}, isCells w g e → e ≠ 30 → some g ≠ gv.ownBlock := fun hc he e2 => he (isCells_inj hc (own_block h.gown e2.symm).2.2)
  have hs : ∀ {x xs}, Own w n0 5 x xs → Own w' n0 5 x xs := fun hx => own_same hx fun g hgx => hg.block g (own_block hx hgx).2.1 (hne (own_block hx hgx).2.2 (by decide))
  have hbel : Below n0 W0 w' := h.below.grown hg h.size fun k hk => (own_block h.gown hk).1
  have hv' : ∀ g, v'.ownBlock = some g → gv.ownBlock = some g ∨ w.heap.size ≤ g := fun g e => by
    rcases hb with hb | ⟨g1, hb1, hb2, _⟩
    · exact .inl (by rw [← hb]; exact e)
    · rw [hb1] at e; cases e; exact .inr hb2
  refine ⟨hbel, Nat.le_trans h.size hg.size, own_same h.kown fun g hgx => hg.block g (own_block h.kown hgx).2.1 fun e => h.kg g hgx e.symm, own_same h.wown fun g hgx => hg.block g (own_block h.wown hgx).2.1 fun e => h.wg g hgx e.symm, ho, h.klen, by simp [h.glen],
    fun j h1 h2 => (h.kval j h1 h2).keep fun g hz hc => ⟨hg.block g (lt_of_isCells hc) (hne hc (by decide)), hz⟩, fun j h1 h2 h3 => ⟨hs (h.later j h1 h2 (by omega)).1, (h.later j h1 h2 (by omega)).2⟩, fun j h1 h2 => ?_, fun h1 => ?_, fun g hgx e => ?_, fun g hgx e => ?_⟩
  · by_cases e : j < gs.length
    · rw [List.getElem_append_left e]
      exact ⟨hs (h.gval j e h2).1, (h.gval j e h2).2⟩
    · have hj : j = i := by simp at h1; have := h.glen; omega
      subst hj
      rw [List.getElem_append_right (by omega)]
      simp only [h.glen, Nat.sub_self, List.getElem_cons_zero]
      exact ⟨hs hrow.1, hrow.2⟩
  · have hk : i + 1 < ks.length := by rw [h.klen]; exact h1
    rw [show ks.getD (i + 1) undef = ks[i + 1] by simp [List.getD, List.getElem?_eq_getElem hk]]
    exact ⟨hs (h.later (i + 1) hk h1 (by omega)).1, (h.later (i + 1) hk h1 (by omega)).2⟩
  · rcases hv' g e with e2 | e2
    · exact h.kg g hgx e2
    · have := (own_block h.kown hgx).2.1; omega
  · rcases hv' g e with e2 | e2
    · exact h.wg g hgx e2
    · have := (own_block h.wown hgx).2.1; omega
end

set_option maxRecDepth 100000 in
set_option maxHeartbeats 3200000 in
theorem rest_wp (F : Nat → Value) (n0 : Nat) (KA WA : Option Addr) (kc wc : Nat) (ks us : List Value) (ps : List (List UInt8)) (x : Option Nat) (W : World) (hn : n0 ≤ W.heap.size) (hk : Own W n0 30 (.slice KA ps.length kc) ks) (hp : Pays W n0 W.heap.size ks ps) (hw : Own W n0 30 (.slice WA ps.length wc) us) (hu : PayR W x us ps)
    (hps : ps.length ≤ 16777474) (hpl : ∀ p ∈ ps, p.length ≤ 16777474) :
    memRest.wp Try.prog (bodyPost Try.prog Try.f4 fun e w' => e = .returned (.bool true) ∧ Below n0 W w') { tmps := #[F 0, F 1, F 2, F 3, F 4, .slice KA ps.length kc, .slice WA ps.length wc, F 7, F 8, F 9, F 10, F 11, F 12, F 13, F 14, F 15, F 16, F 17, F 18, F 19, F 20, F 21, F 22, F 23, F 24, F 25, F 26, F 27, F 28, F 29, F 30, F 31, F 32, F 33, F 34, F 35, F 36, F 37, F 38, F 39, F 40, F 41, F 42, F 43, F 44, F 45, F 46, F 47, F 48, F 49, F 50, F 51, F 52, F 53, F 54, F 55, F 56, F 57, F 58, F 59, F 60, F 61, F 62, F 63, F 64, F 65, F 66, F 67, F 68, F 69, F 70, F 71, F 72, F 73, F 74, F 75, F 76, F 77, F 78, F 79, F 80, F 81, F 82, F 83, F 84, F 85, F 86, F 87, F 88, F 89, F 90, F 91, F 92, F 93, F 94, F 95, F 96, F 97, F 98, F 99, F 100, F 101, F 102, F 103, F 104, F 105, F 106, F 107, F 108, F 109, F 110, F 111, F 112, F 113, F 114, F 115, F 116, F 117, F 118, F 119, F 120, F 121, F 122, F 123, F 124, F 125, F 126, F 127, F 128, F 129, F 130, F 131, F 132, F 133, F 134, F 135, F 136, F 137, F 138, F 139, F 140, F 141, F 142, F 143, F 144, F 145, F 146, F 147, F 148, F 149, F 150, F 151, F 152, F 153, F 154, F 155, F 156, F 157, F 158, F 159, F 160, F 161, F 162, F 163, F 164, F 165, F 166, F 167, F 168, F 169, F 170, F 171, F 172, F 173, F 174, F 175, F 176, F 177, F 178, F 179, F 180, F 181, F 182, F 183, F 184, F 185, F 186, F 187, F 188, F 189, F 190, F 191, F 192, F 193, F 194, F 195, F 196, F 197, F 198, F 199, F 200, F 201, F 202, F 203, F 204, F 205, F 206, F 207, F 208, F 209, F 210, F 211, F 212, F 213, F 214, F 215, F 216, F 217, F 218, F 219], defers := [] } W := by
  have hrK : RowsB W KA ps := by
    obtain ⟨A, c, e1, _, _, hr⟩ := rows_of hk hp
    obtain ⟨rfl, _⟩ : KA = A ∧ kc = c := by simpa using e1
    exact hr
  have hrW : RowsB W WA ps := by
    obtain ⟨A, c, e1, _, _, hr⟩ := hu.rows hw
    obtain ⟨rfl, _⟩ : WA = A ∧ wc = c := by simpa using e1
    exact hr
  have hsm := same_calls KA WA kc wc ps ps W (by omega) hrK hrW
  rw [beq_self_eq_true] at hsm
  have HSAME := Go.Lib.hid hsm
  have HM0 : Hid (MR n0 W (.slice KA ps.length kc) (.slice WA ps.length wc) ks us ps W) := ⟨Below.refl _ _, hn, hk, hp, hw⟩
  have HPL := Go.Lib.hid hpl
  have HUL := Go.Lib.hid hu.lens
  clear hsm hk hp hw hu hrK hrW hpl
  simp only [memRest, memBody, Try.f4, sqR, Option.getD]
  go_wp2_with (go_at_call 13; (with_reducible refine HSAME.out.mono ?_); rintro e w1 ⟨rfl, n1, rfl⟩)
  clear HSAME
  go_loopw [16] (fun iv wr => ∃ (j : Nat) (qs : List (List UInt8)), j ≤ ps.length ∧ iv = .int .i64 (j : Int) ∧ Hid (Fil ps qs j 0) ∧ Hid (MR n0 W (.slice KA ps.length kc) (.slice WA ps.length wc) ks us qs wr)) (fun iv _ => ps.length - (intOf iv).toNat)
  case atStart => exact ⟨0, ps, by omega, rfl, fil_start ps, HM0.out.drewN _⟩
  case round =>
    obtain ⟨j, qs, hj, rfl, HF, HM⟩ := hrel
    by_cases hlt : j < ps.length
    · have i1 : (j : Int) < (ps.length : Int) := by omega
      have i0 : (0 : Int) ≤ (j : Int) := Int.natCast_nonneg _
      obtain ⟨N, hN⟩ : ∃ N, N = ps[j].length := ⟨_, rfl⟩
      have HN := Go.Lib.hid hN
      have wb := bt_wrap j
      have hNb : N ≤ 16777474 := by rw [hN]; exact HPL.out _ (List.getElem_mem hlt)
      clear hN
      go_wp2
      go_loopw [17] (fun kv' wr' => ∃ (k : Nat) (qs' : List (List UInt8)), k ≤ N ∧ kv' = .int .i64 (k : Int) ∧ Hid (Fil ps qs' j k) ∧ Hid (MR n0 W (.slice KA ps.length kc) (.slice WA ps.length wc) ks us qs' wr')) (fun kv' _ => N - (intOf kv').toNat)
      case atStart => exact ⟨0, qs, by omega, rfl, HF, HM⟩
      case round =>
        obtain ⟨k, qs', hk, rfl, HF2, HM2⟩ := hrel
        obtain ⟨kb, A, c, hKA, hck, hcN, hsome⟩ := HM2.out.row HF2.out hlt
        rw [← HN.out] at hck hcN hsome
        subst hKA
        by_cases hkN : k < N
        · have k1 : (k : Int) < (N : Int) := by omega
          have k0 : (0 : Int) ≤ (k : Int) := Int.natCast_nonneg _
          obtain ⟨g, rfl, hfz, hys, hg8, hgn, hjk, hks⟩ := hsome (by omega)
          obtain ⟨y, hcy⟩ := hys k hkN
          have fz := hfz k
          have HQ : Hid (j < qs'.length ∧ ∀ h : j < qs'.length, k < qs'[j].length) := ⟨by rw [HF2.out.len]; exact hlt, fun h => by rw [HF2.out.lens j h hlt, ← HN.out]; exact hkN⟩
          have HFS := Go.Lib.hid (HF2.out.step HQ.out.1 (HQ.out.2 _))
          have HMS := Go.Lib.hid (HM2.out.write hg8 hgn hjk HQ.out.1 hks (k := k) (bt j))
          clear hfz hys hg8 hgn hks hsome hcN
          go_wp2
          go_roundw
          case rel => exact ⟨k + 1, _, by omega, by go_num, HFS, HMS⟩
          case measure => simp [intOf]; omega
        · obtain rfl : k = N := by omega
          have k1 : ¬ ((k : Int) < (k : Int)) := by omega
          have HFN : Hid (Fil ps qs' (j + 1) 0) := by
            have hq : j < qs'.length := by rw [HF2.out.len]; exact hlt
            refine Fil.next hq ?_
            have := HF2.out
            rwa [HN.out, ← this.lens j hq hlt] at this
          clear hsome hcN
          go_wp2
          go_roundw
          case rel => exact ⟨j + 1, qs', by omega, by go_num, HFN, HM2⟩
          case measure => simp [intOf]; omega
    · obtain rfl : j = ps.length := by omega
      have HALL := Go.Lib.hid (HF.out.all (by rw [HF.out.len]; exact Nat.le_refl _))
      have HGS : Hid (∃ ζ, GL n0 W (.slice KA ps.length kc) (.slice WA ps.length wc) (.slice none 0 0) ks us [] ps 0 (ks.getD 0 undef) 0 ζ wr) := GL.start HM.out HF.out.len HALL.out
      have hkl : ks.length = ps.length := HM.out.kpay.len.trans HF.out.len
      clear HF HALL HM hj hlt
      go_wp2
      go_loopw [18, 19] (fun gv iv wr => ∃ (j : Nat) (gs : List Value), j ≤ ps.length ∧ iv = .int .i64 (j : Int) ∧ Hid (∃ ζ, GL n0 W (.slice KA ps.length kc) (.slice WA ps.length wc) gv ks us gs ps j (ks.getD j undef) 0 ζ wr)) (fun _ iv _ => ps.length - (intOf iv).toNat)
      case atStart => exact ⟨0, [], by omega, rfl, HGS⟩
      case round =>
        obtain ⟨j, gs, hj, rfl, HG⟩ := hrel
        by_cases hlt : j < ps.length
        · have i1 : (j : Int) < (ps.length : Int) := by omega
          have i0 : (0 : Int) ≤ (j : Int) := Int.natCast_nonneg _
          obtain ⟨N, hN⟩ : ∃ N, N = ps[j].length := ⟨_, rfl⟩
          have HN := Go.Lib.hid hN
          have wb := bt_wrap j
          have hNb : N ≤ 16777474 := by rw [hN]; exact HPL.out _ (List.getElem_mem hlt)
          clear hN HGS
          obtain ⟨kb, hKA, hck⟩ : ∃ kb, KA = some ⟨kb, 0, none⟩ ∧ wr.cell? ⟨kb, j, none⟩ = some (ks.getD j undef) := by
            obtain ⟨ζ, h⟩ := HG.out
            exact own_at h.kown hkl hlt
          subst hKA
          obtain ⟨A, c, hkj⟩ : ∃ A c, ks.getD j undef = .slice A N c := by
            obtain ⟨ζ, h⟩ := HG.out
            obtain ⟨A, c, e, _⟩ := own_slice (h.row hlt).1
            rw [Bs_length] at e
            exact ⟨A, c, by rw [e, HN.out]; simp [rowB]⟩
          rw [hkj] at hck HG
          clear hkj
          go_wp2
          go_loopw [20, 21] (fun lv mv wr' => ∃ (m : Nat), m ≤ 8 ∧ mv = .int .i64 (m : Int) ∧ Hid (∃ ζ, GL n0 W (.slice (some ⟨kb, 0, none⟩) ps.length kc) (.slice WA ps.length wc) u18 ks us gs ps j lv m ζ wr')) (fun _ mv _ => 8 - (intOf mv).toNat)
          case atStart => exact ⟨0, by omega, rfl, HG⟩
          case round =>
            obtain ⟨m, hm, rfl, HG2⟩ := hrel
            by_cases hm8 : m < 8
            · have m1 : (m : Int) < 8 := by omega
              obtain ⟨ζ, HG3⟩ := HG2.out
              have HG4 := Go.Lib.hid HG3
              have hown := (HG3.row hlt).1
              have hsz := HG3.size
              have hr1 : ((Bs (rowB ps[j] m j)).length + 1) * 1 ≤ 140737488355328 := by rw [Bs_length]; simp only [rowB, List.length_replicate]; rw [← HN.out]; omega
              have hr2 : (Bs (rowB ps[j] m j)).length + 1 ≤ 9223372036854775807 := by omega
              have HO := Go.Lib.hid hown
              clear hown HG3
              go_wp2_with (first
                | (at_builtin; (with_reducible refine wpList_append_blk (W := wr) (u := .int .u8 (n8 (bt j))) (base := n0) (vs := Bs (rowB ps[j] m j)) (s := .tmp 153) (x := .tmp 156) (t := 30) (e := 5) (z := .int .u8 0) (bytes := 1) (hinfo := info8) (ht := Try.underlying30) (hown := HO.out) (hbase := hsz) (hgd := rfl) (ho := ?_) (hz := ?_) (hs := ?_) (hu := ?_) (hx := ?_) (hroom := hr1) (hmax := hr2) (h := ?_)); rfl; rfl; rfl; rfl; rfl; intro v3 w3 hown3 hgr3 hblk3; have HG5 := Go.Lib.hid (HG4.out.step hlt (by rw [rowB_succ, Bs_append]; exact hown3) hgr3 hblk3); clear hown3 hgr3 hblk3))
              go_roundw
              case rel => exact ⟨m + 1, by omega, by go_num, HG5⟩
              case measure => simp [intOf]; omega
            · obtain rfl : m = 8 := by omega
              have m1 : ¬ (((8 : Nat) : Int) < 8) := by omega
              obtain ⟨ζ, HG3⟩ := HG2.out
              have HG4 := Go.Lib.hid HG3
              have hown := HG3.gown
              have hsz := HG3.size
              have hgl := HG3.glen
              obtain ⟨lA, ld, rfl⟩ : ∃ A c, u20 = .slice A (N + 8) c := by
                obtain ⟨A, c, e, _⟩ := own_slice (HG3.row hlt).1
                rw [Bs_length] at e
                exact ⟨A, c, by rw [e, HN.out]; simp [rowB]⟩
              have hr1 : (gs.length + 1) * 24 ≤ 140737488355328 := by omega
              have hr2 : gs.length + 1 ≤ 9223372036854775807 := by omega
              have HO := Go.Lib.hid hown
              clear hown HG3 hgl
              go_wp2_with (first
                | (at_builtin; (with_reducible refine wpList_append_blk (W := wr) (u := .slice lA (N + 8) ld) (base := n0) (vs := gs) (s := .tmp 158) (x := .tmp 160) (t := 34) (e := 30) (z := .slice none 0 0) (bytes := 24) (hinfo := infoRow) (ht := Try.underlying34) (hown := HO.out) (hbase := hsz) (hgd := rfl) (ho := ?_) (hz := ?_) (hs := ?_) (hu := ?_) (hx := ?_) (hroom := hr1) (hmax := hr2) (h := ?_)); rfl; rfl; rfl; rfl; rfl; intro v3 w3 hown3 hgr3 hblk3; have HG5 := Go.Lib.hid (HG4.out.push hlt hown3 hgr3 hblk3); clear hown3 hgr3 hblk3))
              go_roundw
              case rel => exact ⟨j + 1, _, by omega, by go_num, ⟨ζ, HG5.out⟩⟩
              case measure => simp [intOf]; omega
        · obtain rfl : j = ps.length := by omega
          obtain ⟨ζ, HG3⟩ := HG.out
          have hgl := HG3.glen
          obtain ⟨GA, gc, rfl⟩ : ∃ A c, u18 = .slice A ps.length c := by
            obtain ⟨A, c, e, _⟩ := own_slice HG3.gown
            rw [hgl] at e
            exact ⟨A, c, e⟩
          have HG4 := Go.Lib.hid HG3
          clear HGS HG HG3 hj hlt
          go_wp2
          go_loopw [22] (fun iv wr => ∃ (j : Nat), j ≤ ps.length ∧ iv = .int .i64 (j : Int) ∧ Hid (GL n0 W (.slice KA ps.length kc) (.slice WA ps.length wc) (.slice GA ps.length gc) ks us gs ps ps.length (ks.getD ps.length undef) 0 ζ wr)) (fun iv _ => ps.length - (intOf iv).toNat)
          case atStart => exact ⟨0, by omega, rfl, HG4⟩
          case round =>
            obtain ⟨j, hj, rfl, HG⟩ := hrel
            by_cases hlt : j < ps.length
            · have i1 : (j : Int) < (ps.length : Int) := by omega
              have i0 : (0 : Int) ≤ (j : Int) := Int.natCast_nonneg _
              obtain ⟨N, hN⟩ : ∃ N, N = ps[j].length := ⟨_, rfl⟩
              have HN := Go.Lib.hid hN
              have wb := bt_wrap j
              have hNb : N ≤ 16777474 := by rw [hN]; exact HPL.out _ (List.getElem_mem hlt)
              clear hN
              obtain ⟨kb, hKA, hck⟩ := own_at HG.out.kown hkl hlt
              subst hKA
              obtain ⟨ub, hUA, hcu⟩ := own_at HG.out.wown HUL.out.1 hlt
              subst hUA
              obtain ⟨gb, hGA, hcg⟩ := own_at HG.out.gown hgl hlt
              subst hGA
              obtain ⟨uA, uc, hu⟩ := HUL.out.2 j (by rw [HUL.out.1]; exact hlt) hlt
              rw [show us.getD j undef = us[j]'(by rw [HUL.out.1]; exact hlt) by simp [List.getD, List.getElem?_eq_getElem (show j < us.length by rw [HUL.out.1]; exact hlt)], hu, ← HN.out] at hcu
              have hgo := (HG.out.gval j (by rw [hgl]; exact hlt) hlt).1
              obtain ⟨lg, ld, hge, _, _, hgc⟩ := own_someB hgo (by rw [Bs_length]; simp [rowB])
              rw [show gs.getD j undef = gs[j]'(by rw [hgl]; exact hlt) by simp [List.getD, List.getElem?_eq_getElem (show j < gs.length by rw [hgl]; exact hlt)], hge] at hcg
              have hrl : (Bs (rowB ps[j] 8 j)).length = N + 8 := by rw [Bs_length, HN.out]; simp [rowB]
              rw [hrl] at hcg
              have HGC : Hid (∀ k, k < N + 8 → wr.cell? ⟨lg, k, none⟩ = some (.int .u8 (n8 (bt j)))) := by
                intro k hk
                obtain ⟨b', o', e, hcc⟩ := hgc (by rw [hrl]; omega)
                cases e
                have := hcc k (by rw [hrl]; exact hk)
                rw [Nat.zero_add] at this
                rw [this]
                simp [Bs, rowB]
              obtain ⟨kA, kd, hke, hkc⟩ : ∃ A c, ks.getD j undef = .slice A N c ∧ (0 < N → ∃ g, A = some ⟨g, 0, none⟩ ∧ ∀ k, k < N → wr.cell? ⟨g, k, none⟩ = some (.int .u8 (n8 (bt j)))) := by
                have hk2 : j < ks.length := by omega
                rw [show ks.getD j undef = ks[j] by simp [List.getD, List.getElem?_eq_getElem hk2]]
                rcases HG.out.kval j hk2 hlt with ⟨e, hz⟩ | ⟨g, c, e, _, _, hcc⟩
                · exact ⟨none, 0, by rw [e, HN.out, hz], fun h => by rw [HN.out] at h; omega⟩
                · refine ⟨some ⟨g, 0, none⟩, c, by rw [e, HN.out], fun h => ⟨g, rfl, fun k hk => ?_⟩⟩
                  have hl0 : (Bs (rowB ps[j] 0 j)).length = N := by rw [Bs_length, HN.out]; simp [rowB]
                  obtain ⟨b', o', e2, h3⟩ := hcc (by rw [hl0]; exact h)
                  cases e2
                  have := h3 k (by rw [hl0]; exact hk)
                  rw [Nat.zero_add] at this
                  rw [this]
                  simp [Bs, rowB]
              rw [hke] at hck
              have HKC := Go.Lib.hid hkc
              clear hke hkc hgo hge hgc hrl hu
              have w8 : IntKind.i64.wrap ((N : Int) + 8) = ((N + 8 : Nat) : Int) := by rw [IntKind.wrap_i64]; omega
              have w9 : IntKind.i64.wrap ((N : Int) + 8) = (N : Int) + 8 := by rw [IntKind.wrap_i64]; omega
              go_wp2
              go_quiet (fail)
              go_wp2
              go_loopw [23] (fun kv wr' => ∃ (k n : Nat), k ≤ N + 8 ∧ kv = .int .i64 (k : Int) ∧ Hid (wr' = wr.drewN n)) (fun kv _ => N + 8 - (intOf kv).toNat)
              case atStart => exact ⟨0, _, by omega, rfl, rfl⟩
              case round =>
                obtain ⟨k, n, hk, rfl, HW⟩ := hrel
                obtain rfl := HW.out
                by_cases hk8 : k < N + 8
                · have k1 : (k : Int) < (N : Int) + 8 := by omega
                  have k0 : (0 : Int) ≤ (k : Int) := Int.natCast_nonneg _
                  have hgk := HGC.out k hk8
                  by_cases hkN : k < N
                  · have k2 : (k : Int) < (N : Int) := by omega
                    obtain ⟨kg, rfl, hkk⟩ := HKC.out (by omega)
                    have hkc := hkk k hkN
                    clear hkk
                    go_wp2
                    go_roundw
                    case rel => exact ⟨k + 1, n, by omega, by go_num, rfl⟩
                    case measure => simp [intOf]; omega
                  · have k2 : ¬ ((k : Int) < (N : Int)) := by omega
                    go_wp2
                    go_roundw
                    case rel => exact ⟨k + 1, n, by omega, by go_num, rfl⟩
                    case measure => simp [intOf]; omega
                · obtain rfl : k = N + 8 := by omega
                  have k1 : ¬ ((N : Int) + 8 < (N : Int) + 8) := by omega
                  go_wp2
                  go_roundw
                  case rel => exact ⟨j + 1, by omega, by go_num, HG.out.same (drewN_below _ _ _)⟩
                  case measure => simp [intOf]; omega
            · obtain rfl : j = ps.length := by omega
              go_wp2
              go_ret
              exact ⟨rfl, HG.out.below⟩
end
end Go.Proofs.Ytngmhkhncimknaa
