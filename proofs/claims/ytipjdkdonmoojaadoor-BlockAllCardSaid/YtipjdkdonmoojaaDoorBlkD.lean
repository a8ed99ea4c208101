/- Package block: Decode. -/
import Derived.Test.YtipjdkdonmoojaaDoorBlkE
import Derived.Laws.IdiomStrings
namespace Go.Proofs.YtipjdkdonmoojaaDoor
open Go Go.RowKit
set_option linter.unusedVariables false
set_option linter.unusedSimpArgs false
attribute [local go_sem] n8_self n64_self beq_n8 bne_n8 beq_n32 bne_n32

theorem infoRow : (Tryd.prog.info? 28).map (fun i => (i.zero, i.size, i.bytes)) = some (some (.slice none 0 0), 1, 24) := by kernel_rfl
/-- blocks of bytes stay -/
def KeepB (w w' : World) : Prop := ∀ (x : Nat) (cs : Array Value) (fr : Nat × Nat), w.heap[x]? = some (Obj.cells cs 5 fr) → w'.heap[x]? = some (Obj.cells cs 5 fr)
theorem keepB_refl (w : World) : KeepB w w := fun _ _ _ h => h
theorem keepB_trans {a b c : World} (h : KeepB a b) (k : KeepB b c) : KeepB a c := fun x cs fr hx => k x cs fr (h x cs fr hx)
theorem keepB_below {a b : World} (h : Below a.heap.size a b) : KeepB a b := fun _ _ _ hx => below_heap h hx
theorem keepB_grown {W w' : World} {base e : Nat} {v : Value} {vs : List Value} (ho : Own W base e v vs) (he : 5 ≠ e) (hg : W.grownBy w' v.ownBlock) : KeepB W w' :=
  fun _ _ _ hx => grown_heap ho hg hx he
theorem keepB_only {w w' : World} {g T : Nat} {cs : Array Value} {fr : Nat × Nat} (hg : w.heap[g]? = some (Obj.cells cs T fr)) (hT : T ≠ 5) (h : Only g w w') : KeepB w w' := by
  intro x cs' fr' hx
  have hne : x ≠ g := by
    rintro rfl
    rw [hg] at hx
    simp only [Option.some.injEq, Obj.cells.injEq] at hx
    exact hT hx.2.1
  exact (h.2.2.2.2 x hne).trans hx
/-- a slice of bytes in a block of bytes -/
def SlT (w : World) (v : Value) (l : List UInt8) : Prop := ∃ A c, v = .slice A l.length c ∧ l.length ≤ c ∧ c ≤ 9223372036854775807 ∧ Cells w A (Bs l) ∧ ∀ ad, A = some ad → ∃ cs fr, w.heap[ad.block]? = some (Obj.cells cs 5 fr)
theorem slT_slB {w : World} {v : Value} {l : List UInt8} (h : SlT w v l) : SlB w v l := by
  obtain ⟨A, c, h1, h2, h3, h4, _⟩ := h
  exact ⟨A, c, h1, h2, h3, h4⟩
theorem slT_keep {w w' : World} {v : Value} {l : List UInt8} (h : SlT w v l) (hk : KeepB w w') : SlT w' v l := by
  obtain ⟨A, c, h1, h2, h3, h4, h5⟩ := h
  refine ⟨A, c, h1, h2, h3, fun h0 => ?_, fun ad ha => ?_⟩
  · obtain ⟨b, o, ha, hc⟩ := h4 h0
    obtain ⟨cs, fr, hb⟩ := h5 _ ha
    refine ⟨b, o, ha, fun i hi => ?_⟩
    exact (World.cell?_of_block (a := ⟨b, o + i, none⟩) ((hk b cs fr hb).trans hb.symm)).trans (hc i hi)
  · obtain ⟨cs, fr, hb⟩ := h5 ad ha
    exact ⟨cs, fr, hk _ cs fr hb⟩
def AllT (w : World) (vs : List Value) (ls : List (List UInt8)) : Prop := vs.length = ls.length ∧ ∀ i, (h1 : i < vs.length) → (h2 : i < ls.length) → SlT w vs[i] ls[i]
theorem allT_nil (w : World) : AllT w [] [] := ⟨rfl, fun i h => absurd h (by simp)⟩
theorem allT_keep {w w' : World} {vs : List Value} {ls : List (List UInt8)} (h : AllT w vs ls) (hk : KeepB w w') : AllT w' vs ls := ⟨h.1, fun i h1 h2 => slT_keep (h.2 i h1 h2) hk⟩
theorem allT_snoc {w : World} {vs : List Value} {ls : List (List UInt8)} (h : AllT w vs ls) {v : Value} {l : List UInt8} (hv : SlT w v l) : AllT w (vs ++ [v]) (ls ++ [l]) := by
  obtain ⟨h1, h2⟩ := h
  refine ⟨by simp [h1], fun i hi hj => ?_⟩
  by_cases hlt : i < vs.length
  · rw [List.getElem_append_left hlt, List.getElem_append_left (by omega)]
    exact h2 i hlt (by omega)
  · have : i = vs.length := by simp at hi; omega
    subst this
    simp only [List.getElem_append_right (Nat.le_refl _), Nat.sub_self]
    have e : (ls ++ [l])[vs.length] = l := by simp [h1]
    rw [e]
    simpa using hv
theorem rows_of_all {w : World} {base : Nat} {v : Value} {vs : List Value} {ls : List (List UInt8)} (h : Own w base 28 v vs) (hl : AllT w vs ls) : ∃ A c, v = .slice A ls.length c ∧ ls.length ≤ c ∧ c ≤ 9223372036854775807 ∧ RowsB w A ls := by
  obtain ⟨A, c, rfl, h1, h2, h3⟩ := own_slice h
  exact ⟨A, c, by rw [hl.1], by rw [← hl.1]; exact h1, h2, vs, hl.1, h3, fun i h1 h2 => slT_slB (hl.2 i h1 h2)⟩
theorem own_only {w w' : World} {base e g T : Nat} {v : Value} {vs : List Value} {cs : Array Value} {fr : Nat × Nat} (h : Own w base e v vs) (hg : w.heap[g]? = some (Obj.cells cs T fr)) (hT : T ≠ e) (ho : Only g w w') : Own w' base e v vs := by
  refine ⟨h.1, ?_⟩
  rcases h.2 with h2 | ⟨g', cap, cur, hv, hb, hh, r⟩
  · exact .inl h2
  · refine .inr ⟨g', cap, cur, hv, hb, ?_, r⟩
    have hne : g' ≠ g := by
      rintro rfl
      rw [hg] at hh
      simp only [Option.some.injEq, Obj.cells.injEq] at hh
      exact hT hh.2.1
    exact (ho.2.2.2.2 g' hne).trans hh
theorem rd_heap {w : World} {B g : Nat} {rest : List UInt8} {f : Value} (h : Rd w B g rest f) : ∃ cs, w.heap[g]? = some (Obj.cells cs 82 (0, 0)) := by
  obtain ⟨A, c, _, h2, _⟩ := h
  exact ⟨_, h2⟩
theorem rd_lt {w : World} {B g : Nat} {rest : List UInt8} {f : Value} (h : Rd w B g rest f) : B ≤ g ∧ g < w.heap.size := by
  obtain ⟨A, c, h1, h2, _⟩ := h
  exact ⟨h1, heap_lt h2⟩
theorem rd_grown {W w' : World} {B g base e : Nat} {rest : List UInt8} {f v : Value} {vs : List Value} (h : Rd W B g rest f) (ho : Own W base e v vs) (he1 : 82 ≠ e) (he2 : 5 ≠ e) (hg : W.grownBy w' v.ownBlock) : Rd w' B g rest f := by
  obtain ⟨A, c, h1, h2, h3, h4, h5, h6⟩ := h
  refine ⟨A, c, h1, grown_heap ho hg h2 he1, h3, h4, fun h0 => ?_, fun ad ha => ⟨(h6 ad ha).1, (h6 ad ha).2.1, ?_⟩⟩
  · obtain ⟨b, o, ha, hc⟩ := h5 h0
    obtain ⟨cs, fr, hb⟩ := (h6 _ ha).2.2
    refine ⟨b, o, ha, fun i hi => ?_⟩
    exact (World.cell?_of_block (a := ⟨b, o + i, none⟩) ((grown_heap ho hg hb he2).trans hb.symm)).trans (hc i hi)
  · obtain ⟨cs, fr, hb⟩ := (h6 _ ha).2.2
    exact ⟨cs, fr, grown_heap ho hg hb he2⟩
/-- '[]byte(s)' -/
theorem bytes_ex (W : World) (l : List UInt8) (hl : l.length ≤ 200) : ∃ W' A c, (convert 9 28 (.string ⟨l.toArray⟩)).run Tryd.prog W = .ok (.slice A l.length c) W' ∧ Hid (SlT W' (.slice A l.length c) l) ∧ Hid (Below W.heap.size W W') := by
  have h := run_bytes_of_string (P := Tryd.prog) W 9 28 5 ⟨l.toArray⟩ Tryd.underlying9 Tryd.underlying28 Tryd.underlying5
  have hsz : (⟨l.toArray⟩ : ByteArray).size = l.length := rfl
  rw [hsz] at h
  have hge := grownCap_ge W l.length 0 5
  have hcm : grownCap W l.length 0 5 ≤ maxLen := grownCap_le_maxLen W l.length 0 5 (by unfold maxLen; omega)
  unfold maxLen at hcm
  refine ⟨_, _, _, h, ⟨_, _, rfl, hge, hcm, fun h0 => ⟨W.heap.size, 0, rfl, fun i hi => ?_⟩, fun ad ha => ?_⟩, ?_⟩
  · rw [Bs_length] at hi
    rw [Nat.zero_add]
    have e := World.cell?_alloc_mark W.drew (bytesRow ⟨l.toArray⟩ (grownCap W l.length 0 5)) 5 ((bytesRow ⟨l.toArray⟩ (grownCap W l.length 0 5)).size, (bytesRow ⟨l.toArray⟩ (grownCap W l.length 0 5)).size + 1) i
    refine e.trans ?_
    rw [bytesRow_at _ _ i (by simpa using hi)]
    simp [Bs, n8]
  · cases ha
    exact ⟨_, _, heap_here _ _ _ rfl⟩
  · exact (Below.refl _ _).drew.alloc (Nat.le_refl _) _

/-! what a block's first bytes read as -/
theorem cut_fix (b : List UInt8) (k m : Nat) (hl : b.length = 512) (hk : k + m ≤ 18) : fixedS ((b.take 18).drop k) 0 m = (leV ((b.drop k).take m), (b.take 18).drop (k + m), 0) := by
  have e : (b.take 18).drop k = (b.drop k).take m ++ (b.take 18).drop (k + m) := by
    rw [List.drop_take, List.drop_take, ← List.drop_drop]
    have h1 : (b.drop k).take (18 - k) = ((b.drop k).take (18 - k)).take m ++ ((b.drop k).take (18 - k)).drop m := (List.take_append_drop _ _).symm
    rw [List.take_take, Nat.min_eq_left (by omega), List.drop_take] at h1
    rw [h1, show 18 - k - m = 18 - (k + m) by omega]
  rw [e]
  exact fixedS_app _ _ m (by rw [List.length_take, List.length_drop]; omega)
theorem count_lt (b : List UInt8) (hl : b.length = 512) : (leV ((b.drop 12).take 2)).toNat < 65536 := leV_lt _ (by rw [List.length_take]; omega)
theorem count_int (b : List UInt8) (hl : b.length = 512) : IntKind.i64.wrap (n16 (leV ((b.drop 12).take 2)).toUInt16) = (countB b : Int) := by
  have h := count_lt b hl
  rw [IntKind.wrap_i64]
  unfold n16 countB
  rw [UInt64.toNat_toUInt16]
  omega
/-- how far the taking of n records has come -/
def TKr (n k : Nat) (R rest : List UInt8) (acc : List (List UInt8)) : Prop := takeRecs n R = match takeRecs (n - k) rest with | none => none | some (l, q) => some (acc ++ l, q)
theorem tk_zero (n : Nat) (R : List UInt8) : TKr n 0 R R [] := by
  unfold TKr
  rw [Nat.sub_zero]
  cases takeRecs n R with
  | none => rfl
  | some x => rfl
theorem tk_step {n k : Nat} {R rest : List UInt8} {acc : List (List UInt8)} (h : TKr n k R rest acc) (hk : k < n) (h0 : (textS rest 0).2.2 = 0) (h1 : (textS rest 0).1.length ≤ 200) : TKr n (k + 1) R (textS rest 0).2.1 (acc ++ [(textS rest 0).1]) := by
  unfold TKr at *
  rw [h, show n - k = (n - (k + 1)) + 1 by omega, takeRecs, if_neg (by rw [h0]; simp; omega)]
  cases takeRecs (n - (k + 1)) (textS rest 0).2.1 with
  | none => rfl
  | some x => simp
theorem tk_bad {n k : Nat} {R rest : List UInt8} {acc : List (List UInt8)} (h : TKr n k R rest acc) (hk : k < n) (hb : (textS rest 0).2.2 ≠ 0 ∨ 200 < (textS rest 0).1.length) : takeRecs n R = none := by
  unfold TKr at h
  rw [h, show n - k = (n - (k + 1)) + 1 by omega, takeRecs, if_pos hb]
theorem tk_end {n : Nat} {R rest : List UInt8} {acc : List (List UInt8)} (h : TKr n n R rest acc) : takeRecs n R = some (acc, rest) := by
  unfold TKr at h
  rw [h, Nat.sub_self, takeRecs]
  simp
def decT (b : List UInt8) : UInt64 × List (List UInt8) × Nat :=
  if toldB b ≠ sumB (b.take 14) (b.drop 18) then (0, [], 5) else
  if countB b = 0 ∨ numOK (firstB b) (countB b) = false then (0, [], 3) else
  match takeRecs (countB b) (b.drop 18) with
  | none => (0, [], 3)
  | some (l, q) => if q.all (· == 0) = true then (firstB b, l, 0) else (0, [], 3)
theorem decB_T {b : List UInt8} (hl : b.length = 512) (hm : b.take 4 = magicB) : decB b = decT b := by
  unfold decB
  rw [if_neg (by omega), if_neg (by rw [hm, hl]; simp)]
  rfl

/-- what Decode gives -/
def GaveD (p : Nat → Addr) (w w' : World) (e : Ending) (d : UInt64 × List (List UInt8) × Nat) : Prop :=
  ∃ v vs, e = .returned (.tuple #[.int .u64 (n64 d.1), v, errv p d.2.2]) ∧ Own w' w.heap.size 28 v vs ∧ AllT w' vs d.2.1 ∧ Below w.heap.size w w'
theorem gaveD_err (p : Nat → Addr) {w w' : World} (k : Nat) {v : Value} (hv : v = errv p k) (hb : Below w.heap.size w w') : GaveD p w w' (.returned (.tuple #[.int .u64 0, .slice none 0 0, v])) (0, [], k) := by
  subst hv
  exact ⟨_, [], rfl, World.ownsRow_nil _ _ _ 1, allT_nil _, hb⟩
theorem str_toList (a : List UInt8) : (⟨a.toArray⟩ : ByteArray).toList = a := by rw [ByteArray.toList_eq]
theorem magic_toList : (⟨#[84, 66, 48, 49]⟩ : ByteArray).toList = [84, 66, 48, 49] := by rw [ByteArray.toList_eq]
set_option maxRecDepth 100000 in
set_option maxHeartbeats 1600000 in
theorem bDecode_short (A : Option Addr) (c : Nat) (b : List UInt8) (p : Nat → Addr) (w : World) (hp : E5 w p) (hl : b.length < 512) :
    Calls Tryd.prog 16 #[.slice A b.length c] w fun e w' => GaveD p w w' e (decB b) := by
  rw [show decB b = (0, [], 2) by unfold decB; rw [if_pos hl]]
  have e2 := e5_short hp
  have d1 : decide ((b.length : Int) < 512) = true := decide_eq_true (by omega)
  clear hp
  go_enter Tryd.func16, Tryd.ntmps16
  go_wp2
  go_quiet (fail)
  go_wp2
  go_ret3
  exact gaveD_err p 2 rfl (below_drewN _ _ _)
set_option maxRecDepth 100000 in
set_option maxHeartbeats 1600000 in
theorem bDecode_long (A : Option Addr) (c : Nat) (b : List UInt8) (p : Nat → Addr) (w : World) (hp : E5 w p) (hl : 512 < b.length) :
    Calls Tryd.prog 16 #[.slice A b.length c] w fun e w' => GaveD p w w' e (decB b) := by
  rw [show decB b = (0, [], 3) by unfold decB; rw [if_neg (by omega), if_pos (.inl hl)]]
  have e2 := e5_form hp
  have d1 : decide ((b.length : Int) < 512) = false := decide_eq_false (by omega)
  have d2 : decide ((512 : Int) < (b.length : Int)) = true := decide_eq_true (by omega)
  clear hp
  go_enter Tryd.func16, Tryd.ntmps16
  go_wp2
  go_quiet (fail)
  go_wp2
  go_ret3
  exact gaveD_err p 3 rfl (below_drewN _ _ _)
set_option maxRecDepth 100000 in
set_option maxHeartbeats 1600000 in
theorem bDecode_magic (A : Option Addr) (c : Nat) (b : List UInt8) (p : Nat → Addr) (w : World) (hp : E5 w p) (hl : b.length = 512) (hc : 512 ≤ c) (hc2 : c ≤ 9223372036854775807) (hA : Cells w A (Bs b)) (hm : b.take 4 ≠ magicB) :
    Calls Tryd.prog 16 #[.slice A 512 c] w fun e w' => GaveD p w w' e (decB b) := by
  rw [show decB b = (0, [], 3) by unfold decB; rw [if_neg (by omega), if_pos (.inr hm)]]
  have e2 := e5_form hp
  have hk2 : (4 : Int) ≤ (c : Int) := by omega
  have hcut1 : ∀ W : World, (Instr.slice 28 (.slice A 512 c) none (some (.int .i64 4)) none).run Tryd.prog W = .ok (.slice A 4 c) W := run_cut_h (P := Tryd.prog) 28 5 Tryd.underlying28 size8' A 512 c 4 (by omega)
  have hcv : (convert 28 9 (.slice A 4 c)).run Tryd.prog w = .ok (.string ⟨(b.take 4).toArray⟩) w := by
    have h := conv_str (c := c) (l := b.take 4) (A := A) (w := w) (by rw [Bs_take]; exact cells_take hA 4)
    rw [show (b.take 4).length = 4 by rw [List.length_take]; omega] at h
    exact h
  have hne0 : (b.take 4 == [84, 66, 48, 49]) = false := beq_eq_false_iff_ne.2 hm
  have hne1 : ((⟨(b.take 4).toArray⟩ : ByteArray).toList == (⟨#[84, 66, 48, 49]⟩ : ByteArray).toList) = false := by rw [str_toList, magic_toList]; exact hne0
  generalize b.take 4 = q at *
  clear hp hA hm
  go_enter Tryd.func16, Tryd.ntmps16
  go_wp2
  go_quiet (fail)
  go_wp2
  go_ret3
  exact gaveD_err p 3 rfl (below_drewN _ _ _)

set_option maxRecDepth 100000 in
set_option maxHeartbeats 3200000 in
theorem bDecode_main (A : Option Addr) (c : Nat) (b : List UInt8) (p : Nat → Addr) (w : World) (hT : Tab w) (hp : E5 w p) (hl : b.length = 512) (hc : 512 ≤ c) (hc2 : c ≤ 9223372036854775807) (hA : Cells w A (Bs b)) (hm : b.take 4 = magicB) :
    Calls Tryd.prog 16 #[.slice A 512 c] w fun e w' => GaveD p w w' e (decB b) := by
  have HD : Hid (decB b = decT b) := decB_T hl hm
  have hk2 : (4 : Int) ≤ (c : Int) := by omega
  have hk18 : (18 : Int) ≤ (c : Int) := by omega
  have hcut1 : ∀ W : World, (Instr.slice 28 (.slice A 512 c) none (some (.int .i64 4)) none).run Tryd.prog W = .ok (.slice A 4 c) W := run_cut_h (P := Tryd.prog) 28 5 Tryd.underlying28 size8' A 512 c 4 (by omega)
  have hcut2 : ∀ W : World, (Instr.slice 28 (.slice A 512 c) (some (.int .i64 4)) (some (.int .i64 18)) none).run Tryd.prog W = .ok (.slice (cutA A c 4) 14 (c - 4)) W := run_cut_lh (P := Tryd.prog) 28 5 Tryd.underlying28 size8' A 512 c 4 18 (by omega) (by omega)
  have hcut3 : ∀ W : World, (Instr.slice 28 (.slice A 512 c) (some (.int .i64 18)) none none).run Tryd.prog W = .ok (.slice (cutA A c 18) 494 (c - 18)) W := run_cut_l (P := Tryd.prog) 28 5 Tryd.underlying28 size8' A 512 c 18 (by omega)
  have hcv : (convert 28 9 (.slice A 4 c)).run Tryd.prog w = .ok (.string ⟨#[84, 66, 48, 49]⟩) w := by
    have h := conv_str (c := c) (l := b.take 4) (A := A) (w := w) (by rw [Bs_take]; exact cells_take hA 4)
    rw [show (b.take 4).length = 4 by rw [List.length_take]; omega, hm] at h
    exact h
  have HNR : Hid (Calls Tryd.prog 31 #[.slice (cutA A c 4) 14 (c - 4)] w (fun e w' => ∃ g, e = .returned (.pointer (some ⟨g, 0, none⟩)) ∧ Rd w' w.heap.size g ((b.take 18).drop 4) .nilIface ∧ Below w.heap.size w w')) := by
    have h := newReader_calls (cutA A c 4) (c - 4) ((b.take 18).drop 4) w (by rw [List.length_drop, List.length_take]; omega) (by rw [Bs_drop, Bs_take]; exact cells_drop (cells_take hA 18) c 4 (by rw [List.length_take, Bs_length]; omega))
    rw [show ((b.take 18).drop 4).length = 14 by rw [List.length_drop, List.length_take]; omega] at h
    exact h
  have HA := Go.Lib.hid hA
  have HP := Go.Lib.hid hp
  have HTT := Go.Lib.hid hT
  have HL := Go.Lib.hid hl
  clear hp hA hT hm hl
  go_enter Tryd.func16, Tryd.ntmps16
  go_wp2_with fail
  refine HNR.out.mono ?_
  rintro e w1 ⟨g, rfl, hr1, hb1⟩
  have hg1 := rd_lt hr1
  have hgB := hg1.1
  have HR1 : Hid (Rd w1 w.heap.size g ((b.take 18).drop 4) (fv (p 2) (p 3) 0)) := hr1
  have HB1 := Go.Lib.hid hb1
  clear hr1 hb1 hg1 HNR hcv hcut1 hcut2
  have HC1 : Hid (Calls Tryd.prog 32 #[.pointer (some ⟨g, 0, none⟩)] w1 (fun e w' => Rdr w1 w' w.heap.size g (p 2) (p 3) e (.int .u64 (n64 (firstB b))) ((b.take 18).drop 12) 0)) := by
    have h := u64_calls w1 w.heap.size g (p 2) (p 3) _ 0 (e5_two (e5_below HP.out HB1.out)) HR1.out
    rw [cut_fix b 4 8 HL.out (by decide)] at h
    exact h
  go_wp2_with fail
  refine HC1.out.mono ?_
  rintro e w2 ⟨rfl, h1, h2⟩
  have HR2 := Go.Lib.hid h1
  have HB2 := Go.Lib.hid (HB1.out.trans (h2.below (B := w.heap.size) hgB))
  clear h1 h2 HC1 HR1 HB1
  have HC2 : Hid (Calls Tryd.prog 33 #[.pointer (some ⟨g, 0, none⟩)] w2 (fun e w' => Rdr w2 w' w.heap.size g (p 2) (p 3) e (.int .u16 (n16 (leV ((b.drop 12).take 2)).toUInt16)) ((b.take 18).drop 14) 0)) := by
    have h := u16_calls w2 w.heap.size g (p 2) (p 3) _ 0 (e5_two (e5_below HP.out HB2.out)) HR2.out
    rw [cut_fix b 12 2 HL.out (by decide)] at h
    exact h
  have hcnt := count_int b HL.out
  have hcl := count_lt b HL.out
  change countB b < 65536 at hcl
  generalize (leV ((b.drop 12).take 2)).toUInt16 = cw at *
  go_wp2_with fail
  refine HC2.out.mono ?_
  rintro e w3 ⟨rfl, h1, h2⟩
  have HR3 := Go.Lib.hid h1
  have HB3 := Go.Lib.hid (HB2.out.trans (h2.below (B := w.heap.size) hgB))
  clear h1 h2 HC2 HR2 HB2
  have HC3 : Hid (Calls Tryd.prog 34 #[.pointer (some ⟨g, 0, none⟩)] w3 (fun e w' => Rdr w3 w' w.heap.size g (p 2) (p 3) e (.int .u32 (n32 (toldB b))) ((b.take 18).drop 18) 0)) := by
    have h := u32_calls w3 w.heap.size g (p 2) (p 3) _ 0 (e5_two (e5_below HP.out HB3.out)) HR3.out
    rw [cut_fix b 14 4 HL.out (by decide)] at h
    exact h
  go_wp2_with fail
  refine HC3.out.mono ?_
  rintro e w4 ⟨rfl, _, h2⟩
  have HB4 := Go.Lib.hid (HB3.out.trans (h2.below (B := w.heap.size) hgB))
  clear h2 HC3 HR3 HB3
  go_wp2_with fail
  refine (bsum_calls A c b w4 (fun x => below_cell HB4.out (HTT.out x)) HL.out hc hc2 (cells_below HB4.out HA.out)).mono ?_
  rintro e w5 ⟨rfl, hb5⟩
  have HB5 := Go.Lib.hid (HB4.out.trans (hb5.mono HB4.out.size))
  clear hb5 HB4
  unfold decT at HD
  have e5 := e5_sum (e5_below HP.out HB5.out)
  have e3 := e5_form (e5_below HP.out HB5.out)
  generalize toldB b = tb at *
  generalize sumB (b.take 14) (b.drop 18) = sb at *
  by_cases hts : tb = sb
  case neg =>
    have d1 : (tb != sb) = true := bne_iff_ne.2 hts
    have d2 : (tb == sb) = false := beq_eq_false_iff_ne.2 hts
    have hd := HD.out
    rw [if_pos hts] at hd
    have HD2 := Go.Lib.hid hd
    clear hd HD hts
    go_wp2
    go_quiet (fail)
    go_wp2
    go_ret3
    rw [HD2.out]
    exact gaveD_err p 5 rfl (HB5.out.trans ((below_drewN _ _ _)))
  subst hts
  have hd := HD.out
  rw [if_neg (by simp)] at hd
  have HD2 := Go.Lib.hid hd
  clear hd HD
  generalize countB b = n at *
  generalize firstB b = fb at *
  by_cases hn0 : n = 0
  · subst hn0
    have hd := HD2.out
    rw [if_pos (.inl rfl)] at hd
    have HD3 := Go.Lib.hid hd
    clear hd HD2
    go_wp2
    go_quiet (fail)
    go_wp2
    go_ret3
    rw [HD3.out]
    exact gaveD_err p 3 rfl (HB5.out.trans (below_drewN _ _ _))
  have d0 : ((n : Int) == 0) = false := by rw [beq_eq_false_iff_ne]; omega
  have HNU := Go.Lib.hid (numbers_calls fb n w5 (by omega) (by omega))
  cases hN : numOK fb n
  · rw [hN] at HNU
    have hd := HD2.out
    rw [if_pos (.inr hN)] at hd
    have HD3 := Go.Lib.hid hd
    clear hd HD2 hN
    go_wp2_with fail
    refine HNU.out.mono ?_
    rintro e w6 ⟨rfl, rfl⟩
    go_wp2
    go_quiet (fail)
    go_wp2
    go_ret3
    rw [HD3.out]
    exact gaveD_err p 3 rfl (HB5.out.trans (below_drewN _ _ _))
  rw [hN] at HNU
  have hd := HD2.out
  rw [if_neg (by rw [hN]; simp; exact hn0)] at hd
  have HD3 := Go.Lib.hid hd
  clear hd HD2 hN
  go_wp2_with fail
  refine HNU.out.mono ?_
  rintro e w6 ⟨rfl, rfl⟩
  have HNR2 : Hid (Calls Tryd.prog 31 #[.slice (cutA A c 18) 494 (c - 18)] w6 (fun e w' => ∃ g, e = .returned (.pointer (some ⟨g, 0, none⟩)) ∧ Rd w' w6.heap.size g (b.drop 18) .nilIface ∧ Below w6.heap.size w6 w')) := by
    have h := newReader_calls (cutA A c 18) (c - 18) (b.drop 18) w6 (by rw [List.length_drop, HL.out]; omega) (by rw [Bs_drop]; exact cells_drop (cells_below HB5.out HA.out) c 18 (by rw [Bs_length, HL.out]; omega))
    rw [show (b.drop 18).length = 494 by rw [List.length_drop, HL.out]] at h
    exact h
  go_wp2_with fail
  refine HNR2.out.mono ?_
  rintro e w7 ⟨g2, rfl, hr7, hb7⟩
  have hg7 := rd_lt hr7
  have hgB2 : w.heap.size ≤ g2 := Nat.le_trans HB5.out.size hg7.1
  have HR7 : Hid (Rd w7 w6.heap.size g2 (b.drop 18) (fv (p 2) (p 3) 0)) := hr7
  have HB7 := Go.Lib.hid (HB5.out.trans (hb7.mono HB5.out.size))
  have hz6 : w.heap.size ≤ w6.heap.size := HB5.out.size
  clear hr7 hb7 hg7 HNR2 HNU e3 e5
  go_wp2
  go_loopw [9, 56] (fun v i wr => ∃ (k : Nat) (acc : List (List UInt8)) (rest : List UInt8) (vs : List Value), k ≤ n ∧ i = .int .i64 (k : Int) ∧ Hid (TKr n k (b.drop 18) rest acc) ∧ Hid (acc.length = k) ∧ Hid (∃ X, b = X ++ rest) ∧ Hid (Rd wr w6.heap.size g2 rest (fv (p 2) (p 3) 0)) ∧ Hid (Own wr w.heap.size 28 v vs) ∧ Hid (AllT wr vs acc) ∧ Hid (Below w.heap.size w wr)) (fun _ i _ => n - (intOf i).toNat)
  case atStart => exact ⟨0, [], b.drop 18, [], Nat.zero_le _, rfl, tk_zero _ _, rfl, ⟨b.take 18, (List.take_append_drop 18 b).symm⟩, HR7, World.ownsRow_nil _ _ _ 1, allT_nil _, HB7⟩
  case round =>
    obtain ⟨k, acc, rest, vs, hk, rfl, HTK, HAL, HX, HR, HO, HAT, HB⟩ := hrel
    clear HR7 HB7
    by_cases hlt : k < n
    · have hgl := rd_lt HR.out
      have e3 := e5_form (e5_below HP.out HB.out)
      have HTX : Hid (Calls Tryd.prog 35 #[.pointer (some ⟨g2, 0, none⟩)] wr (fun e w' => Rdr wr w' w6.heap.size g2 (p 2) (p 3) e (.string ⟨(textS rest 0).1.toArray⟩) (textS rest 0).2.1 (textS rest 0).2.2)) :=
        textR_calls wr w6.heap.size g2 (p 2) (p 3) rest 0 (by
          have h2 := World.block_lt_of_cell? w _ (e5_short HP.out)
          have h3 := World.block_lt_of_cell? w _ (e5_form HP.out)
          simp only at h2 h3
          exact ⟨by omega, by omega⟩) (e5_two (e5_below HP.out HB.out)) HR.out
      have HST : Hid ((textS rest 0).2.2 = 0 → (textS rest 0).1.length ≤ 200 → TKr n (k + 1) (b.drop 18) (textS rest 0).2.1 (acc ++ [(textS rest 0).1])) := fun h1 h2 => tk_step HTK.out hlt h1 h2
      have HBD : Hid ((textS rest 0).2.2 ≠ 0 ∨ 200 < (textS rest 0).1.length → takeRecs n (b.drop 18) = none) := fun h => tk_bad HTK.out hlt h
      have HXX : Hid ((textS rest 0).2.2 = 0 → ∃ X, b = X ++ (textS rest 0).2.1) := fun h => by
        obtain ⟨X, hX⟩ := HX.out
        obtain ⟨_, _, h3⟩ := textS_inv rest 0 h
        refine ⟨X ++ (leS (UInt64.ofNat (textS rest 0).1.length) 2 ++ (textS rest 0).1), ?_⟩
        rw [hX]
        conv => lhs; rw [h3]
        simp
      go_wp2_with fail
      refine HTX.out.mono ?_
      clear HTX HTK HX
      generalize textS rest 0 = tt at *
      obtain ⟨s, r', f'⟩ := tt
      rintro e w8 ⟨rfl, h1, h2⟩
      simp only at h1 h2 HST HBD HXX ⊢
      have HR8 := Go.Lib.hid h1
      have HB8 := Go.Lib.hid (HB.out.trans (h2.below (B := w.heap.size) hgB2))
      obtain ⟨csg, hcsg⟩ := rd_heap HR.out
      have HO8 := Go.Lib.hid (own_only HO.out hcsg (by decide) h2)
      have HAT8 := Go.Lib.hid (allT_keep HAT.out (keepB_only hcsg (by decide) h2))
      have e38 := e5_form (e5_below HP.out HB8.out)
      clear h1 h2 hcsg HR HO HAT HB e3
      go_wp2_with fail
      refine (err_calls w8 w6.heap.size g2 _ _ HR8.out).mono ?_
      rintro e w9 ⟨rfl, rfl⟩
      cases f' with
      | succ m =>
        have hv : ∃ a, fv (p 2) (p 3) (m + 1) = .iface 112 (.pointer (some a)) := by cases m <;> exact ⟨_, rfl⟩
        obtain ⟨a, ha⟩ := hv
        rw [ha]
        have hd := HD3.out
        rw [HBD.out (.inl (by simp))] at hd
        have HD4 := Go.Lib.hid hd
        clear hd HD3 ha
        go_wp2
        go_quiet (fail)
        go_wp2
        go_ret3
        rw [HD4.out]
        exact gaveD_err p 3 rfl (HB8.out.trans (below_drewN _ _ _))
      | zero =>
        simp only [fv]
        by_cases h200 : 200 < s.length
        · have hd := HD3.out
          rw [HBD.out (.inr h200)] at hd
          have HD4 := Go.Lib.hid hd
          have d1 : decide ((200 : Int) < (s.length : Int)) = true := decide_eq_true (by omega)
          have d2 : decide (200 < s.length) = true := decide_eq_true h200
          clear hd HD3
          go_wp2
          go_quiet (fail)
          go_wp2
          go_ret3
          rw [HD4.out]
          exact gaveD_err p 3 rfl (HB8.out.trans (below_drewN _ _ _))
        · have d1 : decide ((200 : Int) < (s.length : Int)) = false := decide_eq_false (by omega)
          have d2 : decide (200 < s.length) = false := decide_eq_false h200
          obtain ⟨w10, A10, c10, hcv10, HS10, HB10⟩ := bytes_ex w9 s (by omega)
          have HO10 := Go.Lib.hid (own_drewless HO8.out HB10.out)
          have HAT10 := Go.Lib.hid (allT_keep HAT8.out (keepB_below HB10.out))
          have HR10 := Go.Lib.hid (rd_below HR8.out HB10.out)
          have HBB10 := Go.Lib.hid (HB8.out.trans (HB10.out.mono HB8.out.size))
          have hsz10 := HBB10.out.size
          have HTK2 := Go.Lib.hid (HST.out rfl (by omega))
          have HX2 := Go.Lib.hid (HXX.out rfl)
          have hvl : vs.length = k := by rw [HAT8.out.1, HAL.out]
          have hroom : ((vs.length + 1) + (vs.length + 1) / 4 + 192) * 24 ≤ 281474976710656 := by rw [hvl]; omega
          have hmax : vs.length + 1 ≤ 9223372036854775807 := by rw [hvl]; omega
          clear HST HBD HXX HO8 HAT8 HR8 HB8 HB10 e38 hvl
          go_wp2_with (first
            | (at_builtin; (with_reducible refine wpList_append_val (W := w10) (u := .slice A10 s.length c10) (base := w.heap.size) (vs := vs) (s := .tmp 69) (x := .tmp 72) (t := 27) (e := 28) (z := .slice none 0 0) (bytes := 24) (hinfo := infoRow) (ht := Tryd.underlying27) (hown := HO10.out) (hbase := hsz10) (hgd := rfl) (ho := ?_) (hz := ?_) (hs := ?_) (hu := ?_) (hx := ?_) (hroom := hroom) (hmax := hmax) (h := ?_)); rfl; rfl; rfl; rfl; rfl; intro v11 w11 hown11 hgr11; have HO11 := Go.Lib.hid hown11; have HBN := Go.Lib.hid (below_grown HBB10.out HO10.out hgr11 (Nat.le_refl _) hsz10); have HAT11 := Go.Lib.hid (allT_keep (allT_snoc HAT10.out HS10.out) (keepB_grown HO10.out (by decide) hgr11)); have HR11 := Go.Lib.hid (rd_grown HR10.out HO10.out (by decide) (by decide) hgr11); clear hown11 hgr11))
          go_roundw
          case rel => exact ⟨k + 1, acc ++ [s], r', vs ++ [.slice A10 s.length c10], by omega, by go_num, HTK2, by rw [Hid, List.length_append, HAL.out]; rfl, HX2, HR11, HO11, HAT11, HBN⟩
          case measure => simp [intOf]; omega
    · have hkn : k = n := by omega
      subst hkn
      obtain ⟨X, hX⟩ := HX.out
      have hXl : X.length + rest.length = 512 := by rw [← HL.out, hX, List.length_append]
      have hQ : b.drop X.length = rest := by rw [hX, List.drop_left]
      have HTE := Go.Lib.hid (tk_end HTK.out)
      have hCb := cells_below HB.out HA.out
      have hcutX : ∀ W : World, (Instr.slice 28 (.slice A 512 c) (some (.int .i64 (X.length : Int))) none none).run Tryd.prog W = .ok (.slice (cutA A c X.length) (512 - X.length) (c - X.length)) W := run_cut_l (P := Tryd.prog) 28 5 Tryd.underlying28 size8' A 512 c X.length (by omega)
      have hcvX : (convert 28 9 (.slice (cutA A c X.length) (512 - X.length) (c - X.length))).run Tryd.prog wr = .ok (.string ⟨rest.toArray⟩) wr := by
        have h := conv_str (c := c - X.length) (l := rest) (A := cutA A c X.length) (w := wr) (by rw [← hQ, Bs_drop]; exact cells_drop hCb c X.length (by rw [Bs_length, HL.out]; omega))
        rw [show rest.length = 512 - X.length by omega] at h
        exact h
      have hkX : (X.length : Int) ≤ (c : Int) := by omega
      have hsub : IntKind.i64.wrap ((512 : Int) - (rest.length : Int)) = (X.length : Int) := by rw [IntKind.wrap_i64]; omega
      have hsub2 : (512 : Int) - (rest.length : Int) = (X.length : Int) := by omega
      have HTR := Go.Lib.hid (trim_calls rest wr (by omega))
      have HLE := Go.Lib.hid (left_calls wr w6.heap.size g2 rest _ HR.out)
      have e3 := e5_form (e5_below HP.out HB.out)
      have hd := HD3.out
      rw [HTE.out] at hd
      have HD4 := Go.Lib.hid hd
      have HSZ := HB.out.size
      clear hX hQ HTE hCb HX HTK HD3 hd HR
      generalize X.length = m at *
      generalize hrl : rest.length = rl at *
      go_wp2_with fail
      refine HLE.out.mono ?_
      rintro e wq ⟨rfl, rfl⟩
      go_wp2_with fail
      refine HTR.out.mono ?_
      rintro e wt ⟨htr, hbt⟩
      have HBT := Go.Lib.hid (HB.out.trans (hbt.mono HSZ))
      have HOT := Go.Lib.hid (own_drewless HO.out hbt)
      have HATT := Go.Lib.hid (allT_keep HAT.out (keepB_below hbt))
      have e4 := below_cell hbt e3
      clear HTR hbt HO HAT
      rcases htr with ⟨hz, rfl⟩ | ⟨hz, x, t, rfl⟩
      · have hd := HD4.out
        simp only [hz, if_true] at hd
        have HD5 := Go.Lib.hid hd
        have hq : (!((⟨#[]⟩ : ByteArray).toList == (⟨#[]⟩ : ByteArray).toList)) = false := by simp
        clear hd HD4 hz
        go_wp2
        go_ret3
        rw [HD5.out]
        exact ⟨_, _, rfl, HOT.out, HATT.out, HBT.out⟩
      · have hd := HD4.out
        simp only [hz] at hd
        have HD5 := Go.Lib.hid hd
        have hq0 : ((⟨((x :: t : List UInt8)).toArray⟩ : ByteArray).toList == (⟨#[]⟩ : ByteArray).toList) = false := by rw [str_toList, show (⟨#[]⟩ : ByteArray).toList = [] from str_toList []]; rfl
        clear hd HD4 hz
        go_wp2
        go_quiet (fail)
        go_wp2
        go_ret3
        rw [HD5.out]
        exact gaveD_err p 3 rfl (HBT.out.trans (below_drewN _ _ _))

theorem bDecode_calls (A : Option Addr) (c : Nat) (b : List UInt8) (p : Nat → Addr) (w : World) (hT : Tab w) (hp : E5 w p) (hc : b.length ≤ c) (hc2 : c ≤ 9223372036854775807) (hA : Cells w A (Bs b)) :
    Calls Tryd.prog 16 #[.slice A b.length c] w fun e w' => GaveD p w w' e (decB b) := by
  by_cases h1 : b.length < 512
  · exact bDecode_short A c b p w hp h1
  by_cases h2 : 512 < b.length
  · exact bDecode_long A c b p w hp h2
  have hl : b.length = 512 := by omega
  rw [hl] at hc ⊢
  by_cases hm : b.take 4 = magicB
  · exact bDecode_main A c b p w hT hp hl hc hc2 hA hm
  · exact bDecode_magic A c b p w hp hl hc hc2 hA hm
end Go.Proofs.YtipjdkdonmoojaaDoor
