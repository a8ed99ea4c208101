/- What the rows of block's laws share. (Printed by gen_blkrow.py.) -/
import Derived.Test.YtipjdkdonmoojaaDoorBlkA
import Derived.Test.YtipjdkdonmoojaaDoorOpen2
import Derived.Test.YtipjdkdonmoojaaDoorCards
import Derived.Test.YtipjdkdonmoojaaDoorTie
import Derived.Deep.DeepHandedRow
import Derived.Deep.DeepWitnessRowRef
import Derived.Stop.LaidErr
import Derived.Lay
import Derived.MakeChecks
import Derived.Lib.LaidTab
namespace Go.Proofs.YtipjdkdonmoojaaDoor
open Go Go.RowKit Go.ChangeShapes Go.WideShapes Go.ChangeAt
set_option linter.unusedVariables false
set_option linter.unusedSimpArgs false

theorem own : ownKnob Tryd.prog.godebug = none := by kernel_rfl
theorem laidOut : laidOutB Tryd.prog = true := by kernel_rfl
theorem cellsU8 : Tryd.prog.cellsOf 5 = 1 := by kernel_rfl
theorem cellsStr : Tryd.prog.cellsOf 9 = 1 := by kernel_rfl
theorem cellsErrS : Tryd.prog.cellsOf 127 = 1 := by kernel_rfl
theorem rowErr (u : TypeId) (h : Tryd.prog.typeName? 3 u = some "*errors.errorString") : u = 112 :=
  typeName_ptr_named (nm := "errors.errorString") (by kernel_rfl) (by kernel_rfl) (by decide) u h
theorem bytesU8 : Tryd.prog.bytesOf 5 = 1 := by kernel_rfl
/-- a sentinel's place, its text, and the block that bears it -/
theorem laid_err {P : Program} {n nm : String} {text : List UInt8} {r : List (String × DataW Unit)} {W : World} {g : Nat} {ti tp te ts : TypeId} {ms : Array (String × TypeId)} {f : Field}
    (h : laidMet P ((n, .iface nm (.ptr (.agg [.lit (.string text)]))) :: r) W)
    (hg : P.globalNamed n = some g) (ht : (P.globals[g]?).map (·.type) = some ti) (hi : P.underlying ti = some (.interface ms)) (hrow : ∀ u, P.typeName? 3 u = some nm → u = tp)
    (hp : P.underlying tp = some (.pointer te)) (he : P.underlying te = some (.struct #[f])) (hft : f.type = ts) (hfo : f.offset = 0) (hs : P.underlying ts = some .string) (hc : P.cellsOf te = 1) (hcs : P.cellsOf ts = 1) :
    ∃ (a : Addr) (s : ByteArray), W.cell? ⟨g, 0, none⟩ = some (.iface tp (.pointer (some a))) ∧ W.cell? a = some (.string s) ∧ s.data.toList = text ∧ ∃ c t, W.heap[a.block]? = some (.cells c t (0, 0)) := by
  obtain ⟨ps, ⟨g0, t0, cs0, f0, p0, q0, hg0, ht0, hv0, hd0, _, e0⟩, _, hrows⟩ := h
  obtain rfl := Option.some.inj (hg.symm.trans hg0)
  obtain rfl := Option.some.inj (ht.symm.trans ht0)
  subst e0
  obtain ⟨l0⟩ := cs0
  have ok0 : ∀ u v, l0 = [.iface u v] → Value.okWide P W .any 0 u v := fun u v e => by
    subst e
    exact (hrows g 0 (by simp [MemPlace.row])).2 u v (by simpa using World.var?_cell hg0 hv0 0)
  obtain ⟨a0, s0, rfl, hc0, hs0, hz0, hp0⟩ := errorString_of_trod hi hrow hp he hft hfo hs hc hcs hd0 ok0
  subst hp0
  obtain ⟨c0, t0, hb0⟩ := (hrows a0.block a0.off (by simp [MemPlace.row])).1
  exact ⟨a0, s0, by simpa using World.var?_cell hg0 hv0 0, hc0, hs0, c0, t0, hb0⟩
theorem gTab : Tryd.prog.globalNamed "turnstile/crc.halves" = some 15 := by kernel_rfl
theorem gTabType : (Tryd.prog.globals[15]?).map (·.type) = some 102 := by kernel_rfl
theorem cellsTab : Tryd.prog.cellsOf 102 = 16 := by kernel_rfl
theorem cellsU32 : Tryd.prog.cellsOf 61 = 1 := by kernel_rfl
theorem cellsBytes : Tryd.prog.cellsOf 28 = 1 := by kernel_rfl
theorem cellsRows : Tryd.prog.cellsOf 27 = 1 := by kernel_rfl
theorem cellsInt : Tryd.prog.cellsOf 3 = 1 := by kernel_rfl
theorem bytesRow : Tryd.prog.bytesOf 28 = 24 := by kernel_rfl
set_option maxRecDepth 100000 in
/-- what the rows' list gives -/
theorem tab_of {W : World} {r : List (String × DataW Unit)} (h : laidMet Tryd.prog (("turnstile/crc.halves", Rows.laid_turnstile_crc_halves) :: r) W) : Tab W := by
  have ht : Lib.TabIs Tryd.prog W "turnstile/crc.halves" .u32 (tab.map n32) := Lib.tabIs_of_head (rest := r) gTab gTabType Tryd.underlying102 Tryd.underlying61 cellsU32 cellsTab h
  intro x
  have hlt : (x &&& 15).toNat < 16 := by
    rw [UInt32.toNat_and]
    exact Nat.lt_of_le_of_lt Nat.and_le_right (by decide)
  have := ht.cell gTab (x &&& 15).toNat hlt
  have e : (n32 (x &&& 15)).toNat = (x &&& 15).toNat := by unfold n32; omega
  rw [e, this]
  unfold nib
  generalize (x &&& 15).toNat = i at *
  have : ∀ j : Fin 16, (tab.map n32).getD j.val 0 = n32 (tab.getD j.val 0) := by decide
  have := this ⟨i, hlt⟩
  simp only [this]
def textOf : DataW Unit → List UInt8
  | .iface _ (.ptr (.agg [.lit (.string t)])) => t
  | _ => []
def errText : Nat → List UInt8
  | 1 => textOf Rows.laid_turnstile_api_ErrArg
  | 2 => textOf Rows.laid_turnstile_api_ErrShort
  | 3 => textOf Rows.laid_turnstile_api_ErrForm
  | 4 => textOf Rows.laid_turnstile_api_ErrLong
  | 5 => textOf Rows.laid_turnstile_api_ErrSum
  | _ => []
theorem errText_apart : ∀ i : Fin 6, ∀ j : Fin 6, 1 ≤ i.val → 1 ≤ j.val → errText i.val = errText j.val → i = j := by decide +kernel
theorem errs_place {g : Nat} {nm : String} {k : Nat} {W : World} {r : List (String × DataW Unit)} {text : List UInt8} (h : laidMet Tryd.prog ((nm, .iface "*errors.errorString" (.ptr (.agg [.lit (.string text)]))) :: r) W) (hg : Tryd.prog.globalNamed nm = some g)
    (ht : (Tryd.prog.globals[g]?).map (·.type) = some 34) (hk : errG k = g) (hx : errText k = text) :
    ∃ a, W.cell? ⟨errG k, 0, none⟩ = some (.iface 112 (.pointer (some a))) ∧ (∃ s, W.cell? a = some (.string s) ∧ s.data.toList = errText k) ∧ ∃ c t, W.heap[a.block]? = some (.cells c t (0, 0)) := by
  obtain ⟨a, s, h1, h2, h3, h4⟩ := laid_err h hg ht Tryd.underlying34 rowErr Tryd.underlying112 Tryd.underlying127 rfl rfl Tryd.underlying9 cellsErrS cellsStr
  exact ⟨a, by rw [hk]; exact h1, ⟨s, h2, by rw [hx]; exact h3⟩, h4⟩
theorem ge1 : Tryd.prog.globalNamed "turnstile/api.ErrArg" = some 0 := by kernel_rfl
theorem gty1 : (Tryd.prog.globals[0]?).map (·.type) = some 34 := by kernel_rfl
theorem ge2 : Tryd.prog.globalNamed "turnstile/api.ErrShort" = some 2 := by kernel_rfl
theorem gty2 : (Tryd.prog.globals[2]?).map (·.type) = some 34 := by kernel_rfl
theorem ge3 : Tryd.prog.globalNamed "turnstile/api.ErrForm" = some 3 := by kernel_rfl
theorem gty3 : (Tryd.prog.globals[3]?).map (·.type) = some 34 := by kernel_rfl
theorem ge4 : Tryd.prog.globalNamed "turnstile/api.ErrLong" = some 1 := by kernel_rfl
theorem gty4 : (Tryd.prog.globals[1]?).map (·.type) = some 34 := by kernel_rfl
theorem ge5 : Tryd.prog.globalNamed "turnstile/api.ErrSum" = some 4 := by kernel_rfl
theorem gty5 : (Tryd.prog.globals[4]?).map (·.type) = some 34 := by kernel_rfl
/-- the five errors, any two of them apart -/
def E5A (w : World) (p : Nat → Addr) : Prop := E5 w p ∧ ∀ i j, 1 ≤ i → i ≤ 5 → 1 ≤ j → j ≤ 5 → i ≠ j → Apart w (p i) (p j)
theorem e5a_of {W : World} {r : List (String × DataW Unit)} (h : laidMetH Tryd.prog (("turnstile/crc.halves", Rows.laid_turnstile_crc_halves) :: ("unicode/utf8.acceptRanges", Rows.laid_unicode_utf8_acceptRanges) :: ("turnstile/api.ErrArg", Rows.laid_turnstile_api_ErrArg) :: ("turnstile/api.ErrShort", Rows.laid_turnstile_api_ErrShort) :: ("turnstile/api.ErrForm", Rows.laid_turnstile_api_ErrForm) :: ("turnstile/api.ErrLong", Rows.laid_turnstile_api_ErrLong) :: ("turnstile/api.ErrSum", Rows.laid_turnstile_api_ErrSum) :: r) W)
    (hr : ((("turnstile/crc.halves", Rows.laid_turnstile_crc_halves) :: ("unicode/utf8.acceptRanges", Rows.laid_unicode_utf8_acceptRanges) :: ("turnstile/api.ErrArg", Rows.laid_turnstile_api_ErrArg) :: ("turnstile/api.ErrShort", Rows.laid_turnstile_api_ErrShort) :: ("turnstile/api.ErrForm", Rows.laid_turnstile_api_ErrForm) :: ("turnstile/api.ErrLong", Rows.laid_turnstile_api_ErrLong) :: ("turnstile/api.ErrSum", Rows.laid_turnstile_api_ErrSum) :: r).all fun x : String × DataW Unit => x.2.handleName?.isNone) = true) : Tab W ∧ ∃ p, E5A W p := by
  rw [Go.MakeChecks.laidMetH_plain _ _ _ hr] at h
  refine ⟨tab_of h, ?_⟩
  replace h := h.tail.tail
  obtain ⟨a1, e1⟩ := errs_place (k := 1) h ge1 gty1 rfl rfl
  obtain ⟨a2, e2⟩ := errs_place (k := 2) h.tail ge2 gty2 rfl rfl
  obtain ⟨a3, e3⟩ := errs_place (k := 3) h.tail.tail ge3 gty3 rfl rfl
  obtain ⟨a4, e4⟩ := errs_place (k := 4) h.tail.tail.tail ge4 gty4 rfl rfl
  obtain ⟨a5, e5⟩ := errs_place (k := 5) h.tail.tail.tail.tail ge5 gty5 rfl rfl
  obtain ⟨f, hf⟩ : ∃ f : Nat → Addr, f = fun k => match k with | 1 => a1 | 2 => a2 | 3 => a3 | 4 => a4 | _ => a5 := ⟨_, rfl⟩
  have hall : ∀ k, 1 ≤ k → k ≤ 5 → W.cell? ⟨errG k, 0, none⟩ = some (.iface 112 (.pointer (some (f k)))) ∧ (∃ s, W.cell? (f k) = some (.string s) ∧ s.data.toList = errText k) ∧ ∃ c t, W.heap[(f k).block]? = some (.cells c t (0, 0)) := by
    intro k h1 h2
    subst hf
    rcases k with _ | _ | _ | _ | _ | _ | k
    · omega
    · exact e1
    · exact e2
    · exact e3
    · exact e4
    · exact e5
    · omega
  refine ⟨f, fun k h1 h2 => ?_, fun i j hi hi' hj hj' hne => ⟨fun he => hne ?_, (hall i hi hi').2.2, (hall j hj hj').2.2⟩⟩
  · rw [(hall k h1 h2).1]
    obtain ⟨m, rfl⟩ : ∃ m, k = m + 1 := ⟨k - 1, by omega⟩
    rfl
  · obtain ⟨s, hs, hst⟩ := (hall i hi hi').2.1
    obtain ⟨s', hs', hst'⟩ := (hall j hj hj').2.1
    rw [he] at hs
    rw [hs] at hs'
    cases hs'
    have := errText_apart ⟨i, by omega⟩ ⟨j, by omega⟩ hi hj (hst.symm.trans hst')
    exact congrArg Fin.val this
noncomputable def blkWorld (os : Os) : World := World.laidAll Tryd.prog os Rows.blockForthRow.laid
end Go.Proofs.YtipjdkdonmoojaaDoor
