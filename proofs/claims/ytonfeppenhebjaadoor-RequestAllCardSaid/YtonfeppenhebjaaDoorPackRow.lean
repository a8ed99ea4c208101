/- What the rows of package pack's laws share. -/
import Derived.Test.YtonfeppenhebjaaDoorPackR2
import Derived.Test.YtonfeppenhebjaaDoorPackFormL
import Derived.Test.YtonfeppenhebjaaDoorOpen2
import Derived.Test.YtonfeppenhebjaaDoorCards
import Derived.Test.YtonfeppenhebjaaDoorTie
import Derived.Deep.DeepHandedRow
import Derived.Deep.DeepWitnessRowRef
import Derived.Stop.LaidErr
import Derived.Lay
import Derived.MakeChecks
namespace Go.Proofs.YtonfeppenhebjaaDoor
open Go Go.RowKit Go.ChangeShapes Go.WideShapes Go.ChangeAt
set_option linter.unusedVariables false
set_option linter.unusedSimpArgs false

theorem own : ownKnob Tryd.prog.godebug = none := by kernel_rfl
theorem laidOut : laidOutB Tryd.prog = true := by kernel_rfl
theorem cellsU8 : Tryd.prog.cellsOf 5 = 1 := by kernel_rfl
theorem cellsStr : Tryd.prog.cellsOf 9 = 1 := by kernel_rfl
theorem cellsErrS : Tryd.prog.cellsOf 121 = 1 := by kernel_rfl
theorem g0 : Tryd.prog.globalNamed "turnstile/api.ErrShort" = some 2 := by kernel_rfl
theorem g0t : (Tryd.prog.globals[2]?).map (·.type) = some 41 := by kernel_rfl
theorem g1 : Tryd.prog.globalNamed "turnstile/api.ErrForm" = some 3 := by kernel_rfl
theorem g1t : (Tryd.prog.globals[3]?).map (·.type) = some 41 := by kernel_rfl
theorem rowErr (u : TypeId) (h : Tryd.prog.typeName? 3 u = some "*errors.errorString") : u = 105 :=
  typeName_ptr_named (nm := "errors.errorString") (by kernel_rfl) (by kernel_rfl) (by decide) u h

theorem errs_of {W : World} {r : List (String × DataW Unit)} (h : laidMetH Tryd.prog (("turnstile/api.ErrShort", Rows.laid_turnstile_api_ErrShort) :: ("turnstile/api.ErrForm", Rows.laid_turnstile_api_ErrForm) :: r) W)
    (hr : ((("turnstile/api.ErrShort", Rows.laid_turnstile_api_ErrShort) :: ("turnstile/api.ErrForm", Rows.laid_turnstile_api_ErrForm) :: r).all fun x : String × DataW Unit => x.2.handleName?.isNone) = true) : ∃ a0 a1, Errs W a0 a1 := by
  rw [Go.MakeChecks.laidMetH_plain _ _ _ hr] at h
  obtain ⟨a0, s0, h0, _⟩ := laid_sentinel h g0 g0t Tryd.underlying41 rowErr Tryd.underlying105 Tryd.underlying121 rfl rfl Tryd.underlying9 cellsErrS cellsStr
  obtain ⟨a1, s1, h1, _⟩ := laid_sentinel h.tail g1 g1t Tryd.underlying41 rowErr Tryd.underlying105 Tryd.underlying121 rfl rfl Tryd.underlying9 cellsErrS cellsStr
  exact ⟨a0, a1, by simpa [fv] using World.var?_cell g0 h0 0, by simpa [fv] using World.var?_cell g1 h1 0⟩

theorem bytesU8 : Tryd.prog.bytesOf 5 = 1 := by kernel_rfl
/-- a sentinel's place, its text, and the block that bears it -/
theorem laid_err {P : Program} {n nm : String} {text : List UInt8} {r : List (String × DataW Unit)} {W : World} {g : Nat} {ti tp te ts : TypeId} {ms : Array (String × TypeId)} {f : Field}
    (h : laidMet P ((n, .iface nm (.ptr (.agg [.lit (.string text)]))) :: r) W)
    (hg : P.globalNamed n = some g) (ht : (P.globals[g]?).map (·.type) = some ti) (hi : P.underlying ti = some (.interface ms)) (hrow : ∀ u, P.typeName? 3 u = some nm → u = tp)
    (hp : P.underlying tp = some (.pointer te)) (he : P.underlying te = some (.struct #[f])) (hft : f.type = ts) (hfo : f.offset = 0) (hs : P.underlying ts = some .string) (hc : P.cellsOf te = 1) (hcs : P.cellsOf ts = 1) :
    ∃ (a : Addr) (s : ByteArray), W.cell? ⟨g, 0, none⟩ = some (.iface tp (.pointer (some a))) ∧ W.cell? a = some (.string s) ∧ s.data.toList = text ∧ ∃ c t, W.heap[a.block]? = some (.cells c t (0, 0)) := by
  obtain ⟨ps, ⟨g0, t0, cs0, f0, p0, q0, hg0, ht0, hv0, hd0, _, e0⟩, _, hrows⟩ := h
  obtain rfl := Option.some.inj (hg.symm.trans hg0)
  obtain rfl := Option.some.inj (ht.symm.trans ht0)
  subst e0
  obtain ⟨l0⟩ := cs0
  have ok0 : ∀ u v, l0 = [.iface u v] → Value.okWide P W .any 0 u v := fun u v e => by
    subst e
    exact (hrows g 0 (by simp [MemPlace.row])).2 u v (by simpa using World.var?_cell hg0 hv0 0)
  obtain ⟨a0, s0, rfl, hc0, hs0, hz0, hp0⟩ := errorString_of_trod hi hrow hp he hft hfo hs hc hcs hd0 ok0
  subst hp0
  obtain ⟨c0, t0, hb0⟩ := (hrows a0.block a0.off (by simp [MemPlace.row])).1
  exact ⟨a0, s0, by simpa using World.var?_cell hg0 hv0 0, hc0, hs0, c0, t0, hb0⟩
theorem errs_apart_of {W : World} {r : List (String × DataW Unit)} (h : laidMetH Tryd.prog (("turnstile/api.ErrShort", Rows.laid_turnstile_api_ErrShort) :: ("turnstile/api.ErrForm", Rows.laid_turnstile_api_ErrForm) :: r) W)
    (hr : ((("turnstile/api.ErrShort", Rows.laid_turnstile_api_ErrShort) :: ("turnstile/api.ErrForm", Rows.laid_turnstile_api_ErrForm) :: r).all fun x : String × DataW Unit => x.2.handleName?.isNone) = true) : ∃ a0 a1, Errs W a0 a1 ∧ Apart W a0 a1 := by
  rw [Go.MakeChecks.laidMetH_plain _ _ _ hr] at h
  obtain ⟨a0, s0, h0, k0, t0, m0⟩ := laid_err h g0 g0t Tryd.underlying41 rowErr Tryd.underlying105 Tryd.underlying121 rfl rfl Tryd.underlying9 cellsErrS cellsStr
  obtain ⟨a1, s1, h1, k1, t1, m1⟩ := laid_err h.tail g1 g1t Tryd.underlying41 rowErr Tryd.underlying105 Tryd.underlying121 rfl rfl Tryd.underlying9 cellsErrS cellsStr
  refine ⟨a0, a1, ⟨h0, h1⟩, ?_, m0, m1⟩
  rintro rfl
  rw [k0] at k1
  cases k1
  rw [t0] at t1
  revert t1
  decide
end Go.Proofs.YtonfeppenhebjaaDoor
