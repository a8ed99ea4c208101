/- What the rows of package pack's laws share. -/
import Derived.Test.YtjkocjkfedcdoaaDoorPackR2
import Derived.Test.YtjkocjkfedcdoaaDoorOpen2
import Derived.Test.YtjkocjkfedcdoaaDoorCards
import Derived.Test.YtjkocjkfedcdoaaDoorTie
import Derived.Deep.DeepHandedRow
import Derived.Deep.DeepWitnessRowRef
import Derived.Stop.LaidErr
import Derived.Lay
import Derived.MakeChecks
namespace Go.Proofs.YtjkocjkfedcdoaaDoor
open Go Go.RowKit Go.ChangeShapes Go.WideShapes Go.ChangeAt

theorem own : ownKnob Tryd.prog.godebug = none := by kernel_rfl
theorem laidOut : laidOutB Tryd.prog = true := by kernel_rfl
theorem cellsU8 : Tryd.prog.cellsOf 5 = 1 := by kernel_rfl
theorem cellsStr : Tryd.prog.cellsOf 9 = 1 := by kernel_rfl
theorem cellsErrS : Tryd.prog.cellsOf 122 = 1 := by kernel_rfl
theorem g0 : Tryd.prog.globalNamed "turnstile/api.ErrShort" = some 0 := by kernel_rfl
theorem g0t : (Tryd.prog.globals[0]?).map (·.type) = some 54 := by kernel_rfl
theorem g1 : Tryd.prog.globalNamed "turnstile/api.ErrForm" = some 1 := by kernel_rfl
theorem g1t : (Tryd.prog.globals[1]?).map (·.type) = some 54 := by kernel_rfl
theorem rowErr (u : TypeId) (h : Tryd.prog.typeName? 3 u = some "*errors.errorString") : u = 107 :=
  typeName_ptr_named (nm := "errors.errorString") (by kernel_rfl) (by kernel_rfl) (by decide) u h

theorem errs_of {W : World} {r : List (String × DataW Unit)} (h : laidMetH Tryd.prog (("turnstile/api.ErrShort", Rows.laid_turnstile_api_ErrShort) :: ("turnstile/api.ErrForm", Rows.laid_turnstile_api_ErrForm) :: r) W)
    (hr : ((("turnstile/api.ErrShort", Rows.laid_turnstile_api_ErrShort) :: ("turnstile/api.ErrForm", Rows.laid_turnstile_api_ErrForm) :: r).all fun x : String × DataW Unit => x.2.handleName?.isNone) = true) : ∃ a0 a1, Errs W a0 a1 := by
  rw [Go.MakeChecks.laidMetH_plain _ _ _ hr] at h
  obtain ⟨a0, s0, h0, _⟩ := laid_sentinel h g0 g0t Tryd.underlying54 rowErr Tryd.underlying107 Tryd.underlying122 rfl rfl Tryd.underlying9 cellsErrS cellsStr
  obtain ⟨a1, s1, h1, _⟩ := laid_sentinel h.tail g1 g1t Tryd.underlying54 rowErr Tryd.underlying107 Tryd.underlying122 rfl rfl Tryd.underlying9 cellsErrS cellsStr
  exact ⟨a0, a1, by simpa [fv] using World.var?_cell g0 h0 0, by simpa [fv] using World.var?_cell g1 h1 0⟩

noncomputable def packWorld (os : Os) : World := World.laidAll Tryd.prog os Rows.packBytesRow.laid
end Go.Proofs.YtjkocjkfedcdoaaDoor
