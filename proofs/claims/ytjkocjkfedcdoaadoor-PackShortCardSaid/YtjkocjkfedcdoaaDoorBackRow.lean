/- What the rows of PackBack and PackShort take from the variables' list. -/
import Derived.Test.YtjkocjkfedcdoaaDoorPackRow
import Derived.Test.YtjkocjkfedcdoaaDoorPutsRow
import Derived.Test.YtjkocjkfedcdoaaDoorShortL
namespace Go.Proofs.YtjkocjkfedcdoaaDoor
open Go Go.RowKit Go.ChangeShapes Go.WideShapes Go.ChangeAt

theorem errs3_of {W : World} {r : List (String × DataW Unit)} (h : laidMetH Tryd.prog (("turnstile/api.ErrShort", Rows.laid_turnstile_api_ErrShort) :: ("turnstile/api.ErrForm", Rows.laid_turnstile_api_ErrForm) :: ("turnstile/api.ErrLong", Rows.laid_turnstile_api_ErrLong) :: r) W)
    (hr : ((("turnstile/api.ErrShort", Rows.laid_turnstile_api_ErrShort) :: ("turnstile/api.ErrForm", Rows.laid_turnstile_api_ErrForm) :: ("turnstile/api.ErrLong", Rows.laid_turnstile_api_ErrLong) :: r).all fun x : String × DataW Unit => x.2.handleName?.isNone) = true) : ∃ a0 a1 p, Errs W a0 a1 ∧ LongAt W p := by
  rw [Go.MakeChecks.laidMetH_plain _ _ _ hr] at h
  obtain ⟨a0, s0, h0, _⟩ := laid_err h g0 g0t Tryd.underlying54 rowErr Tryd.underlying107 Tryd.underlying122 rfl rfl Tryd.underlying9 cellsErrS cellsStr
  obtain ⟨a1, s1, h1, _⟩ := laid_err h.tail g1 g1t Tryd.underlying54 rowErr Tryd.underlying107 Tryd.underlying122 rfl rfl Tryd.underlying9 cellsErrS cellsStr
  obtain ⟨a2, s2, h2, _⟩ := laid_err h.tail.tail ge4 gty4 Tryd.underlying54 rowErr Tryd.underlying107 Tryd.underlying122 rfl rfl Tryd.underlying9 cellsErrS cellsStr
  exact ⟨a0, a1, fun _ => a2, ⟨h0, h1⟩, h2⟩
noncomputable def backWorld (os : Os) : World := World.laidAll Tryd.prog os Rows.packBackRow.laid
end Go.Proofs.YtjkocjkfedcdoaaDoor
