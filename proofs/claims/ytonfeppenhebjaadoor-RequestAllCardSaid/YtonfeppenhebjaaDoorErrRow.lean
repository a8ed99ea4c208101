/- What the rows of laws over all errors share. (Printed by gen_errrow.py of this session.) -/
import Derived.Test.YtonfeppenhebjaaDoorPackRow
import Derived.Test.YtonfeppenhebjaaDoorErrs
namespace Go.Proofs.YtonfeppenhebjaaDoor
open Go Go.RowKit Go.ChangeShapes Go.WideShapes Go.ChangeAt
set_option linter.unusedVariables false
set_option linter.unusedSimpArgs false

def textOf : DataW Unit → List UInt8
  | .iface _ (.ptr (.agg [.lit (.string t)])) => t
  | _ => []
def errText : Nat → List UInt8
  | 1 => textOf Rows.laid_turnstile_api_ErrArg
  | 2 => textOf Rows.laid_turnstile_api_ErrShort
  | 3 => textOf Rows.laid_turnstile_api_ErrForm
  | 4 => textOf Rows.laid_turnstile_api_ErrLong
  | 5 => textOf Rows.laid_turnstile_api_ErrSum
  | 6 => textOf Rows.laid_turnstile_api_ErrIo
  | 7 => textOf Rows.laid_turnstile_api_ErrDown
  | 8 => textOf Rows.laid_turnstile_api_ErrGone
  | 9 => textOf Rows.laid_turnstile_api_ErrThere
  | 10 => textOf Rows.laid_turnstile_api_ErrImage
  | 11 => textOf Rows.laid_turnstile_api_ErrGap
  | 12 => textOf Rows.laid_turnstile_api_ErrLog
  | 13 => textOf Rows.laid_turnstile_api_ErrSick
  | 14 => textOf Rows.laid_turnstile_api_ErrConfig
  | 15 => textOf Rows.laid_turnstile_api_ErrNil
  | _ => []
theorem errText_apart : ∀ i : Fin 16, ∀ j : Fin 16, 1 ≤ i.val → 1 ≤ j.val → errText i.val = errText j.val → i = j := by decide +kernel
theorem errs_place {g : Nat} {nm : String} {k : Nat} {W : World} {r : List (String × DataW Unit)} {text : List UInt8} (h : laidMet Tryd.prog ((nm, .iface "*errors.errorString" (.ptr (.agg [.lit (.string text)]))) :: r) W) (hg : Tryd.prog.globalNamed nm = some g)
    (ht : (Tryd.prog.globals[g]?).map (·.type) = some 41) (hk : errG k = g) (hx : errText k = text) :
    ∃ a, W.cell? ⟨errG k, 0, none⟩ = some (.iface 105 (.pointer (some a))) ∧ (∃ s, W.cell? a = some (.string s) ∧ s.data.toList = errText k) ∧ ∃ c t, W.heap[a.block]? = some (.cells c t (0, 0)) := by
  obtain ⟨a, s, h1, h2, h3, h4⟩ := laid_err h hg ht Tryd.underlying41 rowErr Tryd.underlying105 Tryd.underlying121 rfl rfl Tryd.underlying9 cellsErrS cellsStr
  exact ⟨a, by rw [hk]; exact h1, ⟨s, h2, by rw [hx]; exact h3⟩, h4⟩
theorem errs_all {W : World} {f : Nat → Addr} (h : ∀ k, 1 ≤ k → k ≤ 15 → W.cell? ⟨errG k, 0, none⟩ = some (.iface 105 (.pointer (some (f k)))) ∧ (∃ s, W.cell? (f k) = some (.string s) ∧ s.data.toList = errText k) ∧ ∃ c t, W.heap[(f k).block]? = some (.cells c t (0, 0))) : ErrsAt W f := by
  refine ⟨fun k h1 h2 => ⟨?_, (h k h1 h2).2.2⟩, fun i j hi hi' hj hj' hne he => hne ?_⟩
  · rw [(h k h1 h2).1]
    obtain ⟨m, rfl⟩ : ∃ m, k = m + 1 := ⟨k - 1, by omega⟩
    rfl
  · obtain ⟨s, hs, hst⟩ := (h i hi hi').2.1
    obtain ⟨s', hs', hst'⟩ := (h j hj hj').2.1
    rw [he] at hs
    rw [hs] at hs'
    cases hs'
    have := errText_apart ⟨i, by omega⟩ ⟨j, by omega⟩ hi hj (hst.symm.trans hst')
    exact congrArg Fin.val this
theorem ge1 : Tryd.prog.globalNamed "turnstile/api.ErrArg" = some 0 := by kernel_rfl
theorem gty1 : (Tryd.prog.globals[0]?).map (·.type) = some 41 := by kernel_rfl
theorem ge2 : Tryd.prog.globalNamed "turnstile/api.ErrShort" = some 2 := by kernel_rfl
theorem gty2 : (Tryd.prog.globals[2]?).map (·.type) = some 41 := by kernel_rfl
theorem ge3 : Tryd.prog.globalNamed "turnstile/api.ErrForm" = some 3 := by kernel_rfl
theorem gty3 : (Tryd.prog.globals[3]?).map (·.type) = some 41 := by kernel_rfl
theorem ge4 : Tryd.prog.globalNamed "turnstile/api.ErrLong" = some 1 := by kernel_rfl
theorem gty4 : (Tryd.prog.globals[1]?).map (·.type) = some 41 := by kernel_rfl
theorem ge5 : Tryd.prog.globalNamed "turnstile/api.ErrSum" = some 5 := by kernel_rfl
theorem gty5 : (Tryd.prog.globals[5]?).map (·.type) = some 41 := by kernel_rfl
theorem ge6 : Tryd.prog.globalNamed "turnstile/api.ErrIo" = some 6 := by kernel_rfl
theorem gty6 : (Tryd.prog.globals[6]?).map (·.type) = some 41 := by kernel_rfl
theorem ge7 : Tryd.prog.globalNamed "turnstile/api.ErrDown" = some 7 := by kernel_rfl
theorem gty7 : (Tryd.prog.globals[7]?).map (·.type) = some 41 := by kernel_rfl
theorem ge8 : Tryd.prog.globalNamed "turnstile/api.ErrGone" = some 8 := by kernel_rfl
theorem gty8 : (Tryd.prog.globals[8]?).map (·.type) = some 41 := by kernel_rfl
theorem ge9 : Tryd.prog.globalNamed "turnstile/api.ErrThere" = some 9 := by kernel_rfl
theorem gty9 : (Tryd.prog.globals[9]?).map (·.type) = some 41 := by kernel_rfl
theorem ge10 : Tryd.prog.globalNamed "turnstile/api.ErrImage" = some 10 := by kernel_rfl
theorem gty10 : (Tryd.prog.globals[10]?).map (·.type) = some 41 := by kernel_rfl
theorem ge11 : Tryd.prog.globalNamed "turnstile/api.ErrGap" = some 11 := by kernel_rfl
theorem gty11 : (Tryd.prog.globals[11]?).map (·.type) = some 41 := by kernel_rfl
theorem ge12 : Tryd.prog.globalNamed "turnstile/api.ErrLog" = some 12 := by kernel_rfl
theorem gty12 : (Tryd.prog.globals[12]?).map (·.type) = some 41 := by kernel_rfl
theorem ge13 : Tryd.prog.globalNamed "turnstile/api.ErrSick" = some 13 := by kernel_rfl
theorem gty13 : (Tryd.prog.globals[13]?).map (·.type) = some 41 := by kernel_rfl
theorem ge14 : Tryd.prog.globalNamed "turnstile/api.ErrConfig" = some 14 := by kernel_rfl
theorem gty14 : (Tryd.prog.globals[14]?).map (·.type) = some 41 := by kernel_rfl
theorem ge15 : Tryd.prog.globalNamed "turnstile/api.ErrNil" = some 4 := by kernel_rfl
theorem gty15 : (Tryd.prog.globals[4]?).map (·.type) = some 41 := by kernel_rfl
set_option maxRecDepth 100000 in
theorem errsAt_of {W : World} {r : List (String × DataW Unit)} (h : laidMetH Tryd.prog (("turnstile/api.ErrArg", Rows.laid_turnstile_api_ErrArg) :: ("turnstile/api.ErrShort", Rows.laid_turnstile_api_ErrShort) :: ("turnstile/api.ErrForm", Rows.laid_turnstile_api_ErrForm) :: ("turnstile/api.ErrLong", Rows.laid_turnstile_api_ErrLong) :: ("turnstile/api.ErrSum", Rows.laid_turnstile_api_ErrSum) :: ("turnstile/api.ErrIo", Rows.laid_turnstile_api_ErrIo) :: ("turnstile/api.ErrDown", Rows.laid_turnstile_api_ErrDown) :: ("turnstile/api.ErrGone", Rows.laid_turnstile_api_ErrGone) :: ("turnstile/api.ErrThere", Rows.laid_turnstile_api_ErrThere) :: ("turnstile/api.ErrImage", Rows.laid_turnstile_api_ErrImage) :: ("turnstile/api.ErrGap", Rows.laid_turnstile_api_ErrGap) :: ("turnstile/api.ErrLog", Rows.laid_turnstile_api_ErrLog) :: ("turnstile/api.ErrSick", Rows.laid_turnstile_api_ErrSick) :: ("turnstile/api.ErrConfig", Rows.laid_turnstile_api_ErrConfig) :: ("turnstile/api.ErrNil", Rows.laid_turnstile_api_ErrNil) :: r) W)
    (hr : ((("turnstile/api.ErrArg", Rows.laid_turnstile_api_ErrArg) :: ("turnstile/api.ErrShort", Rows.laid_turnstile_api_ErrShort) :: ("turnstile/api.ErrForm", Rows.laid_turnstile_api_ErrForm) :: ("turnstile/api.ErrLong", Rows.laid_turnstile_api_ErrLong) :: ("turnstile/api.ErrSum", Rows.laid_turnstile_api_ErrSum) :: ("turnstile/api.ErrIo", Rows.laid_turnstile_api_ErrIo) :: ("turnstile/api.ErrDown", Rows.laid_turnstile_api_ErrDown) :: ("turnstile/api.ErrGone", Rows.laid_turnstile_api_ErrGone) :: ("turnstile/api.ErrThere", Rows.laid_turnstile_api_ErrThere) :: ("turnstile/api.ErrImage", Rows.laid_turnstile_api_ErrImage) :: ("turnstile/api.ErrGap", Rows.laid_turnstile_api_ErrGap) :: ("turnstile/api.ErrLog", Rows.laid_turnstile_api_ErrLog) :: ("turnstile/api.ErrSick", Rows.laid_turnstile_api_ErrSick) :: ("turnstile/api.ErrConfig", Rows.laid_turnstile_api_ErrConfig) :: ("turnstile/api.ErrNil", Rows.laid_turnstile_api_ErrNil) :: r).all fun x : String × DataW Unit => x.2.handleName?.isNone) = true) : ∃ p, ErrsAt W p := by
  rw [Go.MakeChecks.laidMetH_plain _ _ _ hr] at h
  obtain ⟨a1, e1⟩ := errs_place (k := 1) h ge1 gty1 rfl rfl
  obtain ⟨a2, e2⟩ := errs_place (k := 2) h.tail ge2 gty2 rfl rfl
  obtain ⟨a3, e3⟩ := errs_place (k := 3) h.tail.tail ge3 gty3 rfl rfl
  obtain ⟨a4, e4⟩ := errs_place (k := 4) h.tail.tail.tail ge4 gty4 rfl rfl
  obtain ⟨a5, e5⟩ := errs_place (k := 5) h.tail.tail.tail.tail ge5 gty5 rfl rfl
  obtain ⟨a6, e6⟩ := errs_place (k := 6) h.tail.tail.tail.tail.tail ge6 gty6 rfl rfl
  obtain ⟨a7, e7⟩ := errs_place (k := 7) h.tail.tail.tail.tail.tail.tail ge7 gty7 rfl rfl
  obtain ⟨a8, e8⟩ := errs_place (k := 8) h.tail.tail.tail.tail.tail.tail.tail ge8 gty8 rfl rfl
  obtain ⟨a9, e9⟩ := errs_place (k := 9) h.tail.tail.tail.tail.tail.tail.tail.tail ge9 gty9 rfl rfl
  obtain ⟨a10, e10⟩ := errs_place (k := 10) h.tail.tail.tail.tail.tail.tail.tail.tail.tail ge10 gty10 rfl rfl
  obtain ⟨a11, e11⟩ := errs_place (k := 11) h.tail.tail.tail.tail.tail.tail.tail.tail.tail.tail ge11 gty11 rfl rfl
  obtain ⟨a12, e12⟩ := errs_place (k := 12) h.tail.tail.tail.tail.tail.tail.tail.tail.tail.tail.tail ge12 gty12 rfl rfl
  obtain ⟨a13, e13⟩ := errs_place (k := 13) h.tail.tail.tail.tail.tail.tail.tail.tail.tail.tail.tail.tail ge13 gty13 rfl rfl
  obtain ⟨a14, e14⟩ := errs_place (k := 14) h.tail.tail.tail.tail.tail.tail.tail.tail.tail.tail.tail.tail.tail ge14 gty14 rfl rfl
  obtain ⟨a15, e15⟩ := errs_place (k := 15) h.tail.tail.tail.tail.tail.tail.tail.tail.tail.tail.tail.tail.tail.tail ge15 gty15 rfl rfl
  refine ⟨fun k => match k with | 1 => a1 | 2 => a2 | 3 => a3 | 4 => a4 | 5 => a5 | 6 => a6 | 7 => a7 | 8 => a8 | 9 => a9 | 10 => a10 | 11 => a11 | 12 => a12 | 13 => a13 | 14 => a14 | 15 => a15 | _ => a1, errs_all fun k h1 h2 => ?_⟩
  rcases k with _ | _ | _ | _ | _ | _ | _ | _ | _ | _ | _ | _ | _ | _ | _ | _ | k
  · omega
  · exact e1
  · exact e2
  · exact e3
  · exact e4
  · exact e5
  · exact e6
  · exact e7
  · exact e8
  · exact e9
  · exact e10
  · exact e11
  · exact e12
  · exact e13
  · exact e14
  · exact e15
  · omega
end Go.Proofs.YtonfeppenhebjaaDoor
