/- How requests and answers read; the four errors, of the variables' list. -/
import Derived.Test.YtonfeppenhebjaaDoorErrRow
import Derived.Test.YtonfeppenhebjaaDoorReqBackL
namespace Go.Proofs.YtonfeppenhebjaaDoor
open Go Go.RowKit Go.ChangeShapes Go.WideShapes Go.ChangeAt
set_option linter.unusedVariables false
set_option linter.unusedSimpArgs false

theorem cellsInt : Tryd.prog.cellsOf 3 = 1 := by kernel_rfl
theorem cellsU64 : Tryd.prog.cellsOf 26 = 1 := by kernel_rfl
theorem cellsReq : Tryd.prog.cellsOf 30 = 8 := by kernel_rfl
theorem cellsPol : Tryd.prog.cellsOf 28 = 5 := by kernel_rfl

set_option maxRecDepth 100000 in
theorem p_pol {H : Type} {enc : TypeId × Value → H} {w : World} {spare : Nat → Bool} {held : Bool} {fuel : Nat} {cs : List Value} {x : DataW H × List MemPlace}
    (h : DataW.trod enc Tryd.prog w 0 spare held fuel 28 cs = some x) : ∃ p : Pol, cs = polC p := by
  obtain ⟨xs, n, _, hx, hl, hxl, hf⟩ := DataW.trod_struct Tryd.underlying28 h
  rw [cellsPol] at hl
  match cs, hl with
  | [v0, v1, v2, v3, v4], _ =>
    match xs, hxl with
    | [y0, y1, y2, y3, y4], _ =>
      have f0 : DataW.trod enc Tryd.prog w 0 spare held n 3 [v0] = some y0 := trod_field hf 0 _ rfl 3 0 rfl rfl 1 cellsInt
      have f1 : DataW.trod enc Tryd.prog w 0 spare held n 26 [v1] = some y1 := trod_field hf 1 _ rfl 26 1 rfl rfl 1 cellsU64
      have f2 : DataW.trod enc Tryd.prog w 0 spare held n 26 [v2] = some y2 := trod_field hf 2 _ rfl 26 2 rfl rfl 1 cellsU64
      have f3 : DataW.trod enc Tryd.prog w 0 spare held n 26 [v3] = some y3 := trod_field hf 3 _ rfl 26 3 rfl rfl 1 cellsU64
      have f4 : DataW.trod enc Tryd.prog w 0 spare held n 26 [v4] = some y4 := trod_field hf 4 _ rfl 26 4 rfl rfl 1 cellsU64
      obtain ⟨kind, e0, hk⟩ := p_i64 Tryd.underlying3 f0
      obtain ⟨u1, e1⟩ := p_u64 Tryd.underlying26 f1
      obtain ⟨u2, e2⟩ := p_u64 Tryd.underlying26 f2
      obtain ⟨u3, e3⟩ := p_u64 Tryd.underlying26 f3
      obtain ⟨u4, e4⟩ := p_u64 Tryd.underlying26 f4
      simp only [List.cons.injEq, and_true] at e0 e1 e2 e3 e4
      subst e0 e1 e2 e3 e4
      exact ⟨⟨kind, u1, u2, u3, u4⟩, rfl⟩
set_option maxRecDepth 100000 in
theorem p_req {H : Type} {enc : TypeId × Value → H} {w : World} {spare : Nat → Bool} {held : Bool} {fuel : Nat} {cs : List Value} {x : DataW H × List MemPlace}
    (h : DataW.trod enc Tryd.prog w 0 spare held fuel 30 cs = some x) : ∃ r : Req, cs = (reqA r).toList := by
  obtain ⟨xs, n, _, hx, hl, hxl, hf⟩ := DataW.trod_struct Tryd.underlying30 h
  rw [cellsReq] at hl
  match cs, hl with
  | [v0, v1, v2, v3, v4, v5, v6, v7], _ =>
    match xs, hxl with
    | [y0, y1, y2, y3], _ =>
      have f0 : DataW.trod enc Tryd.prog w 0 spare held n 3 [v0] = some y0 := trod_field hf 0 _ rfl 3 0 rfl rfl 1 cellsInt
      have f1 : DataW.trod enc Tryd.prog w 0 spare held n 9 [v1] = some y1 := trod_field hf 1 _ rfl 9 1 rfl rfl 1 cellsStr
      have f2 : DataW.trod enc Tryd.prog w 0 spare held n 28 [v2, v3, v4, v5, v6] = some y2 := trod_field hf 2 _ rfl 28 2 rfl rfl 5 cellsPol
      have f3 : DataW.trod enc Tryd.prog w 0 spare held n 26 [v7] = some y3 := trod_field hf 3 _ rfl 26 7 rfl rfl 1 cellsU64
      obtain ⟨op, e0, hk⟩ := p_i64 Tryd.underlying3 f0
      obtain ⟨s, e1, _⟩ := p_string Tryd.underlying9 f1
      obtain ⟨p, e2⟩ := p_pol f2
      obtain ⟨u, e3⟩ := p_u64 Tryd.underlying26 f3
      simp only [List.cons.injEq, and_true, polC] at e0 e1 e2 e3
      obtain ⟨rfl, rfl, rfl, rfl, rfl⟩ := e2
      subst e0 e1 e3
      exact ⟨⟨op, s.data.toList, p, u⟩, rfl⟩
set_option maxRecDepth 100000 in
/-- a request that is handed in -/
theorem open_req {H : Type} {enc : TypeId × Value → H} {w : World} {spare : Nat → Bool} {held : Bool} {base : Nat} {v : Value} {fuel : Nat} {x : DataW H × List MemPlace} (ho : Value.okWide Tryd.prog w .any base 30 v)
    (h : DataW.trod enc Tryd.prog w 0 spare held fuel 30 v.cells.toList = some x) : ∃ r : Req, v = .agg (reqA r) := by
  obtain ⟨cs, rfl, _⟩ := okWide_struct Tryd.underlying30 ho
  obtain ⟨r, e⟩ := p_req h
  exact ⟨r, congrArg Value.agg (Array.toList_inj.1 e)⟩

theorem e4a_of {W : World} {r : List (String × DataW Unit)} (h : laidMetH Tryd.prog (("turnstile/api.ErrArg", Rows.laid_turnstile_api_ErrArg) :: ("turnstile/api.ErrShort", Rows.laid_turnstile_api_ErrShort) :: ("turnstile/api.ErrForm", Rows.laid_turnstile_api_ErrForm) :: ("turnstile/api.ErrLong", Rows.laid_turnstile_api_ErrLong) :: r) W)
    (hr : ((("turnstile/api.ErrArg", Rows.laid_turnstile_api_ErrArg) :: ("turnstile/api.ErrShort", Rows.laid_turnstile_api_ErrShort) :: ("turnstile/api.ErrForm", Rows.laid_turnstile_api_ErrForm) :: ("turnstile/api.ErrLong", Rows.laid_turnstile_api_ErrLong) :: r).all fun x : String × DataW Unit => x.2.handleName?.isNone) = true) : ∃ p, E4A W p := by
  rw [Go.MakeChecks.laidMetH_plain _ _ _ hr] at h
  obtain ⟨a1, e1⟩ := errs_place (k := 1) h ge1 gty1 rfl rfl
  obtain ⟨a2, e2⟩ := errs_place (k := 2) h.tail ge2 gty2 rfl rfl
  obtain ⟨a3, e3⟩ := errs_place (k := 3) h.tail.tail ge3 gty3 rfl rfl
  obtain ⟨a4, e4⟩ := errs_place (k := 4) h.tail.tail.tail ge4 gty4 rfl rfl
  obtain ⟨f, hf⟩ : ∃ f : Nat → Addr, f = fun k => match k with | 1 => a1 | 2 => a2 | 3 => a3 | 4 => a4 | _ => a1 := ⟨_, rfl⟩
  have hall : ∀ k, 1 ≤ k → k ≤ 4 → W.cell? ⟨errG k, 0, none⟩ = some (.iface 105 (.pointer (some (f k)))) ∧ (∃ s, W.cell? (f k) = some (.string s) ∧ s.data.toList = errText k) ∧ ∃ c t, W.heap[(f k).block]? = some (.cells c t (0, 0)) := by
    intro k h1 h2
    subst hf
    rcases k with _ | _ | _ | _ | _ | k
    · omega
    · exact e1
    · exact e2
    · exact e3
    · exact e4
    · omega
  refine ⟨f, fun k h1 h2 => ?_, fun i j hi hi' hj hj' hne => ⟨fun he => hne ?_, (hall i hi hi').2.2, (hall j hj hj').2.2⟩⟩
  · rw [(hall k h1 h2).1]
    obtain ⟨m, rfl⟩ : ∃ m, k = m + 1 := ⟨k - 1, by omega⟩
    rfl
  · obtain ⟨s, hs, hst⟩ := (hall i hi hi').2.1
    obtain ⟨s', hs', hst'⟩ := (hall j hj hj').2.1
    rw [he] at hs
    rw [hs] at hs'
    cases hs'
    have := errText_apart ⟨i, by omega⟩ ⟨j, by omega⟩ hi hj (hst.symm.trans hst')
    exact congrArg Fin.val this
noncomputable def reqWorld (os : Os) : World := World.laidAll Tryd.prog os Rows.requestBackRow.laid
end Go.Proofs.YtonfeppenhebjaaDoor
