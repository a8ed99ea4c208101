/- How answers read. -/
import Derived.Test.YtonfeppenhebjaaDoorReqRow
import Derived.Test.YtonfeppenhebjaaDoorReqReplyL
namespace Go.Proofs.YtonfeppenhebjaaDoor
open Go Go.RowKit Go.ChangeShapes Go.WideShapes Go.ChangeAt
set_option linter.unusedVariables false
set_option linter.unusedSimpArgs false

theorem cellsAns : Tryd.prog.cellsOf 36 = 12 := by kernel_rfl
theorem cellsRep : Tryd.prog.cellsOf 34 = 11 := by kernel_rfl
theorem cellsLev : Tryd.prog.cellsOf 32 = 3 := by kernel_rfl
set_option maxRecDepth 100000 in
theorem p_lev {H : Type} {enc : TypeId × Value → H} {w : World} {spare : Nat → Bool} {held : Bool} {fuel : Nat} {cs : List Value} {x : DataW H × List MemPlace}
    (h : DataW.trod enc Tryd.prog w 0 spare held fuel 32 cs = some x) : ∃ l : Lev, cs = (levA l).toList := by
  obtain ⟨xs, n, _, hx, hl, hxl, hf⟩ := DataW.trod_struct Tryd.underlying32 h
  rw [cellsLev] at hl
  match cs, hl with
  | [v0, v1, v2], _ =>
    match xs, hxl with
    | [y0, y1, y2], _ =>
      have f0 : DataW.trod enc Tryd.prog w 0 spare held n 26 [v0] = some y0 := trod_field hf 0 _ rfl 26 0 rfl rfl 1 cellsU64
      have f1 : DataW.trod enc Tryd.prog w 0 spare held n 26 [v1] = some y1 := trod_field hf 1 _ rfl 26 1 rfl rfl 1 cellsU64
      have f2 : DataW.trod enc Tryd.prog w 0 spare held n 26 [v2] = some y2 := trod_field hf 2 _ rfl 26 2 rfl rfl 1 cellsU64
      obtain ⟨u0, e0⟩ := p_u64 Tryd.underlying26 f0
      obtain ⟨u1, e1⟩ := p_u64 Tryd.underlying26 f1
      obtain ⟨u2, e2⟩ := p_u64 Tryd.underlying26 f2
      simp only [List.cons.injEq, and_true] at e0 e1 e2
      subst e0 e1 e2
      exact ⟨⟨u0, u1, u2⟩, rfl⟩
set_option maxRecDepth 100000 in
theorem p_rep {H : Type} {enc : TypeId × Value → H} {w : World} {spare : Nat → Bool} {held : Bool} {fuel : Nat} {cs : List Value} {x : DataW H × List MemPlace}
    (h : DataW.trod enc Tryd.prog w 0 spare held fuel 34 cs = some x) : ∃ r : Rep, cs = (repA r).toList := by
  obtain ⟨xs, n, _, hx, hl, hxl, hf⟩ := DataW.trod_struct Tryd.underlying34 h
  rw [cellsRep] at hl
  match cs, hl with
  | [v0, v1, v2, v3, v4, v5, v6, v7, v8, v9, v10], _ =>
    match xs, hxl with
    | [y0, y1, y2, y3, y4], _ =>
      have f0 : DataW.trod enc Tryd.prog w 0 spare held n 3 [v0] = some y0 := trod_field hf 0 _ rfl 3 0 rfl rfl 1 cellsInt
      have f1 : DataW.trod enc Tryd.prog w 0 spare held n 26 [v1] = some y1 := trod_field hf 1 _ rfl 26 1 rfl rfl 1 cellsU64
      have f2 : DataW.trod enc Tryd.prog w 0 spare held n 26 [v2] = some y2 := trod_field hf 2 _ rfl 26 2 rfl rfl 1 cellsU64
      have f3 : DataW.trod enc Tryd.prog w 0 spare held n 28 [v3, v4, v5, v6, v7] = some y3 := trod_field hf 3 _ rfl 28 3 rfl rfl 5 cellsPol
      have f4 : DataW.trod enc Tryd.prog w 0 spare held n 32 [v8, v9, v10] = some y4 := trod_field hf 4 _ rfl 32 8 rfl rfl 3 cellsLev
      obtain ⟨code, e0, _⟩ := p_i64 Tryd.underlying3 f0
      obtain ⟨u1, e1⟩ := p_u64 Tryd.underlying26 f1
      obtain ⟨u2, e2⟩ := p_u64 Tryd.underlying26 f2
      obtain ⟨p, e3⟩ := p_pol f3
      obtain ⟨l, e4⟩ := p_lev f4
      simp only [List.cons.injEq, and_true, polC, levA] at e0 e1 e2 e3 e4
      obtain ⟨rfl, rfl, rfl, rfl, rfl⟩ := e3
      obtain ⟨rfl, rfl, rfl⟩ := e4
      subst e0 e1 e2
      exact ⟨⟨code, u1, u2, p, l⟩, rfl⟩
set_option maxRecDepth 100000 in
theorem p_ans {H : Type} {enc : TypeId × Value → H} {w : World} {spare : Nat → Bool} {held : Bool} {fuel : Nat} {cs : List Value} {x : DataW H × List MemPlace}
    (h : DataW.trod enc Tryd.prog w 0 spare held fuel 36 cs = some x) : ∃ a : Ans, cs = (ansA a).toList := by
  obtain ⟨xs, n, _, hx, hl, hxl, hf⟩ := DataW.trod_struct Tryd.underlying36 h
  rw [cellsAns] at hl
  match cs, hl with
  | [v0, v1, v2, v3, v4, v5, v6, v7, v8, v9, v10, v11], _ =>
    match xs, hxl with
    | [y0, y1], _ =>
      have f0 : DataW.trod enc Tryd.prog w 0 spare held n 3 [v0] = some y0 := trod_field hf 0 _ rfl 3 0 rfl rfl 1 cellsInt
      have f1 : DataW.trod enc Tryd.prog w 0 spare held n 34 [v1, v2, v3, v4, v5, v6, v7, v8, v9, v10, v11] = some y1 := trod_field hf 1 _ rfl 34 1 rfl rfl 11 cellsRep
      obtain ⟨op, e0, _⟩ := p_i64 Tryd.underlying3 f0
      obtain ⟨r, e1⟩ := p_rep f1
      simp only [List.cons.injEq, and_true] at e0
      subst e0
      exact ⟨⟨op, r⟩, by rw [e1]; rfl⟩
set_option maxRecDepth 100000 in
/-- an answer that is handed in -/
theorem open_ans {H : Type} {enc : TypeId × Value → H} {w : World} {spare : Nat → Bool} {held : Bool} {base : Nat} {v : Value} {fuel : Nat} {x : DataW H × List MemPlace} (ho : Value.okWide Tryd.prog w .any base 36 v)
    (h : DataW.trod enc Tryd.prog w 0 spare held fuel 36 v.cells.toList = some x) : ∃ a : Ans, v = .agg (ansA a) := by
  obtain ⟨cs, rfl, _⟩ := okWide_struct Tryd.underlying36 ho
  obtain ⟨a, e⟩ := p_ans h
  exact ⟨a, congrArg Value.agg (Array.toList_inj.1 e)⟩

end Go.Proofs.YtonfeppenhebjaaDoor
