/- How a list of calls reads. -/
import Derived.Test.YtonfeppenhebjaaDoorErrRow
import Derived.Test.YtonfeppenhebjaaDoorReqAllL
namespace Go.Proofs.YtonfeppenhebjaaDoor
open Go Go.RowKit Go.ChangeShapes Go.WideShapes Go.ChangeAt
set_option linter.unusedVariables false
set_option linter.unusedSimpArgs false

theorem cellsInt : Tryd.prog.cellsOf 3 = 1 := by kernel_rfl
theorem cellsU64 : Tryd.prog.cellsOf 26 = 1 := by kernel_rfl
theorem cellsReq : Tryd.prog.cellsOf 30 = 8 := by kernel_rfl
theorem cellsPol : Tryd.prog.cellsOf 28 = 5 := by kernel_rfl

set_option maxRecDepth 100000 in
theorem p_pol {H : Type} {enc : TypeId × Value → H} {w : World} {spare : Nat → Bool} {held : Bool} {fuel : Nat} {cs : List Value} {x : DataW H × List MemPlace}
    (h : DataW.trod enc Tryd.prog w 0 spare held fuel 28 cs = some x) : ∃ p : Pol, cs = polC p := by
  obtain ⟨xs, n, _, hx, hl, hxl, hf⟩ := DataW.trod_struct Tryd.underlying28 h
  rw [cellsPol] at hl
  match cs, hl with
  | [v0, v1, v2, v3, v4], _ =>
    match xs, hxl with
    | [y0, y1, y2, y3, y4], _ =>
      have f0 : DataW.trod enc Tryd.prog w 0 spare held n 3 [v0] = some y0 := trod_field hf 0 _ rfl 3 0 rfl rfl 1 cellsInt
      have f1 : DataW.trod enc Tryd.prog w 0 spare held n 26 [v1] = some y1 := trod_field hf 1 _ rfl 26 1 rfl rfl 1 cellsU64
      have f2 : DataW.trod enc Tryd.prog w 0 spare held n 26 [v2] = some y2 := trod_field hf 2 _ rfl 26 2 rfl rfl 1 cellsU64
      have f3 : DataW.trod enc Tryd.prog w 0 spare held n 26 [v3] = some y3 := trod_field hf 3 _ rfl 26 3 rfl rfl 1 cellsU64
      have f4 : DataW.trod enc Tryd.prog w 0 spare held n 26 [v4] = some y4 := trod_field hf 4 _ rfl 26 4 rfl rfl 1 cellsU64
      obtain ⟨kind, e0, hk⟩ := p_i64 Tryd.underlying3 f0
      obtain ⟨u1, e1⟩ := p_u64 Tryd.underlying26 f1
      obtain ⟨u2, e2⟩ := p_u64 Tryd.underlying26 f2
      obtain ⟨u3, e3⟩ := p_u64 Tryd.underlying26 f3
      obtain ⟨u4, e4⟩ := p_u64 Tryd.underlying26 f4
      simp only [List.cons.injEq, and_true] at e0 e1 e2 e3 e4
      subst e0 e1 e2 e3 e4
      exact ⟨⟨kind, u1, u2, u3, u4⟩, rfl⟩
theorem cellsAns : Tryd.prog.cellsOf 36 = 12 := by kernel_rfl
theorem cellsRep : Tryd.prog.cellsOf 34 = 11 := by kernel_rfl
theorem cellsLev : Tryd.prog.cellsOf 32 = 3 := by kernel_rfl
set_option maxRecDepth 100000 in
theorem p_lev {H : Type} {enc : TypeId × Value → H} {w : World} {spare : Nat → Bool} {held : Bool} {fuel : Nat} {cs : List Value} {x : DataW H × List MemPlace}
    (h : DataW.trod enc Tryd.prog w 0 spare held fuel 32 cs = some x) : ∃ l : Lev, cs = (levA l).toList := by
  obtain ⟨xs, n, _, hx, hl, hxl, hf⟩ := DataW.trod_struct Tryd.underlying32 h
  rw [cellsLev] at hl
  match cs, hl with
  | [v0, v1, v2], _ =>
    match xs, hxl with
    | [y0, y1, y2], _ =>
      have f0 : DataW.trod enc Tryd.prog w 0 spare held n 26 [v0] = some y0 := trod_field hf 0 _ rfl 26 0 rfl rfl 1 cellsU64
      have f1 : DataW.trod enc Tryd.prog w 0 spare held n 26 [v1] = some y1 := trod_field hf 1 _ rfl 26 1 rfl rfl 1 cellsU64
      have f2 : DataW.trod enc Tryd.prog w 0 spare held n 26 [v2] = some y2 := trod_field hf 2 _ rfl 26 2 rfl rfl 1 cellsU64
      obtain ⟨u0, e0⟩ := p_u64 Tryd.underlying26 f0
      obtain ⟨u1, e1⟩ := p_u64 Tryd.underlying26 f1
      obtain ⟨u2, e2⟩ := p_u64 Tryd.underlying26 f2
      simp only [List.cons.injEq, and_true] at e0 e1 e2
      subst e0 e1 e2
      exact ⟨⟨u0, u1, u2⟩, rfl⟩
set_option maxRecDepth 100000 in
theorem p_rep {H : Type} {enc : TypeId × Value → H} {w : World} {spare : Nat → Bool} {held : Bool} {fuel : Nat} {cs : List Value} {x : DataW H × List MemPlace}
    (h : DataW.trod enc Tryd.prog w 0 spare held fuel 34 cs = some x) : ∃ r : Rep, cs = (repA r).toList := by
  obtain ⟨xs, n, _, hx, hl, hxl, hf⟩ := DataW.trod_struct Tryd.underlying34 h
  rw [cellsRep] at hl
  match cs, hl with
  | [v0, v1, v2, v3, v4, v5, v6, v7, v8, v9, v10], _ =>
    match xs, hxl with
    | [y0, y1, y2, y3, y4], _ =>
      have f0 : DataW.trod enc Tryd.prog w 0 spare held n 3 [v0] = some y0 := trod_field hf 0 _ rfl 3 0 rfl rfl 1 cellsInt
      have f1 : DataW.trod enc Tryd.prog w 0 spare held n 26 [v1] = some y1 := trod_field hf 1 _ rfl 26 1 rfl rfl 1 cellsU64
      have f2 : DataW.trod enc Tryd.prog w 0 spare held n 26 [v2] = some y2 := trod_field hf 2 _ rfl 26 2 rfl rfl 1 cellsU64
      have f3 : DataW.trod enc Tryd.prog w 0 spare held n 28 [v3, v4, v5, v6, v7] = some y3 := trod_field hf 3 _ rfl 28 3 rfl rfl 5 cellsPol
      have f4 : DataW.trod enc Tryd.prog w 0 spare held n 32 [v8, v9, v10] = some y4 := trod_field hf 4 _ rfl 32 8 rfl rfl 3 cellsLev
      obtain ⟨code, e0, _⟩ := p_i64 Tryd.underlying3 f0
      obtain ⟨u1, e1⟩ := p_u64 Tryd.underlying26 f1
      obtain ⟨u2, e2⟩ := p_u64 Tryd.underlying26 f2
      obtain ⟨p, e3⟩ := p_pol f3
      obtain ⟨l, e4⟩ := p_lev f4
      simp only [List.cons.injEq, and_true, polC, levA] at e0 e1 e2 e3 e4
      obtain ⟨rfl, rfl, rfl, rfl, rfl⟩ := e3
      obtain ⟨rfl, rfl, rfl⟩ := e4
      subst e0 e1 e2
      exact ⟨⟨code, u1, u2, p, l⟩, rfl⟩
set_option maxRecDepth 100000 in
theorem p_ans {H : Type} {enc : TypeId × Value → H} {w : World} {spare : Nat → Bool} {held : Bool} {fuel : Nat} {cs : List Value} {x : DataW H × List MemPlace}
    (h : DataW.trod enc Tryd.prog w 0 spare held fuel 36 cs = some x) : ∃ a : Ans, cs = (ansA a).toList := by
  obtain ⟨xs, n, _, hx, hl, hxl, hf⟩ := DataW.trod_struct Tryd.underlying36 h
  rw [cellsAns] at hl
  match cs, hl with
  | [v0, v1, v2, v3, v4, v5, v6, v7, v8, v9, v10, v11], _ =>
    match xs, hxl with
    | [y0, y1], _ =>
      have f0 : DataW.trod enc Tryd.prog w 0 spare held n 3 [v0] = some y0 := trod_field hf 0 _ rfl 3 0 rfl rfl 1 cellsInt
      have f1 : DataW.trod enc Tryd.prog w 0 spare held n 34 [v1, v2, v3, v4, v5, v6, v7, v8, v9, v10, v11] = some y1 := trod_field hf 1 _ rfl 34 1 rfl rfl 11 cellsRep
      obtain ⟨op, e0, _⟩ := p_i64 Tryd.underlying3 f0
      obtain ⟨r, e1⟩ := p_rep f1
      simp only [List.cons.injEq, and_true] at e0
      subst e0
      exact ⟨⟨op, r⟩, by rw [e1]; rfl⟩
theorem cellsOpQ : Tryd.prog.cellsOf 39 = 22 := by kernel_rfl
theorem cellsBytesQ : Tryd.prog.cellsOf 37 = 1 := by kernel_rfl
set_option maxRecDepth 100000 in
theorem pw_req {H : Type} {enc : TypeId × Value → H} {w : World} {spare : Nat → Bool} {held : Bool} {fuel : Nat} {cs : List Value} {x : DataW H × List MemPlace}
    (h : DataW.trod enc Tryd.prog w 0 spare held fuel 30 cs = some x) (hw : Light Tryd.prog 30 x.1) : ∃ r : Req, cs = (reqA r).toList ∧ r.key.length ≤ 140737488351232 := by
  obtain ⟨xs, n, _, hx, hl, hxl, hf⟩ := DataW.trod_struct Tryd.underlying30 h
  rw [cellsReq] at hl
  match cs, hl with
  | [v0, v1, v2, v3, v4, v5, v6, v7], _ =>
    match xs, hxl with
    | [y0, y1, y2, y3], _ =>
      have f0 : DataW.trod enc Tryd.prog w 0 spare held n 3 [v0] = some y0 := trod_field hf 0 _ rfl 3 0 rfl rfl 1 cellsInt
      have f1 : DataW.trod enc Tryd.prog w 0 spare held n 9 [v1] = some y1 := trod_field hf 1 _ rfl 9 1 rfl rfl 1 cellsStr
      have f2 : DataW.trod enc Tryd.prog w 0 spare held n 28 [v2, v3, v4, v5, v6] = some y2 := trod_field hf 2 _ rfl 28 2 rfl rfl 5 cellsPol
      have f3 : DataW.trod enc Tryd.prog w 0 spare held n 26 [v7] = some y3 := trod_field hf 3 _ rfl 26 7 rfl rfl 1 cellsU64
      have hx' := congrArg Prod.fst hx
      have w1 : Light Tryd.prog 9 y1.1 := light_field (p := []) (xs := [y0, y1, y2, y3]) Tryd.underlying30 hx' hw 1 _ rfl _ rfl
      obtain ⟨op, e0, hk⟩ := p_i64 Tryd.underlying3 f0
      obtain ⟨s, e1, hs⟩ := pw_string Tryd.underlying9 f1 w1
      obtain ⟨p, e2⟩ := p_pol f2
      obtain ⟨u, e3⟩ := p_u64 Tryd.underlying26 f3
      simp only [List.cons.injEq, and_true, polC] at e0 e1 e2 e3
      obtain ⟨rfl, rfl, rfl, rfl, rfl⟩ := e2
      subst e0 e1 e3
      exact ⟨⟨op, s.data.toList, p, u⟩, rfl, by simpa using hs⟩
set_option maxRecDepth 100000 in
theorem p_opq {H : Type} {enc : TypeId × Value → H} {w : World} {spare : Nat → Bool} {held : Bool} {fuel : Nat} {cs : List Value} {x : DataW H × List MemPlace}
    (h : DataW.trod enc Tryd.prog w 0 spare held fuel 39 cs = some x) (hw : Light Tryd.prog 39 x.1) : ∃ o, OpR w cs o := by
  obtain ⟨xs, n, _, hx, hl, hxl, hf⟩ := DataW.trod_struct Tryd.underlying39 h
  rw [cellsOpQ] at hl
  match cs, hl with
  | [v0, v1, v2, v3, v4, v5, v6, v7, v8, v9, v10, v11, v12, v13, v14, v15, v16, v17, v18, v19, v20, v21], _ =>
    match xs, hxl with
    | [y0, y1, y2, y3], _ =>
      have f0 : DataW.trod enc Tryd.prog w 0 spare held n 3 [v0] = some y0 := trod_field hf 0 _ rfl 3 0 rfl rfl 1 cellsInt
      have f1 : DataW.trod enc Tryd.prog w 0 spare held n 30 [v1, v2, v3, v4, v5, v6, v7, v8] = some y1 := trod_field hf 1 _ rfl 30 1 rfl rfl 8 cellsReq
      have f2 : DataW.trod enc Tryd.prog w 0 spare held n 36 [v9, v10, v11, v12, v13, v14, v15, v16, v17, v18, v19, v20] = some y2 := trod_field hf 2 _ rfl 36 9 rfl rfl 12 cellsAns
      have f3 : DataW.trod enc Tryd.prog w 0 spare held n 37 [v21] = some y3 := trod_field hf 3 _ rfl 37 21 rfl rfl 1 cellsBytesQ
      have hx' := congrArg Prod.fst hx
      have w1 : Light Tryd.prog 30 y1.1 := light_field (p := []) (xs := [y0, y1, y2, y3]) Tryd.underlying39 hx' hw 1 _ rfl _ rfl
      have w3 : Light Tryd.prog 37 y3.1 := light_field (p := []) (xs := [y0, y1, y2, y3]) Tryd.underlying39 hx' hw 3 _ rfl _ rfl
      obtain ⟨kind, e0, hk⟩ := p_i64 Tryd.underlying3 f0
      obtain ⟨r, e1, hr⟩ := pw_req f1 w1
      obtain ⟨a, e2⟩ := p_ans f2
      obtain ⟨vb, b, e3, ⟨Ab, cb, rfl, hb1, hb2, hb3⟩, hb4⟩ := pw_bytes Tryd.underlying37 Tryd.underlying5 cellsU8 bytesU8 f3 w3
      simp only [List.cons.injEq, and_true] at e0 e3
      subst e0 e3
      refine ⟨⟨kind, r, a, b⟩, Ab, cb, ?_, hr, hb4, hb1, hb2, hb3⟩
      show _ :: ([v1, v2, v3, v4, v5, v6, v7, v8] ++ [v9, v10, v11, v12, v13, v14, v15, v16, v17, v18, v19, v20] ++ [_]) = _
      rw [e1, e2]
      rfl
noncomputable def reqAllWorld (os : Os) : World := World.laidAll Tryd.prog os Rows.requestAllRow.laid
end Go.Proofs.YtonfeppenhebjaaDoor
