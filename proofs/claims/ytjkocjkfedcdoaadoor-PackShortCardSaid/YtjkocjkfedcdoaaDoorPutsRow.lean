/- How a list of puts reads. -/
import Derived.Test.YtjkocjkfedcdoaaDoorErrRow
import Derived.Test.YtjkocjkfedcdoaaDoorPutsL
namespace Go.Proofs.YtjkocjkfedcdoaaDoor
open Go Go.RowKit Go.ChangeShapes Go.WideShapes Go.ChangeAt

theorem cellsPut : Tryd.prog.cellsOf 60 = 4 := by kernel_rfl
theorem cellsInt : Tryd.prog.cellsOf 3 = 1 := by kernel_rfl
theorem cellsU64 : Tryd.prog.cellsOf 42 = 1 := by kernel_rfl
theorem cellsBytes : Tryd.prog.cellsOf 26 = 1 := by kernel_rfl

set_option maxRecDepth 100000 in
theorem p_put {H : Type} {enc : TypeId × Value → H} {w : World} {spare : Nat → Bool} {held : Bool} {fuel : Nat} {cs : List Value} {x : DataW H × List MemPlace}
    (h : DataW.trod enc Tryd.prog w 0 spare held fuel 60 cs = some x) (hw : Light Tryd.prog 60 x.1) : ∃ o, PutR w cs o := by
  obtain ⟨xs, n, _, hx, hl, hxl, hf⟩ := DataW.trod_struct Tryd.underlying60 h
  rw [cellsPut] at hl
  match cs, hl with
  | [v0, v1, v2, v3], _ =>
    match xs, hxl with
    | [y0, y1, y2, y3], _ =>
      have f0 : DataW.trod enc Tryd.prog w 0 spare held n 3 [v0] = some y0 := trod_field hf 0 _ rfl 3 0 rfl rfl 1 cellsInt
      have f1 : DataW.trod enc Tryd.prog w 0 spare held n 26 [v1] = some y1 := trod_field hf 1 _ rfl 26 1 rfl rfl 1 cellsBytes
      have f2 : DataW.trod enc Tryd.prog w 0 spare held n 42 [v2] = some y2 := trod_field hf 2 _ rfl 42 2 rfl rfl 1 cellsU64
      have f3 : DataW.trod enc Tryd.prog w 0 spare held n 9 [v3] = some y3 := trod_field hf 3 _ rfl 9 3 rfl rfl 1 cellsStr
      have hx' := congrArg Prod.fst hx
      have w1 : Light Tryd.prog 26 y1.1 := light_field (p := []) (xs := [y0, y1, y2, y3]) Tryd.underlying60 hx' hw 1 _ rfl _ rfl
      have w3 : Light Tryd.prog 9 y3.1 := light_field (p := []) (xs := [y0, y1, y2, y3]) Tryd.underlying60 hx' hw 3 _ rfl _ rfl
      obtain ⟨kind, e0, hk⟩ := p_i64 Tryd.underlying3 f0
      obtain ⟨vb, b, e1, ⟨Ab, cb, rfl, hb1, hb2, hb3⟩, hb4⟩ := pw_bytes Tryd.underlying26 Tryd.underlying5 cellsU8 bytesU8 f1 w1
      obtain ⟨u, e2⟩ := p_u64 Tryd.underlying42 f2
      obtain ⟨s, e3, hs⟩ := pw_string Tryd.underlying9 f3 w3
      simp only [List.cons.injEq, and_true] at e0 e1 e2 e3
      subst e0 e1 e2 e3
      exact ⟨⟨kind, b, u, s.data.toList⟩, Ab, cb, by simp, hk, hb4, by simpa using hs, hb3⟩
end Go.Proofs.YtjkocjkfedcdoaaDoor
