/- How the arguments of the laws of crc read, and what each row of them takes from the variables' list: the table lies in the world. -/
import Derived.Test.YtjkocjkfedcdoaaDoorCrcAllW
import Derived.Test.YtjkocjkfedcdoaaDoorOpen2
import Derived.Test.YtjkocjkfedcdoaaDoorCards
import Derived.Test.YtjkocjkfedcdoaaDoorTie
import Derived.Deep.DeepHandedRow
import Derived.Lib.LaidTab
namespace Go.Proofs.YtjkocjkfedcdoaaDoor
open Go Go.RowKit Go.ChangeShapes Go.WideShapes Go.ChangeAt

theorem own : ownKnob Tryd.prog.godebug = none := by kernel_rfl
theorem laidOut : laidOutB Tryd.prog = true := by kernel_rfl
theorem gTab : Tryd.prog.globalNamed "turnstile/crc.halves" = some 2 := by kernel_rfl
theorem gTabType : (Tryd.prog.globals[2]?).map (·.type) = some 72 := by kernel_rfl
theorem cellsTab : Tryd.prog.cellsOf 72 = 16 := by kernel_rfl
theorem cellsU32 : Tryd.prog.cellsOf 27 = 1 := by kernel_rfl
theorem cellsU8 : Tryd.prog.cellsOf 5 = 1 := by kernel_rfl
theorem cellsBytes : Tryd.prog.cellsOf 26 = 1 := by kernel_rfl
theorem cellsRows : Tryd.prog.cellsOf 28 = 1 := by kernel_rfl
theorem cellsInt : Tryd.prog.cellsOf 3 = 1 := by kernel_rfl
theorem bytesRow : Tryd.prog.bytesOf 26 = 24 := by kernel_rfl
theorem bytesU8 : Tryd.prog.bytesOf 5 = 1 := by kernel_rfl
theorem cellsOp : Tryd.prog.cellsOf 30 = 6 := by kernel_rfl

set_option maxRecDepth 100000 in
/-- what the rows' list gives -/
theorem tab_of {W : World} (h : laidMetH Tryd.prog [("turnstile/crc.halves", Rows.laid_turnstile_crc_halves)] W) : Tab W := by
  have ht : Lib.TabIs Tryd.prog W "turnstile/crc.halves" .u32 (tab.map n32) := Lib.tabIs_of_head (rest := []) gTab gTabType Tryd.underlying72 Tryd.underlying27 cellsU32 cellsTab h
  intro x
  have hlt : (x &&& 15).toNat < 16 := by
    rw [UInt32.toNat_and]
    exact Nat.lt_of_le_of_lt Nat.and_le_right (by decide)
  have := ht.cell gTab (x &&& 15).toNat hlt
  have e : (n32 (x &&& 15)).toNat = (x &&& 15).toNat := by unfold n32; omega
  rw [e, this]
  unfold nib
  generalize (x &&& 15).toNat = i at *
  have : ∀ j : Fin 16, (tab.map n32).getD j.val 0 = n32 (tab.getD j.val 0) := by decide
  have := this ⟨i, hlt⟩
  simp only [this]

set_option maxRecDepth 100000 in
theorem p_op {H : Type} {enc : TypeId × Value → H} {w : World} {spare : Nat → Bool} {held : Bool} {fuel : Nat} {cs : List Value} {x : DataW H × List MemPlace}
    (h : DataW.trod enc Tryd.prog w 0 spare held fuel 30 cs = some x) : ∃ o, OpR w cs o := by
  obtain ⟨xs, n, _, _, hl, hxl, hf⟩ := DataW.trod_struct Tryd.underlying30 h
  rw [cellsOp] at hl
  match cs, hl with
  | [v0, v1, v2, v3, v4, v5], _ =>
    match xs, hxl with
    | [y0, y1, y2, y3, y4, y5], _ =>
      have f0 : DataW.trod enc Tryd.prog w 0 spare held n 3 [v0] = some y0 := trod_field hf 0 _ rfl 3 0 rfl rfl 1 cellsInt
      have f1 : DataW.trod enc Tryd.prog w 0 spare held n 26 [v1] = some y1 := trod_field hf 1 _ rfl 26 1 rfl rfl 1 cellsBytes
      have f2 : DataW.trod enc Tryd.prog w 0 spare held n 27 [v2] = some y2 := trod_field hf 2 _ rfl 27 2 rfl rfl 1 cellsU32
      have f3 : DataW.trod enc Tryd.prog w 0 spare held n 27 [v3] = some y3 := trod_field hf 3 _ rfl 27 3 rfl rfl 1 cellsU32
      have f4 : DataW.trod enc Tryd.prog w 0 spare held n 3 [v4] = some y4 := trod_field hf 4 _ rfl 3 4 rfl rfl 1 cellsInt
      have f5 : DataW.trod enc Tryd.prog w 0 spare held n 28 [v5] = some y5 := trod_field hf 5 _ rfl 28 5 rfl rfl 1 cellsRows
      obtain ⟨kind, e0, hk⟩ := p_i64 Tryd.underlying3 f0
      obtain ⟨vb, b, e1, Ab, cb, rfl, hb1, hb2, hb3⟩ := p_bytes Tryd.underlying26 Tryd.underlying5 cellsU8 f1
      obtain ⟨s, e2⟩ := p_u32 Tryd.underlying27 f2
      obtain ⟨t, e3⟩ := p_u32 Tryd.underlying27 f3
      obtain ⟨nn, e4, hn⟩ := p_i64 Tryd.underlying3 f4
      obtain ⟨Ap, cp, ls, e5, hp1, hp2, hp3⟩ := p_rows Tryd.underlying28 Tryd.underlying26 Tryd.underlying5 cellsBytes cellsU8 f5
      simp only [List.cons.injEq, and_true] at e0 e1 e2 e3 e4 e5
      subst e0 e1 e2 e3 e4 e5
      exact ⟨⟨kind, b, s, t, nn, ls⟩, Ab, cb, Ap, cp, rfl, hk, Nat.le_trans hb1 hb2, hb3, hn, Nat.le_trans hp1 hp2, hp3⟩

/-- a world for the witness: the settled one, the table holding what its initialiser lays -/
noncomputable def crcWorld (os : Os) : World :=
  { World.holding Tryd.prog os ⟨#[], #[], []⟩ with heap := (World.holding Tryd.prog os ⟨#[], #[], []⟩).heap.modify 2 fun
      | .cells _ t frozen => .cells (tab.map fun x => Value.int .u32 (n32 x)).toArray t frozen
      | o => o }
end Go.Proofs.YtjkocjkfedcdoaaDoor
