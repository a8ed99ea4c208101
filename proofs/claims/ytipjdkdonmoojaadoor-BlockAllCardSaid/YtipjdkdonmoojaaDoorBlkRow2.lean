/- What BlockAll's row gives: the table, all errors; how a list of calls reads. (Printed by gen_blkrow2.py.) -/
import Derived.Test.YtipjdkdonmoojaaDoorBlkRow
import Derived.Test.YtipjdkdonmoojaaDoorBlkAllL
namespace Go.Proofs.YtipjdkdonmoojaaDoor
open Go Go.RowKit Go.ChangeShapes Go.WideShapes Go.ChangeAt
set_option linter.unusedVariables false
set_option linter.unusedSimpArgs false

def errTextA : Nat → List UInt8
  | 1 => textOf Rows.laid_turnstile_api_ErrArg
  | 2 => textOf Rows.laid_turnstile_api_ErrShort
  | 3 => textOf Rows.laid_turnstile_api_ErrForm
  | 4 => textOf Rows.laid_turnstile_api_ErrLong
  | 5 => textOf Rows.laid_turnstile_api_ErrSum
  | 6 => textOf Rows.laid_turnstile_api_ErrIo
  | 7 => textOf Rows.laid_turnstile_api_ErrDown
  | 8 => textOf Rows.laid_turnstile_api_ErrGone
  | 9 => textOf Rows.laid_turnstile_api_ErrThere
  | 10 => textOf Rows.laid_turnstile_api_ErrImage
  | 11 => textOf Rows.laid_turnstile_api_ErrGap
  | 12 => textOf Rows.laid_turnstile_api_ErrLog
  | 13 => textOf Rows.laid_turnstile_api_ErrSick
  | 14 => textOf Rows.laid_turnstile_api_ErrConfig
  | 15 => textOf Rows.laid_turnstile_api_ErrNil
  | _ => []
theorem errTextA_apart : ∀ i : Fin 16, ∀ j : Fin 16, 1 ≤ i.val → 1 ≤ j.val → errTextA i.val = errTextA j.val → i = j := by decide +kernel
theorem errsA_place {g : Nat} {nm : String} {k : Nat} {W : World} {r : List (String × DataW Unit)} {text : List UInt8} (h : laidMet Tryd.prog ((nm, .iface "*errors.errorString" (.ptr (.agg [.lit (.string text)]))) :: r) W) (hg : Tryd.prog.globalNamed nm = some g)
    (ht : (Tryd.prog.globals[g]?).map (·.type) = some 34) (hk : errG k = g) (hx : errTextA k = text) :
    ∃ a, W.cell? ⟨errG k, 0, none⟩ = some (.iface 112 (.pointer (some a))) ∧ (∃ s, W.cell? a = some (.string s) ∧ s.data.toList = errTextA k) ∧ ∃ c t, W.heap[a.block]? = some (.cells c t (0, 0)) := by
  obtain ⟨a, s, h1, h2, h3, h4⟩ := laid_err h hg ht Tryd.underlying34 rowErr Tryd.underlying112 Tryd.underlying127 rfl rfl Tryd.underlying9 cellsErrS cellsStr
  exact ⟨a, by rw [hk]; exact h1, ⟨s, h2, by rw [hx]; exact h3⟩, h4⟩
theorem errsA_all {W : World} {f : Nat → Addr} (h : ∀ k, 1 ≤ k → k ≤ 15 → W.cell? ⟨errG k, 0, none⟩ = some (.iface 112 (.pointer (some (f k)))) ∧ (∃ s, W.cell? (f k) = some (.string s) ∧ s.data.toList = errTextA k) ∧ ∃ c t, W.heap[(f k).block]? = some (.cells c t (0, 0))) : ErrsAt W f := by
  refine ⟨fun k h1 h2 => ⟨?_, (h k h1 h2).2.2⟩, fun i j hi hi' hj hj' hne he => hne ?_⟩
  · rw [(h k h1 h2).1]
    obtain ⟨m, rfl⟩ : ∃ m, k = m + 1 := ⟨k - 1, by omega⟩
    rfl
  · obtain ⟨s, hs, hst⟩ := (h i hi hi').2.1
    obtain ⟨s', hs', hst'⟩ := (h j hj hj').2.1
    rw [he] at hs
    rw [hs] at hs'
    cases hs'
    have := errTextA_apart ⟨i, by omega⟩ ⟨j, by omega⟩ hi hj (hst.symm.trans hst')
    exact congrArg Fin.val this
theorem ge6 : Tryd.prog.globalNamed "turnstile/api.ErrIo" = some 6 := by kernel_rfl
theorem gty6 : (Tryd.prog.globals[6]?).map (·.type) = some 34 := by kernel_rfl
theorem ge7 : Tryd.prog.globalNamed "turnstile/api.ErrDown" = some 7 := by kernel_rfl
theorem gty7 : (Tryd.prog.globals[7]?).map (·.type) = some 34 := by kernel_rfl
theorem ge8 : Tryd.prog.globalNamed "turnstile/api.ErrGone" = some 8 := by kernel_rfl
theorem gty8 : (Tryd.prog.globals[8]?).map (·.type) = some 34 := by kernel_rfl
theorem ge9 : Tryd.prog.globalNamed "turnstile/api.ErrThere" = some 9 := by kernel_rfl
theorem gty9 : (Tryd.prog.globals[9]?).map (·.type) = some 34 := by kernel_rfl
theorem ge10 : Tryd.prog.globalNamed "turnstile/api.ErrImage" = some 10 := by kernel_rfl
theorem gty10 : (Tryd.prog.globals[10]?).map (·.type) = some 34 := by kernel_rfl
theorem ge11 : Tryd.prog.globalNamed "turnstile/api.ErrGap" = some 11 := by kernel_rfl
theorem gty11 : (Tryd.prog.globals[11]?).map (·.type) = some 34 := by kernel_rfl
theorem ge12 : Tryd.prog.globalNamed "turnstile/api.ErrLog" = some 12 := by kernel_rfl
theorem gty12 : (Tryd.prog.globals[12]?).map (·.type) = some 34 := by kernel_rfl
theorem ge13 : Tryd.prog.globalNamed "turnstile/api.ErrSick" = some 13 := by kernel_rfl
theorem gty13 : (Tryd.prog.globals[13]?).map (·.type) = some 34 := by kernel_rfl
theorem ge14 : Tryd.prog.globalNamed "turnstile/api.ErrConfig" = some 14 := by kernel_rfl
theorem gty14 : (Tryd.prog.globals[14]?).map (·.type) = some 34 := by kernel_rfl
theorem ge15 : Tryd.prog.globalNamed "turnstile/api.ErrNil" = some 5 := by kernel_rfl
theorem gty15 : (Tryd.prog.globals[5]?).map (·.type) = some 34 := by kernel_rfl
set_option maxRecDepth 100000 in
theorem all_of {W : World} {r : List (String × DataW Unit)} (h : laidMetH Tryd.prog (("turnstile/crc.halves", Rows.laid_turnstile_crc_halves) :: ("unicode/utf8.acceptRanges", Rows.laid_unicode_utf8_acceptRanges) :: ("turnstile/api.ErrArg", Rows.laid_turnstile_api_ErrArg) :: ("turnstile/api.ErrShort", Rows.laid_turnstile_api_ErrShort) :: ("turnstile/api.ErrForm", Rows.laid_turnstile_api_ErrForm) :: ("turnstile/api.ErrLong", Rows.laid_turnstile_api_ErrLong) :: ("turnstile/api.ErrSum", Rows.laid_turnstile_api_ErrSum) :: ("turnstile/api.ErrIo", Rows.laid_turnstile_api_ErrIo) :: ("turnstile/api.ErrDown", Rows.laid_turnstile_api_ErrDown) :: ("turnstile/api.ErrGone", Rows.laid_turnstile_api_ErrGone) :: ("turnstile/api.ErrThere", Rows.laid_turnstile_api_ErrThere) :: ("turnstile/api.ErrImage", Rows.laid_turnstile_api_ErrImage) :: ("turnstile/api.ErrGap", Rows.laid_turnstile_api_ErrGap) :: ("turnstile/api.ErrLog", Rows.laid_turnstile_api_ErrLog) :: ("turnstile/api.ErrSick", Rows.laid_turnstile_api_ErrSick) :: ("turnstile/api.ErrConfig", Rows.laid_turnstile_api_ErrConfig) :: ("turnstile/api.ErrNil", Rows.laid_turnstile_api_ErrNil) :: r) W)
    (hr : ((("turnstile/crc.halves", Rows.laid_turnstile_crc_halves) :: ("unicode/utf8.acceptRanges", Rows.laid_unicode_utf8_acceptRanges) :: ("turnstile/api.ErrArg", Rows.laid_turnstile_api_ErrArg) :: ("turnstile/api.ErrShort", Rows.laid_turnstile_api_ErrShort) :: ("turnstile/api.ErrForm", Rows.laid_turnstile_api_ErrForm) :: ("turnstile/api.ErrLong", Rows.laid_turnstile_api_ErrLong) :: ("turnstile/api.ErrSum", Rows.laid_turnstile_api_ErrSum) :: ("turnstile/api.ErrIo", Rows.laid_turnstile_api_ErrIo) :: ("turnstile/api.ErrDown", Rows.laid_turnstile_api_ErrDown) :: ("turnstile/api.ErrGone", Rows.laid_turnstile_api_ErrGone) :: ("turnstile/api.ErrThere", Rows.laid_turnstile_api_ErrThere) :: ("turnstile/api.ErrImage", Rows.laid_turnstile_api_ErrImage) :: ("turnstile/api.ErrGap", Rows.laid_turnstile_api_ErrGap) :: ("turnstile/api.ErrLog", Rows.laid_turnstile_api_ErrLog) :: ("turnstile/api.ErrSick", Rows.laid_turnstile_api_ErrSick) :: ("turnstile/api.ErrConfig", Rows.laid_turnstile_api_ErrConfig) :: ("turnstile/api.ErrNil", Rows.laid_turnstile_api_ErrNil) :: r).all fun x : String × DataW Unit => x.2.handleName?.isNone) = true) : Tab W ∧ ∃ p, ErrsAt W p := by
  rw [Go.MakeChecks.laidMetH_plain _ _ _ hr] at h
  refine ⟨tab_of h, ?_⟩
  replace h := h.tail.tail
  obtain ⟨a1, e1⟩ := errsA_place (k := 1) h ge1 gty1 rfl rfl
  obtain ⟨a2, e2⟩ := errsA_place (k := 2) h.tail ge2 gty2 rfl rfl
  obtain ⟨a3, e3⟩ := errsA_place (k := 3) h.tail.tail ge3 gty3 rfl rfl
  obtain ⟨a4, e4⟩ := errsA_place (k := 4) h.tail.tail.tail ge4 gty4 rfl rfl
  obtain ⟨a5, e5⟩ := errsA_place (k := 5) h.tail.tail.tail.tail ge5 gty5 rfl rfl
  obtain ⟨a6, e6⟩ := errsA_place (k := 6) h.tail.tail.tail.tail.tail ge6 gty6 rfl rfl
  obtain ⟨a7, e7⟩ := errsA_place (k := 7) h.tail.tail.tail.tail.tail.tail ge7 gty7 rfl rfl
  obtain ⟨a8, e8⟩ := errsA_place (k := 8) h.tail.tail.tail.tail.tail.tail.tail ge8 gty8 rfl rfl
  obtain ⟨a9, e9⟩ := errsA_place (k := 9) h.tail.tail.tail.tail.tail.tail.tail.tail ge9 gty9 rfl rfl
  obtain ⟨a10, e10⟩ := errsA_place (k := 10) h.tail.tail.tail.tail.tail.tail.tail.tail.tail ge10 gty10 rfl rfl
  obtain ⟨a11, e11⟩ := errsA_place (k := 11) h.tail.tail.tail.tail.tail.tail.tail.tail.tail.tail ge11 gty11 rfl rfl
  obtain ⟨a12, e12⟩ := errsA_place (k := 12) h.tail.tail.tail.tail.tail.tail.tail.tail.tail.tail.tail ge12 gty12 rfl rfl
  obtain ⟨a13, e13⟩ := errsA_place (k := 13) h.tail.tail.tail.tail.tail.tail.tail.tail.tail.tail.tail.tail ge13 gty13 rfl rfl
  obtain ⟨a14, e14⟩ := errsA_place (k := 14) h.tail.tail.tail.tail.tail.tail.tail.tail.tail.tail.tail.tail.tail ge14 gty14 rfl rfl
  obtain ⟨a15, e15⟩ := errsA_place (k := 15) h.tail.tail.tail.tail.tail.tail.tail.tail.tail.tail.tail.tail.tail.tail ge15 gty15 rfl rfl
  refine ⟨fun k => match k with | 1 => a1 | 2 => a2 | 3 => a3 | 4 => a4 | 5 => a5 | 6 => a6 | 7 => a7 | 8 => a8 | 9 => a9 | 10 => a10 | 11 => a11 | 12 => a12 | 13 => a13 | 14 => a14 | 15 => a15 | _ => a1, errsA_all fun k h1 h2 => ?_⟩
  rcases k with _ | _ | _ | _ | _ | _ | _ | _ | _ | _ | _ | _ | _ | _ | _ | _ | k
  · omega
  · exact e1
  · exact e2
  · exact e3
  · exact e4
  · exact e5
  · exact e6
  · exact e7
  · exact e8
  · exact e9
  · exact e10
  · exact e11
  · exact e12
  · exact e13
  · exact e14
  · exact e15
  · omega
theorem cellsU64 : Tryd.prog.cellsOf 26 = 1 := by kernel_rfl
theorem cellsInts : Tryd.prog.cellsOf 29 = 1 := by kernel_rfl
theorem cellsOpB : Tryd.prog.cellsOf 31 = 5 := by kernel_rfl
theorem bytesInt : Tryd.prog.bytesOf 3 = 8 := by kernel_rfl
set_option maxRecDepth 100000 in
theorem p_opb {H : Type} {enc : TypeId × Value → H} {w : World} {spare : Nat → Bool} {held : Bool} {fuel : Nat} {cs : List Value} {x : DataW H × List MemPlace}
    (h : DataW.trod enc Tryd.prog w 0 spare held fuel 31 cs = some x) (hw : Light Tryd.prog 31 x.1) : ∃ o, OpBR w cs o := by
  obtain ⟨xs, n, _, hx, hl, hxl, hf⟩ := DataW.trod_struct Tryd.underlying31 h
  rw [cellsOpB] at hl
  match cs, hl with
  | [v0, v1, v2, v3, v4], _ =>
    match xs, hxl with
    | [y0, y1, y2, y3, y4], _ =>
      have f0 : DataW.trod enc Tryd.prog w 0 spare held n 3 [v0] = some y0 := trod_field hf 0 _ rfl 3 0 rfl rfl 1 cellsInt
      have f1 : DataW.trod enc Tryd.prog w 0 spare held n 26 [v1] = some y1 := trod_field hf 1 _ rfl 26 1 rfl rfl 1 cellsU64
      have f2 : DataW.trod enc Tryd.prog w 0 spare held n 27 [v2] = some y2 := trod_field hf 2 _ rfl 27 2 rfl rfl 1 cellsRows
      have f3 : DataW.trod enc Tryd.prog w 0 spare held n 28 [v3] = some y3 := trod_field hf 3 _ rfl 28 3 rfl rfl 1 cellsBytes
      have f4 : DataW.trod enc Tryd.prog w 0 spare held n 29 [v4] = some y4 := trod_field hf 4 _ rfl 29 4 rfl rfl 1 cellsInts
      have hx' := congrArg Prod.fst hx
      have w2 : Light Tryd.prog 27 y2.1 := light_field (p := []) (xs := [y0, y1, y2, y3, y4]) Tryd.underlying31 hx' hw 2 _ rfl _ rfl
      have w3 : Light Tryd.prog 28 y3.1 := light_field (p := []) (xs := [y0, y1, y2, y3, y4]) Tryd.underlying31 hx' hw 3 _ rfl _ rfl
      have w4 : Light Tryd.prog 29 y4.1 := light_field (p := []) (xs := [y0, y1, y2, y3, y4]) Tryd.underlying31 hx' hw 4 _ rfl _ rfl
      obtain ⟨kind, e0, hk⟩ := p_i64 Tryd.underlying3 f0
      obtain ⟨u, e1⟩ := p_u64 Tryd.underlying26 f1
      obtain ⟨Ar, cr, rs, e2, r1, r2, r3, r4, r5⟩ := pw_rows Tryd.underlying27 Tryd.underlying28 Tryd.underlying5 cellsBytes cellsU8 bytesRow bytesU8 f2 w2
      obtain ⟨vb, b, e3, ⟨Ab, cb, rfl, hb1, hb2, hb3⟩, hb4⟩ := pw_bytes Tryd.underlying28 Tryd.underlying5 cellsU8 bytesU8 f3 w3
      obtain ⟨Aw, cw, bad, e4, q1, q2, q3, q4⟩ := pw_slice (R := fun cs (a : Int) => cs = [.int .i64 a]) Tryd.underlying29 cellsInt (by decide) (fun n cs x _ h _ => by obtain ⟨a, ha, _⟩ := p_i64 Tryd.underlying3 h; exact ⟨a, ha⟩) f4 w4
      rw [bytesInt] at q4
      simp only [List.cons.injEq, and_true] at e0 e1 e2 e3 e4
      subst e0 e1 e2 e3 e4
      refine ⟨⟨kind, u, rs, b, bad⟩, Ar, cr, Ab, cb, Aw, cw, rfl, by simp only; omega, fun r hr => ?_, r1, r2, r3, ?_, hb1, hb2, hb3, by simp only; omega, ?_⟩
      · exact r5 r hr
      · exact hb4
      · intro h0
        obtain ⟨bb, o, hA, hx⟩ := q3 (by simpa using h0)
        refine ⟨bb, o, hA, fun i hi => ?_⟩
        obtain ⟨cs, _, hc, rfl⟩ := hx i (by simpa using hi)
        have := hc 0 (by simp)
        simpa using this
noncomputable def blkAllWorld (os : Os) : World := World.laidAll Tryd.prog os Rows.blockAllRow.laid
end Go.Proofs.YtipjdkdonmoojaaDoor
