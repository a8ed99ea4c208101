/-
  DERIVED. GIVEN WITH THE SEED: THE PROGRAM's TIES (one call each: nine closed facts by the kernel) AND EACH ROW's TIE, after the 31st guide's Derived/Test/Toyas{Tie, Card}.lean. No idea stands in it: it is a product of the set-up. Laid BY PROGRAM, IN A SANDBOX (cutbox-door.mjs). By AI agents, Wed Nov 11 2026. No macro, syntax, notation, axiom, sorry.
-/
import Derived.Test.YtipjdkdonmoojaaDoorRows
import Derived.LaidByTextLater
import Derived.SevenTiedAt
import Derived.LaidSub
import Derived.LaidOnce
namespace Go.Proofs.YtipjdkdonmoojaaDoor
open Go
set_option maxRecDepth 100000
theorem seatTie1 : Tryd.prog.laidByTextLater [("turnstile/crc.halves", Rows.laid_turnstile_crc_halves), ("unicode/utf8.acceptRanges", Rows.laid_unicode_utf8_acceptRanges), ("turnstile/api.ErrArg", Rows.laid_turnstile_api_ErrArg), ("turnstile/api.ErrShort", Rows.laid_turnstile_api_ErrShort), ("turnstile/api.ErrForm", Rows.laid_turnstile_api_ErrForm), ("turnstile/api.ErrLong", Rows.laid_turnstile_api_ErrLong), ("turnstile/api.ErrSum", Rows.laid_turnstile_api_ErrSum), ("turnstile/api.ErrIo", Rows.laid_turnstile_api_ErrIo), ("turnstile/api.ErrDown", Rows.laid_turnstile_api_ErrDown), ("turnstile/api.ErrGone", Rows.laid_turnstile_api_ErrGone), ("turnstile/api.ErrThere", Rows.laid_turnstile_api_ErrThere), ("turnstile/api.ErrImage", Rows.laid_turnstile_api_ErrImage), ("turnstile/api.ErrGap", Rows.laid_turnstile_api_ErrGap), ("turnstile/api.ErrLog", Rows.laid_turnstile_api_ErrLog), ("turnstile/api.ErrSick", Rows.laid_turnstile_api_ErrSick), ("turnstile/api.ErrConfig", Rows.laid_turnstile_api_ErrConfig), ("turnstile/api.ErrNil", Rows.laid_turnstile_api_ErrNil)] [.data, .data, .sentinel, .sentinel, .sentinel, .sentinel, .sentinel, .sentinel, .sentinel, .sentinel, .sentinel, .sentinel, .sentinel, .sentinel, .sentinel, .sentinel, .sentinel] true :=
  Program.laidByTextLater_by_one 309 8 33 (by kernel_rfl) (by kernel_rfl) (by kernel_rfl) (by kernel_rfl) (by kernel_rfl) (by kernel_rfl) (fun _ _ => by kernel_rfl)
theorem pin_laid_unicode_utf8_first : Tryd.pinned.checked.prog.pinnedFits "unicode/utf8.first" = true := by kernel_rfl
theorem noOwnUnsafe : Tryd.pinned.checked.prog.headLifts.contains "ownunsafe" = false := by kernel_rfl
theorem fits1 : Tryd.pinned.checked.prog.listedFits [("turnstile/crc.halves", Rows.laid_turnstile_crc_halves), ("unicode/utf8.acceptRanges", Rows.laid_unicode_utf8_acceptRanges), ("turnstile/api.ErrArg", Rows.laid_turnstile_api_ErrArg), ("turnstile/api.ErrShort", Rows.laid_turnstile_api_ErrShort), ("turnstile/api.ErrForm", Rows.laid_turnstile_api_ErrForm), ("turnstile/api.ErrLong", Rows.laid_turnstile_api_ErrLong), ("turnstile/api.ErrSum", Rows.laid_turnstile_api_ErrSum), ("turnstile/api.ErrIo", Rows.laid_turnstile_api_ErrIo), ("turnstile/api.ErrDown", Rows.laid_turnstile_api_ErrDown), ("turnstile/api.ErrGone", Rows.laid_turnstile_api_ErrGone), ("turnstile/api.ErrThere", Rows.laid_turnstile_api_ErrThere), ("turnstile/api.ErrImage", Rows.laid_turnstile_api_ErrImage), ("turnstile/api.ErrGap", Rows.laid_turnstile_api_ErrGap), ("turnstile/api.ErrLog", Rows.laid_turnstile_api_ErrLog), ("turnstile/api.ErrSick", Rows.laid_turnstile_api_ErrSick), ("turnstile/api.ErrConfig", Rows.laid_turnstile_api_ErrConfig), ("turnstile/api.ErrNil", Rows.laid_turnstile_api_ErrNil), ("unicode/utf8.first", Rows.laid_unicode_utf8_first)] = true := by
  unfold Program.listedFits
  rw [noOwnUnsafe]
  kernel_rfl
theorem tie : Tryd.prog.laidByTextLater [("turnstile/crc.halves", Rows.laid_turnstile_crc_halves), ("unicode/utf8.acceptRanges", Rows.laid_unicode_utf8_acceptRanges), ("turnstile/api.ErrArg", Rows.laid_turnstile_api_ErrArg), ("turnstile/api.ErrShort", Rows.laid_turnstile_api_ErrShort), ("turnstile/api.ErrForm", Rows.laid_turnstile_api_ErrForm), ("turnstile/api.ErrLong", Rows.laid_turnstile_api_ErrLong), ("turnstile/api.ErrSum", Rows.laid_turnstile_api_ErrSum), ("turnstile/api.ErrIo", Rows.laid_turnstile_api_ErrIo), ("turnstile/api.ErrDown", Rows.laid_turnstile_api_ErrDown), ("turnstile/api.ErrGone", Rows.laid_turnstile_api_ErrGone), ("turnstile/api.ErrThere", Rows.laid_turnstile_api_ErrThere), ("turnstile/api.ErrImage", Rows.laid_turnstile_api_ErrImage), ("turnstile/api.ErrGap", Rows.laid_turnstile_api_ErrGap), ("turnstile/api.ErrLog", Rows.laid_turnstile_api_ErrLog), ("turnstile/api.ErrSick", Rows.laid_turnstile_api_ErrSick), ("turnstile/api.ErrConfig", Rows.laid_turnstile_api_ErrConfig), ("turnstile/api.ErrNil", Rows.laid_turnstile_api_ErrNil)] [.data, .data, .sentinel, .sentinel, .sentinel, .sentinel, .sentinel, .sentinel, .sentinel, .sentinel, .sentinel, .sentinel, .sentinel, .sentinel, .sentinel, .sentinel, .sentinel] true :=
  Program.laidByTextLater.sub seatTie1 ["turnstile/crc.halves", "unicode/utf8.acceptRanges", "turnstile/api.ErrArg", "turnstile/api.ErrShort", "turnstile/api.ErrForm", "turnstile/api.ErrLong", "turnstile/api.ErrSum", "turnstile/api.ErrIo", "turnstile/api.ErrDown", "turnstile/api.ErrGone", "turnstile/api.ErrThere", "turnstile/api.ErrImage", "turnstile/api.ErrGap", "turnstile/api.ErrLog", "turnstile/api.ErrSick", "turnstile/api.ErrConfig", "turnstile/api.ErrNil"] (by kernel_rfl) (by kernel_rfl)
theorem blockAll_row_tie : Rows.blockAllRow.laidByTextAt .later Tryd.pinned [.data, .data, .sentinel, .sentinel, .sentinel, .sentinel, .sentinel, .sentinel, .sentinel, .sentinel, .sentinel, .sentinel, .sentinel, .sentinel, .sentinel, .sentinel, .sentinel, .pinned] true :=
  OpenClaim.laidByTextAt_pinned rfl rfl tie rfl rfl rfl rfl (fun y hy _e => by
    simp only [Rows.blockAllRow, List.zip_cons_cons, List.zip_nil_right, List.mem_cons, List.mem_nil_iff, or_false] at hy
    rcases hy with rfl | rfl | rfl | rfl | rfl | rfl | rfl | rfl | rfl | rfl | rfl | rfl | rfl | rfl | rfl | rfl | rfl | rfl
    · cases _e
    · cases _e
    · cases _e
    · cases _e
    · cases _e
    · cases _e
    · cases _e
    · cases _e
    · cases _e
    · cases _e
    · cases _e
    · cases _e
    · cases _e
    · cases _e
    · cases _e
    · cases _e
    · cases _e
    · exact ⟨pin_laid_unicode_utf8_first, by kernel_rfl⟩) fits1
theorem fits2 : Tryd.pinned.checked.prog.listedFits [("turnstile/crc.halves", Rows.laid_turnstile_crc_halves), ("unicode/utf8.acceptRanges", Rows.laid_unicode_utf8_acceptRanges), ("turnstile/api.ErrArg", Rows.laid_turnstile_api_ErrArg), ("turnstile/api.ErrShort", Rows.laid_turnstile_api_ErrShort), ("turnstile/api.ErrForm", Rows.laid_turnstile_api_ErrForm), ("turnstile/api.ErrLong", Rows.laid_turnstile_api_ErrLong), ("turnstile/api.ErrSum", Rows.laid_turnstile_api_ErrSum), ("turnstile/api.ErrNil", Rows.laid_turnstile_api_ErrNil), ("unicode/utf8.first", Rows.laid_unicode_utf8_first)] = true := by
  unfold Program.listedFits
  rw [noOwnUnsafe]
  kernel_rfl
theorem tie2 : Tryd.prog.laidByTextLater [("turnstile/crc.halves", Rows.laid_turnstile_crc_halves), ("unicode/utf8.acceptRanges", Rows.laid_unicode_utf8_acceptRanges), ("turnstile/api.ErrArg", Rows.laid_turnstile_api_ErrArg), ("turnstile/api.ErrShort", Rows.laid_turnstile_api_ErrShort), ("turnstile/api.ErrForm", Rows.laid_turnstile_api_ErrForm), ("turnstile/api.ErrLong", Rows.laid_turnstile_api_ErrLong), ("turnstile/api.ErrSum", Rows.laid_turnstile_api_ErrSum), ("turnstile/api.ErrNil", Rows.laid_turnstile_api_ErrNil)] [.data, .data, .sentinel, .sentinel, .sentinel, .sentinel, .sentinel, .sentinel] true :=
  Program.laidByTextLater.sub seatTie1 ["turnstile/crc.halves", "unicode/utf8.acceptRanges", "turnstile/api.ErrArg", "turnstile/api.ErrShort", "turnstile/api.ErrForm", "turnstile/api.ErrLong", "turnstile/api.ErrSum", "turnstile/api.ErrNil"] (by kernel_rfl) (by kernel_rfl)
theorem blockBack_row_tie : Rows.blockBackRow.laidByTextAt .later Tryd.pinned [.data, .data, .sentinel, .sentinel, .sentinel, .sentinel, .sentinel, .sentinel, .pinned] true :=
  OpenClaim.laidByTextAt_pinned rfl rfl tie2 rfl rfl rfl rfl (fun y hy _e => by
    simp only [Rows.blockBackRow, List.zip_cons_cons, List.zip_nil_right, List.mem_cons, List.mem_nil_iff, or_false] at hy
    rcases hy with rfl | rfl | rfl | rfl | rfl | rfl | rfl | rfl | rfl
    · cases _e
    · cases _e
    · cases _e
    · cases _e
    · cases _e
    · cases _e
    · cases _e
    · cases _e
    · exact ⟨pin_laid_unicode_utf8_first, by kernel_rfl⟩) fits2
theorem blockForth_row_tie : Rows.blockForthRow.laidByTextAt .later Tryd.pinned [.data, .data, .sentinel, .sentinel, .sentinel, .sentinel, .sentinel, .sentinel, .pinned] true :=
  OpenClaim.laidByTextAt_pinned rfl rfl tie2 rfl rfl rfl rfl (fun y hy _e => by
    simp only [Rows.blockForthRow, List.zip_cons_cons, List.zip_nil_right, List.mem_cons, List.mem_nil_iff, or_false] at hy
    rcases hy with rfl | rfl | rfl | rfl | rfl | rfl | rfl | rfl | rfl
    · cases _e
    · cases _e
    · cases _e
    · cases _e
    · cases _e
    · cases _e
    · cases _e
    · cases _e
    · exact ⟨pin_laid_unicode_utf8_first, by kernel_rfl⟩) fits2
theorem blockTurned_row_tie : Rows.blockTurnedRow.laidByTextAt .later Tryd.pinned [.data, .data, .sentinel, .sentinel, .sentinel, .sentinel, .sentinel, .sentinel, .pinned] true :=
  OpenClaim.laidByTextAt_pinned rfl rfl tie2 rfl rfl rfl rfl (fun y hy _e => by
    simp only [Rows.blockTurnedRow, List.zip_cons_cons, List.zip_nil_right, List.mem_cons, List.mem_nil_iff, or_false] at hy
    rcases hy with rfl | rfl | rfl | rfl | rfl | rfl | rfl | rfl | rfl
    · cases _e
    · cases _e
    · cases _e
    · cases _e
    · cases _e
    · cases _e
    · cases _e
    · cases _e
    · exact ⟨pin_laid_unicode_utf8_first, by kernel_rfl⟩) fits2
theorem blockPacks_row_tie : Rows.blockPacksRow.laidByTextAt .later Tryd.pinned [.data, .data, .sentinel, .sentinel, .sentinel, .sentinel, .sentinel, .sentinel, .pinned] true :=
  OpenClaim.laidByTextAt_pinned rfl rfl tie2 rfl rfl rfl rfl (fun y hy _e => by
    simp only [Rows.blockPacksRow, List.zip_cons_cons, List.zip_nil_right, List.mem_cons, List.mem_nil_iff, or_false] at hy
    rcases hy with rfl | rfl | rfl | rfl | rfl | rfl | rfl | rfl | rfl
    · cases _e
    · cases _e
    · cases _e
    · cases _e
    · cases _e
    · cases _e
    · cases _e
    · cases _e
    · exact ⟨pin_laid_unicode_utf8_first, by kernel_rfl⟩) fits2
theorem blockFront_row_tie : Rows.blockFrontRow.laidByTextAt .later Tryd.pinned [.data, .data, .sentinel, .sentinel, .sentinel, .sentinel, .sentinel, .sentinel, .pinned] true :=
  OpenClaim.laidByTextAt_pinned rfl rfl tie2 rfl rfl rfl rfl (fun y hy _e => by
    simp only [Rows.blockFrontRow, List.zip_cons_cons, List.zip_nil_right, List.mem_cons, List.mem_nil_iff, or_false] at hy
    rcases hy with rfl | rfl | rfl | rfl | rfl | rfl | rfl | rfl | rfl
    · cases _e
    · cases _e
    · cases _e
    · cases _e
    · cases _e
    · cases _e
    · cases _e
    · cases _e
    · exact ⟨pin_laid_unicode_utf8_first, by kernel_rfl⟩) fits2
theorem blockAllUpto_row_tie : Rows.blockAllUptoRow.laidByTextAt .later Tryd.pinned [.data, .data, .sentinel, .sentinel, .sentinel, .sentinel, .sentinel, .sentinel, .sentinel, .sentinel, .sentinel, .sentinel, .sentinel, .sentinel, .sentinel, .sentinel, .sentinel, .pinned] true :=
  OpenClaim.laidByTextAt_pinned rfl rfl tie rfl rfl rfl rfl (fun y hy _e => by
    simp only [Rows.blockAllUptoRow, List.zip_cons_cons, List.zip_nil_right, List.mem_cons, List.mem_nil_iff, or_false] at hy
    rcases hy with rfl | rfl | rfl | rfl | rfl | rfl | rfl | rfl | rfl | rfl | rfl | rfl | rfl | rfl | rfl | rfl | rfl | rfl
    · cases _e
    · cases _e
    · cases _e
    · cases _e
    · cases _e
    · cases _e
    · cases _e
    · cases _e
    · cases _e
    · cases _e
    · cases _e
    · cases _e
    · cases _e
    · cases _e
    · cases _e
    · cases _e
    · cases _e
    · exact ⟨pin_laid_unicode_utf8_first, by kernel_rfl⟩) fits1
theorem blockBackUpto_row_tie : Rows.blockBackUptoRow.laidByTextAt .later Tryd.pinned [.data, .data, .sentinel, .sentinel, .sentinel, .sentinel, .sentinel, .sentinel, .pinned] true :=
  OpenClaim.laidByTextAt_pinned rfl rfl tie2 rfl rfl rfl rfl (fun y hy _e => by
    simp only [Rows.blockBackUptoRow, List.zip_cons_cons, List.zip_nil_right, List.mem_cons, List.mem_nil_iff, or_false] at hy
    rcases hy with rfl | rfl | rfl | rfl | rfl | rfl | rfl | rfl | rfl
    · cases _e
    · cases _e
    · cases _e
    · cases _e
    · cases _e
    · cases _e
    · cases _e
    · cases _e
    · exact ⟨pin_laid_unicode_utf8_first, by kernel_rfl⟩) fits2
theorem blockForthUpto_row_tie : Rows.blockForthUptoRow.laidByTextAt .later Tryd.pinned [.data, .data, .sentinel, .sentinel, .sentinel, .sentinel, .sentinel, .sentinel, .pinned] true :=
  OpenClaim.laidByTextAt_pinned rfl rfl tie2 rfl rfl rfl rfl (fun y hy _e => by
    simp only [Rows.blockForthUptoRow, List.zip_cons_cons, List.zip_nil_right, List.mem_cons, List.mem_nil_iff, or_false] at hy
    rcases hy with rfl | rfl | rfl | rfl | rfl | rfl | rfl | rfl | rfl
    · cases _e
    · cases _e
    · cases _e
    · cases _e
    · cases _e
    · cases _e
    · cases _e
    · cases _e
    · exact ⟨pin_laid_unicode_utf8_first, by kernel_rfl⟩) fits2
theorem blockTurnedUpto_row_tie : Rows.blockTurnedUptoRow.laidByTextAt .later Tryd.pinned [.data, .data, .sentinel, .sentinel, .sentinel, .sentinel, .sentinel, .sentinel, .pinned] true :=
  OpenClaim.laidByTextAt_pinned rfl rfl tie2 rfl rfl rfl rfl (fun y hy _e => by
    simp only [Rows.blockTurnedUptoRow, List.zip_cons_cons, List.zip_nil_right, List.mem_cons, List.mem_nil_iff, or_false] at hy
    rcases hy with rfl | rfl | rfl | rfl | rfl | rfl | rfl | rfl | rfl
    · cases _e
    · cases _e
    · cases _e
    · cases _e
    · cases _e
    · cases _e
    · cases _e
    · cases _e
    · exact ⟨pin_laid_unicode_utf8_first, by kernel_rfl⟩) fits2
theorem blockPacksUpto_row_tie : Rows.blockPacksUptoRow.laidByTextAt .later Tryd.pinned [.data, .data, .sentinel, .sentinel, .sentinel, .sentinel, .sentinel, .sentinel, .pinned] true :=
  OpenClaim.laidByTextAt_pinned rfl rfl tie2 rfl rfl rfl rfl (fun y hy _e => by
    simp only [Rows.blockPacksUptoRow, List.zip_cons_cons, List.zip_nil_right, List.mem_cons, List.mem_nil_iff, or_false] at hy
    rcases hy with rfl | rfl | rfl | rfl | rfl | rfl | rfl | rfl | rfl
    · cases _e
    · cases _e
    · cases _e
    · cases _e
    · cases _e
    · cases _e
    · cases _e
    · cases _e
    · exact ⟨pin_laid_unicode_utf8_first, by kernel_rfl⟩) fits2
theorem blockFrontUpto_row_tie : Rows.blockFrontUptoRow.laidByTextAt .later Tryd.pinned [.data, .data, .sentinel, .sentinel, .sentinel, .sentinel, .sentinel, .sentinel, .pinned] true :=
  OpenClaim.laidByTextAt_pinned rfl rfl tie2 rfl rfl rfl rfl (fun y hy _e => by
    simp only [Rows.blockFrontUptoRow, List.zip_cons_cons, List.zip_nil_right, List.mem_cons, List.mem_nil_iff, or_false] at hy
    rcases hy with rfl | rfl | rfl | rfl | rfl | rfl | rfl | rfl | rfl
    · cases _e
    · cases _e
    · cases _e
    · cases _e
    · cases _e
    · cases _e
    · cases _e
    · cases _e
    · exact ⟨pin_laid_unicode_utf8_first, by kernel_rfl⟩) fits2
end Go.Proofs.YtipjdkdonmoojaaDoor
