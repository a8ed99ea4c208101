/-
  DERIVED. GIVEN WITH THE SEED: THE PROGRAM's TIES (one call each: nine closed facts by the kernel) AND EACH ROW's TIE, after the 31st guide's Derived/Test/Toyas{Tie, Card}.lean. No idea stands in it: it is a product of the set-up. Laid BY PROGRAM, IN A SANDBOX (cutbox-door.mjs). By AI agents, Wed Nov 11 2026. No macro, syntax, notation, axiom, sorry.
-/
import Derived.Test.YtjkocjkfedcdoaaDoorRows
import Derived.LaidByTextLater
import Derived.SevenTiedAt
import Derived.LaidSub
import Derived.LaidOnce
namespace Go.Proofs.YtjkocjkfedcdoaaDoor
open Go
set_option maxRecDepth 100000
theorem seatTie1 : Tryd.prog.laidByTextLater [("turnstile/crc.halves", Rows.laid_turnstile_crc_halves), ("turnstile/api.ErrArg", Rows.laid_turnstile_api_ErrArg), ("turnstile/api.ErrShort", Rows.laid_turnstile_api_ErrShort), ("turnstile/api.ErrForm", Rows.laid_turnstile_api_ErrForm), ("turnstile/api.ErrLong", Rows.laid_turnstile_api_ErrLong), ("turnstile/api.ErrSum", Rows.laid_turnstile_api_ErrSum), ("turnstile/api.ErrIo", Rows.laid_turnstile_api_ErrIo), ("turnstile/api.ErrDown", Rows.laid_turnstile_api_ErrDown), ("turnstile/api.ErrGone", Rows.laid_turnstile_api_ErrGone), ("turnstile/api.ErrThere", Rows.laid_turnstile_api_ErrThere), ("turnstile/api.ErrImage", Rows.laid_turnstile_api_ErrImage), ("turnstile/api.ErrGap", Rows.laid_turnstile_api_ErrGap), ("turnstile/api.ErrLog", Rows.laid_turnstile_api_ErrLog), ("turnstile/api.ErrSick", Rows.laid_turnstile_api_ErrSick), ("turnstile/api.ErrConfig", Rows.laid_turnstile_api_ErrConfig), ("turnstile/api.ErrNil", Rows.laid_turnstile_api_ErrNil)] [.data, .sentinel, .sentinel, .sentinel, .sentinel, .sentinel, .sentinel, .sentinel, .sentinel, .sentinel, .sentinel, .sentinel, .sentinel, .sentinel, .sentinel, .sentinel] true :=
  Program.laidByTextLater_by_one 299 8 17 (by kernel_rfl) (by kernel_rfl) (by kernel_rfl) (by kernel_rfl) (by kernel_rfl) (by kernel_rfl) (fun _ _ => by kernel_rfl)
theorem noOwnUnsafe : Tryd.pinned.checked.prog.headLifts.contains "ownunsafe" = false := by kernel_rfl
theorem tie : Tryd.prog.laidByTextLater [("turnstile/crc.halves", Rows.laid_turnstile_crc_halves)] [.data] true :=
  Program.laidByTextLater.sub seatTie1 ["turnstile/crc.halves"] (by kernel_rfl) (by kernel_rfl)
theorem crcAll_row_tie : Rows.crcAllRow.laidByTextAt .later Tryd.pinned [.data] true :=
  OpenClaim.laidByTextAt_later rfl rfl tie noOwnUnsafe
theorem crcCuts_row_tie : Rows.crcCutsRow.laidByTextAt .later Tryd.pinned [.data] true :=
  OpenClaim.laidByTextAt_later rfl rfl tie noOwnUnsafe
theorem crcTurns_row_tie : Rows.crcTurnsRow.laidByTextAt .later Tryd.pinned [.data] true :=
  OpenClaim.laidByTextAt_later rfl rfl tie noOwnUnsafe
theorem crcMoves_row_tie : Rows.crcMovesRow.laidByTextAt .later Tryd.pinned [.data] true :=
  OpenClaim.laidByTextAt_later rfl rfl tie noOwnUnsafe
theorem crcZeros_row_tie : Rows.crcZerosRow.laidByTextAt .later Tryd.pinned [.data] true :=
  OpenClaim.laidByTextAt_later rfl rfl tie noOwnUnsafe
theorem crcKeeps_row_tie : Rows.crcKeepsRow.laidByTextAt .later Tryd.pinned [.data] true :=
  OpenClaim.laidByTextAt_later rfl rfl tie noOwnUnsafe
theorem tie2 : Tryd.prog.laidByTextLater [("turnstile/api.ErrShort", Rows.laid_turnstile_api_ErrShort), ("turnstile/api.ErrForm", Rows.laid_turnstile_api_ErrForm), ("turnstile/api.ErrNil", Rows.laid_turnstile_api_ErrNil)] [.sentinel, .sentinel, .sentinel] true :=
  Program.laidByTextLater.sub seatTie1 ["turnstile/api.ErrShort", "turnstile/api.ErrForm", "turnstile/api.ErrNil"] (by kernel_rfl) (by kernel_rfl)
theorem packBytes_row_tie : Rows.packBytesRow.laidByTextAt .later Tryd.pinned [.sentinel, .sentinel, .sentinel] true :=
  OpenClaim.laidByTextAt_later rfl rfl tie2 noOwnUnsafe
theorem packForm_row_tie : Rows.packFormRow.laidByTextAt .later Tryd.pinned [.sentinel, .sentinel, .sentinel] true :=
  OpenClaim.laidByTextAt_later rfl rfl tie2 noOwnUnsafe
theorem tie3 : Tryd.prog.laidByTextLater [("turnstile/api.ErrArg", Rows.laid_turnstile_api_ErrArg), ("turnstile/api.ErrShort", Rows.laid_turnstile_api_ErrShort), ("turnstile/api.ErrForm", Rows.laid_turnstile_api_ErrForm), ("turnstile/api.ErrLong", Rows.laid_turnstile_api_ErrLong), ("turnstile/api.ErrSum", Rows.laid_turnstile_api_ErrSum), ("turnstile/api.ErrIo", Rows.laid_turnstile_api_ErrIo), ("turnstile/api.ErrDown", Rows.laid_turnstile_api_ErrDown), ("turnstile/api.ErrGone", Rows.laid_turnstile_api_ErrGone), ("turnstile/api.ErrThere", Rows.laid_turnstile_api_ErrThere), ("turnstile/api.ErrImage", Rows.laid_turnstile_api_ErrImage), ("turnstile/api.ErrGap", Rows.laid_turnstile_api_ErrGap), ("turnstile/api.ErrLog", Rows.laid_turnstile_api_ErrLog), ("turnstile/api.ErrSick", Rows.laid_turnstile_api_ErrSick), ("turnstile/api.ErrConfig", Rows.laid_turnstile_api_ErrConfig), ("turnstile/api.ErrNil", Rows.laid_turnstile_api_ErrNil)] [.sentinel, .sentinel, .sentinel, .sentinel, .sentinel, .sentinel, .sentinel, .sentinel, .sentinel, .sentinel, .sentinel, .sentinel, .sentinel, .sentinel, .sentinel] true :=
  Program.laidByTextLater.sub seatTie1 ["turnstile/api.ErrArg", "turnstile/api.ErrShort", "turnstile/api.ErrForm", "turnstile/api.ErrLong", "turnstile/api.ErrSum", "turnstile/api.ErrIo", "turnstile/api.ErrDown", "turnstile/api.ErrGone", "turnstile/api.ErrThere", "turnstile/api.ErrImage", "turnstile/api.ErrGap", "turnstile/api.ErrLog", "turnstile/api.ErrSick", "turnstile/api.ErrConfig", "turnstile/api.ErrNil"] (by kernel_rfl) (by kernel_rfl)
theorem packPuts_row_tie : Rows.packPutsRow.laidByTextAt .later Tryd.pinned [.sentinel, .sentinel, .sentinel, .sentinel, .sentinel, .sentinel, .sentinel, .sentinel, .sentinel, .sentinel, .sentinel, .sentinel, .sentinel, .sentinel, .sentinel] true :=
  OpenClaim.laidByTextAt_later rfl rfl tie3 noOwnUnsafe
theorem packReads_row_tie : Rows.packReadsRow.laidByTextAt .later Tryd.pinned [.sentinel, .sentinel, .sentinel, .sentinel, .sentinel, .sentinel, .sentinel, .sentinel, .sentinel, .sentinel, .sentinel, .sentinel, .sentinel, .sentinel, .sentinel] true :=
  OpenClaim.laidByTextAt_later rfl rfl tie3 noOwnUnsafe
theorem tie4 : Tryd.prog.laidByTextLater [("turnstile/api.ErrShort", Rows.laid_turnstile_api_ErrShort), ("turnstile/api.ErrForm", Rows.laid_turnstile_api_ErrForm), ("turnstile/api.ErrLong", Rows.laid_turnstile_api_ErrLong), ("turnstile/api.ErrNil", Rows.laid_turnstile_api_ErrNil)] [.sentinel, .sentinel, .sentinel, .sentinel] true :=
  Program.laidByTextLater.sub seatTie1 ["turnstile/api.ErrShort", "turnstile/api.ErrForm", "turnstile/api.ErrLong", "turnstile/api.ErrNil"] (by kernel_rfl) (by kernel_rfl)
theorem packBack_row_tie : Rows.packBackRow.laidByTextAt .later Tryd.pinned [.sentinel, .sentinel, .sentinel, .sentinel] true :=
  OpenClaim.laidByTextAt_later rfl rfl tie4 noOwnUnsafe
theorem packShort_row_tie : Rows.packShortRow.laidByTextAt .later Tryd.pinned [.sentinel, .sentinel, .sentinel, .sentinel] true :=
  OpenClaim.laidByTextAt_later rfl rfl tie4 noOwnUnsafe
theorem crcAllUpto_row_tie : Rows.crcAllUptoRow.laidByTextAt .later Tryd.pinned [.data] true :=
  OpenClaim.laidByTextAt_later rfl rfl tie noOwnUnsafe
theorem crcCutsUpto_row_tie : Rows.crcCutsUptoRow.laidByTextAt .later Tryd.pinned [.data] true :=
  OpenClaim.laidByTextAt_later rfl rfl tie noOwnUnsafe
theorem crcTurnsUpto_row_tie : Rows.crcTurnsUptoRow.laidByTextAt .later Tryd.pinned [.data] true :=
  OpenClaim.laidByTextAt_later rfl rfl tie noOwnUnsafe
theorem crcMovesUpto_row_tie : Rows.crcMovesUptoRow.laidByTextAt .later Tryd.pinned [.data] true :=
  OpenClaim.laidByTextAt_later rfl rfl tie noOwnUnsafe
theorem crcZerosUpto_row_tie : Rows.crcZerosUptoRow.laidByTextAt .later Tryd.pinned [.data] true :=
  OpenClaim.laidByTextAt_later rfl rfl tie noOwnUnsafe
theorem crcKeepsUpto_row_tie : Rows.crcKeepsUptoRow.laidByTextAt .later Tryd.pinned [.data] true :=
  OpenClaim.laidByTextAt_later rfl rfl tie noOwnUnsafe
theorem packBytesUpto_row_tie : Rows.packBytesUptoRow.laidByTextAt .later Tryd.pinned [.sentinel, .sentinel, .sentinel] true :=
  OpenClaim.laidByTextAt_later rfl rfl tie2 noOwnUnsafe
theorem packFormUpto_row_tie : Rows.packFormUptoRow.laidByTextAt .later Tryd.pinned [.sentinel, .sentinel, .sentinel] true :=
  OpenClaim.laidByTextAt_later rfl rfl tie2 noOwnUnsafe
theorem packPutsUpto_row_tie : Rows.packPutsUptoRow.laidByTextAt .later Tryd.pinned [.sentinel, .sentinel, .sentinel, .sentinel, .sentinel, .sentinel, .sentinel, .sentinel, .sentinel, .sentinel, .sentinel, .sentinel, .sentinel, .sentinel, .sentinel] true :=
  OpenClaim.laidByTextAt_later rfl rfl tie3 noOwnUnsafe
theorem packReadsUpto_row_tie : Rows.packReadsUptoRow.laidByTextAt .later Tryd.pinned [.sentinel, .sentinel, .sentinel, .sentinel, .sentinel, .sentinel, .sentinel, .sentinel, .sentinel, .sentinel, .sentinel, .sentinel, .sentinel, .sentinel, .sentinel] true :=
  OpenClaim.laidByTextAt_later rfl rfl tie3 noOwnUnsafe
theorem packBackUpto_row_tie : Rows.packBackUptoRow.laidByTextAt .later Tryd.pinned [.sentinel, .sentinel, .sentinel, .sentinel] true :=
  OpenClaim.laidByTextAt_later rfl rfl tie4 noOwnUnsafe
theorem packShortUpto_row_tie : Rows.packShortUptoRow.laidByTextAt .later Tryd.pinned [.sentinel, .sentinel, .sentinel, .sentinel] true :=
  OpenClaim.laidByTextAt_later rfl rfl tie4 noOwnUnsafe
end Go.Proofs.YtjkocjkfedcdoaaDoor
