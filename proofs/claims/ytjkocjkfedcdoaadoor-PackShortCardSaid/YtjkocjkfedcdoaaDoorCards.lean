/-
  DERIVED. GIVEN WITH THE SEED: THE CARDS: each row of YtjkocjkfedcdoaaDoorRows.lean that lists a variable, with what it lists TIED to the program's text (the seventh form; the later family's looks); each row that meets fmt, with fmt's text TOLD by the authors' own Lean function (tested against real Go, not proved from fmt's source: count such statements apart). THE CARD IS WHAT COUNTS. Prove the row's statement (the work); the ties are given (YtjkocjkfedcdoaaDoorTie.lean); close each card by the builder's one call (the guide's Derived/Test/ToyasCard.lean, 'card_holds'). Laid BY PROGRAM, IN A SANDBOX (cutbox-door.mjs). By AI agents, Wed Nov 11 2026. No macro, syntax, notation, axiom, sorry.
-/
import Derived.Test.YtjkocjkfedcdoaaDoorRows
import GoSem.ClaimSeven
namespace Go.Proofs.YtjkocjkfedcdoaaDoor
namespace Rows

/-- THE TIED CARD OF 'turnstilelaw02.CrcAll'. -/
def crcAllCard : Claim7 := { stood := { row := crcAllRow, standIns := [], harness := (true, "acd8dd3fdfb8dedaf640770b5eba4a24e81026e2f2bf290e2693f2d1d2d2e312"), looks := true }, kinds := [], alts := [], laidByText := true, laidKinds := [.data], laidTests := true, laidLooks := .later }
def CrcAllCardSaid : Prop := Claim7.holds Tryd.pinned (.plain (OpenSpec.ofChange crcAllSpec)) crcAllCard

/-- THE TIED CARD OF 'turnstilelaw02.CrcCuts'. -/
def crcCutsCard : Claim7 := { stood := { row := crcCutsRow, standIns := [], harness := (true, "acd8dd3fdfb8dedaf640770b5eba4a24e81026e2f2bf290e2693f2d1d2d2e312"), looks := true }, kinds := [], alts := [], laidByText := true, laidKinds := [.data], laidTests := true, laidLooks := .later }
def CrcCutsCardSaid : Prop := Claim7.holds Tryd.pinned (.plain (OpenSpec.ofChange crcCutsSpec)) crcCutsCard

/-- THE TIED CARD OF 'turnstilelaw02.CrcTurns'. -/
def crcTurnsCard : Claim7 := { stood := { row := crcTurnsRow, standIns := [], harness := (true, "acd8dd3fdfb8dedaf640770b5eba4a24e81026e2f2bf290e2693f2d1d2d2e312"), looks := true }, kinds := [], alts := [], laidByText := true, laidKinds := [.data], laidTests := true, laidLooks := .later }
def CrcTurnsCardSaid : Prop := Claim7.holds Tryd.pinned (.plain (OpenSpec.ofChange crcTurnsSpec)) crcTurnsCard

/-- THE TIED CARD OF 'turnstilelaw02.CrcMoves'. -/
def crcMovesCard : Claim7 := { stood := { row := crcMovesRow, standIns := [], harness := (true, "acd8dd3fdfb8dedaf640770b5eba4a24e81026e2f2bf290e2693f2d1d2d2e312"), looks := true }, kinds := [], alts := [], laidByText := true, laidKinds := [.data], laidTests := true, laidLooks := .later }
def CrcMovesCardSaid : Prop := Claim7.holds Tryd.pinned (.plain (OpenSpec.ofChange crcMovesSpec)) crcMovesCard

/-- THE TIED CARD OF 'turnstilelaw02.CrcZeros'. -/
def crcZerosCard : Claim7 := { stood := { row := crcZerosRow, standIns := [], harness := (true, "acd8dd3fdfb8dedaf640770b5eba4a24e81026e2f2bf290e2693f2d1d2d2e312"), looks := true }, kinds := [], alts := [], laidByText := true, laidKinds := [.data], laidTests := true, laidLooks := .later }
def CrcZerosCardSaid : Prop := Claim7.holds Tryd.pinned (.plain (OpenSpec.ofChange crcZerosSpec)) crcZerosCard

/-- THE TIED CARD OF 'turnstilelaw02.CrcKeeps'. -/
def crcKeepsCard : Claim7 := { stood := { row := crcKeepsRow, standIns := [], harness := (true, "acd8dd3fdfb8dedaf640770b5eba4a24e81026e2f2bf290e2693f2d1d2d2e312"), looks := true }, kinds := [], alts := [], laidByText := true, laidKinds := [.data], laidTests := true, laidLooks := .later }
def CrcKeepsCardSaid : Prop := Claim7.holds Tryd.pinned (.plain (OpenSpec.ofChange crcKeepsSpec)) crcKeepsCard

/-- THE TIED CARD OF 'turnstilelaw01.PackBytes'. -/
def packBytesCard : Claim7 := { stood := { row := packBytesRow, standIns := [], harness := (true, "acd8dd3fdfb8dedaf640770b5eba4a24e81026e2f2bf290e2693f2d1d2d2e312"), looks := true }, kinds := [], alts := [], laidByText := true, laidKinds := [.sentinel, .sentinel, .sentinel], laidTests := true, laidLooks := .later }
def PackBytesCardSaid : Prop := Claim7.holds Tryd.pinned (.plain (OpenSpec.ofChange packBytesSpec)) packBytesCard

/-- THE TIED CARD OF 'turnstilelaw01.PackForm'. -/
def packFormCard : Claim7 := { stood := { row := packFormRow, standIns := [], harness := (true, "acd8dd3fdfb8dedaf640770b5eba4a24e81026e2f2bf290e2693f2d1d2d2e312"), looks := true }, kinds := [], alts := [], laidByText := true, laidKinds := [.sentinel, .sentinel, .sentinel], laidTests := true, laidLooks := .later }
def PackFormCardSaid : Prop := Claim7.holds Tryd.pinned (.plain (OpenSpec.ofChange packFormSpec)) packFormCard

/-- THE TIED CARD OF 'turnstilelaw01.PackPuts'. -/
def packPutsCard : Claim7 := { stood := { row := packPutsRow, standIns := [], harness := (true, "acd8dd3fdfb8dedaf640770b5eba4a24e81026e2f2bf290e2693f2d1d2d2e312"), looks := true }, kinds := [], alts := [], laidByText := true, laidKinds := [.sentinel, .sentinel, .sentinel, .sentinel, .sentinel, .sentinel, .sentinel, .sentinel, .sentinel, .sentinel, .sentinel, .sentinel, .sentinel, .sentinel, .sentinel], laidTests := true, laidLooks := .later }
def PackPutsCardSaid : Prop := Claim7.holds Tryd.pinned (.plain (OpenSpec.ofChange packPutsSpec)) packPutsCard

/-- THE TIED CARD OF 'turnstilelaw01.PackReads'. -/
def packReadsCard : Claim7 := { stood := { row := packReadsRow, standIns := [], harness := (true, "acd8dd3fdfb8dedaf640770b5eba4a24e81026e2f2bf290e2693f2d1d2d2e312"), looks := true }, kinds := [], alts := [], laidByText := true, laidKinds := [.sentinel, .sentinel, .sentinel, .sentinel, .sentinel, .sentinel, .sentinel, .sentinel, .sentinel, .sentinel, .sentinel, .sentinel, .sentinel, .sentinel, .sentinel], laidTests := true, laidLooks := .later }
def PackReadsCardSaid : Prop := Claim7.holds Tryd.pinned (.plain (OpenSpec.ofChange packReadsSpec)) packReadsCard

/-- THE TIED CARD OF 'turnstilelaw01.PackBack'. -/
def packBackCard : Claim7 := { stood := { row := packBackRow, standIns := [], harness := (true, "acd8dd3fdfb8dedaf640770b5eba4a24e81026e2f2bf290e2693f2d1d2d2e312"), looks := true }, kinds := [], alts := [], laidByText := true, laidKinds := [.sentinel, .sentinel, .sentinel, .sentinel], laidTests := true, laidLooks := .later }
def PackBackCardSaid : Prop := Claim7.holds Tryd.pinned (.plain (OpenSpec.ofChange packBackSpec)) packBackCard

/-- THE TIED CARD OF 'turnstilelaw01.PackShort'. -/
def packShortCard : Claim7 := { stood := { row := packShortRow, standIns := [], harness := (true, "acd8dd3fdfb8dedaf640770b5eba4a24e81026e2f2bf290e2693f2d1d2d2e312"), looks := true }, kinds := [], alts := [], laidByText := true, laidKinds := [.sentinel, .sentinel, .sentinel, .sentinel], laidTests := true, laidLooks := .later }
def PackShortCardSaid : Prop := Claim7.holds Tryd.pinned (.plain (OpenSpec.ofChange packShortSpec)) packShortCard

/-- THE SECOND FORM's CARD OF 'turnstilelaw02.CrcAll'. -/
def crcAllUptoCard : Claim7 := { stood := { row := crcAllUptoRow, standIns := [], harness := (true, "acd8dd3fdfb8dedaf640770b5eba4a24e81026e2f2bf290e2693f2d1d2d2e312"), looks := true }, kinds := [], alts := [], laidByText := true, laidKinds := [.data], laidTests := true, laidLooks := .later }
def CrcAllUptoCardSaid : Prop := Claim7.holds Tryd.pinned (.plain (OpenSpec.upto crcAllSpec)) crcAllUptoCard

/-- THE SECOND FORM's CARD OF 'turnstilelaw02.CrcCuts'. -/
def crcCutsUptoCard : Claim7 := { stood := { row := crcCutsUptoRow, standIns := [], harness := (true, "acd8dd3fdfb8dedaf640770b5eba4a24e81026e2f2bf290e2693f2d1d2d2e312"), looks := true }, kinds := [], alts := [], laidByText := true, laidKinds := [.data], laidTests := true, laidLooks := .later }
def CrcCutsUptoCardSaid : Prop := Claim7.holds Tryd.pinned (.plain (OpenSpec.upto crcCutsSpec)) crcCutsUptoCard

/-- THE SECOND FORM's CARD OF 'turnstilelaw02.CrcTurns'. -/
def crcTurnsUptoCard : Claim7 := { stood := { row := crcTurnsUptoRow, standIns := [], harness := (true, "acd8dd3fdfb8dedaf640770b5eba4a24e81026e2f2bf290e2693f2d1d2d2e312"), looks := true }, kinds := [], alts := [], laidByText := true, laidKinds := [.data], laidTests := true, laidLooks := .later }
def CrcTurnsUptoCardSaid : Prop := Claim7.holds Tryd.pinned (.plain (OpenSpec.upto crcTurnsSpec)) crcTurnsUptoCard

/-- THE SECOND FORM's CARD OF 'turnstilelaw02.CrcMoves'. -/
def crcMovesUptoCard : Claim7 := { stood := { row := crcMovesUptoRow, standIns := [], harness := (true, "acd8dd3fdfb8dedaf640770b5eba4a24e81026e2f2bf290e2693f2d1d2d2e312"), looks := true }, kinds := [], alts := [], laidByText := true, laidKinds := [.data], laidTests := true, laidLooks := .later }
def CrcMovesUptoCardSaid : Prop := Claim7.holds Tryd.pinned (.plain (OpenSpec.upto crcMovesSpec)) crcMovesUptoCard

/-- THE SECOND FORM's CARD OF 'turnstilelaw02.CrcZeros'. -/
def crcZerosUptoCard : Claim7 := { stood := { row := crcZerosUptoRow, standIns := [], harness := (true, "acd8dd3fdfb8dedaf640770b5eba4a24e81026e2f2bf290e2693f2d1d2d2e312"), looks := true }, kinds := [], alts := [], laidByText := true, laidKinds := [.data], laidTests := true, laidLooks := .later }
def CrcZerosUptoCardSaid : Prop := Claim7.holds Tryd.pinned (.plain (OpenSpec.upto crcZerosSpec)) crcZerosUptoCard

/-- THE SECOND FORM's CARD OF 'turnstilelaw02.CrcKeeps'. -/
def crcKeepsUptoCard : Claim7 := { stood := { row := crcKeepsUptoRow, standIns := [], harness := (true, "acd8dd3fdfb8dedaf640770b5eba4a24e81026e2f2bf290e2693f2d1d2d2e312"), looks := true }, kinds := [], alts := [], laidByText := true, laidKinds := [.data], laidTests := true, laidLooks := .later }
def CrcKeepsUptoCardSaid : Prop := Claim7.holds Tryd.pinned (.plain (OpenSpec.upto crcKeepsSpec)) crcKeepsUptoCard

/-- THE SECOND FORM's CARD OF 'turnstilelaw01.PackBytes'. -/
def packBytesUptoCard : Claim7 := { stood := { row := packBytesUptoRow, standIns := [], harness := (true, "acd8dd3fdfb8dedaf640770b5eba4a24e81026e2f2bf290e2693f2d1d2d2e312"), looks := true }, kinds := [], alts := [], laidByText := true, laidKinds := [.sentinel, .sentinel, .sentinel], laidTests := true, laidLooks := .later }
def PackBytesUptoCardSaid : Prop := Claim7.holds Tryd.pinned (.plain (OpenSpec.upto packBytesSpec)) packBytesUptoCard

/-- THE SECOND FORM's CARD OF 'turnstilelaw01.PackForm'. -/
def packFormUptoCard : Claim7 := { stood := { row := packFormUptoRow, standIns := [], harness := (true, "acd8dd3fdfb8dedaf640770b5eba4a24e81026e2f2bf290e2693f2d1d2d2e312"), looks := true }, kinds := [], alts := [], laidByText := true, laidKinds := [.sentinel, .sentinel, .sentinel], laidTests := true, laidLooks := .later }
def PackFormUptoCardSaid : Prop := Claim7.holds Tryd.pinned (.plain (OpenSpec.upto packFormSpec)) packFormUptoCard

/-- THE SECOND FORM's CARD OF 'turnstilelaw01.PackPuts'. -/
def packPutsUptoCard : Claim7 := { stood := { row := packPutsUptoRow, standIns := [], harness := (true, "acd8dd3fdfb8dedaf640770b5eba4a24e81026e2f2bf290e2693f2d1d2d2e312"), looks := true }, kinds := [], alts := [], laidByText := true, laidKinds := [.sentinel, .sentinel, .sentinel, .sentinel, .sentinel, .sentinel, .sentinel, .sentinel, .sentinel, .sentinel, .sentinel, .sentinel, .sentinel, .sentinel, .sentinel], laidTests := true, laidLooks := .later }
def PackPutsUptoCardSaid : Prop := Claim7.holds Tryd.pinned (.plain (OpenSpec.upto packPutsSpec)) packPutsUptoCard

/-- THE SECOND FORM's CARD OF 'turnstilelaw01.PackReads'. -/
def packReadsUptoCard : Claim7 := { stood := { row := packReadsUptoRow, standIns := [], harness := (true, "acd8dd3fdfb8dedaf640770b5eba4a24e81026e2f2bf290e2693f2d1d2d2e312"), looks := true }, kinds := [], alts := [], laidByText := true, laidKinds := [.sentinel, .sentinel, .sentinel, .sentinel, .sentinel, .sentinel, .sentinel, .sentinel, .sentinel, .sentinel, .sentinel, .sentinel, .sentinel, .sentinel, .sentinel], laidTests := true, laidLooks := .later }
def PackReadsUptoCardSaid : Prop := Claim7.holds Tryd.pinned (.plain (OpenSpec.upto packReadsSpec)) packReadsUptoCard

/-- THE SECOND FORM's CARD OF 'turnstilelaw01.PackBack'. -/
def packBackUptoCard : Claim7 := { stood := { row := packBackUptoRow, standIns := [], harness := (true, "acd8dd3fdfb8dedaf640770b5eba4a24e81026e2f2bf290e2693f2d1d2d2e312"), looks := true }, kinds := [], alts := [], laidByText := true, laidKinds := [.sentinel, .sentinel, .sentinel, .sentinel], laidTests := true, laidLooks := .later }
def PackBackUptoCardSaid : Prop := Claim7.holds Tryd.pinned (.plain (OpenSpec.upto packBackSpec)) packBackUptoCard

/-- THE SECOND FORM's CARD OF 'turnstilelaw01.PackShort'. -/
def packShortUptoCard : Claim7 := { stood := { row := packShortUptoRow, standIns := [], harness := (true, "acd8dd3fdfb8dedaf640770b5eba4a24e81026e2f2bf290e2693f2d1d2d2e312"), looks := true }, kinds := [], alts := [], laidByText := true, laidKinds := [.sentinel, .sentinel, .sentinel, .sentinel], laidTests := true, laidLooks := .later }
def PackShortUptoCardSaid : Prop := Claim7.holds Tryd.pinned (.plain (OpenSpec.upto packShortSpec)) packShortUptoCard
end Rows
end Go.Proofs.YtjkocjkfedcdoaaDoor
