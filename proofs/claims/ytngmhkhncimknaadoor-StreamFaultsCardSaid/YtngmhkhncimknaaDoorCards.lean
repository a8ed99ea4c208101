/-
  DERIVED. GIVEN WITH THE SEED: THE CARDS: each row of YtngmhkhncimknaaDoorRows.lean that lists a variable, with what it lists TIED to the program's text (the seventh form; the later family's looks); each row that meets fmt, with fmt's text TOLD by the authors' own Lean function (tested against real Go, not proved from fmt's source: count such statements apart). THE CARD IS WHAT COUNTS. Prove the row's statement (the work); the ties are given (YtngmhkhncimknaaDoorTie.lean); close each card by the builder's one call (the guide's Derived/Test/ToyasCard.lean, 'card_holds'). Laid BY PROGRAM, IN A SANDBOX (cutbox-door.mjs). By AI agents, Wed Nov 11 2026. No macro, syntax, notation, axiom, sorry.
-/
import Derived.Test.YtngmhkhncimknaaDoorRows
import GoSem.ClaimSeven
namespace Go.Proofs.YtngmhkhncimknaaDoor
namespace Rows

/-- THE TIED CARD OF 'turnstilelaw21.StreamFrames'. -/
def streamFramesCard : Claim7 := { stood := { row := streamFramesRow, standIns := [], harness := (true, "e7f48c7d7ade21d97d3a2aca74c7452a74c2f62ed7b58e8ee6c6457a4c7c3aa0"), looks := false }, kinds := [], alts := [], goes := true, laidByText := true, laidKinds := [.sentinel, .sentinel], laidTests := true, laidLooks := .later }
def StreamFramesCardSaid : Prop := Claim7.holds Tryd.pinned (.plain (OpenSpec.ofChange streamFramesSpec)) streamFramesCard

/-- THE TIED CARD OF 'turnstilelaw21.StreamFaults'. -/
def streamFaultsCard : Claim7 := { stood := { row := streamFaultsRow, standIns := [], harness := (true, "e7f48c7d7ade21d97d3a2aca74c7452a74c2f62ed7b58e8ee6c6457a4c7c3aa0"), looks := false }, kinds := [], alts := [], goes := true, laidByText := true, laidKinds := [.sentinel, .sentinel], laidTests := true, laidLooks := .later }
def StreamFaultsCardSaid : Prop := Claim7.holds Tryd.pinned (.plain (OpenSpec.ofChange streamFaultsSpec)) streamFaultsCard

/-- THE SECOND FORM's CARD OF 'turnstilelaw21.StreamFrames'. -/
def streamFramesUptoCard : Claim7 := { stood := { row := streamFramesUptoRow, standIns := [], harness := (true, "e7f48c7d7ade21d97d3a2aca74c7452a74c2f62ed7b58e8ee6c6457a4c7c3aa0"), looks := false }, kinds := [], alts := [], goes := true, laidByText := true, laidKinds := [.sentinel, .sentinel], laidTests := true, laidLooks := .later }
def StreamFramesUptoCardSaid : Prop := Claim7.holds Tryd.pinned (.plain (OpenSpec.upto streamFramesSpec)) streamFramesUptoCard

/-- THE SECOND FORM's CARD OF 'turnstilelaw21.StreamFaults'. -/
def streamFaultsUptoCard : Claim7 := { stood := { row := streamFaultsUptoRow, standIns := [], harness := (true, "e7f48c7d7ade21d97d3a2aca74c7452a74c2f62ed7b58e8ee6c6457a4c7c3aa0"), looks := false }, kinds := [], alts := [], goes := true, laidByText := true, laidKinds := [.sentinel, .sentinel], laidTests := true, laidLooks := .later }
def StreamFaultsUptoCardSaid : Prop := Claim7.holds Tryd.pinned (.plain (OpenSpec.upto streamFaultsSpec)) streamFaultsUptoCard
end Rows
end Go.Proofs.YtngmhkhncimknaaDoor
