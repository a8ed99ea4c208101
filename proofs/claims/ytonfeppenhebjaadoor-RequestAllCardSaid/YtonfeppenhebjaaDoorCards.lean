/-
  DERIVED. GIVEN WITH THE SEED: THE CARDS: each row of YtonfeppenhebjaaDoorRows.lean that lists a variable, with what it lists TIED to the program's text (the seventh form; the later family's looks); each row that meets fmt, with fmt's text TOLD by the authors' own Lean function (tested against real Go, not proved from fmt's source: count such statements apart). THE CARD IS WHAT COUNTS. Prove the row's statement (the work); the ties are given (YtonfeppenhebjaaDoorTie.lean); close each card by the builder's one call (the guide's Derived/Test/ToyasCard.lean, 'card_holds'). Laid BY PROGRAM, IN A SANDBOX (cutbox-door.mjs). By AI agents, Wed Nov 11 2026. No macro, syntax, notation, axiom, sorry.
-/
import Derived.Test.YtonfeppenhebjaaDoorRows
import GoSem.ClaimSeven
namespace Go.Proofs.YtonfeppenhebjaaDoor
namespace Rows

/-- THE TIED CARD OF 'turnstilelaw20.RequestAll'. -/
def requestAllCard : Claim7 := { stood := { row := requestAllRow, standIns := [], harness := (true, "2b54698fb423ea9924f88c9bb0b4fc391fa5c071370ed9da1b9e50863f80f42c"), looks := true }, kinds := [], alts := [], laidByText := true, laidKinds := [.sentinel, .sentinel, .sentinel, .sentinel, .sentinel, .sentinel, .sentinel, .sentinel, .sentinel, .sentinel, .sentinel, .sentinel, .sentinel, .sentinel, .sentinel], laidTests := true, laidLooks := .later }
def RequestAllCardSaid : Prop := Claim7.holds Tryd.pinned (.plain (OpenSpec.ofChange requestAllSpec)) requestAllCard

/-- THE TIED CARD OF 'turnstilelaw20.RequestBack'. -/
def requestBackCard : Claim7 := { stood := { row := requestBackRow, standIns := [], harness := (true, "2b54698fb423ea9924f88c9bb0b4fc391fa5c071370ed9da1b9e50863f80f42c"), looks := true }, kinds := [], alts := [], laidByText := true, laidKinds := [.sentinel, .sentinel, .sentinel, .sentinel, .sentinel], laidTests := true, laidLooks := .later }
def RequestBackCardSaid : Prop := Claim7.holds Tryd.pinned (.plain (OpenSpec.ofChange requestBackSpec)) requestBackCard

/-- THE TIED CARD OF 'turnstilelaw20.RequestForth'. -/
def requestForthCard : Claim7 := { stood := { row := requestForthRow, standIns := [], harness := (true, "2b54698fb423ea9924f88c9bb0b4fc391fa5c071370ed9da1b9e50863f80f42c"), looks := true }, kinds := [], alts := [], laidByText := true, laidKinds := [.sentinel, .sentinel, .sentinel, .sentinel, .sentinel], laidTests := true, laidLooks := .later }
def RequestForthCardSaid : Prop := Claim7.holds Tryd.pinned (.plain (OpenSpec.ofChange requestForthSpec)) requestForthCard

/-- THE TIED CARD OF 'turnstilelaw20.RequestReply'. -/
def requestReplyCard : Claim7 := { stood := { row := requestReplyRow, standIns := [], harness := (true, "2b54698fb423ea9924f88c9bb0b4fc391fa5c071370ed9da1b9e50863f80f42c"), looks := true }, kinds := [], alts := [], laidByText := true, laidKinds := [.sentinel, .sentinel, .sentinel, .sentinel, .sentinel], laidTests := true, laidLooks := .later }
def RequestReplyCardSaid : Prop := Claim7.holds Tryd.pinned (.plain (OpenSpec.ofChange requestReplySpec)) requestReplyCard

/-- THE TIED CARD OF 'turnstilelaw20.RequestCuts'. -/
def requestCutsCard : Claim7 := { stood := { row := requestCutsRow, standIns := [], harness := (true, "2b54698fb423ea9924f88c9bb0b4fc391fa5c071370ed9da1b9e50863f80f42c"), looks := true }, kinds := [], alts := [], laidByText := true, laidKinds := [.sentinel, .sentinel, .sentinel, .sentinel, .sentinel], laidTests := true, laidLooks := .later }
def RequestCutsCardSaid : Prop := Claim7.holds Tryd.pinned (.plain (OpenSpec.ofChange requestCutsSpec)) requestCutsCard

/-- THE SECOND FORM's CARD OF 'turnstilelaw20.RequestAll'. -/
def requestAllUptoCard : Claim7 := { stood := { row := requestAllUptoRow, standIns := [], harness := (true, "2b54698fb423ea9924f88c9bb0b4fc391fa5c071370ed9da1b9e50863f80f42c"), looks := true }, kinds := [], alts := [], laidByText := true, laidKinds := [.sentinel, .sentinel, .sentinel, .sentinel, .sentinel, .sentinel, .sentinel, .sentinel, .sentinel, .sentinel, .sentinel, .sentinel, .sentinel, .sentinel, .sentinel], laidTests := true, laidLooks := .later }
def RequestAllUptoCardSaid : Prop := Claim7.holds Tryd.pinned (.plain (OpenSpec.upto requestAllSpec)) requestAllUptoCard

/-- THE SECOND FORM's CARD OF 'turnstilelaw20.RequestBack'. -/
def requestBackUptoCard : Claim7 := { stood := { row := requestBackUptoRow, standIns := [], harness := (true, "2b54698fb423ea9924f88c9bb0b4fc391fa5c071370ed9da1b9e50863f80f42c"), looks := true }, kinds := [], alts := [], laidByText := true, laidKinds := [.sentinel, .sentinel, .sentinel, .sentinel, .sentinel], laidTests := true, laidLooks := .later }
def RequestBackUptoCardSaid : Prop := Claim7.holds Tryd.pinned (.plain (OpenSpec.upto requestBackSpec)) requestBackUptoCard

/-- THE SECOND FORM's CARD OF 'turnstilelaw20.RequestForth'. -/
def requestForthUptoCard : Claim7 := { stood := { row := requestForthUptoRow, standIns := [], harness := (true, "2b54698fb423ea9924f88c9bb0b4fc391fa5c071370ed9da1b9e50863f80f42c"), looks := true }, kinds := [], alts := [], laidByText := true, laidKinds := [.sentinel, .sentinel, .sentinel, .sentinel, .sentinel], laidTests := true, laidLooks := .later }
def RequestForthUptoCardSaid : Prop := Claim7.holds Tryd.pinned (.plain (OpenSpec.upto requestForthSpec)) requestForthUptoCard

/-- THE SECOND FORM's CARD OF 'turnstilelaw20.RequestReply'. -/
def requestReplyUptoCard : Claim7 := { stood := { row := requestReplyUptoRow, standIns := [], harness := (true, "2b54698fb423ea9924f88c9bb0b4fc391fa5c071370ed9da1b9e50863f80f42c"), looks := true }, kinds := [], alts := [], laidByText := true, laidKinds := [.sentinel, .sentinel, .sentinel, .sentinel, .sentinel], laidTests := true, laidLooks := .later }
def RequestReplyUptoCardSaid : Prop := Claim7.holds Tryd.pinned (.plain (OpenSpec.upto requestReplySpec)) requestReplyUptoCard

/-- THE SECOND FORM's CARD OF 'turnstilelaw20.RequestCuts'. -/
def requestCutsUptoCard : Claim7 := { stood := { row := requestCutsUptoRow, standIns := [], harness := (true, "2b54698fb423ea9924f88c9bb0b4fc391fa5c071370ed9da1b9e50863f80f42c"), looks := true }, kinds := [], alts := [], laidByText := true, laidKinds := [.sentinel, .sentinel, .sentinel, .sentinel, .sentinel], laidTests := true, laidLooks := .later }
def RequestCutsUptoCardSaid : Prop := Claim7.holds Tryd.pinned (.plain (OpenSpec.upto requestCutsSpec)) requestCutsUptoCard
end Rows
end Go.Proofs.YtonfeppenhebjaaDoor
