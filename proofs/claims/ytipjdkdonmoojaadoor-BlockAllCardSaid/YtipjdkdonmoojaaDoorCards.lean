/-
  DERIVED. GIVEN WITH THE SEED: THE CARDS: each row of YtipjdkdonmoojaaDoorRows.lean that lists a variable, with what it lists TIED to the program's text (the seventh form; the later family's looks); each row that meets fmt, with fmt's text TOLD by the authors' own Lean function (tested against real Go, not proved from fmt's source: count such statements apart). THE CARD IS WHAT COUNTS. Prove the row's statement (the work); the ties are given (YtipjdkdonmoojaaDoorTie.lean); close each card by the builder's one call (the guide's Derived/Test/ToyasCard.lean, 'card_holds'). Laid BY PROGRAM, IN A SANDBOX (cutbox-door.mjs). By AI agents, Wed Nov 11 2026. No macro, syntax, notation, axiom, sorry.
-/
import Derived.Test.YtipjdkdonmoojaaDoorRows
import GoSem.ClaimSeven
namespace Go.Proofs.YtipjdkdonmoojaaDoor
namespace Rows

/-- THE TIED CARD OF 'turnstilelaw08.BlockAll'. -/
def blockAllCard : Claim7 := { stood := { row := blockAllRow, standIns := [], harness := (true, "b3196627c102763b385f5e821b6f8f90e440b54a9859b70106e33646666acf7c"), looks := true }, kinds := [], alts := [], laidByText := true, laidKinds := [.data, .data, .sentinel, .sentinel, .sentinel, .sentinel, .sentinel, .sentinel, .sentinel, .sentinel, .sentinel, .sentinel, .sentinel, .sentinel, .sentinel, .sentinel, .sentinel, .pinned], laidTests := true, laidLooks := .later }
def BlockAllCardSaid : Prop := Claim7.holds Tryd.pinned (.plain (OpenSpec.ofChange blockAllSpec)) blockAllCard

/-- THE TIED CARD OF 'turnstilelaw08.BlockBack'. -/
def blockBackCard : Claim7 := { stood := { row := blockBackRow, standIns := [], harness := (true, "b3196627c102763b385f5e821b6f8f90e440b54a9859b70106e33646666acf7c"), looks := true }, kinds := [], alts := [], laidByText := true, laidKinds := [.data, .data, .sentinel, .sentinel, .sentinel, .sentinel, .sentinel, .sentinel, .pinned], laidTests := true, laidLooks := .later }
def BlockBackCardSaid : Prop := Claim7.holds Tryd.pinned (.plain (OpenSpec.ofChange blockBackSpec)) blockBackCard

/-- THE TIED CARD OF 'turnstilelaw08.BlockForth'. -/
def blockForthCard : Claim7 := { stood := { row := blockForthRow, standIns := [], harness := (true, "b3196627c102763b385f5e821b6f8f90e440b54a9859b70106e33646666acf7c"), looks := true }, kinds := [], alts := [], laidByText := true, laidKinds := [.data, .data, .sentinel, .sentinel, .sentinel, .sentinel, .sentinel, .sentinel, .pinned], laidTests := true, laidLooks := .later }
def BlockForthCardSaid : Prop := Claim7.holds Tryd.pinned (.plain (OpenSpec.ofChange blockForthSpec)) blockForthCard

/-- THE TIED CARD OF 'turnstilelaw08.BlockTurned'. -/
def blockTurnedCard : Claim7 := { stood := { row := blockTurnedRow, standIns := [], harness := (true, "b3196627c102763b385f5e821b6f8f90e440b54a9859b70106e33646666acf7c"), looks := true }, kinds := [], alts := [], laidByText := true, laidKinds := [.data, .data, .sentinel, .sentinel, .sentinel, .sentinel, .sentinel, .sentinel, .pinned], laidTests := true, laidLooks := .later }
def BlockTurnedCardSaid : Prop := Claim7.holds Tryd.pinned (.plain (OpenSpec.ofChange blockTurnedSpec)) blockTurnedCard

/-- THE TIED CARD OF 'turnstilelaw08.BlockPacks'. -/
def blockPacksCard : Claim7 := { stood := { row := blockPacksRow, standIns := [], harness := (true, "b3196627c102763b385f5e821b6f8f90e440b54a9859b70106e33646666acf7c"), looks := true }, kinds := [], alts := [], laidByText := true, laidKinds := [.data, .data, .sentinel, .sentinel, .sentinel, .sentinel, .sentinel, .sentinel, .pinned], laidTests := true, laidLooks := .later }
def BlockPacksCardSaid : Prop := Claim7.holds Tryd.pinned (.plain (OpenSpec.ofChange blockPacksSpec)) blockPacksCard

/-- THE TIED CARD OF 'turnstilelaw08.BlockFront'. -/
def blockFrontCard : Claim7 := { stood := { row := blockFrontRow, standIns := [], harness := (true, "b3196627c102763b385f5e821b6f8f90e440b54a9859b70106e33646666acf7c"), looks := true }, kinds := [], alts := [], laidByText := true, laidKinds := [.data, .data, .sentinel, .sentinel, .sentinel, .sentinel, .sentinel, .sentinel, .pinned], laidTests := true, laidLooks := .later }
def BlockFrontCardSaid : Prop := Claim7.holds Tryd.pinned (.plain (OpenSpec.ofChange blockFrontSpec)) blockFrontCard

/-- THE SECOND FORM's CARD OF 'turnstilelaw08.BlockAll'. -/
def blockAllUptoCard : Claim7 := { stood := { row := blockAllUptoRow, standIns := [], harness := (true, "b3196627c102763b385f5e821b6f8f90e440b54a9859b70106e33646666acf7c"), looks := true }, kinds := [], alts := [], laidByText := true, laidKinds := [.data, .data, .sentinel, .sentinel, .sentinel, .sentinel, .sentinel, .sentinel, .sentinel, .sentinel, .sentinel, .sentinel, .sentinel, .sentinel, .sentinel, .sentinel, .sentinel, .pinned], laidTests := true, laidLooks := .later }
def BlockAllUptoCardSaid : Prop := Claim7.holds Tryd.pinned (.plain (OpenSpec.upto blockAllSpec)) blockAllUptoCard

/-- THE SECOND FORM's CARD OF 'turnstilelaw08.BlockBack'. -/
def blockBackUptoCard : Claim7 := { stood := { row := blockBackUptoRow, standIns := [], harness := (true, "b3196627c102763b385f5e821b6f8f90e440b54a9859b70106e33646666acf7c"), looks := true }, kinds := [], alts := [], laidByText := true, laidKinds := [.data, .data, .sentinel, .sentinel, .sentinel, .sentinel, .sentinel, .sentinel, .pinned], laidTests := true, laidLooks := .later }
def BlockBackUptoCardSaid : Prop := Claim7.holds Tryd.pinned (.plain (OpenSpec.upto blockBackSpec)) blockBackUptoCard

/-- THE SECOND FORM's CARD OF 'turnstilelaw08.BlockForth'. -/
def blockForthUptoCard : Claim7 := { stood := { row := blockForthUptoRow, standIns := [], harness := (true, "b3196627c102763b385f5e821b6f8f90e440b54a9859b70106e33646666acf7c"), looks := true }, kinds := [], alts := [], laidByText := true, laidKinds := [.data, .data, .sentinel, .sentinel, .sentinel, .sentinel, .sentinel, .sentinel, .pinned], laidTests := true, laidLooks := .later }
def BlockForthUptoCardSaid : Prop := Claim7.holds Tryd.pinned (.plain (OpenSpec.upto blockForthSpec)) blockForthUptoCard

/-- THE SECOND FORM's CARD OF 'turnstilelaw08.BlockTurned'. -/
def blockTurnedUptoCard : Claim7 := { stood := { row := blockTurnedUptoRow, standIns := [], harness := (true, "b3196627c102763b385f5e821b6f8f90e440b54a9859b70106e33646666acf7c"), looks := true }, kinds := [], alts := [], laidByText := true, laidKinds := [.data, .data, .sentinel, .sentinel, .sentinel, .sentinel, .sentinel, .sentinel, .pinned], laidTests := true, laidLooks := .later }
def BlockTurnedUptoCardSaid : Prop := Claim7.holds Tryd.pinned (.plain (OpenSpec.upto blockTurnedSpec)) blockTurnedUptoCard

/-- THE SECOND FORM's CARD OF 'turnstilelaw08.BlockPacks'. -/
def blockPacksUptoCard : Claim7 := { stood := { row := blockPacksUptoRow, standIns := [], harness := (true, "b3196627c102763b385f5e821b6f8f90e440b54a9859b70106e33646666acf7c"), looks := true }, kinds := [], alts := [], laidByText := true, laidKinds := [.data, .data, .sentinel, .sentinel, .sentinel, .sentinel, .sentinel, .sentinel, .pinned], laidTests := true, laidLooks := .later }
def BlockPacksUptoCardSaid : Prop := Claim7.holds Tryd.pinned (.plain (OpenSpec.upto blockPacksSpec)) blockPacksUptoCard

/-- THE SECOND FORM's CARD OF 'turnstilelaw08.BlockFront'. -/
def blockFrontUptoCard : Claim7 := { stood := { row := blockFrontUptoRow, standIns := [], harness := (true, "b3196627c102763b385f5e821b6f8f90e440b54a9859b70106e33646666acf7c"), looks := true }, kinds := [], alts := [], laidByText := true, laidKinds := [.data, .data, .sentinel, .sentinel, .sentinel, .sentinel, .sentinel, .sentinel, .pinned], laidTests := true, laidLooks := .later }
def BlockFrontUptoCardSaid : Prop := Claim7.holds Tryd.pinned (.plain (OpenSpec.upto blockFrontSpec)) blockFrontUptoCard
end Rows
end Go.Proofs.YtipjdkdonmoojaaDoor
