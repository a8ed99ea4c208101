/-
  NARROWER THAN 'FOR EVERY INPUT', by the rows' own cells (each row's printed sentence says how): StreamFrames: laid · StreamFaults: laid.
  DERIVED. THE GIVEN ROWS OF THIS SEAT. 2 by the template 'for every input the law returns true; each argument reads behind the call as it read before'; 0 by the template 'total and deterministic' (their statements: YtngmhkhncimknaaDoorTotals.lean).
  GIVEN WITH THE SEED: the statements are not yours to turn. If you find one false, say at which input.
  Laid BY PROGRAM, IN A SANDBOX (cutbox-rows.mjs): the forced cells as the released guide's own fill.sh prints them over the translation c10140c9e89c84ad… (all of the seat's roots in one cut). By AI agents, Wed Nov 11 2026. No macro, syntax, notation, axiom, sorry.
-/
import Derived.Test.YtngmhkhncimknaaDoorChecked
import GoSem.Claim
import GoSem.ClaimJoined
import GoSem.ClaimMapViews
import Derived.JoinedTies
import Derived.KernelRfl
namespace Go.Proofs.YtngmhkhncimknaaDoor
/- THE CELL 'sum', in the pinned program and in every row, IS THE sha256 OF THE DUMP (.gsa) THAT YtngmhkhncimknaaDoorProg.lean LOADS. Nothing in Lean hashes anything: it is a label: what it is worth is what the hold of that sum in a sandbox is worth. -/
noncomputable def Tryd.pinned : Pinned := { name := "ytngmhkhncimknaadoor", sum := "c10140c9e89c84adc1e244c5336eeafe3adb4de53f2d2ef7614f450e104b5614", checked := Tryd.checked }
namespace Rows
def none {H : Type} : Left H := { results := [], args := [] }

/- WHAT THE LISTED PACKAGE-LEVEL VARIABLES READ AS WHEN THE CALL BEGINS. Each datum BY PROGRAM (the guide's laid-datum.mjs) off the statement by which the dump's own 'gosem.cut.vars' lays the variable. In a bare row this is a premise. The card (YtngmhkhncimknaaDoorCards.lean) ties it to the program's text. -/
def laid_turnstile_api_ErrArg {H : Type} : DataW H := .iface "*errors.errorString" (.ptr (.agg [.lit (.string [97, 110, 32, 97, 114, 103, 117, 109, 101, 110, 116, 32, 111, 117, 116, 115, 105, 100, 101, 32, 119, 104, 97, 116, 32, 116, 104, 101, 32, 99, 97, 108, 108, 32, 116, 97, 107, 101, 115])]))
def laid_turnstile_api_ErrLong {H : Type} : DataW H := .iface "*errors.errorString" (.ptr (.agg [.lit (.string [109, 111, 114, 101, 32, 116, 104, 97, 110, 32, 116, 104, 101, 32, 108, 105, 109, 105, 116])]))

/-- 'turnstilelaw21.StreamFrames': WHATEVER THE INPUT: true; the input reads as it did. -/
def streamFramesSpec : ChangeSpec := { name := "streamFrames", fn := fun _ => fun
  | [d1, d2, d3] => { results := [.lit (.bool true)], args := [d1, d2, d3] }
  | _ => none }
def streamFramesRow : OpenClaim := { program := "ytngmhkhncimknaadoor", sum := "c10140c9e89c84adc1e244c5336eeafe3adb4de53f2d2ef7614f450e104b5614", func := "turnstile/turnstilelaw21.StreamFrames", spec := "streamFrames", unfollowed := true, recurses := true, named := ["turnstile/api.ErrArg", "turnstile/api.ErrLong"], leaving := true, apart := false, laid := [("turnstile/api.ErrArg", laid_turnstile_api_ErrArg), ("turnstile/api.ErrLong", laid_turnstile_api_ErrLong)] }
def StreamFramesSaid : Prop := streamFramesRow.holds Tryd.pinned (OpenSpec.ofChange streamFramesSpec)

/-- ITS FALSE NEIGHBOUR: 'it returns false'. Refute it at one input. -/
def streamFramesWrong : ChangeSpec := { name := "streamFrames", fn := fun _ => fun
  | [d1, d2, d3] => { results := [.lit (.bool false)], args := [d1, d2, d3] }
  | _ => none }
def StreamFramesWrongFalsely : Prop := streamFramesRow.holds Tryd.pinned (OpenSpec.ofChange streamFramesWrong)

/-- 'turnstilelaw21.StreamFaults': WHATEVER THE INPUT: true; the input reads as it did. -/
def streamFaultsSpec : ChangeSpec := { name := "streamFaults", fn := fun _ => fun
  | [d1, d2, d3] => { results := [.lit (.bool true)], args := [d1, d2, d3] }
  | _ => none }
def streamFaultsRow : OpenClaim := { program := "ytngmhkhncimknaadoor", sum := "c10140c9e89c84adc1e244c5336eeafe3adb4de53f2d2ef7614f450e104b5614", func := "turnstile/turnstilelaw21.StreamFaults", spec := "streamFaults", unfollowed := true, recurses := true, named := ["turnstile/api.ErrArg", "turnstile/api.ErrLong"], leaving := true, apart := false, laid := [("turnstile/api.ErrArg", laid_turnstile_api_ErrArg), ("turnstile/api.ErrLong", laid_turnstile_api_ErrLong)] }
def StreamFaultsSaid : Prop := streamFaultsRow.holds Tryd.pinned (OpenSpec.ofChange streamFaultsSpec)

/-- ITS FALSE NEIGHBOUR: 'it returns false'. Refute it at one input. -/
def streamFaultsWrong : ChangeSpec := { name := "streamFaults", fn := fun _ => fun
  | [d1, d2, d3] => { results := [.lit (.bool false)], args := [d1, d2, d3] }
  | _ => none }
def StreamFaultsWrongFalsely : Prop := streamFaultsRow.holds Tryd.pinned (OpenSpec.ofChange streamFaultsWrong)

/- THE SECOND FORM. 'bulk': how many values and letters a reading holds, each counted each time it is reached (what is shared counts as often as it is met; a slice's spare places count too). A statement '..UptoSaid' is the law's where the arguments, and the package variables that the reading takes, are together of bulk at most 1048576: NARROWER than '..Said'. Prove '..Said' where nothing that the law and all that it calls make is longer than what came in: it says more and counts as full. Else prove '..UptoSaid'. A law counts once. -/
mutual
def uptoBulk {H : Type} : DataW H → Nat
  | .lit (.string bytes) => bytes.length + 1
  | .lit _ => 1
  | .nil => 1
  | .ptr d => uptoBulk d + 1
  | .slice elems spare => uptoBulkAll elems + uptoBulkAll spare + 1
  | .agg parts => uptoBulkAll parts + 1
  | .iface _ d => uptoBulk d + 1
  | .map entries => uptoBulkEntries entries + 1
  | .held _ => 1
def uptoBulkAll {H : Type} : List (DataW H) → Nat
  | [] => 0
  | d :: r => uptoBulk d + uptoBulkAll r
def uptoBulkEntries {H : Type} : List (Lit × DataW H) → Nat
  | [] => 0
  | x :: r => uptoBulkEntry x + uptoBulkEntries r
def uptoBulkEntry {H : Type} : Lit × DataW H → Nat
  | (.string bytes, d) => bytes.length + uptoBulk d + 1
  | (_, d) => uptoBulk d + 1
 end
def uptoSmall : (H : Type) → List (DataW H) → Bool := fun _ ds => decide (uptoBulkAll ds ≤ 1048576)
def OpenSpec.upto (s : _root_.Go.ChangeSpec) : _root_.Go.OpenSpec := { _root_.Go.OpenSpec.ofChange s with cond := some uptoSmall }

/-- 'turnstilelaw21.StreamFrames', WHERE WHAT IT READS IS OF BULK AT MOST 1048576: true; the input reads as it did. -/
def streamFramesUptoRow : OpenClaim := { program := "ytngmhkhncimknaadoor", sum := "c10140c9e89c84adc1e244c5336eeafe3adb4de53f2d2ef7614f450e104b5614", func := "turnstile/turnstilelaw21.StreamFrames", spec := "streamFrames", unfollowed := true, recurses := true, named := ["turnstile/api.ErrArg", "turnstile/api.ErrLong"], leaving := true, apart := false, laid := [("turnstile/api.ErrArg", laid_turnstile_api_ErrArg), ("turnstile/api.ErrLong", laid_turnstile_api_ErrLong)], narrowed := true }
def StreamFramesUptoSaid : Prop := streamFramesUptoRow.holds Tryd.pinned (OpenSpec.upto streamFramesSpec)

/-- 'turnstilelaw21.StreamFaults', WHERE WHAT IT READS IS OF BULK AT MOST 1048576: true; the input reads as it did. -/
def streamFaultsUptoRow : OpenClaim := { program := "ytngmhkhncimknaadoor", sum := "c10140c9e89c84adc1e244c5336eeafe3adb4de53f2d2ef7614f450e104b5614", func := "turnstile/turnstilelaw21.StreamFaults", spec := "streamFaults", unfollowed := true, recurses := true, named := ["turnstile/api.ErrArg", "turnstile/api.ErrLong"], leaving := true, apart := false, laid := [("turnstile/api.ErrArg", laid_turnstile_api_ErrArg), ("turnstile/api.ErrLong", laid_turnstile_api_ErrLong)], narrowed := true }
def StreamFaultsUptoSaid : Prop := streamFaultsUptoRow.holds Tryd.pinned (OpenSpec.upto streamFaultsSpec)

end Rows
end Go.Proofs.YtngmhkhncimknaaDoor
