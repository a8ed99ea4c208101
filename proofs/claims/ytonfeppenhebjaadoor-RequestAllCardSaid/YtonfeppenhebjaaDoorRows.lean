/-
  NARROWER THAN 'FOR EVERY INPUT', by the rows' own cells (each row's printed sentence says how): RequestAll: laid · RequestBack: laid · RequestForth: laid · RequestReply: laid · RequestCuts: laid.
  DERIVED. THE GIVEN ROWS OF THIS SEAT. 5 by the template 'for every input the law returns true; each argument reads behind the call as it read before'; 0 by the template 'total and deterministic' (their statements: YtonfeppenhebjaaDoorTotals.lean).
  GIVEN WITH THE SEED: the statements are not yours to turn. If you find one false, say at which input.
  Laid BY PROGRAM, IN A SANDBOX (cutbox-rows.mjs): the forced cells as the released guide's own fill.sh prints them over the translation b32e9e7da02e46e0… (all of the seat's roots in one cut). By AI agents, Wed Nov 11 2026. No macro, syntax, notation, axiom, sorry.
-/
import Derived.Test.YtonfeppenhebjaaDoorChecked
import GoSem.Claim
import GoSem.ClaimJoined
import GoSem.ClaimMapViews
import Derived.JoinedTies
import Derived.KernelRfl
namespace Go.Proofs.YtonfeppenhebjaaDoor
/- THE CELL 'sum', in the pinned program and in every row, IS THE sha256 OF THE DUMP (.gsa) THAT YtonfeppenhebjaaDoorProg.lean LOADS. Nothing in Lean hashes anything: it is a label: what it is worth is what the hold of that sum in a sandbox is worth. -/
noncomputable def Tryd.pinned : Pinned := { name := "ytonfeppenhebjaadoor", sum := "b32e9e7da02e46e0583a9a2a484504155e95f18e0a2b747cc97d7655996582a2", checked := Tryd.checked }
namespace Rows
def none {H : Type} : Left H := { results := [], args := [] }

/- WHAT THE LISTED PACKAGE-LEVEL VARIABLES READ AS WHEN THE CALL BEGINS. Each datum BY PROGRAM (the guide's laid-datum.mjs) off the statement by which the dump's own 'gosem.cut.vars' lays the variable. In a bare row this is a premise. The card (YtonfeppenhebjaaDoorCards.lean) ties it to the program's text. -/
def laid_turnstile_api_ErrArg {H : Type} : DataW H := .iface "*errors.errorString" (.ptr (.agg [.lit (.string [97, 110, 32, 97, 114, 103, 117, 109, 101, 110, 116, 32, 111, 117, 116, 115, 105, 100, 101, 32, 119, 104, 97, 116, 32, 116, 104, 101, 32, 99, 97, 108, 108, 32, 116, 97, 107, 101, 115])]))
def laid_turnstile_api_ErrShort {H : Type} : DataW H := .iface "*errors.errorString" (.ptr (.agg [.lit (.string [116, 104, 101, 32, 98, 121, 116, 101, 115, 32, 101, 110, 100, 32, 116, 111, 111, 32, 101, 97, 114, 108, 121])]))
def laid_turnstile_api_ErrForm {H : Type} : DataW H := .iface "*errors.errorString" (.ptr (.agg [.lit (.string [116, 104, 101, 32, 98, 121, 116, 101, 115, 32, 104, 97, 118, 101, 32, 97, 110, 111, 116, 104, 101, 114, 32, 102, 111, 114, 109])]))
def laid_turnstile_api_ErrLong {H : Type} : DataW H := .iface "*errors.errorString" (.ptr (.agg [.lit (.string [109, 111, 114, 101, 32, 116, 104, 97, 110, 32, 116, 104, 101, 32, 108, 105, 109, 105, 116])]))
def laid_turnstile_api_ErrSum {H : Type} : DataW H := .iface "*errors.errorString" (.ptr (.agg [.lit (.string [116, 104, 101, 32, 115, 117, 109, 32, 105, 115, 32, 97, 110, 111, 116, 104, 101, 114, 32, 111, 110, 101])]))
def laid_turnstile_api_ErrIo {H : Type} : DataW H := .iface "*errors.errorString" (.ptr (.agg [.lit (.string [116, 104, 101, 32, 100, 105, 115, 107, 32, 102, 97, 105, 108, 101, 100])]))
def laid_turnstile_api_ErrDown {H : Type} : DataW H := .iface "*errors.errorString" (.ptr (.agg [.lit (.string [116, 104, 101, 32, 112, 111, 119, 101, 114, 32, 105, 115, 32, 111, 102, 102])]))
def laid_turnstile_api_ErrGone {H : Type} : DataW H := .iface "*errors.errorString" (.ptr (.agg [.lit (.string [110, 111, 32, 115, 117, 99, 104, 32, 102, 105, 108, 101])]))
def laid_turnstile_api_ErrThere {H : Type} : DataW H := .iface "*errors.errorString" (.ptr (.agg [.lit (.string [116, 104, 101, 114, 101, 32, 105, 115, 32, 115, 117, 99, 104, 32, 97, 32, 102, 105, 108, 101])]))
def laid_turnstile_api_ErrImage {H : Type} : DataW H := .iface "*errors.errorString" (.ptr (.agg [.lit (.string [110, 111, 32, 105, 109, 97, 103, 101, 32, 111, 102, 32, 97, 32, 100, 105, 115, 107])]))
def laid_turnstile_api_ErrGap {H : Type} : DataW H := .iface "*errors.errorString" (.ptr (.agg [.lit (.string [114, 101, 99, 111, 114, 100, 115, 32, 97, 114, 101, 32, 109, 105, 115, 115, 105, 110, 103])]))
def laid_turnstile_api_ErrLog {H : Type} : DataW H := .iface "*errors.errorString" (.ptr (.agg [.lit (.string [97, 32, 114, 101, 99, 111, 114, 100, 32, 116, 104, 97, 116, 32, 105, 115, 32, 110, 111, 110, 101])]))
def laid_turnstile_api_ErrSick {H : Type} : DataW H := .iface "*errors.errorString" (.ptr (.agg [.lit (.string [97, 110, 32, 101, 97, 114, 108, 105, 101, 114, 32, 119, 114, 105, 116, 101, 32, 102, 97, 105, 108, 101, 100])]))
def laid_turnstile_api_ErrConfig {H : Type} : DataW H := .iface "*errors.errorString" (.ptr (.agg [.lit (.string [110, 111, 32, 99, 111, 110, 102, 105, 103, 117, 114, 97, 116, 105, 111, 110])]))
def laid_turnstile_api_ErrNil {H : Type} : DataW H := .iface "*errors.errorString" (.ptr (.agg [.lit (.string [110, 111, 32, 111, 98, 106, 101, 99, 116])]))

/-- 'turnstilelaw20.RequestAll': WHATEVER THE INPUT: true; the input reads as it did. -/
def requestAllSpec : ChangeSpec := { name := "requestAll", fn := fun _ => fun
  | [d] => { results := [.lit (.bool true)], args := [d] }
  | _ => none }
def requestAllRow : OpenClaim := { program := "ytonfeppenhebjaadoor", sum := "b32e9e7da02e46e0583a9a2a484504155e95f18e0a2b747cc97d7655996582a2", func := "turnstile/turnstilelaw20.RequestAll", spec := "requestAll", named := ["turnstile/api.ErrArg", "turnstile/api.ErrLong", "turnstile/api.ErrForm", "turnstile/api.ErrShort", "turnstile/api.ErrNil", "turnstile/api.ErrSum", "turnstile/api.ErrIo", "turnstile/api.ErrDown", "turnstile/api.ErrGone", "turnstile/api.ErrThere", "turnstile/api.ErrImage", "turnstile/api.ErrGap", "turnstile/api.ErrLog", "turnstile/api.ErrSick", "turnstile/api.ErrConfig"], apart := false, laid := [("turnstile/api.ErrArg", laid_turnstile_api_ErrArg), ("turnstile/api.ErrShort", laid_turnstile_api_ErrShort), ("turnstile/api.ErrForm", laid_turnstile_api_ErrForm), ("turnstile/api.ErrLong", laid_turnstile_api_ErrLong), ("turnstile/api.ErrSum", laid_turnstile_api_ErrSum), ("turnstile/api.ErrIo", laid_turnstile_api_ErrIo), ("turnstile/api.ErrDown", laid_turnstile_api_ErrDown), ("turnstile/api.ErrGone", laid_turnstile_api_ErrGone), ("turnstile/api.ErrThere", laid_turnstile_api_ErrThere), ("turnstile/api.ErrImage", laid_turnstile_api_ErrImage), ("turnstile/api.ErrGap", laid_turnstile_api_ErrGap), ("turnstile/api.ErrLog", laid_turnstile_api_ErrLog), ("turnstile/api.ErrSick", laid_turnstile_api_ErrSick), ("turnstile/api.ErrConfig", laid_turnstile_api_ErrConfig), ("turnstile/api.ErrNil", laid_turnstile_api_ErrNil)] }
def RequestAllSaid : Prop := requestAllRow.holds Tryd.pinned (OpenSpec.ofChange requestAllSpec)

/-- ITS FALSE NEIGHBOUR: 'it returns false'. Refute it at one input. -/
def requestAllWrong : ChangeSpec := { name := "requestAll", fn := fun _ => fun
  | [d] => { results := [.lit (.bool false)], args := [d] }
  | _ => none }
def RequestAllWrongFalsely : Prop := requestAllRow.holds Tryd.pinned (OpenSpec.ofChange requestAllWrong)

/-- 'turnstilelaw20.RequestBack': WHATEVER THE INPUT: true; the input reads as it did. -/
def requestBackSpec : ChangeSpec := { name := "requestBack", fn := fun _ => fun
  | [d] => { results := [.lit (.bool true)], args := [d] }
  | _ => none }
def requestBackRow : OpenClaim := { program := "ytonfeppenhebjaadoor", sum := "b32e9e7da02e46e0583a9a2a484504155e95f18e0a2b747cc97d7655996582a2", func := "turnstile/turnstilelaw20.RequestBack", spec := "requestBack", named := ["turnstile/api.ErrArg", "turnstile/api.ErrLong", "turnstile/api.ErrForm", "turnstile/api.ErrShort", "turnstile/api.ErrNil"], apart := false, laid := [("turnstile/api.ErrArg", laid_turnstile_api_ErrArg), ("turnstile/api.ErrShort", laid_turnstile_api_ErrShort), ("turnstile/api.ErrForm", laid_turnstile_api_ErrForm), ("turnstile/api.ErrLong", laid_turnstile_api_ErrLong), ("turnstile/api.ErrNil", laid_turnstile_api_ErrNil)] }
def RequestBackSaid : Prop := requestBackRow.holds Tryd.pinned (OpenSpec.ofChange requestBackSpec)

/-- ITS FALSE NEIGHBOUR: 'it returns false'. Refute it at one input. -/
def requestBackWrong : ChangeSpec := { name := "requestBack", fn := fun _ => fun
  | [d] => { results := [.lit (.bool false)], args := [d] }
  | _ => none }
def RequestBackWrongFalsely : Prop := requestBackRow.holds Tryd.pinned (OpenSpec.ofChange requestBackWrong)

/-- 'turnstilelaw20.RequestForth': WHATEVER THE INPUT: true; the input reads as it did. -/
def requestForthSpec : ChangeSpec := { name := "requestForth", fn := fun _ => fun
  | [d] => { results := [.lit (.bool true)], args := [d] }
  | _ => none }
def requestForthRow : OpenClaim := { program := "ytonfeppenhebjaadoor", sum := "b32e9e7da02e46e0583a9a2a484504155e95f18e0a2b747cc97d7655996582a2", func := "turnstile/turnstilelaw20.RequestForth", spec := "requestForth", named := ["turnstile/api.ErrShort", "turnstile/api.ErrForm", "turnstile/api.ErrArg", "turnstile/api.ErrLong", "turnstile/api.ErrNil"], apart := false, laid := [("turnstile/api.ErrArg", laid_turnstile_api_ErrArg), ("turnstile/api.ErrShort", laid_turnstile_api_ErrShort), ("turnstile/api.ErrForm", laid_turnstile_api_ErrForm), ("turnstile/api.ErrLong", laid_turnstile_api_ErrLong), ("turnstile/api.ErrNil", laid_turnstile_api_ErrNil)] }
def RequestForthSaid : Prop := requestForthRow.holds Tryd.pinned (OpenSpec.ofChange requestForthSpec)

/-- ITS FALSE NEIGHBOUR: 'it returns false'. Refute it at one input. -/
def requestForthWrong : ChangeSpec := { name := "requestForth", fn := fun _ => fun
  | [d] => { results := [.lit (.bool false)], args := [d] }
  | _ => none }
def RequestForthWrongFalsely : Prop := requestForthRow.holds Tryd.pinned (OpenSpec.ofChange requestForthWrong)

/-- 'turnstilelaw20.RequestReply': WHATEVER THE INPUT: true; the input reads as it did. -/
def requestReplySpec : ChangeSpec := { name := "requestReply", fn := fun _ => fun
  | [d] => { results := [.lit (.bool true)], args := [d] }
  | _ => none }
def requestReplyRow : OpenClaim := { program := "ytonfeppenhebjaadoor", sum := "b32e9e7da02e46e0583a9a2a484504155e95f18e0a2b747cc97d7655996582a2", func := "turnstile/turnstilelaw20.RequestReply", spec := "requestReply", named := ["turnstile/api.ErrArg", "turnstile/api.ErrLong", "turnstile/api.ErrForm", "turnstile/api.ErrShort", "turnstile/api.ErrNil"], apart := false, laid := [("turnstile/api.ErrArg", laid_turnstile_api_ErrArg), ("turnstile/api.ErrShort", laid_turnstile_api_ErrShort), ("turnstile/api.ErrForm", laid_turnstile_api_ErrForm), ("turnstile/api.ErrLong", laid_turnstile_api_ErrLong), ("turnstile/api.ErrNil", laid_turnstile_api_ErrNil)] }
def RequestReplySaid : Prop := requestReplyRow.holds Tryd.pinned (OpenSpec.ofChange requestReplySpec)

/-- ITS FALSE NEIGHBOUR: 'it returns false'. Refute it at one input. -/
def requestReplyWrong : ChangeSpec := { name := "requestReply", fn := fun _ => fun
  | [d] => { results := [.lit (.bool false)], args := [d] }
  | _ => none }
def RequestReplyWrongFalsely : Prop := requestReplyRow.holds Tryd.pinned (OpenSpec.ofChange requestReplyWrong)

/-- 'turnstilelaw20.RequestCuts': WHATEVER THE INPUT: true; the input reads as it did. -/
def requestCutsSpec : ChangeSpec := { name := "requestCuts", fn := fun _ => fun
  | [d1, d2, d3, d4] => { results := [.lit (.bool true)], args := [d1, d2, d3, d4] }
  | _ => none }
def requestCutsRow : OpenClaim := { program := "ytonfeppenhebjaadoor", sum := "b32e9e7da02e46e0583a9a2a484504155e95f18e0a2b747cc97d7655996582a2", func := "turnstile/turnstilelaw20.RequestCuts", spec := "requestCuts", named := ["turnstile/api.ErrShort", "turnstile/api.ErrForm", "turnstile/api.ErrArg", "turnstile/api.ErrLong", "turnstile/api.ErrNil"], apart := false, laid := [("turnstile/api.ErrArg", laid_turnstile_api_ErrArg), ("turnstile/api.ErrShort", laid_turnstile_api_ErrShort), ("turnstile/api.ErrForm", laid_turnstile_api_ErrForm), ("turnstile/api.ErrLong", laid_turnstile_api_ErrLong), ("turnstile/api.ErrNil", laid_turnstile_api_ErrNil)] }
def RequestCutsSaid : Prop := requestCutsRow.holds Tryd.pinned (OpenSpec.ofChange requestCutsSpec)

/-- ITS FALSE NEIGHBOUR: 'it returns false'. Refute it at one input. -/
def requestCutsWrong : ChangeSpec := { name := "requestCuts", fn := fun _ => fun
  | [d1, d2, d3, d4] => { results := [.lit (.bool false)], args := [d1, d2, d3, d4] }
  | _ => none }
def RequestCutsWrongFalsely : Prop := requestCutsRow.holds Tryd.pinned (OpenSpec.ofChange requestCutsWrong)

/- THE SECOND FORM. 'bulk': how many values and letters a reading holds, each counted each time it is reached (what is shared counts as often as it is met; a slice's spare places count too). A statement '..UptoSaid' is the law's where the arguments, and the package variables that the reading takes, are together of bulk at most 1048576: NARROWER than '..Said'. Prove '..Said' where nothing that the law and all that it calls make is longer than what came in: it says more and counts as full. Else prove '..UptoSaid'. A law counts once. -/
mutual
def uptoBulk {H : Type} : DataW H → Nat
  | .lit (.string bytes) => bytes.length + 1
  | .lit _ => 1
  | .nil => 1
  | .ptr d => uptoBulk d + 1
  | .slice elems spare => uptoBulkAll elems + uptoBulkAll spare + 1
  | .agg parts => uptoBulkAll parts + 1
  | .iface _ d => uptoBulk d + 1
  | .map entries => uptoBulkEntries entries + 1
  | .held _ => 1
def uptoBulkAll {H : Type} : List (DataW H) → Nat
  | [] => 0
  | d :: r => uptoBulk d + uptoBulkAll r
def uptoBulkEntries {H : Type} : List (Lit × DataW H) → Nat
  | [] => 0
  | x :: r => uptoBulkEntry x + uptoBulkEntries r
def uptoBulkEntry {H : Type} : Lit × DataW H → Nat
  | (.string bytes, d) => bytes.length + uptoBulk d + 1
  | (_, d) => uptoBulk d + 1
 end
def uptoSmall : (H : Type) → List (DataW H) → Bool := fun _ ds => decide (uptoBulkAll ds ≤ 1048576)
def OpenSpec.upto (s : _root_.Go.ChangeSpec) : _root_.Go.OpenSpec := { _root_.Go.OpenSpec.ofChange s with cond := some uptoSmall }

/-- 'turnstilelaw20.RequestAll', WHERE WHAT IT READS IS OF BULK AT MOST 1048576: true; the input reads as it did. -/
def requestAllUptoRow : OpenClaim := { program := "ytonfeppenhebjaadoor", sum := "b32e9e7da02e46e0583a9a2a484504155e95f18e0a2b747cc97d7655996582a2", func := "turnstile/turnstilelaw20.RequestAll", spec := "requestAll", named := ["turnstile/api.ErrArg", "turnstile/api.ErrLong", "turnstile/api.ErrForm", "turnstile/api.ErrShort", "turnstile/api.ErrNil", "turnstile/api.ErrSum", "turnstile/api.ErrIo", "turnstile/api.ErrDown", "turnstile/api.ErrGone", "turnstile/api.ErrThere", "turnstile/api.ErrImage", "turnstile/api.ErrGap", "turnstile/api.ErrLog", "turnstile/api.ErrSick", "turnstile/api.ErrConfig"], apart := false, laid := [("turnstile/api.ErrArg", laid_turnstile_api_ErrArg), ("turnstile/api.ErrShort", laid_turnstile_api_ErrShort), ("turnstile/api.ErrForm", laid_turnstile_api_ErrForm), ("turnstile/api.ErrLong", laid_turnstile_api_ErrLong), ("turnstile/api.ErrSum", laid_turnstile_api_ErrSum), ("turnstile/api.ErrIo", laid_turnstile_api_ErrIo), ("turnstile/api.ErrDown", laid_turnstile_api_ErrDown), ("turnstile/api.ErrGone", laid_turnstile_api_ErrGone), ("turnstile/api.ErrThere", laid_turnstile_api_ErrThere), ("turnstile/api.ErrImage", laid_turnstile_api_ErrImage), ("turnstile/api.ErrGap", laid_turnstile_api_ErrGap), ("turnstile/api.ErrLog", laid_turnstile_api_ErrLog), ("turnstile/api.ErrSick", laid_turnstile_api_ErrSick), ("turnstile/api.ErrConfig", laid_turnstile_api_ErrConfig), ("turnstile/api.ErrNil", laid_turnstile_api_ErrNil)], narrowed := true }
def RequestAllUptoSaid : Prop := requestAllUptoRow.holds Tryd.pinned (OpenSpec.upto requestAllSpec)

/-- 'turnstilelaw20.RequestBack', WHERE WHAT IT READS IS OF BULK AT MOST 1048576: true; the input reads as it did. -/
def requestBackUptoRow : OpenClaim := { program := "ytonfeppenhebjaadoor", sum := "b32e9e7da02e46e0583a9a2a484504155e95f18e0a2b747cc97d7655996582a2", func := "turnstile/turnstilelaw20.RequestBack", spec := "requestBack", named := ["turnstile/api.ErrArg", "turnstile/api.ErrLong", "turnstile/api.ErrForm", "turnstile/api.ErrShort", "turnstile/api.ErrNil"], apart := false, laid := [("turnstile/api.ErrArg", laid_turnstile_api_ErrArg), ("turnstile/api.ErrShort", laid_turnstile_api_ErrShort), ("turnstile/api.ErrForm", laid_turnstile_api_ErrForm), ("turnstile/api.ErrLong", laid_turnstile_api_ErrLong), ("turnstile/api.ErrNil", laid_turnstile_api_ErrNil)], narrowed := true }
def RequestBackUptoSaid : Prop := requestBackUptoRow.holds Tryd.pinned (OpenSpec.upto requestBackSpec)

/-- 'turnstilelaw20.RequestForth', WHERE WHAT IT READS IS OF BULK AT MOST 1048576: true; the input reads as it did. -/
def requestForthUptoRow : OpenClaim := { program := "ytonfeppenhebjaadoor", sum := "b32e9e7da02e46e0583a9a2a484504155e95f18e0a2b747cc97d7655996582a2", func := "turnstile/turnstilelaw20.RequestForth", spec := "requestForth", named := ["turnstile/api.ErrShort", "turnstile/api.ErrForm", "turnstile/api.ErrArg", "turnstile/api.ErrLong", "turnstile/api.ErrNil"], apart := false, laid := [("turnstile/api.ErrArg", laid_turnstile_api_ErrArg), ("turnstile/api.ErrShort", laid_turnstile_api_ErrShort), ("turnstile/api.ErrForm", laid_turnstile_api_ErrForm), ("turnstile/api.ErrLong", laid_turnstile_api_ErrLong), ("turnstile/api.ErrNil", laid_turnstile_api_ErrNil)], narrowed := true }
def RequestForthUptoSaid : Prop := requestForthUptoRow.holds Tryd.pinned (OpenSpec.upto requestForthSpec)

/-- 'turnstilelaw20.RequestReply', WHERE WHAT IT READS IS OF BULK AT MOST 1048576: true; the input reads as it did. -/
def requestReplyUptoRow : OpenClaim := { program := "ytonfeppenhebjaadoor", sum := "b32e9e7da02e46e0583a9a2a484504155e95f18e0a2b747cc97d7655996582a2", func := "turnstile/turnstilelaw20.RequestReply", spec := "requestReply", named := ["turnstile/api.ErrArg", "turnstile/api.ErrLong", "turnstile/api.ErrForm", "turnstile/api.ErrShort", "turnstile/api.ErrNil"], apart := false, laid := [("turnstile/api.ErrArg", laid_turnstile_api_ErrArg), ("turnstile/api.ErrShort", laid_turnstile_api_ErrShort), ("turnstile/api.ErrForm", laid_turnstile_api_ErrForm), ("turnstile/api.ErrLong", laid_turnstile_api_ErrLong), ("turnstile/api.ErrNil", laid_turnstile_api_ErrNil)], narrowed := true }
def RequestReplyUptoSaid : Prop := requestReplyUptoRow.holds Tryd.pinned (OpenSpec.upto requestReplySpec)

/-- 'turnstilelaw20.RequestCuts', WHERE WHAT IT READS IS OF BULK AT MOST 1048576: true; the input reads as it did. -/
def requestCutsUptoRow : OpenClaim := { program := "ytonfeppenhebjaadoor", sum := "b32e9e7da02e46e0583a9a2a484504155e95f18e0a2b747cc97d7655996582a2", func := "turnstile/turnstilelaw20.RequestCuts", spec := "requestCuts", named := ["turnstile/api.ErrShort", "turnstile/api.ErrForm", "turnstile/api.ErrArg", "turnstile/api.ErrLong", "turnstile/api.ErrNil"], apart := false, laid := [("turnstile/api.ErrArg", laid_turnstile_api_ErrArg), ("turnstile/api.ErrShort", laid_turnstile_api_ErrShort), ("turnstile/api.ErrForm", laid_turnstile_api_ErrForm), ("turnstile/api.ErrLong", laid_turnstile_api_ErrLong), ("turnstile/api.ErrNil", laid_turnstile_api_ErrNil)], narrowed := true }
def RequestCutsUptoSaid : Prop := requestCutsUptoRow.holds Tryd.pinned (OpenSpec.upto requestCutsSpec)

end Rows
end Go.Proofs.YtonfeppenhebjaaDoor
