/-
  NARROWER THAN 'FOR EVERY INPUT', by the rows' own cells (each row's printed sentence says how): BlockAll: laid · BlockBack: laid · BlockForth: laid · BlockTurned: laid · BlockPacks: laid · BlockFront: laid.
  DERIVED. THE GIVEN ROWS OF THIS SEAT. 6 by the template 'for every input the law returns true; each argument reads behind the call as it read before'; 0 by the template 'total and deterministic' (their statements: YtipjdkdonmoojaaDoorTotals.lean).
  GIVEN WITH THE SEED: the statements are not yours to turn. If you find one false, say at which input.
  Laid BY PROGRAM, IN A SANDBOX (cutbox-rows.mjs): the forced cells as the released guide's own fill.sh prints them over the translation 680d2e8c3f148a12… (all of the seat's roots in one cut). By AI agents, Wed Nov 11 2026. No macro, syntax, notation, axiom, sorry.
-/
import Derived.Test.YtipjdkdonmoojaaDoorChecked
import GoSem.PinnedTables
import GoSem.Claim
import GoSem.ClaimJoined
import GoSem.ClaimMapViews
import Derived.JoinedTies
import Derived.KernelRfl
namespace Go.Proofs.YtipjdkdonmoojaaDoor
/- THE CELL 'sum', in the pinned program and in every row, IS THE sha256 OF THE DUMP (.gsa) THAT YtipjdkdonmoojaaDoorProg.lean LOADS. Nothing in Lean hashes anything: it is a label: what it is worth is what the hold of that sum in a sandbox is worth. -/
noncomputable def Tryd.pinned : Pinned := { name := "ytipjdkdonmoojaadoor", sum := "680d2e8c3f148a12bb3ecb43a190e9726b3d0d76f565d0291dde509a950f8b07", checked := Tryd.checked }
namespace Rows
def none {H : Type} : Left H := { results := [], args := [] }

/- WHAT THE LISTED PACKAGE-LEVEL VARIABLES READ AS WHEN THE CALL BEGINS. Each datum BY PROGRAM (the guide's laid-datum.mjs) off the statement by which the dump's own 'gosem.cut.vars' lays the variable. In a bare row this is a premise. The card (YtipjdkdonmoojaaDoorCards.lean) ties it to the program's text. -/
def laid_turnstile_crc_halves {H : Type} : DataW H := .agg [.lit (.int .u32 0), .lit (.int .u32 274646895), .lit (.int .u32 549293790), .lit (.int .u32 820201905), .lit (.int .u32 1098587580), .lit (.int .u32 1361435347), .lit (.int .u32 1640403810), .lit (.int .u32 1905808397), .lit (.int .u32 2197175160), .lit (.int .u32 2460548119), .lit (.int .u32 2722870694), .lit (.int .u32 2987750089), .lit (.int .u32 3280807620), .lit (.int .u32 3553878443), .lit (.int .u32 3811616794), .lit (.int .u32 4084100981)]
def laid_unicode_utf8_acceptRanges {H : Type} : DataW H := .agg [.agg [.lit (.int .u8 128), .lit (.int .u8 191)], .agg [.lit (.int .u8 160), .lit (.int .u8 191)], .agg [.lit (.int .u8 128), .lit (.int .u8 159)], .agg [.lit (.int .u8 144), .lit (.int .u8 191)], .agg [.lit (.int .u8 128), .lit (.int .u8 143)], .agg [.lit (.int .u8 0), .lit (.int .u8 0)], .agg [.lit (.int .u8 0), .lit (.int .u8 0)], .agg [.lit (.int .u8 0), .lit (.int .u8 0)], .agg [.lit (.int .u8 0), .lit (.int .u8 0)], .agg [.lit (.int .u8 0), .lit (.int .u8 0)], .agg [.lit (.int .u8 0), .lit (.int .u8 0)], .agg [.lit (.int .u8 0), .lit (.int .u8 0)], .agg [.lit (.int .u8 0), .lit (.int .u8 0)], .agg [.lit (.int .u8 0), .lit (.int .u8 0)], .agg [.lit (.int .u8 0), .lit (.int .u8 0)], .agg [.lit (.int .u8 0), .lit (.int .u8 0)]]
def laid_turnstile_api_ErrArg {H : Type} : DataW H := .iface "*errors.errorString" (.ptr (.agg [.lit (.string [97, 110, 32, 97, 114, 103, 117, 109, 101, 110, 116, 32, 111, 117, 116, 115, 105, 100, 101, 32, 119, 104, 97, 116, 32, 116, 104, 101, 32, 99, 97, 108, 108, 32, 116, 97, 107, 101, 115])]))
def laid_turnstile_api_ErrShort {H : Type} : DataW H := .iface "*errors.errorString" (.ptr (.agg [.lit (.string [116, 104, 101, 32, 98, 121, 116, 101, 115, 32, 101, 110, 100, 32, 116, 111, 111, 32, 101, 97, 114, 108, 121])]))
def laid_turnstile_api_ErrForm {H : Type} : DataW H := .iface "*errors.errorString" (.ptr (.agg [.lit (.string [116, 104, 101, 32, 98, 121, 116, 101, 115, 32, 104, 97, 118, 101, 32, 97, 110, 111, 116, 104, 101, 114, 32, 102, 111, 114, 109])]))
def laid_turnstile_api_ErrLong {H : Type} : DataW H := .iface "*errors.errorString" (.ptr (.agg [.lit (.string [109, 111, 114, 101, 32, 116, 104, 97, 110, 32, 116, 104, 101, 32, 108, 105, 109, 105, 116])]))
def laid_turnstile_api_ErrSum {H : Type} : DataW H := .iface "*errors.errorString" (.ptr (.agg [.lit (.string [116, 104, 101, 32, 115, 117, 109, 32, 105, 115, 32, 97, 110, 111, 116, 104, 101, 114, 32, 111, 110, 101])]))
def laid_turnstile_api_ErrIo {H : Type} : DataW H := .iface "*errors.errorString" (.ptr (.agg [.lit (.string [116, 104, 101, 32, 100, 105, 115, 107, 32, 102, 97, 105, 108, 101, 100])]))
def laid_turnstile_api_ErrDown {H : Type} : DataW H := .iface "*errors.errorString" (.ptr (.agg [.lit (.string [116, 104, 101, 32, 112, 111, 119, 101, 114, 32, 105, 115, 32, 111, 102, 102])]))
def laid_turnstile_api_ErrGone {H : Type} : DataW H := .iface "*errors.errorString" (.ptr (.agg [.lit (.string [110, 111, 32, 115, 117, 99, 104, 32, 102, 105, 108, 101])]))
def laid_turnstile_api_ErrThere {H : Type} : DataW H := .iface "*errors.errorString" (.ptr (.agg [.lit (.string [116, 104, 101, 114, 101, 32, 105, 115, 32, 115, 117, 99, 104, 32, 97, 32, 102, 105, 108, 101])]))
def laid_turnstile_api_ErrImage {H : Type} : DataW H := .iface "*errors.errorString" (.ptr (.agg [.lit (.string [110, 111, 32, 105, 109, 97, 103, 101, 32, 111, 102, 32, 97, 32, 100, 105, 115, 107])]))
def laid_turnstile_api_ErrGap {H : Type} : DataW H := .iface "*errors.errorString" (.ptr (.agg [.lit (.string [114, 101, 99, 111, 114, 100, 115, 32, 97, 114, 101, 32, 109, 105, 115, 115, 105, 110, 103])]))
def laid_turnstile_api_ErrLog {H : Type} : DataW H := .iface "*errors.errorString" (.ptr (.agg [.lit (.string [97, 32, 114, 101, 99, 111, 114, 100, 32, 116, 104, 97, 116, 32, 105, 115, 32, 110, 111, 110, 101])]))
def laid_turnstile_api_ErrSick {H : Type} : DataW H := .iface "*errors.errorString" (.ptr (.agg [.lit (.string [97, 110, 32, 101, 97, 114, 108, 105, 101, 114, 32, 119, 114, 105, 116, 101, 32, 102, 97, 105, 108, 101, 100])]))
def laid_turnstile_api_ErrConfig {H : Type} : DataW H := .iface "*errors.errorString" (.ptr (.agg [.lit (.string [110, 111, 32, 99, 111, 110, 102, 105, 103, 117, 114, 97, 116, 105, 111, 110])]))
def laid_turnstile_api_ErrNil {H : Type} : DataW H := .iface "*errors.errorString" (.ptr (.agg [.lit (.string [110, 111, 32, 111, 98, 106, 101, 99, 116])]))
/-- One of Go's own tables, pinned by name: the form's constant. -/
def laid_unicode_utf8_first : DataW Unit := Go.Pinned.utf8First

/-- 'turnstilelaw08.BlockAll': WHATEVER THE INPUT: true; the input reads as it did. -/
def blockAllSpec : ChangeSpec := { name := "blockAll", fn := fun _ => fun
  | [d] => { results := [.lit (.bool true)], args := [d] }
  | _ => none }
def blockAllRow : OpenClaim := { program := "ytipjdkdonmoojaadoor", sum := "680d2e8c3f148a12bb3ecb43a190e9726b3d0d76f565d0291dde509a950f8b07", func := "turnstile/turnstilelaw08.BlockAll", spec := "blockAll", inPlace := ["internal/bytealg.IndexByteString", "internal/bytealg.IndexString"], named := ["turnstile/api.ErrArg", "turnstile/api.ErrLong", "turnstile/crc.halves", "turnstile/api.ErrShort", "turnstile/api.ErrForm", "turnstile/api.ErrSum", "turnstile/api.ErrNil", "unicode/utf8.first", "unicode/utf8.acceptRanges", "turnstile/api.ErrIo", "turnstile/api.ErrDown", "turnstile/api.ErrGone", "turnstile/api.ErrThere", "turnstile/api.ErrImage", "turnstile/api.ErrGap", "turnstile/api.ErrLog", "turnstile/api.ErrSick", "turnstile/api.ErrConfig", "internal/bytealg.MaxLen"], apart := false, laid := [("turnstile/crc.halves", laid_turnstile_crc_halves), ("unicode/utf8.acceptRanges", laid_unicode_utf8_acceptRanges), ("turnstile/api.ErrArg", laid_turnstile_api_ErrArg), ("turnstile/api.ErrShort", laid_turnstile_api_ErrShort), ("turnstile/api.ErrForm", laid_turnstile_api_ErrForm), ("turnstile/api.ErrLong", laid_turnstile_api_ErrLong), ("turnstile/api.ErrSum", laid_turnstile_api_ErrSum), ("turnstile/api.ErrIo", laid_turnstile_api_ErrIo), ("turnstile/api.ErrDown", laid_turnstile_api_ErrDown), ("turnstile/api.ErrGone", laid_turnstile_api_ErrGone), ("turnstile/api.ErrThere", laid_turnstile_api_ErrThere), ("turnstile/api.ErrImage", laid_turnstile_api_ErrImage), ("turnstile/api.ErrGap", laid_turnstile_api_ErrGap), ("turnstile/api.ErrLog", laid_turnstile_api_ErrLog), ("turnstile/api.ErrSick", laid_turnstile_api_ErrSick), ("turnstile/api.ErrConfig", laid_turnstile_api_ErrConfig), ("turnstile/api.ErrNil", laid_turnstile_api_ErrNil), ("unicode/utf8.first", laid_unicode_utf8_first)] }
def BlockAllSaid : Prop := blockAllRow.holds Tryd.pinned (OpenSpec.ofChange blockAllSpec)

/-- ITS FALSE NEIGHBOUR: 'it returns false'. Refute it at one input. -/
def blockAllWrong : ChangeSpec := { name := "blockAll", fn := fun _ => fun
  | [d] => { results := [.lit (.bool false)], args := [d] }
  | _ => none }
def BlockAllWrongFalsely : Prop := blockAllRow.holds Tryd.pinned (OpenSpec.ofChange blockAllWrong)

/-- 'turnstilelaw08.BlockBack': WHATEVER THE INPUT: true; the input reads as it did. -/
def blockBackSpec : ChangeSpec := { name := "blockBack", fn := fun _ => fun
  | [d1, d2] => { results := [.lit (.bool true)], args := [d1, d2] }
  | _ => none }
def blockBackRow : OpenClaim := { program := "ytipjdkdonmoojaadoor", sum := "680d2e8c3f148a12bb3ecb43a190e9726b3d0d76f565d0291dde509a950f8b07", func := "turnstile/turnstilelaw08.BlockBack", spec := "blockBack", inPlace := ["internal/bytealg.IndexByteString", "internal/bytealg.IndexString"], named := ["turnstile/api.ErrArg", "turnstile/api.ErrLong", "turnstile/crc.halves", "turnstile/api.ErrShort", "turnstile/api.ErrForm", "turnstile/api.ErrSum", "turnstile/api.ErrNil", "unicode/utf8.first", "unicode/utf8.acceptRanges", "internal/bytealg.MaxLen"], apart := false, laid := [("turnstile/crc.halves", laid_turnstile_crc_halves), ("unicode/utf8.acceptRanges", laid_unicode_utf8_acceptRanges), ("turnstile/api.ErrArg", laid_turnstile_api_ErrArg), ("turnstile/api.ErrShort", laid_turnstile_api_ErrShort), ("turnstile/api.ErrForm", laid_turnstile_api_ErrForm), ("turnstile/api.ErrLong", laid_turnstile_api_ErrLong), ("turnstile/api.ErrSum", laid_turnstile_api_ErrSum), ("turnstile/api.ErrNil", laid_turnstile_api_ErrNil), ("unicode/utf8.first", laid_unicode_utf8_first)] }
def BlockBackSaid : Prop := blockBackRow.holds Tryd.pinned (OpenSpec.ofChange blockBackSpec)

/-- ITS FALSE NEIGHBOUR: 'it returns false'. Refute it at one input. -/
def blockBackWrong : ChangeSpec := { name := "blockBack", fn := fun _ => fun
  | [d1, d2] => { results := [.lit (.bool false)], args := [d1, d2] }
  | _ => none }
def BlockBackWrongFalsely : Prop := blockBackRow.holds Tryd.pinned (OpenSpec.ofChange blockBackWrong)

/-- 'turnstilelaw08.BlockForth': WHATEVER THE INPUT: true; the input reads as it did. -/
def blockForthSpec : ChangeSpec := { name := "blockForth", fn := fun _ => fun
  | [d] => { results := [.lit (.bool true)], args := [d] }
  | _ => none }
def blockForthRow : OpenClaim := { program := "ytipjdkdonmoojaadoor", sum := "680d2e8c3f148a12bb3ecb43a190e9726b3d0d76f565d0291dde509a950f8b07", func := "turnstile/turnstilelaw08.BlockForth", spec := "blockForth", inPlace := ["internal/bytealg.IndexByteString", "internal/bytealg.IndexString"], named := ["turnstile/api.ErrShort", "turnstile/api.ErrArg", "turnstile/api.ErrLong", "turnstile/crc.halves", "turnstile/api.ErrForm", "turnstile/api.ErrSum", "turnstile/api.ErrNil", "unicode/utf8.first", "unicode/utf8.acceptRanges", "internal/bytealg.MaxLen"], apart := false, laid := [("turnstile/crc.halves", laid_turnstile_crc_halves), ("unicode/utf8.acceptRanges", laid_unicode_utf8_acceptRanges), ("turnstile/api.ErrArg", laid_turnstile_api_ErrArg), ("turnstile/api.ErrShort", laid_turnstile_api_ErrShort), ("turnstile/api.ErrForm", laid_turnstile_api_ErrForm), ("turnstile/api.ErrLong", laid_turnstile_api_ErrLong), ("turnstile/api.ErrSum", laid_turnstile_api_ErrSum), ("turnstile/api.ErrNil", laid_turnstile_api_ErrNil), ("unicode/utf8.first", laid_unicode_utf8_first)] }
def BlockForthSaid : Prop := blockForthRow.holds Tryd.pinned (OpenSpec.ofChange blockForthSpec)

/-- ITS FALSE NEIGHBOUR: 'it returns false'. Refute it at one input. -/
def blockForthWrong : ChangeSpec := { name := "blockForth", fn := fun _ => fun
  | [d] => { results := [.lit (.bool false)], args := [d] }
  | _ => none }
def BlockForthWrongFalsely : Prop := blockForthRow.holds Tryd.pinned (OpenSpec.ofChange blockForthWrong)

/-- 'turnstilelaw08.BlockTurned': WHATEVER THE INPUT: true; the input reads as it did. -/
def blockTurnedSpec : ChangeSpec := { name := "blockTurned", fn := fun _ => fun
  | [d1, d2, d3, d4] => { results := [.lit (.bool true)], args := [d1, d2, d3, d4] }
  | _ => none }
def blockTurnedRow : OpenClaim := { program := "ytipjdkdonmoojaadoor", sum := "680d2e8c3f148a12bb3ecb43a190e9726b3d0d76f565d0291dde509a950f8b07", func := "turnstile/turnstilelaw08.BlockTurned", spec := "blockTurned", inPlace := ["internal/bytealg.IndexByteString", "internal/bytealg.IndexString"], named := ["turnstile/api.ErrForm", "turnstile/api.ErrSum", "turnstile/api.ErrArg", "turnstile/api.ErrLong", "turnstile/crc.halves", "turnstile/api.ErrShort", "turnstile/api.ErrNil", "unicode/utf8.first", "unicode/utf8.acceptRanges", "internal/bytealg.MaxLen"], apart := false, laid := [("turnstile/crc.halves", laid_turnstile_crc_halves), ("unicode/utf8.acceptRanges", laid_unicode_utf8_acceptRanges), ("turnstile/api.ErrArg", laid_turnstile_api_ErrArg), ("turnstile/api.ErrShort", laid_turnstile_api_ErrShort), ("turnstile/api.ErrForm", laid_turnstile_api_ErrForm), ("turnstile/api.ErrLong", laid_turnstile_api_ErrLong), ("turnstile/api.ErrSum", laid_turnstile_api_ErrSum), ("turnstile/api.ErrNil", laid_turnstile_api_ErrNil), ("unicode/utf8.first", laid_unicode_utf8_first)] }
def BlockTurnedSaid : Prop := blockTurnedRow.holds Tryd.pinned (OpenSpec.ofChange blockTurnedSpec)

/-- ITS FALSE NEIGHBOUR: 'it returns false'. Refute it at one input. -/
def blockTurnedWrong : ChangeSpec := { name := "blockTurned", fn := fun _ => fun
  | [d1, d2, d3, d4] => { results := [.lit (.bool false)], args := [d1, d2, d3, d4] }
  | _ => none }
def BlockTurnedWrongFalsely : Prop := blockTurnedRow.holds Tryd.pinned (OpenSpec.ofChange blockTurnedWrong)

/-- 'turnstilelaw08.BlockPacks': WHATEVER THE INPUT: true; the input reads as it did. -/
def blockPacksSpec : ChangeSpec := { name := "blockPacks", fn := fun _ => fun
  | [d1, d2] => { results := [.lit (.bool true)], args := [d1, d2] }
  | _ => none }
def blockPacksRow : OpenClaim := { program := "ytipjdkdonmoojaadoor", sum := "680d2e8c3f148a12bb3ecb43a190e9726b3d0d76f565d0291dde509a950f8b07", func := "turnstile/turnstilelaw08.BlockPacks", spec := "blockPacks", inPlace := ["internal/bytealg.IndexByteString", "internal/bytealg.IndexString"], named := ["turnstile/api.ErrArg", "turnstile/api.ErrLong", "turnstile/crc.halves", "turnstile/api.ErrShort", "turnstile/api.ErrForm", "turnstile/api.ErrSum", "turnstile/api.ErrNil", "unicode/utf8.first", "unicode/utf8.acceptRanges", "internal/bytealg.MaxLen"], apart := false, laid := [("turnstile/crc.halves", laid_turnstile_crc_halves), ("unicode/utf8.acceptRanges", laid_unicode_utf8_acceptRanges), ("turnstile/api.ErrArg", laid_turnstile_api_ErrArg), ("turnstile/api.ErrShort", laid_turnstile_api_ErrShort), ("turnstile/api.ErrForm", laid_turnstile_api_ErrForm), ("turnstile/api.ErrLong", laid_turnstile_api_ErrLong), ("turnstile/api.ErrSum", laid_turnstile_api_ErrSum), ("turnstile/api.ErrNil", laid_turnstile_api_ErrNil), ("unicode/utf8.first", laid_unicode_utf8_first)] }
def BlockPacksSaid : Prop := blockPacksRow.holds Tryd.pinned (OpenSpec.ofChange blockPacksSpec)

/-- ITS FALSE NEIGHBOUR: 'it returns false'. Refute it at one input. -/
def blockPacksWrong : ChangeSpec := { name := "blockPacks", fn := fun _ => fun
  | [d1, d2] => { results := [.lit (.bool false)], args := [d1, d2] }
  | _ => none }
def BlockPacksWrongFalsely : Prop := blockPacksRow.holds Tryd.pinned (OpenSpec.ofChange blockPacksWrong)

/-- 'turnstilelaw08.BlockFront': WHATEVER THE INPUT: true; the input reads as it did. -/
def blockFrontSpec : ChangeSpec := { name := "blockFront", fn := fun _ => fun
  | [d1, d2, d3, d4] => { results := [.lit (.bool true)], args := [d1, d2, d3, d4] }
  | _ => none }
def blockFrontRow : OpenClaim := { program := "ytipjdkdonmoojaadoor", sum := "680d2e8c3f148a12bb3ecb43a190e9726b3d0d76f565d0291dde509a950f8b07", func := "turnstile/turnstilelaw08.BlockFront", spec := "blockFront", inPlace := ["internal/bytealg.IndexByteString", "internal/bytealg.IndexString"], named := ["turnstile/api.ErrArg", "turnstile/api.ErrLong", "turnstile/crc.halves", "turnstile/api.ErrShort", "turnstile/api.ErrForm", "turnstile/api.ErrSum", "turnstile/api.ErrNil", "unicode/utf8.first", "unicode/utf8.acceptRanges", "internal/bytealg.MaxLen"], apart := false, laid := [("turnstile/crc.halves", laid_turnstile_crc_halves), ("unicode/utf8.acceptRanges", laid_unicode_utf8_acceptRanges), ("turnstile/api.ErrArg", laid_turnstile_api_ErrArg), ("turnstile/api.ErrShort", laid_turnstile_api_ErrShort), ("turnstile/api.ErrForm", laid_turnstile_api_ErrForm), ("turnstile/api.ErrLong", laid_turnstile_api_ErrLong), ("turnstile/api.ErrSum", laid_turnstile_api_ErrSum), ("turnstile/api.ErrNil", laid_turnstile_api_ErrNil), ("unicode/utf8.first", laid_unicode_utf8_first)] }
def BlockFrontSaid : Prop := blockFrontRow.holds Tryd.pinned (OpenSpec.ofChange blockFrontSpec)

/-- ITS FALSE NEIGHBOUR: 'it returns false'. Refute it at one input. -/
def blockFrontWrong : ChangeSpec := { name := "blockFront", fn := fun _ => fun
  | [d1, d2, d3, d4] => { results := [.lit (.bool false)], args := [d1, d2, d3, d4] }
  | _ => none }
def BlockFrontWrongFalsely : Prop := blockFrontRow.holds Tryd.pinned (OpenSpec.ofChange blockFrontWrong)

/- THE SECOND FORM. 'bulk': how many values and letters a reading holds, each counted each time it is reached (what is shared counts as often as it is met; a slice's spare places count too). A statement '..UptoSaid' is the law's where the arguments, and the package variables that the reading takes, are together of bulk at most 1048576: NARROWER than '..Said'. Prove '..Said' where nothing that the law and all that it calls make is longer than what came in: it says more and counts as full. Else prove '..UptoSaid'. A law counts once. -/
mutual
def uptoBulk {H : Type} : DataW H → Nat
  | .lit (.string bytes) => bytes.length + 1
  | .lit _ => 1
  | .nil => 1
  | .ptr d => uptoBulk d + 1
  | .slice elems spare => uptoBulkAll elems + uptoBulkAll spare + 1
  | .agg parts => uptoBulkAll parts + 1
  | .iface _ d => uptoBulk d + 1
  | .map entries => uptoBulkEntries entries + 1
  | .held _ => 1
def uptoBulkAll {H : Type} : List (DataW H) → Nat
  | [] => 0
  | d :: r => uptoBulk d + uptoBulkAll r
def uptoBulkEntries {H : Type} : List (Lit × DataW H) → Nat
  | [] => 0
  | x :: r => uptoBulkEntry x + uptoBulkEntries r
def uptoBulkEntry {H : Type} : Lit × DataW H → Nat
  | (.string bytes, d) => bytes.length + uptoBulk d + 1
  | (_, d) => uptoBulk d + 1
 end
def uptoSmall : (H : Type) → List (DataW H) → Bool := fun _ ds => decide (uptoBulkAll ds ≤ 1048576)
def OpenSpec.upto (s : _root_.Go.ChangeSpec) : _root_.Go.OpenSpec := { _root_.Go.OpenSpec.ofChange s with cond := some uptoSmall }

/-- 'turnstilelaw08.BlockAll', WHERE WHAT IT READS IS OF BULK AT MOST 1048576: true; the input reads as it did. -/
def blockAllUptoRow : OpenClaim := { program := "ytipjdkdonmoojaadoor", sum := "680d2e8c3f148a12bb3ecb43a190e9726b3d0d76f565d0291dde509a950f8b07", func := "turnstile/turnstilelaw08.BlockAll", spec := "blockAll", inPlace := ["internal/bytealg.IndexByteString", "internal/bytealg.IndexString"], named := ["turnstile/api.ErrArg", "turnstile/api.ErrLong", "turnstile/crc.halves", "turnstile/api.ErrShort", "turnstile/api.ErrForm", "turnstile/api.ErrSum", "turnstile/api.ErrNil", "unicode/utf8.first", "unicode/utf8.acceptRanges", "turnstile/api.ErrIo", "turnstile/api.ErrDown", "turnstile/api.ErrGone", "turnstile/api.ErrThere", "turnstile/api.ErrImage", "turnstile/api.ErrGap", "turnstile/api.ErrLog", "turnstile/api.ErrSick", "turnstile/api.ErrConfig", "internal/bytealg.MaxLen"], apart := false, laid := [("turnstile/crc.halves", laid_turnstile_crc_halves), ("unicode/utf8.acceptRanges", laid_unicode_utf8_acceptRanges), ("turnstile/api.ErrArg", laid_turnstile_api_ErrArg), ("turnstile/api.ErrShort", laid_turnstile_api_ErrShort), ("turnstile/api.ErrForm", laid_turnstile_api_ErrForm), ("turnstile/api.ErrLong", laid_turnstile_api_ErrLong), ("turnstile/api.ErrSum", laid_turnstile_api_ErrSum), ("turnstile/api.ErrIo", laid_turnstile_api_ErrIo), ("turnstile/api.ErrDown", laid_turnstile_api_ErrDown), ("turnstile/api.ErrGone", laid_turnstile_api_ErrGone), ("turnstile/api.ErrThere", laid_turnstile_api_ErrThere), ("turnstile/api.ErrImage", laid_turnstile_api_ErrImage), ("turnstile/api.ErrGap", laid_turnstile_api_ErrGap), ("turnstile/api.ErrLog", laid_turnstile_api_ErrLog), ("turnstile/api.ErrSick", laid_turnstile_api_ErrSick), ("turnstile/api.ErrConfig", laid_turnstile_api_ErrConfig), ("turnstile/api.ErrNil", laid_turnstile_api_ErrNil), ("unicode/utf8.first", laid_unicode_utf8_first)], narrowed := true }
def BlockAllUptoSaid : Prop := blockAllUptoRow.holds Tryd.pinned (OpenSpec.upto blockAllSpec)

/-- 'turnstilelaw08.BlockBack', WHERE WHAT IT READS IS OF BULK AT MOST 1048576: true; the input reads as it did. -/
def blockBackUptoRow : OpenClaim := { program := "ytipjdkdonmoojaadoor", sum := "680d2e8c3f148a12bb3ecb43a190e9726b3d0d76f565d0291dde509a950f8b07", func := "turnstile/turnstilelaw08.BlockBack", spec := "blockBack", inPlace := ["internal/bytealg.IndexByteString", "internal/bytealg.IndexString"], named := ["turnstile/api.ErrArg", "turnstile/api.ErrLong", "turnstile/crc.halves", "turnstile/api.ErrShort", "turnstile/api.ErrForm", "turnstile/api.ErrSum", "turnstile/api.ErrNil", "unicode/utf8.first", "unicode/utf8.acceptRanges", "internal/bytealg.MaxLen"], apart := false, laid := [("turnstile/crc.halves", laid_turnstile_crc_halves), ("unicode/utf8.acceptRanges", laid_unicode_utf8_acceptRanges), ("turnstile/api.ErrArg", laid_turnstile_api_ErrArg), ("turnstile/api.ErrShort", laid_turnstile_api_ErrShort), ("turnstile/api.ErrForm", laid_turnstile_api_ErrForm), ("turnstile/api.ErrLong", laid_turnstile_api_ErrLong), ("turnstile/api.ErrSum", laid_turnstile_api_ErrSum), ("turnstile/api.ErrNil", laid_turnstile_api_ErrNil), ("unicode/utf8.first", laid_unicode_utf8_first)], narrowed := true }
def BlockBackUptoSaid : Prop := blockBackUptoRow.holds Tryd.pinned (OpenSpec.upto blockBackSpec)

/-- 'turnstilelaw08.BlockForth', WHERE WHAT IT READS IS OF BULK AT MOST 1048576: true; the input reads as it did. -/
def blockForthUptoRow : OpenClaim := { program := "ytipjdkdonmoojaadoor", sum := "680d2e8c3f148a12bb3ecb43a190e9726b3d0d76f565d0291dde509a950f8b07", func := "turnstile/turnstilelaw08.BlockForth", spec := "blockForth", inPlace := ["internal/bytealg.IndexByteString", "internal/bytealg.IndexString"], named := ["turnstile/api.ErrShort", "turnstile/api.ErrArg", "turnstile/api.ErrLong", "turnstile/crc.halves", "turnstile/api.ErrForm", "turnstile/api.ErrSum", "turnstile/api.ErrNil", "unicode/utf8.first", "unicode/utf8.acceptRanges", "internal/bytealg.MaxLen"], apart := false, laid := [("turnstile/crc.halves", laid_turnstile_crc_halves), ("unicode/utf8.acceptRanges", laid_unicode_utf8_acceptRanges), ("turnstile/api.ErrArg", laid_turnstile_api_ErrArg), ("turnstile/api.ErrShort", laid_turnstile_api_ErrShort), ("turnstile/api.ErrForm", laid_turnstile_api_ErrForm), ("turnstile/api.ErrLong", laid_turnstile_api_ErrLong), ("turnstile/api.ErrSum", laid_turnstile_api_ErrSum), ("turnstile/api.ErrNil", laid_turnstile_api_ErrNil), ("unicode/utf8.first", laid_unicode_utf8_first)], narrowed := true }
def BlockForthUptoSaid : Prop := blockForthUptoRow.holds Tryd.pinned (OpenSpec.upto blockForthSpec)

/-- 'turnstilelaw08.BlockTurned', WHERE WHAT IT READS IS OF BULK AT MOST 1048576: true; the input reads as it did. -/
def blockTurnedUptoRow : OpenClaim := { program := "ytipjdkdonmoojaadoor", sum := "680d2e8c3f148a12bb3ecb43a190e9726b3d0d76f565d0291dde509a950f8b07", func := "turnstile/turnstilelaw08.BlockTurned", spec := "blockTurned", inPlace := ["internal/bytealg.IndexByteString", "internal/bytealg.IndexString"], named := ["turnstile/api.ErrForm", "turnstile/api.ErrSum", "turnstile/api.ErrArg", "turnstile/api.ErrLong", "turnstile/crc.halves", "turnstile/api.ErrShort", "turnstile/api.ErrNil", "unicode/utf8.first", "unicode/utf8.acceptRanges", "internal/bytealg.MaxLen"], apart := false, laid := [("turnstile/crc.halves", laid_turnstile_crc_halves), ("unicode/utf8.acceptRanges", laid_unicode_utf8_acceptRanges), ("turnstile/api.ErrArg", laid_turnstile_api_ErrArg), ("turnstile/api.ErrShort", laid_turnstile_api_ErrShort), ("turnstile/api.ErrForm", laid_turnstile_api_ErrForm), ("turnstile/api.ErrLong", laid_turnstile_api_ErrLong), ("turnstile/api.ErrSum", laid_turnstile_api_ErrSum), ("turnstile/api.ErrNil", laid_turnstile_api_ErrNil), ("unicode/utf8.first", laid_unicode_utf8_first)], narrowed := true }
def BlockTurnedUptoSaid : Prop := blockTurnedUptoRow.holds Tryd.pinned (OpenSpec.upto blockTurnedSpec)

/-- 'turnstilelaw08.BlockPacks', WHERE WHAT IT READS IS OF BULK AT MOST 1048576: true; the input reads as it did. -/
def blockPacksUptoRow : OpenClaim := { program := "ytipjdkdonmoojaadoor", sum := "680d2e8c3f148a12bb3ecb43a190e9726b3d0d76f565d0291dde509a950f8b07", func := "turnstile/turnstilelaw08.BlockPacks", spec := "blockPacks", inPlace := ["internal/bytealg.IndexByteString", "internal/bytealg.IndexString"], named := ["turnstile/api.ErrArg", "turnstile/api.ErrLong", "turnstile/crc.halves", "turnstile/api.ErrShort", "turnstile/api.ErrForm", "turnstile/api.ErrSum", "turnstile/api.ErrNil", "unicode/utf8.first", "unicode/utf8.acceptRanges", "internal/bytealg.MaxLen"], apart := false, laid := [("turnstile/crc.halves", laid_turnstile_crc_halves), ("unicode/utf8.acceptRanges", laid_unicode_utf8_acceptRanges), ("turnstile/api.ErrArg", laid_turnstile_api_ErrArg), ("turnstile/api.ErrShort", laid_turnstile_api_ErrShort), ("turnstile/api.ErrForm", laid_turnstile_api_ErrForm), ("turnstile/api.ErrLong", laid_turnstile_api_ErrLong), ("turnstile/api.ErrSum", laid_turnstile_api_ErrSum), ("turnstile/api.ErrNil", laid_turnstile_api_ErrNil), ("unicode/utf8.first", laid_unicode_utf8_first)], narrowed := true }
def BlockPacksUptoSaid : Prop := blockPacksUptoRow.holds Tryd.pinned (OpenSpec.upto blockPacksSpec)

/-- 'turnstilelaw08.BlockFront', WHERE WHAT IT READS IS OF BULK AT MOST 1048576: true; the input reads as it did. -/
def blockFrontUptoRow : OpenClaim := { program := "ytipjdkdonmoojaadoor", sum := "680d2e8c3f148a12bb3ecb43a190e9726b3d0d76f565d0291dde509a950f8b07", func := "turnstile/turnstilelaw08.BlockFront", spec := "blockFront", inPlace := ["internal/bytealg.IndexByteString", "internal/bytealg.IndexString"], named := ["turnstile/api.ErrArg", "turnstile/api.ErrLong", "turnstile/crc.halves", "turnstile/api.ErrShort", "turnstile/api.ErrForm", "turnstile/api.ErrSum", "turnstile/api.ErrNil", "unicode/utf8.first", "unicode/utf8.acceptRanges", "internal/bytealg.MaxLen"], apart := false, laid := [("turnstile/crc.halves", laid_turnstile_crc_halves), ("unicode/utf8.acceptRanges", laid_unicode_utf8_acceptRanges), ("turnstile/api.ErrArg", laid_turnstile_api_ErrArg), ("turnstile/api.ErrShort", laid_turnstile_api_ErrShort), ("turnstile/api.ErrForm", laid_turnstile_api_ErrForm), ("turnstile/api.ErrLong", laid_turnstile_api_ErrLong), ("turnstile/api.ErrSum", laid_turnstile_api_ErrSum), ("turnstile/api.ErrNil", laid_turnstile_api_ErrNil), ("unicode/utf8.first", laid_unicode_utf8_first)], narrowed := true }
def BlockFrontUptoSaid : Prop := blockFrontUptoRow.holds Tryd.pinned (OpenSpec.upto blockFrontSpec)

end Rows
end Go.Proofs.YtipjdkdonmoojaaDoor
