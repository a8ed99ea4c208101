/-
  NARROWER THAN 'FOR EVERY INPUT', by the rows' own cells (each row's printed sentence says how): CrcAll: laid · CrcCuts: laid · CrcTurns: laid · CrcMoves: laid · CrcZeros: laid · CrcKeeps: laid · PackBytes: laid · PackForm: laid · PackPuts: laid · PackReads: laid · PackBack: laid · PackShort: laid.
  DERIVED. THE GIVEN ROWS OF THIS SEAT. 12 by the template 'for every input the law returns true; each argument reads behind the call as it read before'; 0 by the template 'total and deterministic' (their statements: YtjkocjkfedcdoaaDoorTotals.lean).
  GIVEN WITH THE SEED: the statements are not yours to turn. If you find one false, say at which input.
  Laid BY PROGRAM, IN A SANDBOX (cutbox-rows.mjs): the forced cells as the released guide's own fill.sh prints them over the translation 405d280631fe6347… (all of the seat's roots in one cut). By AI agents, Wed Nov 11 2026. No macro, syntax, notation, axiom, sorry.
-/
import Derived.Test.YtjkocjkfedcdoaaDoorChecked
import GoSem.Claim
import GoSem.ClaimJoined
import GoSem.ClaimMapViews
import Derived.JoinedTies
import Derived.KernelRfl
namespace Go.Proofs.YtjkocjkfedcdoaaDoor
/- THE CELL 'sum', in the pinned program and in every row, IS THE sha256 OF THE DUMP (.gsa) THAT YtjkocjkfedcdoaaDoorProg.lean LOADS. Nothing in Lean hashes anything: it is a label: what it is worth is what the hold of that sum in a sandbox is worth. -/
noncomputable def Tryd.pinned : Pinned := { name := "ytjkocjkfedcdoaadoor", sum := "405d280631fe6347aca2a34a28ece5e14764dcc3e8a8824142cba3c4fd78a892", checked := Tryd.checked }
namespace Rows
def none {H : Type} : Left H := { results := [], args := [] }

/- WHAT THE LISTED PACKAGE-LEVEL VARIABLES READ AS WHEN THE CALL BEGINS. Each datum BY PROGRAM (the guide's laid-datum.mjs) off the statement by which the dump's own 'gosem.cut.vars' lays the variable. In a bare row this is a premise. The card (YtjkocjkfedcdoaaDoorCards.lean) ties it to the program's text. -/
def laid_turnstile_crc_halves {H : Type} : DataW H := .agg [.lit (.int .u32 0), .lit (.int .u32 274646895), .lit (.int .u32 549293790), .lit (.int .u32 820201905), .lit (.int .u32 1098587580), .lit (.int .u32 1361435347), .lit (.int .u32 1640403810), .lit (.int .u32 1905808397), .lit (.int .u32 2197175160), .lit (.int .u32 2460548119), .lit (.int .u32 2722870694), .lit (.int .u32 2987750089), .lit (.int .u32 3280807620), .lit (.int .u32 3553878443), .lit (.int .u32 3811616794), .lit (.int .u32 4084100981)]
def laid_turnstile_api_ErrShort {H : Type} : DataW H := .iface "*errors.errorString" (.ptr (.agg [.lit (.string [116, 104, 101, 32, 98, 121, 116, 101, 115, 32, 101, 110, 100, 32, 116, 111, 111, 32, 101, 97, 114, 108, 121])]))
def laid_turnstile_api_ErrForm {H : Type} : DataW H := .iface "*errors.errorString" (.ptr (.agg [.lit (.string [116, 104, 101, 32, 98, 121, 116, 101, 115, 32, 104, 97, 118, 101, 32, 97, 110, 111, 116, 104, 101, 114, 32, 102, 111, 114, 109])]))
def laid_turnstile_api_ErrNil {H : Type} : DataW H := .iface "*errors.errorString" (.ptr (.agg [.lit (.string [110, 111, 32, 111, 98, 106, 101, 99, 116])]))
def laid_turnstile_api_ErrArg {H : Type} : DataW H := .iface "*errors.errorString" (.ptr (.agg [.lit (.string [97, 110, 32, 97, 114, 103, 117, 109, 101, 110, 116, 32, 111, 117, 116, 115, 105, 100, 101, 32, 119, 104, 97, 116, 32, 116, 104, 101, 32, 99, 97, 108, 108, 32, 116, 97, 107, 101, 115])]))
def laid_turnstile_api_ErrLong {H : Type} : DataW H := .iface "*errors.errorString" (.ptr (.agg [.lit (.string [109, 111, 114, 101, 32, 116, 104, 97, 110, 32, 116, 104, 101, 32, 108, 105, 109, 105, 116])]))
def laid_turnstile_api_ErrSum {H : Type} : DataW H := .iface "*errors.errorString" (.ptr (.agg [.lit (.string [116, 104, 101, 32, 115, 117, 109, 32, 105, 115, 32, 97, 110, 111, 116, 104, 101, 114, 32, 111, 110, 101])]))
def laid_turnstile_api_ErrIo {H : Type} : DataW H := .iface "*errors.errorString" (.ptr (.agg [.lit (.string [116, 104, 101, 32, 100, 105, 115, 107, 32, 102, 97, 105, 108, 101, 100])]))
def laid_turnstile_api_ErrDown {H : Type} : DataW H := .iface "*errors.errorString" (.ptr (.agg [.lit (.string [116, 104, 101, 32, 112, 111, 119, 101, 114, 32, 105, 115, 32, 111, 102, 102])]))
def laid_turnstile_api_ErrGone {H : Type} : DataW H := .iface "*errors.errorString" (.ptr (.agg [.lit (.string [110, 111, 32, 115, 117, 99, 104, 32, 102, 105, 108, 101])]))
def laid_turnstile_api_ErrThere {H : Type} : DataW H := .iface "*errors.errorString" (.ptr (.agg [.lit (.string [116, 104, 101, 114, 101, 32, 105, 115, 32, 115, 117, 99, 104, 32, 97, 32, 102, 105, 108, 101])]))
def laid_turnstile_api_ErrImage {H : Type} : DataW H := .iface "*errors.errorString" (.ptr (.agg [.lit (.string [110, 111, 32, 105, 109, 97, 103, 101, 32, 111, 102, 32, 97, 32, 100, 105, 115, 107])]))
def laid_turnstile_api_ErrGap {H : Type} : DataW H := .iface "*errors.errorString" (.ptr (.agg [.lit (.string [114, 101, 99, 111, 114, 100, 115, 32, 97, 114, 101, 32, 109, 105, 115, 115, 105, 110, 103])]))
def laid_turnstile_api_ErrLog {H : Type} : DataW H := .iface "*errors.errorString" (.ptr (.agg [.lit (.string [97, 32, 114, 101, 99, 111, 114, 100, 32, 116, 104, 97, 116, 32, 105, 115, 32, 110, 111, 110, 101])]))
def laid_turnstile_api_ErrSick {H : Type} : DataW H := .iface "*errors.errorString" (.ptr (.agg [.lit (.string [97, 110, 32, 101, 97, 114, 108, 105, 101, 114, 32, 119, 114, 105, 116, 101, 32, 102, 97, 105, 108, 101, 100])]))
def laid_turnstile_api_ErrConfig {H : Type} : DataW H := .iface "*errors.errorString" (.ptr (.agg [.lit (.string [110, 111, 32, 99, 111, 110, 102, 105, 103, 117, 114, 97, 116, 105, 111, 110])]))

/-- 'turnstilelaw02.CrcAll': WHATEVER THE INPUT: true; the input reads as it did. -/
def crcAllSpec : ChangeSpec := { name := "crcAll", fn := fun _ => fun
  | [d] => { results := [.lit (.bool true)], args := [d] }
  | _ => none }
def crcAllRow : OpenClaim := { program := "ytjkocjkfedcdoaadoor", sum := "405d280631fe6347aca2a34a28ece5e14764dcc3e8a8824142cba3c4fd78a892", func := "turnstile/turnstilelaw02.CrcAll", spec := "crcAll", named := ["turnstile/crc.halves"], apart := false, laid := [("turnstile/crc.halves", laid_turnstile_crc_halves)] }
def CrcAllSaid : Prop := crcAllRow.holds Tryd.pinned (OpenSpec.ofChange crcAllSpec)

/-- ITS FALSE NEIGHBOUR: 'it returns false'. Refute it at one input. -/
def crcAllWrong : ChangeSpec := { name := "crcAll", fn := fun _ => fun
  | [d] => { results := [.lit (.bool false)], args := [d] }
  | _ => none }
def CrcAllWrongFalsely : Prop := crcAllRow.holds Tryd.pinned (OpenSpec.ofChange crcAllWrong)

/-- 'turnstilelaw02.CrcCuts': WHATEVER THE INPUT: true; the input reads as it did. -/
def crcCutsSpec : ChangeSpec := { name := "crcCuts", fn := fun _ => fun
  | [d1, d2] => { results := [.lit (.bool true)], args := [d1, d2] }
  | _ => none }
def crcCutsRow : OpenClaim := { program := "ytjkocjkfedcdoaadoor", sum := "405d280631fe6347aca2a34a28ece5e14764dcc3e8a8824142cba3c4fd78a892", func := "turnstile/turnstilelaw02.CrcCuts", spec := "crcCuts", named := ["turnstile/crc.halves"], apart := false, laid := [("turnstile/crc.halves", laid_turnstile_crc_halves)] }
def CrcCutsSaid : Prop := crcCutsRow.holds Tryd.pinned (OpenSpec.ofChange crcCutsSpec)

/-- ITS FALSE NEIGHBOUR: 'it returns false'. Refute it at one input. -/
def crcCutsWrong : ChangeSpec := { name := "crcCuts", fn := fun _ => fun
  | [d1, d2] => { results := [.lit (.bool false)], args := [d1, d2] }
  | _ => none }
def CrcCutsWrongFalsely : Prop := crcCutsRow.holds Tryd.pinned (OpenSpec.ofChange crcCutsWrong)

/-- 'turnstilelaw02.CrcTurns': WHATEVER THE INPUT: true; the input reads as it did. -/
def crcTurnsSpec : ChangeSpec := { name := "crcTurns", fn := fun _ => fun
  | [d1, d2, d3] => { results := [.lit (.bool true)], args := [d1, d2, d3] }
  | _ => none }
def crcTurnsRow : OpenClaim := { program := "ytjkocjkfedcdoaadoor", sum := "405d280631fe6347aca2a34a28ece5e14764dcc3e8a8824142cba3c4fd78a892", func := "turnstile/turnstilelaw02.CrcTurns", spec := "crcTurns", named := ["turnstile/crc.halves"], apart := false, laid := [("turnstile/crc.halves", laid_turnstile_crc_halves)] }
def CrcTurnsSaid : Prop := crcTurnsRow.holds Tryd.pinned (OpenSpec.ofChange crcTurnsSpec)

/-- ITS FALSE NEIGHBOUR: 'it returns false'. Refute it at one input. -/
def crcTurnsWrong : ChangeSpec := { name := "crcTurns", fn := fun _ => fun
  | [d1, d2, d3] => { results := [.lit (.bool false)], args := [d1, d2, d3] }
  | _ => none }
def CrcTurnsWrongFalsely : Prop := crcTurnsRow.holds Tryd.pinned (OpenSpec.ofChange crcTurnsWrong)

/-- 'turnstilelaw02.CrcMoves': WHATEVER THE INPUT: true; the input reads as it did. -/
def crcMovesSpec : ChangeSpec := { name := "crcMoves", fn := fun _ => fun
  | [d1, d2, d3, d4] => { results := [.lit (.bool true)], args := [d1, d2, d3, d4] }
  | _ => none }
def crcMovesRow : OpenClaim := { program := "ytjkocjkfedcdoaadoor", sum := "405d280631fe6347aca2a34a28ece5e14764dcc3e8a8824142cba3c4fd78a892", func := "turnstile/turnstilelaw02.CrcMoves", spec := "crcMoves", named := ["turnstile/crc.halves"], apart := false, laid := [("turnstile/crc.halves", laid_turnstile_crc_halves)] }
def CrcMovesSaid : Prop := crcMovesRow.holds Tryd.pinned (OpenSpec.ofChange crcMovesSpec)

/-- ITS FALSE NEIGHBOUR: 'it returns false'. Refute it at one input. -/
def crcMovesWrong : ChangeSpec := { name := "crcMoves", fn := fun _ => fun
  | [d1, d2, d3, d4] => { results := [.lit (.bool false)], args := [d1, d2, d3, d4] }
  | _ => none }
def CrcMovesWrongFalsely : Prop := crcMovesRow.holds Tryd.pinned (OpenSpec.ofChange crcMovesWrong)

/-- 'turnstilelaw02.CrcZeros': WHATEVER THE INPUT: true; the input reads as it did. -/
def crcZerosSpec : ChangeSpec := { name := "crcZeros", fn := fun _ => fun
  | [d1, d2] => { results := [.lit (.bool true)], args := [d1, d2] }
  | _ => none }
def crcZerosRow : OpenClaim := { program := "ytjkocjkfedcdoaadoor", sum := "405d280631fe6347aca2a34a28ece5e14764dcc3e8a8824142cba3c4fd78a892", func := "turnstile/turnstilelaw02.CrcZeros", spec := "crcZeros", named := ["turnstile/crc.halves"], apart := false, laid := [("turnstile/crc.halves", laid_turnstile_crc_halves)] }
def CrcZerosSaid : Prop := crcZerosRow.holds Tryd.pinned (OpenSpec.ofChange crcZerosSpec)

/-- ITS FALSE NEIGHBOUR: 'it returns false'. Refute it at one input. -/
def crcZerosWrong : ChangeSpec := { name := "crcZeros", fn := fun _ => fun
  | [d1, d2] => { results := [.lit (.bool false)], args := [d1, d2] }
  | _ => none }
def CrcZerosWrongFalsely : Prop := crcZerosRow.holds Tryd.pinned (OpenSpec.ofChange crcZerosWrong)

/-- 'turnstilelaw02.CrcKeeps': WHATEVER THE INPUT: true; the input reads as it did. -/
def crcKeepsSpec : ChangeSpec := { name := "crcKeeps", fn := fun _ => fun
  | [d] => { results := [.lit (.bool true)], args := [d] }
  | _ => none }
def crcKeepsRow : OpenClaim := { program := "ytjkocjkfedcdoaadoor", sum := "405d280631fe6347aca2a34a28ece5e14764dcc3e8a8824142cba3c4fd78a892", func := "turnstile/turnstilelaw02.CrcKeeps", spec := "crcKeeps", named := ["turnstile/crc.halves"], apart := false, laid := [("turnstile/crc.halves", laid_turnstile_crc_halves)] }
def CrcKeepsSaid : Prop := crcKeepsRow.holds Tryd.pinned (OpenSpec.ofChange crcKeepsSpec)

/-- ITS FALSE NEIGHBOUR: 'it returns false'. Refute it at one input. -/
def crcKeepsWrong : ChangeSpec := { name := "crcKeeps", fn := fun _ => fun
  | [d] => { results := [.lit (.bool false)], args := [d] }
  | _ => none }
def CrcKeepsWrongFalsely : Prop := crcKeepsRow.holds Tryd.pinned (OpenSpec.ofChange crcKeepsWrong)

/-- 'turnstilelaw01.PackBytes': WHATEVER THE INPUT: true; the input reads as it did. -/
def packBytesSpec : ChangeSpec := { name := "packBytes", fn := fun _ => fun
  | [d] => { results := [.lit (.bool true)], args := [d] }
  | _ => none }
def packBytesRow : OpenClaim := { program := "ytjkocjkfedcdoaadoor", sum := "405d280631fe6347aca2a34a28ece5e14764dcc3e8a8824142cba3c4fd78a892", func := "turnstile/turnstilelaw01.PackBytes", spec := "packBytes", named := ["turnstile/api.ErrShort", "turnstile/api.ErrForm", "turnstile/api.ErrNil"], apart := false, laid := [("turnstile/api.ErrShort", laid_turnstile_api_ErrShort), ("turnstile/api.ErrForm", laid_turnstile_api_ErrForm), ("turnstile/api.ErrNil", laid_turnstile_api_ErrNil)] }
def PackBytesSaid : Prop := packBytesRow.holds Tryd.pinned (OpenSpec.ofChange packBytesSpec)

/-- ITS FALSE NEIGHBOUR: 'it returns false'. Refute it at one input. -/
def packBytesWrong : ChangeSpec := { name := "packBytes", fn := fun _ => fun
  | [d] => { results := [.lit (.bool false)], args := [d] }
  | _ => none }
def PackBytesWrongFalsely : Prop := packBytesRow.holds Tryd.pinned (OpenSpec.ofChange packBytesWrong)

/-- 'turnstilelaw01.PackForm': WHATEVER THE INPUT: true; the input reads as it did. -/
def packFormSpec : ChangeSpec := { name := "packForm", fn := fun _ => fun
  | [d1, d2] => { results := [.lit (.bool true)], args := [d1, d2] }
  | _ => none }
def packFormRow : OpenClaim := { program := "ytjkocjkfedcdoaadoor", sum := "405d280631fe6347aca2a34a28ece5e14764dcc3e8a8824142cba3c4fd78a892", func := "turnstile/turnstilelaw01.PackForm", spec := "packForm", named := ["turnstile/api.ErrShort", "turnstile/api.ErrForm", "turnstile/api.ErrNil"], apart := false, laid := [("turnstile/api.ErrShort", laid_turnstile_api_ErrShort), ("turnstile/api.ErrForm", laid_turnstile_api_ErrForm), ("turnstile/api.ErrNil", laid_turnstile_api_ErrNil)] }
def PackFormSaid : Prop := packFormRow.holds Tryd.pinned (OpenSpec.ofChange packFormSpec)

/-- ITS FALSE NEIGHBOUR: 'it returns false'. Refute it at one input. -/
def packFormWrong : ChangeSpec := { name := "packForm", fn := fun _ => fun
  | [d1, d2] => { results := [.lit (.bool false)], args := [d1, d2] }
  | _ => none }
def PackFormWrongFalsely : Prop := packFormRow.holds Tryd.pinned (OpenSpec.ofChange packFormWrong)

/-- 'turnstilelaw01.PackPuts': WHATEVER THE INPUT: true; the input reads as it did. -/
def packPutsSpec : ChangeSpec := { name := "packPuts", fn := fun _ => fun
  | [d] => { results := [.lit (.bool true)], args := [d] }
  | _ => none }
def packPutsRow : OpenClaim := { program := "ytjkocjkfedcdoaadoor", sum := "405d280631fe6347aca2a34a28ece5e14764dcc3e8a8824142cba3c4fd78a892", func := "turnstile/turnstilelaw01.PackPuts", spec := "packPuts", named := ["turnstile/api.ErrShort", "turnstile/api.ErrForm", "turnstile/api.ErrNil", "turnstile/api.ErrLong", "turnstile/api.ErrArg", "turnstile/api.ErrSum", "turnstile/api.ErrIo", "turnstile/api.ErrDown", "turnstile/api.ErrGone", "turnstile/api.ErrThere", "turnstile/api.ErrImage", "turnstile/api.ErrGap", "turnstile/api.ErrLog", "turnstile/api.ErrSick", "turnstile/api.ErrConfig"], apart := false, laid := [("turnstile/api.ErrArg", laid_turnstile_api_ErrArg), ("turnstile/api.ErrShort", laid_turnstile_api_ErrShort), ("turnstile/api.ErrForm", laid_turnstile_api_ErrForm), ("turnstile/api.ErrLong", laid_turnstile_api_ErrLong), ("turnstile/api.ErrSum", laid_turnstile_api_ErrSum), ("turnstile/api.ErrIo", laid_turnstile_api_ErrIo), ("turnstile/api.ErrDown", laid_turnstile_api_ErrDown), ("turnstile/api.ErrGone", laid_turnstile_api_ErrGone), ("turnstile/api.ErrThere", laid_turnstile_api_ErrThere), ("turnstile/api.ErrImage", laid_turnstile_api_ErrImage), ("turnstile/api.ErrGap", laid_turnstile_api_ErrGap), ("turnstile/api.ErrLog", laid_turnstile_api_ErrLog), ("turnstile/api.ErrSick", laid_turnstile_api_ErrSick), ("turnstile/api.ErrConfig", laid_turnstile_api_ErrConfig), ("turnstile/api.ErrNil", laid_turnstile_api_ErrNil)] }
def PackPutsSaid : Prop := packPutsRow.holds Tryd.pinned (OpenSpec.ofChange packPutsSpec)

/-- ITS FALSE NEIGHBOUR: 'it returns false'. Refute it at one input. -/
def packPutsWrong : ChangeSpec := { name := "packPuts", fn := fun _ => fun
  | [d] => { results := [.lit (.bool false)], args := [d] }
  | _ => none }
def PackPutsWrongFalsely : Prop := packPutsRow.holds Tryd.pinned (OpenSpec.ofChange packPutsWrong)

/-- 'turnstilelaw01.PackReads': WHATEVER THE INPUT: true; the input reads as it did. -/
def packReadsSpec : ChangeSpec := { name := "packReads", fn := fun _ => fun
  | [d1, d2] => { results := [.lit (.bool true)], args := [d1, d2] }
  | _ => none }
def packReadsRow : OpenClaim := { program := "ytjkocjkfedcdoaadoor", sum := "405d280631fe6347aca2a34a28ece5e14764dcc3e8a8824142cba3c4fd78a892", func := "turnstile/turnstilelaw01.PackReads", spec := "packReads", named := ["turnstile/api.ErrShort", "turnstile/api.ErrForm", "turnstile/api.ErrNil", "turnstile/api.ErrArg", "turnstile/api.ErrLong", "turnstile/api.ErrSum", "turnstile/api.ErrIo", "turnstile/api.ErrDown", "turnstile/api.ErrGone", "turnstile/api.ErrThere", "turnstile/api.ErrImage", "turnstile/api.ErrGap", "turnstile/api.ErrLog", "turnstile/api.ErrSick", "turnstile/api.ErrConfig"], apart := false, laid := [("turnstile/api.ErrArg", laid_turnstile_api_ErrArg), ("turnstile/api.ErrShort", laid_turnstile_api_ErrShort), ("turnstile/api.ErrForm", laid_turnstile_api_ErrForm), ("turnstile/api.ErrLong", laid_turnstile_api_ErrLong), ("turnstile/api.ErrSum", laid_turnstile_api_ErrSum), ("turnstile/api.ErrIo", laid_turnstile_api_ErrIo), ("turnstile/api.ErrDown", laid_turnstile_api_ErrDown), ("turnstile/api.ErrGone", laid_turnstile_api_ErrGone), ("turnstile/api.ErrThere", laid_turnstile_api_ErrThere), ("turnstile/api.ErrImage", laid_turnstile_api_ErrImage), ("turnstile/api.ErrGap", laid_turnstile_api_ErrGap), ("turnstile/api.ErrLog", laid_turnstile_api_ErrLog), ("turnstile/api.ErrSick", laid_turnstile_api_ErrSick), ("turnstile/api.ErrConfig", laid_turnstile_api_ErrConfig), ("turnstile/api.ErrNil", laid_turnstile_api_ErrNil)] }
def PackReadsSaid : Prop := packReadsRow.holds Tryd.pinned (OpenSpec.ofChange packReadsSpec)

/-- ITS FALSE NEIGHBOUR: 'it returns false'. Refute it at one input. -/
def packReadsWrong : ChangeSpec := { name := "packReads", fn := fun _ => fun
  | [d1, d2] => { results := [.lit (.bool false)], args := [d1, d2] }
  | _ => none }
def PackReadsWrongFalsely : Prop := packReadsRow.holds Tryd.pinned (OpenSpec.ofChange packReadsWrong)

/-- 'turnstilelaw01.PackBack': WHATEVER THE INPUT: true; the input reads as it did. -/
def packBackSpec : ChangeSpec := { name := "packBack", fn := fun _ => fun
  | [d] => { results := [.lit (.bool true)], args := [d] }
  | _ => none }
def packBackRow : OpenClaim := { program := "ytjkocjkfedcdoaadoor", sum := "405d280631fe6347aca2a34a28ece5e14764dcc3e8a8824142cba3c4fd78a892", func := "turnstile/turnstilelaw01.PackBack", spec := "packBack", named := ["turnstile/api.ErrShort", "turnstile/api.ErrForm", "turnstile/api.ErrNil", "turnstile/api.ErrLong"], apart := false, laid := [("turnstile/api.ErrShort", laid_turnstile_api_ErrShort), ("turnstile/api.ErrForm", laid_turnstile_api_ErrForm), ("turnstile/api.ErrLong", laid_turnstile_api_ErrLong), ("turnstile/api.ErrNil", laid_turnstile_api_ErrNil)] }
def PackBackSaid : Prop := packBackRow.holds Tryd.pinned (OpenSpec.ofChange packBackSpec)

/-- ITS FALSE NEIGHBOUR: 'it returns false'. Refute it at one input. -/
def packBackWrong : ChangeSpec := { name := "packBack", fn := fun _ => fun
  | [d] => { results := [.lit (.bool false)], args := [d] }
  | _ => none }
def PackBackWrongFalsely : Prop := packBackRow.holds Tryd.pinned (OpenSpec.ofChange packBackWrong)

/-- 'turnstilelaw01.PackShort': WHATEVER THE INPUT: true; the input reads as it did. -/
def packShortSpec : ChangeSpec := { name := "packShort", fn := fun _ => fun
  | [d1, d2] => { results := [.lit (.bool true)], args := [d1, d2] }
  | _ => none }
def packShortRow : OpenClaim := { program := "ytjkocjkfedcdoaadoor", sum := "405d280631fe6347aca2a34a28ece5e14764dcc3e8a8824142cba3c4fd78a892", func := "turnstile/turnstilelaw01.PackShort", spec := "packShort", named := ["turnstile/api.ErrShort", "turnstile/api.ErrForm", "turnstile/api.ErrNil", "turnstile/api.ErrLong"], apart := false, laid := [("turnstile/api.ErrShort", laid_turnstile_api_ErrShort), ("turnstile/api.ErrForm", laid_turnstile_api_ErrForm), ("turnstile/api.ErrLong", laid_turnstile_api_ErrLong), ("turnstile/api.ErrNil", laid_turnstile_api_ErrNil)] }
def PackShortSaid : Prop := packShortRow.holds Tryd.pinned (OpenSpec.ofChange packShortSpec)

/-- ITS FALSE NEIGHBOUR: 'it returns false'. Refute it at one input. -/
def packShortWrong : ChangeSpec := { name := "packShort", fn := fun _ => fun
  | [d1, d2] => { results := [.lit (.bool false)], args := [d1, d2] }
  | _ => none }
def PackShortWrongFalsely : Prop := packShortRow.holds Tryd.pinned (OpenSpec.ofChange packShortWrong)

/- THE SECOND FORM. 'bulk': how many values and letters a reading holds, each counted each time it is reached (what is shared counts as often as it is met; a slice's spare places count too). A statement '..UptoSaid' is the law's where the arguments, and the package variables that the reading takes, are together of bulk at most 1048576: NARROWER than '..Said'. Prove '..Said' where nothing that the law and all that it calls make is longer than what came in: it says more and counts as full. Else prove '..UptoSaid'. A law counts once. -/
mutual
def uptoBulk {H : Type} : DataW H → Nat
  | .lit (.string bytes) => bytes.length + 1
  | .lit _ => 1
  | .nil => 1
  | .ptr d => uptoBulk d + 1
  | .slice elems spare => uptoBulkAll elems + uptoBulkAll spare + 1
  | .agg parts => uptoBulkAll parts + 1
  | .iface _ d => uptoBulk d + 1
  | .map entries => uptoBulkEntries entries + 1
  | .held _ => 1
def uptoBulkAll {H : Type} : List (DataW H) → Nat
  | [] => 0
  | d :: r => uptoBulk d + uptoBulkAll r
def uptoBulkEntries {H : Type} : List (Lit × DataW H) → Nat
  | [] => 0
  | x :: r => uptoBulkEntry x + uptoBulkEntries r
def uptoBulkEntry {H : Type} : Lit × DataW H → Nat
  | (.string bytes, d) => bytes.length + uptoBulk d + 1
  | (_, d) => uptoBulk d + 1
 end
def uptoSmall : (H : Type) → List (DataW H) → Bool := fun _ ds => decide (uptoBulkAll ds ≤ 1048576)
def OpenSpec.upto (s : _root_.Go.ChangeSpec) : _root_.Go.OpenSpec := { _root_.Go.OpenSpec.ofChange s with cond := some uptoSmall }

/-- 'turnstilelaw02.CrcAll', WHERE WHAT IT READS IS OF BULK AT MOST 1048576: true; the input reads as it did. -/
def crcAllUptoRow : OpenClaim := { program := "ytjkocjkfedcdoaadoor", sum := "405d280631fe6347aca2a34a28ece5e14764dcc3e8a8824142cba3c4fd78a892", func := "turnstile/turnstilelaw02.CrcAll", spec := "crcAll", named := ["turnstile/crc.halves"], apart := false, laid := [("turnstile/crc.halves", laid_turnstile_crc_halves)], narrowed := true }
def CrcAllUptoSaid : Prop := crcAllUptoRow.holds Tryd.pinned (OpenSpec.upto crcAllSpec)

/-- 'turnstilelaw02.CrcCuts', WHERE WHAT IT READS IS OF BULK AT MOST 1048576: true; the input reads as it did. -/
def crcCutsUptoRow : OpenClaim := { program := "ytjkocjkfedcdoaadoor", sum := "405d280631fe6347aca2a34a28ece5e14764dcc3e8a8824142cba3c4fd78a892", func := "turnstile/turnstilelaw02.CrcCuts", spec := "crcCuts", named := ["turnstile/crc.halves"], apart := false, laid := [("turnstile/crc.halves", laid_turnstile_crc_halves)], narrowed := true }
def CrcCutsUptoSaid : Prop := crcCutsUptoRow.holds Tryd.pinned (OpenSpec.upto crcCutsSpec)

/-- 'turnstilelaw02.CrcTurns', WHERE WHAT IT READS IS OF BULK AT MOST 1048576: true; the input reads as it did. -/
def crcTurnsUptoRow : OpenClaim := { program := "ytjkocjkfedcdoaadoor", sum := "405d280631fe6347aca2a34a28ece5e14764dcc3e8a8824142cba3c4fd78a892", func := "turnstile/turnstilelaw02.CrcTurns", spec := "crcTurns", named := ["turnstile/crc.halves"], apart := false, laid := [("turnstile/crc.halves", laid_turnstile_crc_halves)], narrowed := true }
def CrcTurnsUptoSaid : Prop := crcTurnsUptoRow.holds Tryd.pinned (OpenSpec.upto crcTurnsSpec)

/-- 'turnstilelaw02.CrcMoves', WHERE WHAT IT READS IS OF BULK AT MOST 1048576: true; the input reads as it did. -/
def crcMovesUptoRow : OpenClaim := { program := "ytjkocjkfedcdoaadoor", sum := "405d280631fe6347aca2a34a28ece5e14764dcc3e8a8824142cba3c4fd78a892", func := "turnstile/turnstilelaw02.CrcMoves", spec := "crcMoves", named := ["turnstile/crc.halves"], apart := false, laid := [("turnstile/crc.halves", laid_turnstile_crc_halves)], narrowed := true }
def CrcMovesUptoSaid : Prop := crcMovesUptoRow.holds Tryd.pinned (OpenSpec.upto crcMovesSpec)

/-- 'turnstilelaw02.CrcZeros', WHERE WHAT IT READS IS OF BULK AT MOST 1048576: true; the input reads as it did. -/
def crcZerosUptoRow : OpenClaim := { program := "ytjkocjkfedcdoaadoor", sum := "405d280631fe6347aca2a34a28ece5e14764dcc3e8a8824142cba3c4fd78a892", func := "turnstile/turnstilelaw02.CrcZeros", spec := "crcZeros", named := ["turnstile/crc.halves"], apart := false, laid := [("turnstile/crc.halves", laid_turnstile_crc_halves)], narrowed := true }
def CrcZerosUptoSaid : Prop := crcZerosUptoRow.holds Tryd.pinned (OpenSpec.upto crcZerosSpec)

/-- 'turnstilelaw02.CrcKeeps', WHERE WHAT IT READS IS OF BULK AT MOST 1048576: true; the input reads as it did. -/
def crcKeepsUptoRow : OpenClaim := { program := "ytjkocjkfedcdoaadoor", sum := "405d280631fe6347aca2a34a28ece5e14764dcc3e8a8824142cba3c4fd78a892", func := "turnstile/turnstilelaw02.CrcKeeps", spec := "crcKeeps", named := ["turnstile/crc.halves"], apart := false, laid := [("turnstile/crc.halves", laid_turnstile_crc_halves)], narrowed := true }
def CrcKeepsUptoSaid : Prop := crcKeepsUptoRow.holds Tryd.pinned (OpenSpec.upto crcKeepsSpec)

/-- 'turnstilelaw01.PackBytes', WHERE WHAT IT READS IS OF BULK AT MOST 1048576: true; the input reads as it did. -/
def packBytesUptoRow : OpenClaim := { program := "ytjkocjkfedcdoaadoor", sum := "405d280631fe6347aca2a34a28ece5e14764dcc3e8a8824142cba3c4fd78a892", func := "turnstile/turnstilelaw01.PackBytes", spec := "packBytes", named := ["turnstile/api.ErrShort", "turnstile/api.ErrForm", "turnstile/api.ErrNil"], apart := false, laid := [("turnstile/api.ErrShort", laid_turnstile_api_ErrShort), ("turnstile/api.ErrForm", laid_turnstile_api_ErrForm), ("turnstile/api.ErrNil", laid_turnstile_api_ErrNil)], narrowed := true }
def PackBytesUptoSaid : Prop := packBytesUptoRow.holds Tryd.pinned (OpenSpec.upto packBytesSpec)

/-- 'turnstilelaw01.PackForm', WHERE WHAT IT READS IS OF BULK AT MOST 1048576: true; the input reads as it did. -/
def packFormUptoRow : OpenClaim := { program := "ytjkocjkfedcdoaadoor", sum := "405d280631fe6347aca2a34a28ece5e14764dcc3e8a8824142cba3c4fd78a892", func := "turnstile/turnstilelaw01.PackForm", spec := "packForm", named := ["turnstile/api.ErrShort", "turnstile/api.ErrForm", "turnstile/api.ErrNil"], apart := false, laid := [("turnstile/api.ErrShort", laid_turnstile_api_ErrShort), ("turnstile/api.ErrForm", laid_turnstile_api_ErrForm), ("turnstile/api.ErrNil", laid_turnstile_api_ErrNil)], narrowed := true }
def PackFormUptoSaid : Prop := packFormUptoRow.holds Tryd.pinned (OpenSpec.upto packFormSpec)

/-- 'turnstilelaw01.PackPuts', WHERE WHAT IT READS IS OF BULK AT MOST 1048576: true; the input reads as it did. -/
def packPutsUptoRow : OpenClaim := { program := "ytjkocjkfedcdoaadoor", sum := "405d280631fe6347aca2a34a28ece5e14764dcc3e8a8824142cba3c4fd78a892", func := "turnstile/turnstilelaw01.PackPuts", spec := "packPuts", named := ["turnstile/api.ErrShort", "turnstile/api.ErrForm", "turnstile/api.ErrNil", "turnstile/api.ErrLong", "turnstile/api.ErrArg", "turnstile/api.ErrSum", "turnstile/api.ErrIo", "turnstile/api.ErrDown", "turnstile/api.ErrGone", "turnstile/api.ErrThere", "turnstile/api.ErrImage", "turnstile/api.ErrGap", "turnstile/api.ErrLog", "turnstile/api.ErrSick", "turnstile/api.ErrConfig"], apart := false, laid := [("turnstile/api.ErrArg", laid_turnstile_api_ErrArg), ("turnstile/api.ErrShort", laid_turnstile_api_ErrShort), ("turnstile/api.ErrForm", laid_turnstile_api_ErrForm), ("turnstile/api.ErrLong", laid_turnstile_api_ErrLong), ("turnstile/api.ErrSum", laid_turnstile_api_ErrSum), ("turnstile/api.ErrIo", laid_turnstile_api_ErrIo), ("turnstile/api.ErrDown", laid_turnstile_api_ErrDown), ("turnstile/api.ErrGone", laid_turnstile_api_ErrGone), ("turnstile/api.ErrThere", laid_turnstile_api_ErrThere), ("turnstile/api.ErrImage", laid_turnstile_api_ErrImage), ("turnstile/api.ErrGap", laid_turnstile_api_ErrGap), ("turnstile/api.ErrLog", laid_turnstile_api_ErrLog), ("turnstile/api.ErrSick", laid_turnstile_api_ErrSick), ("turnstile/api.ErrConfig", laid_turnstile_api_ErrConfig), ("turnstile/api.ErrNil", laid_turnstile_api_ErrNil)], narrowed := true }
def PackPutsUptoSaid : Prop := packPutsUptoRow.holds Tryd.pinned (OpenSpec.upto packPutsSpec)

/-- 'turnstilelaw01.PackReads', WHERE WHAT IT READS IS OF BULK AT MOST 1048576: true; the input reads as it did. -/
def packReadsUptoRow : OpenClaim := { program := "ytjkocjkfedcdoaadoor", sum := "405d280631fe6347aca2a34a28ece5e14764dcc3e8a8824142cba3c4fd78a892", func := "turnstile/turnstilelaw01.PackReads", spec := "packReads", named := ["turnstile/api.ErrShort", "turnstile/api.ErrForm", "turnstile/api.ErrNil", "turnstile/api.ErrArg", "turnstile/api.ErrLong", "turnstile/api.ErrSum", "turnstile/api.ErrIo", "turnstile/api.ErrDown", "turnstile/api.ErrGone", "turnstile/api.ErrThere", "turnstile/api.ErrImage", "turnstile/api.ErrGap", "turnstile/api.ErrLog", "turnstile/api.ErrSick", "turnstile/api.ErrConfig"], apart := false, laid := [("turnstile/api.ErrArg", laid_turnstile_api_ErrArg), ("turnstile/api.ErrShort", laid_turnstile_api_ErrShort), ("turnstile/api.ErrForm", laid_turnstile_api_ErrForm), ("turnstile/api.ErrLong", laid_turnstile_api_ErrLong), ("turnstile/api.ErrSum", laid_turnstile_api_ErrSum), ("turnstile/api.ErrIo", laid_turnstile_api_ErrIo), ("turnstile/api.ErrDown", laid_turnstile_api_ErrDown), ("turnstile/api.ErrGone", laid_turnstile_api_ErrGone), ("turnstile/api.ErrThere", laid_turnstile_api_ErrThere), ("turnstile/api.ErrImage", laid_turnstile_api_ErrImage), ("turnstile/api.ErrGap", laid_turnstile_api_ErrGap), ("turnstile/api.ErrLog", laid_turnstile_api_ErrLog), ("turnstile/api.ErrSick", laid_turnstile_api_ErrSick), ("turnstile/api.ErrConfig", laid_turnstile_api_ErrConfig), ("turnstile/api.ErrNil", laid_turnstile_api_ErrNil)], narrowed := true }
def PackReadsUptoSaid : Prop := packReadsUptoRow.holds Tryd.pinned (OpenSpec.upto packReadsSpec)

/-- 'turnstilelaw01.PackBack', WHERE WHAT IT READS IS OF BULK AT MOST 1048576: true; the input reads as it did. -/
def packBackUptoRow : OpenClaim := { program := "ytjkocjkfedcdoaadoor", sum := "405d280631fe6347aca2a34a28ece5e14764dcc3e8a8824142cba3c4fd78a892", func := "turnstile/turnstilelaw01.PackBack", spec := "packBack", named := ["turnstile/api.ErrShort", "turnstile/api.ErrForm", "turnstile/api.ErrNil", "turnstile/api.ErrLong"], apart := false, laid := [("turnstile/api.ErrShort", laid_turnstile_api_ErrShort), ("turnstile/api.ErrForm", laid_turnstile_api_ErrForm), ("turnstile/api.ErrLong", laid_turnstile_api_ErrLong), ("turnstile/api.ErrNil", laid_turnstile_api_ErrNil)], narrowed := true }
def PackBackUptoSaid : Prop := packBackUptoRow.holds Tryd.pinned (OpenSpec.upto packBackSpec)

/-- 'turnstilelaw01.PackShort', WHERE WHAT IT READS IS OF BULK AT MOST 1048576: true; the input reads as it did. -/
def packShortUptoRow : OpenClaim := { program := "ytjkocjkfedcdoaadoor", sum := "405d280631fe6347aca2a34a28ece5e14764dcc3e8a8824142cba3c4fd78a892", func := "turnstile/turnstilelaw01.PackShort", spec := "packShort", named := ["turnstile/api.ErrShort", "turnstile/api.ErrForm", "turnstile/api.ErrNil", "turnstile/api.ErrLong"], apart := false, laid := [("turnstile/api.ErrShort", laid_turnstile_api_ErrShort), ("turnstile/api.ErrForm", laid_turnstile_api_ErrForm), ("turnstile/api.ErrLong", laid_turnstile_api_ErrLong), ("turnstile/api.ErrNil", laid_turnstile_api_ErrNil)], narrowed := true }
def PackShortUptoSaid : Prop := packShortUptoRow.holds Tryd.pinned (OpenSpec.upto packShortSpec)

end Rows
end Go.Proofs.YtjkocjkfedcdoaaDoor
