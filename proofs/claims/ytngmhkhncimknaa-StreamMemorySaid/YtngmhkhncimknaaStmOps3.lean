/- The operators, the conversions, panic, the tests of nil: mild. -/
import Derived.Test.YtngmhkhncimknaaStmOps
namespace Go.Proofs.Ytngmhkhncimknaa
open Go
set_option linter.unusedVariables false
set_option linter.unusedSimpArgs false

section
variable {P : Program}
theorem mild_cellsIn (r : Nat) : mild P Tt (cellsIn r) := by
  unfold cellsIn
  mild_all
macro_rules | `(tactic| mild_known) => `(tactic| exact mild_cellsIn ..)
theorem mild_variablesAt (a : Addr) (u : TypeId) (n : Nat) : mild P Tt (variablesAt a u n) := by
  unfold variablesAt
  mild_all
macro_rules | `(tactic| mild_known) => `(tactic| exact mild_variablesAt ..)
theorem mild_panicnil : mild P Tt Instr.panicnil := by
  unfold Instr.panicnil
  refine mild_seq (s := sys .env) ⟨rfl, fun _ => trivial⟩ fun _ => ?_
  mild_all
macro_rules | `(tactic| mild_known) => `(tactic| exact mild_panicnil)
theorem mild_Instr_panic (v : Value) : mild P Tt (Instr.panic v) := by
  unfold Instr.panic
  mild_all
macro_rules | `(tactic| mild_known) => `(tactic| exact mild_Instr_panic ..)
theorem mild_Builtin_unsafeAdd (ts : Array TypeId) (t : TypeId) (as : Array Value) : mild P Tt (Builtin.unsafeAdd_ ts t as) := by
  unfold Builtin.unsafeAdd_
  rcases as with ⟨_ | ⟨a, _ | ⟨b, _ | ⟨c, l⟩⟩⟩⟩ <;> (try cases a) <;> first | exact trivial | skip
  refine mild_seq (s := asInt b) (mild_asInt _) (fun n => ?_)
  mild_all
macro_rules | `(tactic| mild_known) => `(tactic| exact mild_Builtin_unsafeAdd ..)
theorem mild_movedNumber (t : TypeId) (x y : Value) : mild P Tt (movedNumber t x y) := by
  unfold movedNumber
  mild_all
macro_rules | `(tactic| mild_known) => `(tactic| exact mild_movedNumber ..)
theorem mild_movedPointer (t : TypeId) (x y : Value) : mild P Tt (movedPointer t x y) := by
  unfold movedPointer
  mild_all
macro_rules | `(tactic| mild_known) => `(tactic| exact mild_movedPointer ..)
theorem mild_Op_intArith (op : BinOp) (k : IntKind) (x y : Int) : mild P Tt (Op.intArith op k x y) := by
  unfold Op.intArith
  mild_all
macro_rules | `(tactic| mild_known) => `(tactic| exact mild_Op_intArith ..)
theorem mild_Op_intDiv (op : BinOp) (k : IntKind) (x y : Int) : mild P Tt (Op.intDiv op k x y) := by
  unfold Op.intDiv
  mild_all
macro_rules | `(tactic| mild_known) => `(tactic| exact mild_Op_intDiv ..)
theorem mild_Op_intBits (op : BinOp) (k : IntKind) (x y : Int) : mild P Tt (Op.intBits op k x y) := by
  unfold Op.intBits
  mild_all
macro_rules | `(tactic| mild_known) => `(tactic| exact mild_Op_intBits ..)
theorem mild_Op_intCmp (op : BinOp) (x y : Int) : mild P Tt (Op.intCmp op x y) := by
  unfold Op.intCmp
  mild_all
macro_rules | `(tactic| mild_known) => `(tactic| exact mild_Op_intCmp ..)
theorem mild_Op_shift (op : BinOp) (k : IntKind) (x : Int) (j : IntKind) (y : Int) : mild P Tt (Op.shift op k x j y) := by
  unfold Op.shift
  mild_all
macro_rules | `(tactic| mild_known) => `(tactic| exact mild_Op_shift ..)
theorem mild_Op_stringOp (op : BinOp) (x y : ByteArray) : mild P Tt (Op.stringOp op x y) := by
  unfold Op.stringOp
  mild_all
macro_rules | `(tactic| mild_known) => `(tactic| exact mild_Op_stringOp ..)
theorem mild_Op_floatArith (op : BinOp) (k : FloatKind) (x y : Nat) : mild P Tt (Op.floatArith op k x y) := by
  unfold Op.floatArith
  mild_all
macro_rules | `(tactic| mild_known) => `(tactic| exact mild_Op_floatArith ..)
theorem mild_Op_floatCmp (op : BinOp) (k : FloatKind) (x y : Nat) : mild P Tt (Op.floatCmp op k x y) := by
  unfold Op.floatCmp
  mild_all
macro_rules | `(tactic| mild_known) => `(tactic| exact mild_Op_floatCmp ..)
theorem mild_Conv_floatToFloat (k : FloatKind) (x : Nat) (j : FloatKind) : mild P Tt (Conv.floatToFloat k x j) := by
  unfold Conv.floatToFloat
  mild_all
macro_rules | `(tactic| mild_known) => `(tactic| exact mild_Conv_floatToFloat ..)
theorem mild_Op_Complex_arith (op : BinOp) (k : FloatKind) (x y : Nat) : mild P Tt (Op.Complex.arith op k x y) := by
  unfold Op.Complex.arith
  mild_all
macro_rules | `(tactic| mild_known) => `(tactic| exact mild_Op_Complex_arith ..)
theorem mild_Op_Complex_cmp (op : BinOp) (k : FloatKind) (x y : Nat) : mild P Tt (Op.Complex.cmp op k x y) := by
  unfold Op.Complex.cmp
  mild_all
macro_rules | `(tactic| mild_known) => `(tactic| exact mild_Op_Complex_cmp ..)
theorem mild_Op_Complex_conv (k : FloatKind) (x : Nat) (j : FloatKind) : mild P Tt (Op.Complex.conv k x j) := by
  unfold Op.Complex.conv
  mild_all
macro_rules | `(tactic| mild_known) => `(tactic| exact mild_Op_Complex_conv ..)
theorem mild_Op_Complex_add (x y : Nat) : mild P Tt (Op.Complex.add x y) := by
  unfold Op.Complex.add
  mild_all
macro_rules | `(tactic| mild_known) => `(tactic| exact mild_Op_Complex_add ..)
theorem mild_Op_Complex_sub (x y : Nat) : mild P Tt (Op.Complex.sub x y) := by
  unfold Op.Complex.sub
  mild_all
macro_rules | `(tactic| mild_known) => `(tactic| exact mild_Op_Complex_sub ..)
theorem mild_Op_Complex_mul (x y : Nat) : mild P Tt (Op.Complex.mul x y) := by
  unfold Op.Complex.mul
  mild_all
macro_rules | `(tactic| mild_known) => `(tactic| exact mild_Op_Complex_mul ..)
theorem mild_Op_Complex_quo (x y : Nat) : mild P Tt (Op.Complex.quo x y) := by
  unfold Op.Complex.quo
  mild_all
macro_rules | `(tactic| mild_known) => `(tactic| exact mild_Op_Complex_quo ..)
theorem mild_Op_Complex_product (a b c d : Nat) : mild P Tt (Op.Complex.product a b c d) := by
  unfold Op.Complex.product
  mild_all
macro_rules | `(tactic| mild_known) => `(tactic| exact mild_Op_Complex_product ..)
theorem mild_Op_Complex_corrected (s a b c d : Nat) : mild P Tt (Op.Complex.corrected s a b c d) := by
  unfold Op.Complex.corrected
  mild_all
macro_rules | `(tactic| mild_known) => `(tactic| exact mild_Op_Complex_corrected ..)
theorem mild_Op_Complex_quotient (a b c d : Nat) : mild P Tt (Op.Complex.quotient a b c d) := by
  unfold Op.Complex.quotient
  mild_all
macro_rules | `(tactic| mild_known) => `(tactic| exact mild_Op_Complex_quotient ..)
theorem mild_Op_complexOp (op : BinOp) (k : FloatKind) (a b c d : Nat) : mild P Tt (Op.complexOp op k a b c d) := by
  unfold Op.complexOp
  mild_all
macro_rules | `(tactic| mild_known) => `(tactic| exact mild_Op_complexOp ..)
theorem mild_Op_twoPlaces (a b : Addr) : mild P Tt (Op.twoPlaces a b) := by
  unfold Op.twoPlaces
  mild_all
macro_rules | `(tactic| mild_known) => `(tactic| exact mild_Op_twoPlaces ..)
theorem mild_Op_addrSub (k : IntKind) (a b : Addr) : mild P Tt (Op.addrSub k a b) := by
  unfold Op.addrSub
  mild_all
macro_rules | `(tactic| mild_known) => `(tactic| exact mild_Op_addrSub ..)
theorem mild_Op_addrCmp (op : BinOp) (a b : Addr) : mild P Tt (Op.addrCmp op a b) := by
  unfold Op.addrCmp
  mild_all
macro_rules | `(tactic| mild_known) => `(tactic| exact mild_Op_addrCmp ..)
theorem mild_Op_addrMod (k : IntKind) (a : Addr) (n : Int) : mild P Tt (Op.addrMod k a n) := by
  unfold Op.addrMod
  mild_all
macro_rules | `(tactic| mild_known) => `(tactic| exact mild_Op_addrMod ..)
theorem mild_Op_unary (op : UnOp) (x : Value) : mild P Tt (Op.unary op x) := by
  unfold Op.unary
  mild_all
macro_rules | `(tactic| mild_known) => `(tactic| exact mild_Op_unary ..)
theorem mild_equalIn (d : Nat) : ∀ (t : TypeId) (x y : Value), mild P Tt (Op.equalIn d t x y) := by
  induction d with
  | zero => exact fun _ _ _ => trivial
  | succ d ih =>
    intro t x y
    unfold Op.equalIn
    repeat' first | exact ih _ _ _ | mild_all
macro_rules | `(tactic| mild_known) => `(tactic| exact mild_equalIn ..)
theorem mild_equal (t : TypeId) (x y : Value) : mild P Tt (Op.equal t x y) := mild_equalIn _ t x y
macro_rules | `(tactic| mild_known) => `(tactic| exact mild_equal ..)
theorem mild_eqGuardIn (d : Nat) : ∀ (t : TypeId) (x y : Value), mild P Tt (Op.eqGuardIn d t x y) := by
  induction d with
  | zero => exact fun _ _ _ => trivial
  | succ d ih =>
    intro t x y
    unfold Op.eqGuardIn
    repeat' first | exact ih _ _ _ | mild_all
macro_rules | `(tactic| mild_known) => `(tactic| exact mild_eqGuardIn ..)
theorem mild_eqGuard (op : BinOp) (t : TypeId) (x y : Operand) (a b : Value) : mild P Tt (eqGuard op t x y a b) := by
  unfold eqGuard
  mild_all
macro_rules | `(tactic| mild_known) => `(tactic| exact mild_eqGuard ..)
theorem mild_binOp (op : BinOp) (t : TypeId) (x y : Value) : mild P Tt (binOp op t x y) := by
  unfold binOp
  mild_all
macro_rules | `(tactic| mild_known) => `(tactic| exact mild_binOp ..)
theorem mild_Conv_intToInt (k : IntKind) (n : Int) : mild P Tt (Conv.intToInt k n) := by
  unfold Conv.intToInt
  mild_all
macro_rules | `(tactic| mild_known) => `(tactic| exact mild_Conv_intToInt ..)
theorem mild_Conv_intToFloat (k : FloatKind) (n : Int) : mild P Tt (Conv.intToFloat k n) := by
  unfold Conv.intToFloat
  mild_all
macro_rules | `(tactic| mild_known) => `(tactic| exact mild_Conv_intToFloat ..)
theorem mild_Conv_intToString (n : Int) : mild P Tt (Conv.intToString n) := by
  unfold Conv.intToString
  mild_all
macro_rules | `(tactic| mild_known) => `(tactic| exact mild_Conv_intToString ..)
theorem mild_Conv_floatToInt (k : FloatKind) (n : Nat) (j : IntKind) : mild P Tt (Conv.floatToInt k n j) := by
  unfold Conv.floatToInt
  mild_all
macro_rules | `(tactic| mild_known) => `(tactic| exact mild_Conv_floatToInt ..)
theorem mild_Conv_complexToComplex (k : FloatKind) (n m : Nat) (j : FloatKind) : mild P Tt (Conv.complexToComplex k n m j) := by
  unfold Conv.complexToComplex
  mild_all
macro_rules | `(tactic| mild_known) => `(tactic| exact mild_Conv_complexToComplex ..)
theorem mild_Conv_bytesToString (x : Value) : mild P Tt (Conv.bytesToString x) := by
  unfold Conv.bytesToString
  mild_all
macro_rules | `(tactic| mild_known) => `(tactic| exact mild_Conv_bytesToString ..)
theorem mild_Conv_runesToString (x : Value) : mild P Tt (Conv.runesToString x) := by
  unfold Conv.runesToString
  mild_all
macro_rules | `(tactic| mild_known) => `(tactic| exact mild_Conv_runesToString ..)
theorem mild_Conv_stringToBytes (e : TypeId) (s : ByteArray) : mild P Tt (Conv.stringToBytes e s) := by
  unfold Conv.stringToBytes
  mild_all
macro_rules | `(tactic| mild_known) => `(tactic| exact mild_Conv_stringToBytes ..)
theorem mild_Conv_stringToRunes (e : TypeId) (s : ByteArray) : mild P Tt (Conv.stringToRunes e s) := by
  unfold Conv.stringToRunes
  mild_all
macro_rules | `(tactic| mild_known) => `(tactic| exact mild_Conv_stringToRunes ..)
theorem mild_Conv_seenAt (a : Addr) : mild P Tt (Conv.seenAt a) := by
  unfold Conv.seenAt
  mild_all
macro_rules | `(tactic| mild_known) => `(tactic| exact mild_Conv_seenAt ..)
theorem mild_Conv_unsafePointer (s d : TypeId) (x : Value) : mild P Tt (Conv.unsafePointer s d x) := by
  unfold Conv.unsafePointer
  mild_all
macro_rules | `(tactic| mild_known) => `(tactic| exact mild_Conv_unsafePointer ..)
theorem mild_convert (s d : TypeId) (x : Value) : mild P Tt (convert s d x) := by
  unfold convert
  mild_all
macro_rules | `(tactic| mild_known) => `(tactic| exact mild_convert ..)
theorem mild_followBlind (l : List FieldStep) : ∀ (t : TypeId) (x : Option Value), mild P Tt (followBlind l t x) := by
  induction l with
  | nil => exact fun _ _ => trivial
  | cons s l ih =>
    intro t x
    unfold followBlind
    repeat' first | exact ih _ _ | mild_all
macro_rules | `(tactic| mild_known) => `(tactic| exact mild_followBlind ..)
theorem mild_nilAhead (d : Nat) : ∀ (t : TypeId) (x : Value) (n : String), mild P Tt (nilAhead d t x n) := by
  induction d with
  | zero => exact fun _ _ _ => trivial
  | succ d ih =>
    intro t x n
    unfold nilAhead
    repeat' first | exact ih _ _ _ | mild_all
macro_rules | `(tactic| mild_known) => `(tactic| exact mild_nilAhead ..)

/-- what is asked of a call that a function of S makes -/
def LeafS (S : FuncId → Bool) : Next → Prop
  | .value _ | .skip => True
  | .enter f _ => S f = true
  | _ => False
end
end Go.Proofs.Ytngmhkhncimknaa
