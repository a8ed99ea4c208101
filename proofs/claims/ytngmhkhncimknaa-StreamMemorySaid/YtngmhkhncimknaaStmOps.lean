/- Operations that ask the kernel nothing and block nowhere ('mild'): all that the functions of these statements hold, but communications, go statements, defers. -/
import Derived.Test.YtngmhkhncimknaaStmSem
import Derived.Laws.Sem
namespace Go.Proofs.Ytngmhkhncimknaa
open Go
set_option linter.unusedVariables false
set_option linter.unusedSimpArgs false

abbrev Tt {α : Type} : α → Prop := fun _ => True

section
variable {α β : Type} {P : Program}
theorem mild_seq {M : β → Prop} {s : Sem α} {f : α → Sem β} (hs : mild P Tt s) (hf : ∀ a, mild P M (f a)) : mild P M (s >>= f) := mild_bind (fun a _ => hf a) hs
theorem mild_pure {L : α → Prop} {a : α} (h : L a) : mild P L (pure a : Sem α) := h
theorem mild_stuck {L : α → Prop} {m : String} : mild P L (stuck m : Sem α) := trivial
theorem mild_unsupported {L : α → Prop} {m : Unsupported} (h : okHalt (.unsupported m) := by exact trivial) : mild P L (unsupported m : Sem α) := h
theorem mild_goPanic {L : α → Prop} {m : Value} : mild P L (goPanic m : Sem α) := trivial
theorem mild_forIn {l : List α} {f : α → β → Sem (ForInStep β)} (hf : ∀ a b, mild P Tt (f a b)) : ∀ b, mild P Tt (forIn l b f) := by
  induction l with
  | nil => intro b; exact trivial
  | cons a l ih =>
    intro b
    rw [List.forIn_cons]
    refine mild_seq (hf a b) fun r => ?_
    cases r
    · exact trivial
    · exact ih _
theorem mild_forInA {l : Array α} {f : α → β → Sem (ForInStep β)} {b : β} (hf : ∀ a b, mild P Tt (f a b)) : mild P Tt (forIn l b f) := by
  rw [← Array.forIn_toList]; exact mild_forIn hf b
theorem mild_forInR {l : Std.Legacy.Range} {f : Nat → β → Sem (ForInStep β)} {b : β} (hf : ∀ a b, mild P Tt (f a b)) : mild P Tt (forIn l b f) := by
  rw [Std.Legacy.Range.forIn_eq_forIn_range']; exact mild_forIn hf b
theorem mild_mapM {l : List α} {f : α → Sem β} (hf : ∀ a, mild P Tt (f a)) : mild P Tt (l.mapM f) := by
  induction l with
  | nil => rw [List.mapM_nil]; exact trivial
  | cons a l ih => rw [List.mapM_cons]; exact mild_seq (hf a) fun _ => mild_seq ih fun _ => trivial
theorem mild_mapMA {l : Array α} {f : α → Sem β} (hf : ∀ a, mild P Tt (f a)) : mild P Tt (l.mapM f) := by
  rw [Array.mapM_eq_mapM_toList]
  show mild P Tt (Sem.bind (l.toList.mapM f) fun a => Sem.pure a.toArray)
  exact mild_bind (L := Tt) (M := Tt) (f := fun a => Sem.pure a.toArray) (fun a _ => trivial) (mild_mapM hf)
theorem mild_map {s : Sem α} {f : α → β} (hs : mild P Tt s) : mild P Tt (f <$> s) := by
  show mild P Tt (Sem.bind s fun a => Sem.pure (f a))
  exact mild_bind (L := Tt) (M := Tt) (f := fun a => Sem.pure (f a)) (fun a _ => trivial) hs
theorem mild_ite {L : α → Prop} {c : Prop} [Decidable c] {a b : Sem α} (ha : mild P L a) (hb : mild P L b) : mild P L (if c then a else b) := by
  split
  · exact ha
  · exact hb
end

syntax "mild_known" : tactic
macro_rules | `(tactic| mild_known) => `(tactic| fail)
macro "mild_all" : tactic => `(tactic| repeat' first | assumption | with_reducible exact mild_pure trivial | with_reducible mild_known | (with_reducible refine mild_seq ?_ (fun _ => ?_)) | (with_reducible refine mild_map ?_) | (with_reducible refine mild_forInA (fun _ _ => ?_)) | (with_reducible refine mild_forInR (fun _ _ => ?_)) | (with_reducible refine mild_forIn (fun _ _ => ?_) _) | (with_reducible refine mild_mapMA (fun _ => ?_)) | (with_reducible refine mild_mapM (fun _ => ?_)) | (with_reducible refine mild_ite ?_ ?_) | split | intro _ | dsimp only | exact trivial)

section
variable {P : Program}
theorem mild_load (a : Addr) (m : Mode) : mild P Tt (load a m) := fun _ => trivial
theorem mild_store (a : Addr) (v : Value) (m : Mode) : mild P Tt (store a v m) := trivial
theorem mild_newObj (o : Obj) : mild P Tt (newObj o) := fun _ => trivial
theorem mild_shape (r : Nat) : mild P Tt (shape r) := fun _ => trivial
theorem mild_freeze (a : Addr) (n : Nat) : mild P Tt (freeze a n) := trivial
theorem mild_frozen (a : Addr) : mild P Tt (frozen a) := fun _ => trivial
theorem mild_getObj (r : Nat) : mild P Tt (getObj r) := fun _ => trivial
theorem mild_setObj (r : Nat) (o : Obj) : mild P Tt (setObj r o) := trivial
theorem mild_choose (q : Question) : mild P Tt (choose q) := fun _ => trivial
theorem mild_program : mild P Tt program := trivial
theorem mild_askRoom (n : Nat) : mild P Tt (askRoom n) := by
  unfold askRoom; split
  · exact ⟨⟨by simp, by simp⟩, trivial⟩
  · exact trivial
theorem mild_noRoom : mild P Tt (mark .noRoom) := ⟨⟨by simp, by simp⟩, trivial⟩
macro_rules | `(tactic| mild_known) => `(tactic| exact mild_load ..)
macro_rules | `(tactic| mild_known) => `(tactic| exact mild_store ..)
macro_rules | `(tactic| mild_known) => `(tactic| exact mild_newObj ..)
macro_rules | `(tactic| mild_known) => `(tactic| exact mild_shape ..)
macro_rules | `(tactic| mild_known) => `(tactic| exact mild_freeze ..)
macro_rules | `(tactic| mild_known) => `(tactic| exact mild_frozen ..)
macro_rules | `(tactic| mild_known) => `(tactic| exact mild_getObj ..)
macro_rules | `(tactic| mild_known) => `(tactic| exact mild_setObj ..)
macro_rules | `(tactic| mild_known) => `(tactic| exact mild_choose ..)
macro_rules | `(tactic| mild_known) => `(tactic| exact mild_program)
macro_rules | `(tactic| mild_known) => `(tactic| exact mild_askRoom ..)
macro_rules | `(tactic| mild_known) => `(tactic| exact mild_noRoom)
macro_rules | `(tactic| mild_known) => `(tactic| exact mild_stuck)
macro_rules | `(tactic| mild_known) => `(tactic| exact mild_unsupported)
macro_rules | `(tactic| mild_known) => `(tactic| exact mild_goPanic)
end

section
variable {P : Program}
theorem mild_viewAt (r : Nat) : mild P Tt (viewAt r) := by
  unfold viewAt
  mild_all
macro_rules | `(tactic| mild_known) => `(tactic| exact mild_viewAt ..)
theorem mild_numberAt (r : Nat) : mild P Tt (numberAt r) := by
  unfold numberAt
  mild_all
macro_rules | `(tactic| mild_known) => `(tactic| exact mild_numberAt ..)
theorem mild_asNumber (a : Addr) (l : Bool) : mild P Tt (asNumber a l) := by
  unfold asNumber
  mild_all
macro_rules | `(tactic| mild_known) => `(tactic| exact mild_asNumber ..)
theorem mild_behindNumber (n : Addr) : mild P Tt (behindNumber n) := by
  unfold behindNumber
  mild_all
macro_rules | `(tactic| mild_known) => `(tactic| exact mild_behindNumber ..)
theorem mild_backFromNumber (n : Addr) : mild P Tt (backFromNumber n) := by
  unfold backFromNumber
  mild_all
macro_rules | `(tactic| mild_known) => `(tactic| exact mild_backFromNumber ..)
theorem mild_noView (a : Addr) : mild P Tt (noView a) := by
  unfold noView
  mild_all
macro_rules | `(tactic| mild_known) => `(tactic| exact mild_noView ..)
theorem mild_markStringish (a : Addr) : mild P Tt (markStringish a) := by
  unfold markStringish
  mild_all
macro_rules | `(tactic| mild_known) => `(tactic| exact mild_markStringish ..)
theorem mild_stringish (a : Addr) : mild P Tt (stringish a) := by
  unfold stringish
  mild_all
macro_rules | `(tactic| mild_known) => `(tactic| exact mild_stringish ..)
theorem mild_mayBeOne (a b : Addr) : mild P Tt (mayBeOne a b) := by
  unfold mayBeOne
  mild_all
macro_rules | `(tactic| mild_known) => `(tactic| exact mild_mayBeOne ..)
theorem mild_sameAddr (a b : Addr) : mild P Tt (sameAddr a b) := by
  unfold sameAddr
  mild_all
macro_rules | `(tactic| mild_known) => `(tactic| exact mild_sameAddr ..)
theorem mild_samePointer (a b : Option Addr) : mild P Tt (samePointer a b) := by
  unfold samePointer
  mild_all
macro_rules | `(tactic| mild_known) => `(tactic| exact mild_samePointer ..)
theorem mild_typeInfo (t : TypeId) : mild P Tt (typeInfo t) := by
  unfold typeInfo
  mild_all
macro_rules | `(tactic| mild_known) => `(tactic| exact mild_typeInfo ..)
theorem mild_underlying (t : TypeId) : mild P Tt (underlying t) := by
  unfold underlying
  mild_all
macro_rules | `(tactic| mild_known) => `(tactic| exact mild_underlying ..)
theorem mild_typeStr (t : TypeId) : mild P Tt (typeStr t) := by
  unfold typeStr
  mild_all
macro_rules | `(tactic| mild_known) => `(tactic| exact mild_typeStr ..)
theorem mild_zeroValue (t : TypeId) : mild P Tt (zeroValue t) := by
  unfold zeroValue
  mild_all
macro_rules | `(tactic| mild_known) => `(tactic| exact mild_zeroValue ..)
theorem mild_sizeOf (t : TypeId) : mild P Tt (sizeOf t) := by
  unfold sizeOf
  mild_all
macro_rules | `(tactic| mild_known) => `(tactic| exact mild_sizeOf ..)
theorem mild_isAgg (t : TypeId) : mild P Tt (isAgg t) := by
  unfold isAgg
  mild_all
macro_rules | `(tactic| mild_known) => `(tactic| exact mild_isAgg ..)
theorem mild_loadCellsFrom (a : Addr) (n : Nat) : ∀ (i : Nat) (acc : Array Value), mild P Tt (loadCellsFrom a i n acc) := by
  induction n with
  | zero => exact fun _ _ => trivial
  | succ n ih => intro i acc; unfold loadCellsFrom; exact mild_seq (mild_load _ _) fun v => ih _ _
macro_rules | `(tactic| mild_known) => `(tactic| exact mild_loadCellsFrom ..)
theorem mild_storeCells (a : Addr) (vs : List Value) : ∀ (i : Nat), mild P Tt (storeCells a vs i) := by
  induction vs with
  | nil => exact fun _ => trivial
  | cons v vs ih => intro i; unfold storeCells; exact mild_seq (mild_store _ _ _) fun v => ih _
macro_rules | `(tactic| mild_known) => `(tactic| exact mild_storeCells ..)
theorem mild_loadCells (a : Addr) (n : Nat) : mild P Tt (loadCells a n) := by
  unfold loadCells
  mild_all
macro_rules | `(tactic| mild_known) => `(tactic| exact mild_loadCells ..)
theorem mild_loadVar (t : TypeId) (a : Addr) : mild P Tt (loadVar t a) := by
  unfold loadVar
  mild_all
macro_rules | `(tactic| mild_known) => `(tactic| exact mild_loadVar ..)
theorem mild_storeVar (t : TypeId) (a : Addr) (v : Value) : mild P Tt (storeVar t a v) := by
  unfold storeVar
  mild_all
macro_rules | `(tactic| mild_known) => `(tactic| exact mild_storeVar ..)
theorem mild_newRow (e : TypeId) (c : Array Value) : mild P Tt (newRow e c) := by
  unfold newRow
  mild_all
macro_rules | `(tactic| mild_known) => `(tactic| exact mild_newRow ..)
theorem mild_newVar (e : TypeId) (c : Value) : mild P Tt (newVar e c) := by
  unfold newVar
  mild_all
macro_rules | `(tactic| mild_known) => `(tactic| exact mild_newVar ..)
theorem mild_elemOf (t : TypeId) : mild P Tt (elemOf t) := by
  unfold elemOf
  mild_all
macro_rules | `(tactic| mild_known) => `(tactic| exact mild_elemOf ..)
theorem mild_part (t : TypeId) (cs : Array Value) (off : Nat) : mild P Tt (part t cs off) := by
  unfold part
  mild_all
macro_rules | `(tactic| mild_known) => `(tactic| exact mild_part ..)
theorem mild_runtimePanic {α : Type} {L : α → Prop} (e : RuntimeError) : mild P L (runtimePanic e : Sem α) := by
  unfold runtimePanic
  mild_all
macro_rules | `(tactic| mild_known) => `(tactic| exact mild_runtimePanic ..)
theorem mild_boundsPanic {α : Type} {L : α → Prop} (k : IntKind) (x y : Int) (c : BoundsCode) : mild P L (boundsPanic k x y c : Sem α) := by
  unfold boundsPanic
  mild_all
macro_rules | `(tactic| mild_known) => `(tactic| exact mild_boundsPanic ..)
theorem mild_asIntOf (v : Value) : mild P Tt (asIntOf v) := by
  unfold asIntOf
  mild_all
macro_rules | `(tactic| mild_known) => `(tactic| exact mild_asIntOf ..)
theorem mild_asInt (v : Value) : mild P Tt (asInt v) := by
  unfold asInt
  mild_all
macro_rules | `(tactic| mild_known) => `(tactic| exact mild_asInt ..)
theorem mild_asBool (v : Value) : mild P Tt (asBool v) := by
  unfold asBool
  mild_all
macro_rules | `(tactic| mild_known) => `(tactic| exact mild_asBool ..)
theorem mild_asString (v : Value) : mild P Tt (asString v) := by
  unfold asString
  mild_all
macro_rules | `(tactic| mild_known) => `(tactic| exact mild_asString ..)
theorem mild_asAgg (v : Value) : mild P Tt (asAgg v) := by
  unfold asAgg
  mild_all
macro_rules | `(tactic| mild_known) => `(tactic| exact mild_asAgg ..)
theorem mild_asAddr (v : Value) : mild P Tt (asAddr v) := by
  unfold asAddr
  mild_all
macro_rules | `(tactic| mild_known) => `(tactic| exact mild_asAddr ..)
theorem mild_byteOf (a : Addr) : mild P Tt (byteOf a) := by
  unfold byteOf
  mild_all
macro_rules | `(tactic| mild_known) => `(tactic| exact mild_byteOf ..)
theorem mild_partAt (a : Addr) (c b : Nat) : mild P Tt (partAt a c b) := by
  unfold partAt
  mild_all
macro_rules | `(tactic| mild_known) => `(tactic| exact mild_partAt ..)
theorem mild_fieldPlace (a : Addr) (f : Field) : mild P Tt (fieldPlace a f) := by
  unfold fieldPlace
  mild_all
macro_rules | `(tactic| mild_known) => `(tactic| exact mild_fieldPlace ..)
theorem mild_Instr_sureAddr (v : Value) : mild P Tt (Instr.sureAddr v) := by
  unfold Instr.sureAddr
  mild_all
macro_rules | `(tactic| mild_known) => `(tactic| exact mild_Instr_sureAddr ..)
theorem mild_Instr_loadAt (t : TypeId) (v : Value) : mild P Tt (Instr.loadAt t v) := by
  unfold Instr.loadAt
  mild_all
macro_rules | `(tactic| mild_known) => `(tactic| exact mild_Instr_loadAt ..)
theorem mild_Instr_storeAt (t : TypeId) (v x : Value) : mild P Tt (Instr.storeAt t v x) := by
  unfold Instr.storeAt
  mild_all
macro_rules | `(tactic| mild_known) => `(tactic| exact mild_Instr_storeAt ..)
theorem mild_Instr_fieldAt (t : TypeId) (v : Value) (f : Nat) : mild P Tt (Instr.fieldAt t v f) := by
  unfold Instr.fieldAt
  mild_all
macro_rules | `(tactic| mild_known) => `(tactic| exact mild_Instr_fieldAt ..)
theorem mild_Instr_indexAt (t : TypeId) (x i : Value) : mild P Tt (Instr.indexAt t x i) := by
  unfold Instr.indexAt
  mild_all
macro_rules | `(tactic| mild_known) => `(tactic| exact mild_Instr_indexAt ..)
theorem mild_Instr_sliceBound (x : Value) (y : Nat) (c : BoundsCode) : mild P Tt (Instr.sliceBound x y c) := by
  unfold Instr.sliceBound
  mild_all
macro_rules | `(tactic| mild_known) => `(tactic| exact mild_Instr_sliceBound ..)
theorem mild_Instr_sliceBounds (s : Bool) (l c : Nat) (lo hi mx : Option Value) : mild P Tt (Instr.sliceBounds s l c lo hi mx) := by
  unfold Instr.sliceBounds
  mild_all
macro_rules | `(tactic| mild_known) => `(tactic| exact mild_Instr_sliceBounds ..)
theorem mild_Instr_slice (t : TypeId) (x : Value) (lo hi mx : Option Value) : mild P Tt (Instr.slice t x lo hi mx) := by
  unfold Instr.slice
  mild_all
macro_rules | `(tactic| mild_known) => `(tactic| exact mild_Instr_slice ..)
theorem mild_Instr_sliceAt (t : TypeId) (x : Value) (lo hi mx : Option Value) : mild P Tt (Instr.sliceAt t x lo hi mx) := by
  unfold Instr.sliceAt
  mild_all
macro_rules | `(tactic| mild_known) => `(tactic| exact mild_Instr_sliceAt ..)
theorem mild_Instr_alloc (t : TypeId) (h : Bool) (old : Value) : mild P Tt (Instr.alloc t h old) := by
  unfold Instr.alloc
  mild_all
macro_rules | `(tactic| mild_known) => `(tactic| exact mild_Instr_alloc ..)
theorem mild_Instr_box (t : TypeId) (v : Value) : mild P Tt (Instr.box t v) := by
  unfold Instr.box
  mild_all
macro_rules | `(tactic| mild_known) => `(tactic| exact mild_Instr_box ..)
theorem mild_Instr_build (t : TypeId) (ps : Array (Nat × Value)) : mild P Tt (Instr.build t ps) := by
  unfold Instr.build
  mild_all
macro_rules | `(tactic| mild_known) => `(tactic| exact mild_Instr_build ..)
theorem mild_Instr_buildSlice (t : TypeId) (n : Nat) (ps : Array (Nat × Value)) : mild P Tt (Instr.buildSlice t n ps) := by
  unfold Instr.buildSlice
  mild_all
macro_rules | `(tactic| mild_known) => `(tactic| exact mild_Instr_buildSlice ..)
theorem mild_Instr_makeSlice (t : TypeId) (l c : Value) : mild P Tt (Instr.makeSlice t l c) := by
  unfold Instr.makeSlice
  mild_all
macro_rules | `(tactic| mild_known) => `(tactic| exact mild_Instr_makeSlice ..)
theorem mild_Instr_field (t : TypeId) (x : Value) (f : Nat) : mild P Tt (Instr.field t x f) := by
  unfold Instr.field
  mild_all
macro_rules | `(tactic| mild_known) => `(tactic| exact mild_Instr_field ..)
theorem mild_Instr_index (t : TypeId) (x i : Value) : mild P Tt (Instr.index t x i) := by
  unfold Instr.index
  mild_all
macro_rules | `(tactic| mild_known) => `(tactic| exact mild_Instr_index ..)
theorem mild_Instr_extract (x : Value) (f : Nat) : mild P Tt (Instr.extract x f) := by
  unfold Instr.extract
  mild_all
macro_rules | `(tactic| mild_known) => `(tactic| exact mild_Instr_extract ..)
theorem mild_Instr_makeInterface (t : TypeId) (x : Value) : mild P Tt (Instr.makeInterface t x) := by
  unfold Instr.makeInterface
  mild_all
macro_rules | `(tactic| mild_known) => `(tactic| exact mild_Instr_makeInterface ..)
theorem mild_Builtin_holdsCells (a : Addr) (n : Nat) : mild P Tt (Builtin.holdsCells a n) := by
  unfold Builtin.holdsCells
  mild_all
macro_rules | `(tactic| mild_known) => `(tactic| exact mild_Builtin_holdsCells ..)
theorem mild_Builtin_mayShare (a b c : Nat) (d : Option Addr) (v : Value) : mild P Tt (Builtin.mayShare a b c d v) := by
  unfold Builtin.mayShare
  mild_all
macro_rules | `(tactic| mild_known) => `(tactic| exact mild_Builtin_mayShare ..)
theorem mild_Builtin_lenOf (v : Value) : mild P Tt (Builtin.lenOf v) := by
  unfold Builtin.lenOf
  mild_all
macro_rules | `(tactic| mild_known) => `(tactic| exact mild_Builtin_lenOf ..)
theorem mild_Builtin_firstCells (a b : Nat) (v : Value) : mild P Tt (Builtin.firstCells a b v) := by
  unfold Builtin.firstCells
  mild_all
macro_rules | `(tactic| mild_known) => `(tactic| exact mild_Builtin_firstCells ..)
theorem mild_Builtin_len (ts : Array TypeId) (t : TypeId) (as : Array Value) : mild P Tt (Builtin.len_ ts t as) := by
  unfold Builtin.len_
  mild_all
macro_rules | `(tactic| mild_known) => `(tactic| exact mild_Builtin_len ..)
theorem mild_Builtin_cap (ts : Array TypeId) (t : TypeId) (as : Array Value) : mild P Tt (Builtin.cap_ ts t as) := by
  unfold Builtin.cap_
  mild_all
macro_rules | `(tactic| mild_known) => `(tactic| exact mild_Builtin_cap ..)
theorem mild_Builtin_copy (ts : Array TypeId) (t : TypeId) (as : Array Value) : mild P Tt (Builtin.copy_ ts t as) := by
  unfold Builtin.copy_
  mild_all
macro_rules | `(tactic| mild_known) => `(tactic| exact mild_Builtin_copy ..)
end
end Go.Proofs.Ytngmhkhncimknaa
