/-
  No cell of these rows narrows 'for every input' (looked for: loops, veiled, ifaces, maps, wideKeys, modest, calm, conditions, laid).
  DERIVED. THE GIVEN ROWS OF THIS SEAT. 4 by the template 'for every input the law returns true; each argument reads behind the call as it read before'; 0 by the template 'total and deterministic' (their statements: YtngmhkhncimknaaTotals.lean).
  GIVEN WITH THE SEED: the statements are not yours to turn. If you find one false, say at which input.
  Laid BY PROGRAM, IN A SANDBOX (cutbox-rows.mjs): the forced cells as the released guide's own fill.sh prints them over the translation e017a9aed830f43c… (all of the seat's roots in one cut). By AI agents, Wed Nov 11 2026. No macro, syntax, notation, axiom, sorry.
-/
import Derived.Test.YtngmhkhncimknaaChecked
import GoSem.Claim
import GoSem.ClaimJoined
import GoSem.ClaimMapViews
import Derived.JoinedTies
import Derived.KernelRfl
namespace Go.Proofs.Ytngmhkhncimknaa
/- THE CELL 'sum', in the pinned program and in every row, IS THE sha256 OF THE DUMP (.gsa) THAT YtngmhkhncimknaaProg.lean LOADS. Nothing in Lean hashes anything: it is a label: what it is worth is what the hold of that sum in a sandbox is worth. -/
noncomputable def Try.pinned : Pinned := { name := "ytngmhkhncimknaa", sum := "e017a9aed830f43c482b6c7fe7c8beb19aad69d75a582a4af04e5f67a3f2e307", checked := Try.checked }
namespace Rows
def none {H : Type} : Left H := { results := [], args := [] }

/-- 'turnstilelaw21.StreamExact': WHATEVER THE INPUT: true; the input reads as it did. -/
def streamExactSpec : ChangeSpec := { name := "streamExact", fn := fun _ => fun
  | [d] => { results := [.lit (.bool true)], args := [d] }
  | _ => none }
def streamExactRow : OpenClaim := { program := "ytngmhkhncimknaa", sum := "e017a9aed830f43c482b6c7fe7c8beb19aad69d75a582a4af04e5f67a3f2e307", func := "turnstile/turnstilelaw21.StreamExact", spec := "streamExact", unfollowed := true, recurses := true, leaving := true, apart := false }
def StreamExactSaid : Prop := streamExactRow.holds Try.pinned (OpenSpec.ofChange streamExactSpec)

/-- ITS FALSE NEIGHBOUR: 'it returns false'. Refute it at one input. -/
def streamExactWrong : ChangeSpec := { name := "streamExact", fn := fun _ => fun
  | [d] => { results := [.lit (.bool false)], args := [d] }
  | _ => none }
def StreamExactWrongFalsely : Prop := streamExactRow.holds Try.pinned (OpenSpec.ofChange streamExactWrong)

/-- 'turnstilelaw21.StreamMemory': WHATEVER THE INPUT: true; the input reads as it did. -/
def streamMemorySpec : ChangeSpec := { name := "streamMemory", fn := fun _ => fun
  | [d] => { results := [.lit (.bool true)], args := [d] }
  | _ => none }
def streamMemoryRow : OpenClaim := { program := "ytngmhkhncimknaa", sum := "e017a9aed830f43c482b6c7fe7c8beb19aad69d75a582a4af04e5f67a3f2e307", func := "turnstile/turnstilelaw21.StreamMemory", spec := "streamMemory", unfollowed := true, recurses := true, leaving := true, apart := false }
def StreamMemorySaid : Prop := streamMemoryRow.holds Try.pinned (OpenSpec.ofChange streamMemorySpec)

/-- ITS FALSE NEIGHBOUR: 'it returns false'. Refute it at one input. -/
def streamMemoryWrong : ChangeSpec := { name := "streamMemory", fn := fun _ => fun
  | [d] => { results := [.lit (.bool false)], args := [d] }
  | _ => none }
def StreamMemoryWrongFalsely : Prop := streamMemoryRow.holds Try.pinned (OpenSpec.ofChange streamMemoryWrong)

/-- 'turnstilelaw21.StreamCuts': WHATEVER THE INPUT: true; the input reads as it did. -/
def streamCutsSpec : ChangeSpec := { name := "streamCuts", fn := fun _ => fun
  | [d] => { results := [.lit (.bool true)], args := [d] }
  | _ => none }
def streamCutsRow : OpenClaim := { program := "ytngmhkhncimknaa", sum := "e017a9aed830f43c482b6c7fe7c8beb19aad69d75a582a4af04e5f67a3f2e307", func := "turnstile/turnstilelaw21.StreamCuts", spec := "streamCuts", unfollowed := true, recurses := true, leaving := true, apart := false }
def StreamCutsSaid : Prop := streamCutsRow.holds Try.pinned (OpenSpec.ofChange streamCutsSpec)

/-- ITS FALSE NEIGHBOUR: 'it returns false'. Refute it at one input. -/
def streamCutsWrong : ChangeSpec := { name := "streamCuts", fn := fun _ => fun
  | [d] => { results := [.lit (.bool false)], args := [d] }
  | _ => none }
def StreamCutsWrongFalsely : Prop := streamCutsRow.holds Try.pinned (OpenSpec.ofChange streamCutsWrong)

/-- 'turnstilelaw21.StreamBounds': WHATEVER THE INPUT: true; the input reads as it did. -/
def streamBoundsSpec : ChangeSpec := { name := "streamBounds", fn := fun _ => fun
  | [d] => { results := [.lit (.bool true)], args := [d] }
  | _ => none }
def streamBoundsRow : OpenClaim := { program := "ytngmhkhncimknaa", sum := "e017a9aed830f43c482b6c7fe7c8beb19aad69d75a582a4af04e5f67a3f2e307", func := "turnstile/turnstilelaw21.StreamBounds", spec := "streamBounds", unfollowed := true, recurses := true, leaving := true, apart := false }
def StreamBoundsSaid : Prop := streamBoundsRow.holds Try.pinned (OpenSpec.ofChange streamBoundsSpec)

/-- ITS FALSE NEIGHBOUR: 'it returns false'. Refute it at one input. -/
def streamBoundsWrong : ChangeSpec := { name := "streamBounds", fn := fun _ => fun
  | [d] => { results := [.lit (.bool false)], args := [d] }
  | _ => none }
def StreamBoundsWrongFalsely : Prop := streamBoundsRow.holds Try.pinned (OpenSpec.ofChange streamBoundsWrong)

/- THE SECOND FORM. 'bulk': how many values and letters a reading holds, each counted each time it is reached (what is shared counts as often as it is met; a slice's spare places count too). A statement '..UptoSaid' is the law's where the arguments, and the package variables that the reading takes, are together of bulk at most 1048576: NARROWER than '..Said'. Prove '..Said' where nothing that the law and all that it calls make is longer than what came in: it says more and counts as full. Else prove '..UptoSaid'. A law counts once. -/
mutual
def uptoBulk {H : Type} : DataW H → Nat
  | .lit (.string bytes) => bytes.length + 1
  | .lit _ => 1
  | .nil => 1
  | .ptr d => uptoBulk d + 1
  | .slice elems spare => uptoBulkAll elems + uptoBulkAll spare + 1
  | .agg parts => uptoBulkAll parts + 1
  | .iface _ d => uptoBulk d + 1
  | .map entries => uptoBulkEntries entries + 1
  | .held _ => 1
def uptoBulkAll {H : Type} : List (DataW H) → Nat
  | [] => 0
  | d :: r => uptoBulk d + uptoBulkAll r
def uptoBulkEntries {H : Type} : List (Lit × DataW H) → Nat
  | [] => 0
  | x :: r => uptoBulkEntry x + uptoBulkEntries r
def uptoBulkEntry {H : Type} : Lit × DataW H → Nat
  | (.string bytes, d) => bytes.length + uptoBulk d + 1
  | (_, d) => uptoBulk d + 1
 end
def uptoSmall : (H : Type) → List (DataW H) → Bool := fun _ ds => decide (uptoBulkAll ds ≤ 1048576)
def OpenSpec.upto (s : _root_.Go.ChangeSpec) : _root_.Go.OpenSpec := { _root_.Go.OpenSpec.ofChange s with cond := some uptoSmall }

/-- 'turnstilelaw21.StreamExact', WHERE WHAT IT READS IS OF BULK AT MOST 1048576: true; the input reads as it did. -/
def streamExactUptoRow : OpenClaim := { program := "ytngmhkhncimknaa", sum := "e017a9aed830f43c482b6c7fe7c8beb19aad69d75a582a4af04e5f67a3f2e307", func := "turnstile/turnstilelaw21.StreamExact", spec := "streamExact", unfollowed := true, recurses := true, leaving := true, apart := false, narrowed := true }
def StreamExactUptoSaid : Prop := streamExactUptoRow.holds Try.pinned (OpenSpec.upto streamExactSpec)

/-- 'turnstilelaw21.StreamMemory', WHERE WHAT IT READS IS OF BULK AT MOST 1048576: true; the input reads as it did. -/
def streamMemoryUptoRow : OpenClaim := { program := "ytngmhkhncimknaa", sum := "e017a9aed830f43c482b6c7fe7c8beb19aad69d75a582a4af04e5f67a3f2e307", func := "turnstile/turnstilelaw21.StreamMemory", spec := "streamMemory", unfollowed := true, recurses := true, leaving := true, apart := false, narrowed := true }
def StreamMemoryUptoSaid : Prop := streamMemoryUptoRow.holds Try.pinned (OpenSpec.upto streamMemorySpec)

/-- 'turnstilelaw21.StreamCuts', WHERE WHAT IT READS IS OF BULK AT MOST 1048576: true; the input reads as it did. -/
def streamCutsUptoRow : OpenClaim := { program := "ytngmhkhncimknaa", sum := "e017a9aed830f43c482b6c7fe7c8beb19aad69d75a582a4af04e5f67a3f2e307", func := "turnstile/turnstilelaw21.StreamCuts", spec := "streamCuts", unfollowed := true, recurses := true, leaving := true, apart := false, narrowed := true }
def StreamCutsUptoSaid : Prop := streamCutsUptoRow.holds Try.pinned (OpenSpec.upto streamCutsSpec)

/-- 'turnstilelaw21.StreamBounds', WHERE WHAT IT READS IS OF BULK AT MOST 1048576: true; the input reads as it did. -/
def streamBoundsUptoRow : OpenClaim := { program := "ytngmhkhncimknaa", sum := "e017a9aed830f43c482b6c7fe7c8beb19aad69d75a582a4af04e5f67a3f2e307", func := "turnstile/turnstilelaw21.StreamBounds", spec := "streamBounds", unfollowed := true, recurses := true, leaving := true, apart := false, narrowed := true }
def StreamBoundsUptoSaid : Prop := streamBoundsUptoRow.holds Try.pinned (OpenSpec.upto streamBoundsSpec)

end Rows
end Go.Proofs.Ytngmhkhncimknaa
