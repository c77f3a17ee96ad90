/-
  No cell of these rows narrows 'for every input' (looked for: loops, veiled, ifaces, maps, wideKeys, modest, calm, conditions, laid).
  DERIVED. THE GIVEN ROWS OF THIS SEAT. 5 by the template 'for every input the law returns true; each argument reads behind the call as it read before'; 0 by the template 'total and deterministic' (their statements: YtegkdkilbnighaaTotals.lean).
  GIVEN WITH THE SEED: the statements are not yours to turn. If you find one false, say at which input.
  Laid BY PROGRAM, IN A SANDBOX (cutbox-rows.mjs): the forced cells as the released guide's own fill.sh prints them over the translation b447600538b7863c… (all of the seat's roots in one cut). By AI agents, Wed Nov 11 2026. No macro, syntax, notation, axiom, sorry.
-/
import Derived.Test.YtegkdkilbnighaaChecked
import GoSem.Claim
import GoSem.ClaimJoined
import GoSem.ClaimMapViews
import Derived.JoinedTies
import Derived.KernelRfl
namespace Go.Proofs.Ytegkdkilbnighaa
/- THE CELL 'sum', in the pinned program and in every row, IS THE sha256 OF THE DUMP (.gsa) THAT YtegkdkilbnighaaProg.lean LOADS. Nothing in Lean hashes anything: it is a label: what it is worth is what the hold of that sum in a sandbox is worth. -/
noncomputable def Try.pinned : Pinned := { name := "ytegkdkilbnighaa", sum := "b447600538b7863ce6bab0c8d8ef8474579b4ca463fb857ddc15ea91f4589c67", checked := Try.checked }
namespace Rows
def none {H : Type} : Left H := { results := [], args := [] }

/-- 'gromalaw12.SpellWrites': WHATEVER THE INPUT: true; the input reads as it did. -/
def spellWritesSpec : ChangeSpec := { name := "spellWrites", fn := fun _ => fun
  | [d] => { results := [.lit (.bool true)], args := [d] }
  | _ => none }
def spellWritesRow : OpenClaim := { program := "ytegkdkilbnighaa", sum := "b447600538b7863ce6bab0c8d8ef8474579b4ca463fb857ddc15ea91f4589c67", func := "groma/gromalaw12.SpellWrites", spec := "spellWrites", inPlace := ["internal/bytealg.IndexByteString", "internal/abi.NoEscape", "internal/bytealg.MakeNoZero"], unfollowed := true, recurses := true, apart := false }
def SpellWritesSaid : Prop := spellWritesRow.holds Try.pinned (OpenSpec.ofChange spellWritesSpec)

/-- ITS FALSE NEIGHBOUR: 'it returns false'. Refute it at one input. -/
def spellWritesWrong : ChangeSpec := { name := "spellWrites", fn := fun _ => fun
  | [d] => { results := [.lit (.bool false)], args := [d] }
  | _ => none }
def SpellWritesWrongFalsely : Prop := spellWritesRow.holds Try.pinned (OpenSpec.ofChange spellWritesWrong)

/-- 'gromalaw12.SpellReads': WHATEVER THE INPUT: true; the input reads as it did. -/
def spellReadsSpec : ChangeSpec := { name := "spellReads", fn := fun _ => fun
  | [d] => { results := [.lit (.bool true)], args := [d] }
  | _ => none }
def spellReadsRow : OpenClaim := { program := "ytegkdkilbnighaa", sum := "b447600538b7863ce6bab0c8d8ef8474579b4ca463fb857ddc15ea91f4589c67", func := "groma/gromalaw12.SpellReads", spec := "spellReads", inPlace := ["internal/bytealg.IndexByteString", "internal/abi.NoEscape", "internal/bytealg.MakeNoZero"], unfollowed := true, recurses := true, apart := false }
def SpellReadsSaid : Prop := spellReadsRow.holds Try.pinned (OpenSpec.ofChange spellReadsSpec)

/-- ITS FALSE NEIGHBOUR: 'it returns false'. Refute it at one input. -/
def spellReadsWrong : ChangeSpec := { name := "spellReads", fn := fun _ => fun
  | [d] => { results := [.lit (.bool false)], args := [d] }
  | _ => none }
def SpellReadsWrongFalsely : Prop := spellReadsRow.holds Try.pinned (OpenSpec.ofChange spellReadsWrong)

/-- 'gromalaw12.SpellRight': WHATEVER THE INPUT: true; the input reads as it did. -/
def spellRightSpec : ChangeSpec := { name := "spellRight", fn := fun _ => fun
  | [d] => { results := [.lit (.bool true)], args := [d] }
  | _ => none }
def spellRightRow : OpenClaim := { program := "ytegkdkilbnighaa", sum := "b447600538b7863ce6bab0c8d8ef8474579b4ca463fb857ddc15ea91f4589c67", func := "groma/gromalaw12.SpellRight", spec := "spellRight", inPlace := ["internal/bytealg.IndexByteString", "internal/abi.NoEscape", "internal/bytealg.MakeNoZero"], unfollowed := true, recurses := true, apart := false }
def SpellRightSaid : Prop := spellRightRow.holds Try.pinned (OpenSpec.ofChange spellRightSpec)

/-- ITS FALSE NEIGHBOUR: 'it returns false'. Refute it at one input. -/
def spellRightWrong : ChangeSpec := { name := "spellRight", fn := fun _ => fun
  | [d] => { results := [.lit (.bool false)], args := [d] }
  | _ => none }
def SpellRightWrongFalsely : Prop := spellRightRow.holds Try.pinned (OpenSpec.ofChange spellRightWrong)

/-- 'gromalaw12.SpellRefuses': WHATEVER THE INPUT: true; the input reads as it did. -/
def spellRefusesSpec : ChangeSpec := { name := "spellRefuses", fn := fun _ => fun
  | [d] => { results := [.lit (.bool true)], args := [d] }
  | _ => none }
def spellRefusesRow : OpenClaim := { program := "ytegkdkilbnighaa", sum := "b447600538b7863ce6bab0c8d8ef8474579b4ca463fb857ddc15ea91f4589c67", func := "groma/gromalaw12.SpellRefuses", spec := "spellRefuses", inPlace := ["internal/bytealg.IndexByteString", "internal/abi.NoEscape", "internal/bytealg.MakeNoZero"], unfollowed := true, recurses := true, apart := false }
def SpellRefusesSaid : Prop := spellRefusesRow.holds Try.pinned (OpenSpec.ofChange spellRefusesSpec)

/-- ITS FALSE NEIGHBOUR: 'it returns false'. Refute it at one input. -/
def spellRefusesWrong : ChangeSpec := { name := "spellRefuses", fn := fun _ => fun
  | [d] => { results := [.lit (.bool false)], args := [d] }
  | _ => none }
def SpellRefusesWrongFalsely : Prop := spellRefusesRow.holds Try.pinned (OpenSpec.ofChange spellRefusesWrong)

/-- 'gromalaw12.SpellFlat': WHATEVER THE INPUT: true; the input reads as it did. -/
def spellFlatSpec : ChangeSpec := { name := "spellFlat", fn := fun _ => fun
  | [d] => { results := [.lit (.bool true)], args := [d] }
  | _ => none }
def spellFlatRow : OpenClaim := { program := "ytegkdkilbnighaa", sum := "b447600538b7863ce6bab0c8d8ef8474579b4ca463fb857ddc15ea91f4589c67", func := "groma/gromalaw12.SpellFlat", spec := "spellFlat", inPlace := ["internal/bytealg.IndexByteString", "internal/abi.NoEscape", "internal/bytealg.MakeNoZero"], unfollowed := true, recurses := true, apart := false }
def SpellFlatSaid : Prop := spellFlatRow.holds Try.pinned (OpenSpec.ofChange spellFlatSpec)

/-- ITS FALSE NEIGHBOUR: 'it returns false'. Refute it at one input. -/
def spellFlatWrong : ChangeSpec := { name := "spellFlat", fn := fun _ => fun
  | [d] => { results := [.lit (.bool false)], args := [d] }
  | _ => none }
def SpellFlatWrongFalsely : Prop := spellFlatRow.holds Try.pinned (OpenSpec.ofChange spellFlatWrong)

/- THE SECOND FORM. 'bulk': how many values and letters a reading holds, each counted each time it is reached (what is shared counts as often as it is met; a slice's spare places count too). A statement '..UptoSaid' is the law's where the arguments, and the package variables that the reading takes, are together of bulk at most 1048576: NARROWER than '..Said'. Prove '..Said' where nothing that the law and all that it calls make is longer than what came in: it says more and counts as full. Else prove '..UptoSaid'. A law counts once. -/
mutual
def uptoBulk {H : Type} : DataW H → Nat
  | .lit (.string bytes) => bytes.length + 1
  | .lit _ => 1
  | .nil => 1
  | .ptr d => uptoBulk d + 1
  | .slice elems spare => uptoBulkAll elems + uptoBulkAll spare + 1
  | .agg parts => uptoBulkAll parts + 1
  | .iface _ d => uptoBulk d + 1
  | .map entries => uptoBulkEntries entries + 1
  | .held _ => 1
def uptoBulkAll {H : Type} : List (DataW H) → Nat
  | [] => 0
  | d :: r => uptoBulk d + uptoBulkAll r
def uptoBulkEntries {H : Type} : List (Lit × DataW H) → Nat
  | [] => 0
  | x :: r => uptoBulkEntry x + uptoBulkEntries r
def uptoBulkEntry {H : Type} : Lit × DataW H → Nat
  | (.string bytes, d) => bytes.length + uptoBulk d + 1
  | (_, d) => uptoBulk d + 1
 end
def uptoSmall : (H : Type) → List (DataW H) → Bool := fun _ ds => decide (uptoBulkAll ds ≤ 1048576)
def OpenSpec.upto (s : _root_.Go.ChangeSpec) : _root_.Go.OpenSpec := { _root_.Go.OpenSpec.ofChange s with cond := some uptoSmall }

/-- 'gromalaw12.SpellWrites', WHERE WHAT IT READS IS OF BULK AT MOST 1048576: true; the input reads as it did. -/
def spellWritesUptoRow : OpenClaim := { program := "ytegkdkilbnighaa", sum := "b447600538b7863ce6bab0c8d8ef8474579b4ca463fb857ddc15ea91f4589c67", func := "groma/gromalaw12.SpellWrites", spec := "spellWrites", inPlace := ["internal/bytealg.IndexByteString", "internal/abi.NoEscape", "internal/bytealg.MakeNoZero"], unfollowed := true, recurses := true, apart := false, narrowed := true }
def SpellWritesUptoSaid : Prop := spellWritesUptoRow.holds Try.pinned (OpenSpec.upto spellWritesSpec)

/-- 'gromalaw12.SpellReads', WHERE WHAT IT READS IS OF BULK AT MOST 1048576: true; the input reads as it did. -/
def spellReadsUptoRow : OpenClaim := { program := "ytegkdkilbnighaa", sum := "b447600538b7863ce6bab0c8d8ef8474579b4ca463fb857ddc15ea91f4589c67", func := "groma/gromalaw12.SpellReads", spec := "spellReads", inPlace := ["internal/bytealg.IndexByteString", "internal/abi.NoEscape", "internal/bytealg.MakeNoZero"], unfollowed := true, recurses := true, apart := false, narrowed := true }
def SpellReadsUptoSaid : Prop := spellReadsUptoRow.holds Try.pinned (OpenSpec.upto spellReadsSpec)

/-- 'gromalaw12.SpellRight', WHERE WHAT IT READS IS OF BULK AT MOST 1048576: true; the input reads as it did. -/
def spellRightUptoRow : OpenClaim := { program := "ytegkdkilbnighaa", sum := "b447600538b7863ce6bab0c8d8ef8474579b4ca463fb857ddc15ea91f4589c67", func := "groma/gromalaw12.SpellRight", spec := "spellRight", inPlace := ["internal/bytealg.IndexByteString", "internal/abi.NoEscape", "internal/bytealg.MakeNoZero"], unfollowed := true, recurses := true, apart := false, narrowed := true }
def SpellRightUptoSaid : Prop := spellRightUptoRow.holds Try.pinned (OpenSpec.upto spellRightSpec)

/-- 'gromalaw12.SpellRefuses', WHERE WHAT IT READS IS OF BULK AT MOST 1048576: true; the input reads as it did. -/
def spellRefusesUptoRow : OpenClaim := { program := "ytegkdkilbnighaa", sum := "b447600538b7863ce6bab0c8d8ef8474579b4ca463fb857ddc15ea91f4589c67", func := "groma/gromalaw12.SpellRefuses", spec := "spellRefuses", inPlace := ["internal/bytealg.IndexByteString", "internal/abi.NoEscape", "internal/bytealg.MakeNoZero"], unfollowed := true, recurses := true, apart := false, narrowed := true }
def SpellRefusesUptoSaid : Prop := spellRefusesUptoRow.holds Try.pinned (OpenSpec.upto spellRefusesSpec)

/-- 'gromalaw12.SpellFlat', WHERE WHAT IT READS IS OF BULK AT MOST 1048576: true; the input reads as it did. -/
def spellFlatUptoRow : OpenClaim := { program := "ytegkdkilbnighaa", sum := "b447600538b7863ce6bab0c8d8ef8474579b4ca463fb857ddc15ea91f4589c67", func := "groma/gromalaw12.SpellFlat", spec := "spellFlat", inPlace := ["internal/bytealg.IndexByteString", "internal/abi.NoEscape", "internal/bytealg.MakeNoZero"], unfollowed := true, recurses := true, apart := false, narrowed := true }
def SpellFlatUptoSaid : Prop := spellFlatUptoRow.holds Try.pinned (OpenSpec.upto spellFlatSpec)

end Rows
end Go.Proofs.Ytegkdkilbnighaa
