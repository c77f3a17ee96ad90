/-
  No cell of these rows narrows 'for every input' (looked for: loops, veiled, ifaces, maps, wideKeys, modest, calm, conditions, laid).
  DERIVED. THE GIVEN ROWS OF THIS SEAT. 12 by the template 'for every input the law returns true; each argument reads behind the call as it read before'; 0 by the template 'total and deterministic' (their statements: YtlkhneiccjhgdaaGreatTotals.lean).
  GIVEN WITH THE SEED: the statements are not yours to turn. If you find one false, say at which input.
  Laid BY PROGRAM, IN A SANDBOX (cutbox-rows.mjs): the forced cells as the released guide's own fill.sh prints them over the translation 60ff9518b53068e6… (all of the seat's roots in one cut). By AI agents, Wed Nov 11 2026. No macro, syntax, notation, axiom, sorry.
-/
import Derived.Test.YtlkhneiccjhgdaaGreatChecked
import GoSem.Claim
import GoSem.ClaimJoined
import GoSem.ClaimMapViews
import Derived.JoinedTies
import Derived.KernelRfl
namespace Go.Proofs.YtlkhneiccjhgdaaGreat
/- THE CELL 'sum', in the pinned program and in every row, IS THE sha256 OF THE DUMP (.gsa) THAT YtlkhneiccjhgdaaGreatProg.lean LOADS. Nothing in Lean hashes anything: it is a label: what it is worth is what the hold of that sum in a sandbox is worth. -/
noncomputable def Tryz.pinned : Pinned := { name := "ytlkhneiccjhgdaagreat", sum := "60ff9518b53068e64ec05e6c62975a8a93401f7dd8940fa8978eecefca54f994", checked := Tryz.checked }
namespace Rows
def none {H : Type} : Left H := { results := [], args := [] }

/-- 'gromalaw18.RoundsRun': WHATEVER THE INPUT: true; the input reads as it did. -/
def roundsRunSpec : ChangeSpec := { name := "roundsRun", fn := fun _ => fun
  | [d] => { results := [.lit (.bool true)], args := [d] }
  | _ => none }
def roundsRunRow : OpenClaim := { program := "ytlkhneiccjhgdaagreat", sum := "60ff9518b53068e64ec05e6c62975a8a93401f7dd8940fa8978eecefca54f994", func := "groma/gromalaw18.RoundsRun", spec := "roundsRun", inPlace := ["math/bits.Add64"], unfollowed := true, recurses := true, apart := false }
def RoundsRunSaid : Prop := roundsRunRow.holds Tryz.pinned (OpenSpec.ofChange roundsRunSpec)

/-- ITS FALSE NEIGHBOUR: 'it returns false'. Refute it at one input. -/
def roundsRunWrong : ChangeSpec := { name := "roundsRun", fn := fun _ => fun
  | [d] => { results := [.lit (.bool false)], args := [d] }
  | _ => none }
def RoundsRunWrongFalsely : Prop := roundsRunRow.holds Tryz.pinned (OpenSpec.ofChange roundsRunWrong)

/-- 'gromalaw18.RoundsApart': WHATEVER THE INPUT: true; the input reads as it did. -/
def roundsApartSpec : ChangeSpec := { name := "roundsApart", fn := fun _ => fun
  | [d] => { results := [.lit (.bool true)], args := [d] }
  | _ => none }
def roundsApartRow : OpenClaim := { program := "ytlkhneiccjhgdaagreat", sum := "60ff9518b53068e64ec05e6c62975a8a93401f7dd8940fa8978eecefca54f994", func := "groma/gromalaw18.RoundsApart", spec := "roundsApart", inPlace := ["math/bits.Add64"], unfollowed := true, recurses := true, apart := false }
def RoundsApartSaid : Prop := roundsApartRow.holds Tryz.pinned (OpenSpec.ofChange roundsApartSpec)

/-- ITS FALSE NEIGHBOUR: 'it returns false'. Refute it at one input. -/
def roundsApartWrong : ChangeSpec := { name := "roundsApart", fn := fun _ => fun
  | [d] => { results := [.lit (.bool false)], args := [d] }
  | _ => none }
def RoundsApartWrongFalsely : Prop := roundsApartRow.holds Tryz.pinned (OpenSpec.ofChange roundsApartWrong)

/-- 'gromalaw18.RoundsNext': WHATEVER THE INPUT: true; the input reads as it did. -/
def roundsNextSpec : ChangeSpec := { name := "roundsNext", fn := fun _ => fun
  | [d1, d2, d3] => { results := [.lit (.bool true)], args := [d1, d2, d3] }
  | _ => none }
def roundsNextRow : OpenClaim := { program := "ytlkhneiccjhgdaagreat", sum := "60ff9518b53068e64ec05e6c62975a8a93401f7dd8940fa8978eecefca54f994", func := "groma/gromalaw18.RoundsNext", spec := "roundsNext", inPlace := ["math/bits.Add64"], unfollowed := true, recurses := true, apart := false }
def RoundsNextSaid : Prop := roundsNextRow.holds Tryz.pinned (OpenSpec.ofChange roundsNextSpec)

/-- ITS FALSE NEIGHBOUR: 'it returns false'. Refute it at one input. -/
def roundsNextWrong : ChangeSpec := { name := "roundsNext", fn := fun _ => fun
  | [d1, d2, d3] => { results := [.lit (.bool false)], args := [d1, d2, d3] }
  | _ => none }
def RoundsNextWrongFalsely : Prop := roundsNextRow.holds Tryz.pinned (OpenSpec.ofChange roundsNextWrong)

/-- 'gromalaw18.RoundsFixed': WHATEVER THE INPUT: true; the input reads as it did. -/
def roundsFixedSpec : ChangeSpec := { name := "roundsFixed", fn := fun _ => fun
  | [d] => { results := [.lit (.bool true)], args := [d] }
  | _ => none }
def roundsFixedRow : OpenClaim := { program := "ytlkhneiccjhgdaagreat", sum := "60ff9518b53068e64ec05e6c62975a8a93401f7dd8940fa8978eecefca54f994", func := "groma/gromalaw18.RoundsFixed", spec := "roundsFixed", inPlace := ["math/bits.Add64"], unfollowed := true, recurses := true, apart := false }
def RoundsFixedSaid : Prop := roundsFixedRow.holds Tryz.pinned (OpenSpec.ofChange roundsFixedSpec)

/-- ITS FALSE NEIGHBOUR: 'it returns false'. Refute it at one input. -/
def roundsFixedWrong : ChangeSpec := { name := "roundsFixed", fn := fun _ => fun
  | [d] => { results := [.lit (.bool false)], args := [d] }
  | _ => none }
def RoundsFixedWrongFalsely : Prop := roundsFixedRow.holds Tryz.pinned (OpenSpec.ofChange roundsFixedWrong)

/-- 'gromalaw18.RoundsNear': WHATEVER THE INPUT: true; the input reads as it did. -/
def roundsNearSpec : ChangeSpec := { name := "roundsNear", fn := fun _ => fun
  | [d] => { results := [.lit (.bool true)], args := [d] }
  | _ => none }
def roundsNearRow : OpenClaim := { program := "ytlkhneiccjhgdaagreat", sum := "60ff9518b53068e64ec05e6c62975a8a93401f7dd8940fa8978eecefca54f994", func := "groma/gromalaw18.RoundsNear", spec := "roundsNear", inPlace := ["math/bits.Add64"], unfollowed := true, recurses := true, apart := false }
def RoundsNearSaid : Prop := roundsNearRow.holds Tryz.pinned (OpenSpec.ofChange roundsNearSpec)

/-- ITS FALSE NEIGHBOUR: 'it returns false'. Refute it at one input. -/
def roundsNearWrong : ChangeSpec := { name := "roundsNear", fn := fun _ => fun
  | [d] => { results := [.lit (.bool false)], args := [d] }
  | _ => none }
def RoundsNearWrongFalsely : Prop := roundsNearRow.holds Tryz.pinned (OpenSpec.ofChange roundsNearWrong)

/-- 'gromalaw19.NetTags': WHATEVER THE INPUT: true; the input reads as it did. -/
def netTagsSpec : ChangeSpec := { name := "netTags", fn := fun _ => fun
  | [d] => { results := [.lit (.bool true)], args := [d] }
  | _ => none }
def netTagsRow : OpenClaim := { program := "ytlkhneiccjhgdaagreat", sum := "60ff9518b53068e64ec05e6c62975a8a93401f7dd8940fa8978eecefca54f994", func := "groma/gromalaw19.NetTags", spec := "netTags", inPlace := ["math/bits.Add64"], unfollowed := true, recurses := true, apart := false }
def NetTagsSaid : Prop := netTagsRow.holds Tryz.pinned (OpenSpec.ofChange netTagsSpec)

/-- ITS FALSE NEIGHBOUR: 'it returns false'. Refute it at one input. -/
def netTagsWrong : ChangeSpec := { name := "netTags", fn := fun _ => fun
  | [d] => { results := [.lit (.bool false)], args := [d] }
  | _ => none }
def NetTagsWrongFalsely : Prop := netTagsRow.holds Tryz.pinned (OpenSpec.ofChange netTagsWrong)

/-- 'gromalaw19.NetBuilds': WHATEVER THE INPUT: true; the input reads as it did. -/
def netBuildsSpec : ChangeSpec := { name := "netBuilds", fn := fun _ => fun
  | [d] => { results := [.lit (.bool true)], args := [d] }
  | _ => none }
def netBuildsRow : OpenClaim := { program := "ytlkhneiccjhgdaagreat", sum := "60ff9518b53068e64ec05e6c62975a8a93401f7dd8940fa8978eecefca54f994", func := "groma/gromalaw19.NetBuilds", spec := "netBuilds", inPlace := ["math/bits.Add64"], unfollowed := true, recurses := true, apart := false }
def NetBuildsSaid : Prop := netBuildsRow.holds Tryz.pinned (OpenSpec.ofChange netBuildsSpec)

/-- ITS FALSE NEIGHBOUR: 'it returns false'. Refute it at one input. -/
def netBuildsWrong : ChangeSpec := { name := "netBuilds", fn := fun _ => fun
  | [d] => { results := [.lit (.bool false)], args := [d] }
  | _ => none }
def NetBuildsWrongFalsely : Prop := netBuildsRow.holds Tryz.pinned (OpenSpec.ofChange netBuildsWrong)

/-- 'gromalaw19.NetRight': WHATEVER THE INPUT: true; the input reads as it did. -/
def netRightSpec : ChangeSpec := { name := "netRight", fn := fun _ => fun
  | [d1, d2, d3] => { results := [.lit (.bool true)], args := [d1, d2, d3] }
  | _ => none }
def netRightRow : OpenClaim := { program := "ytlkhneiccjhgdaagreat", sum := "60ff9518b53068e64ec05e6c62975a8a93401f7dd8940fa8978eecefca54f994", func := "groma/gromalaw19.NetRight", spec := "netRight", inPlace := ["math/bits.Add64"], unfollowed := true, recurses := true, apart := false }
def NetRightSaid : Prop := netRightRow.holds Tryz.pinned (OpenSpec.ofChange netRightSpec)

/-- ITS FALSE NEIGHBOUR: 'it returns false'. Refute it at one input. -/
def netRightWrong : ChangeSpec := { name := "netRight", fn := fun _ => fun
  | [d1, d2, d3] => { results := [.lit (.bool false)], args := [d1, d2, d3] }
  | _ => none }
def NetRightWrongFalsely : Prop := netRightRow.holds Tryz.pinned (OpenSpec.ofChange netRightWrong)

/-- 'gromalaw19.NetPaths': WHATEVER THE INPUT: true; the input reads as it did. -/
def netPathsSpec : ChangeSpec := { name := "netPaths", fn := fun _ => fun
  | [d] => { results := [.lit (.bool true)], args := [d] }
  | _ => none }
def netPathsRow : OpenClaim := { program := "ytlkhneiccjhgdaagreat", sum := "60ff9518b53068e64ec05e6c62975a8a93401f7dd8940fa8978eecefca54f994", func := "groma/gromalaw19.NetPaths", spec := "netPaths", inPlace := ["math/bits.Add64"], unfollowed := true, recurses := true, apart := false }
def NetPathsSaid : Prop := netPathsRow.holds Tryz.pinned (OpenSpec.ofChange netPathsSpec)

/-- ITS FALSE NEIGHBOUR: 'it returns false'. Refute it at one input. -/
def netPathsWrong : ChangeSpec := { name := "netPaths", fn := fun _ => fun
  | [d] => { results := [.lit (.bool false)], args := [d] }
  | _ => none }
def NetPathsWrongFalsely : Prop := netPathsRow.holds Tryz.pinned (OpenSpec.ofChange netPathsWrong)

/-- 'gromalaw19.NetBack': WHATEVER THE INPUT: true; the input reads as it did. -/
def netBackSpec : ChangeSpec := { name := "netBack", fn := fun _ => fun
  | [d] => { results := [.lit (.bool true)], args := [d] }
  | _ => none }
def netBackRow : OpenClaim := { program := "ytlkhneiccjhgdaagreat", sum := "60ff9518b53068e64ec05e6c62975a8a93401f7dd8940fa8978eecefca54f994", func := "groma/gromalaw19.NetBack", spec := "netBack", inPlace := ["math/bits.Add64"], unfollowed := true, recurses := true, apart := false }
def NetBackSaid : Prop := netBackRow.holds Tryz.pinned (OpenSpec.ofChange netBackSpec)

/-- ITS FALSE NEIGHBOUR: 'it returns false'. Refute it at one input. -/
def netBackWrong : ChangeSpec := { name := "netBack", fn := fun _ => fun
  | [d] => { results := [.lit (.bool false)], args := [d] }
  | _ => none }
def NetBackWrongFalsely : Prop := netBackRow.holds Tryz.pinned (OpenSpec.ofChange netBackWrong)

/-- 'gromalaw19.NetCounts': WHATEVER THE INPUT: true; the input reads as it did. -/
def netCountsSpec : ChangeSpec := { name := "netCounts", fn := fun _ => fun
  | [d] => { results := [.lit (.bool true)], args := [d] }
  | _ => none }
def netCountsRow : OpenClaim := { program := "ytlkhneiccjhgdaagreat", sum := "60ff9518b53068e64ec05e6c62975a8a93401f7dd8940fa8978eecefca54f994", func := "groma/gromalaw19.NetCounts", spec := "netCounts", inPlace := ["math/bits.Add64"], unfollowed := true, recurses := true, apart := false }
def NetCountsSaid : Prop := netCountsRow.holds Tryz.pinned (OpenSpec.ofChange netCountsSpec)

/-- ITS FALSE NEIGHBOUR: 'it returns false'. Refute it at one input. -/
def netCountsWrong : ChangeSpec := { name := "netCounts", fn := fun _ => fun
  | [d] => { results := [.lit (.bool false)], args := [d] }
  | _ => none }
def NetCountsWrongFalsely : Prop := netCountsRow.holds Tryz.pinned (OpenSpec.ofChange netCountsWrong)

/-- 'gromalaw19.NetFinds': WHATEVER THE INPUT: true; the input reads as it did. -/
def netFindsSpec : ChangeSpec := { name := "netFinds", fn := fun _ => fun
  | [d1, d2, d3] => { results := [.lit (.bool true)], args := [d1, d2, d3] }
  | _ => none }
def netFindsRow : OpenClaim := { program := "ytlkhneiccjhgdaagreat", sum := "60ff9518b53068e64ec05e6c62975a8a93401f7dd8940fa8978eecefca54f994", func := "groma/gromalaw19.NetFinds", spec := "netFinds", inPlace := ["math/bits.Add64"], unfollowed := true, recurses := true, apart := false }
def NetFindsSaid : Prop := netFindsRow.holds Tryz.pinned (OpenSpec.ofChange netFindsSpec)

/-- ITS FALSE NEIGHBOUR: 'it returns false'. Refute it at one input. -/
def netFindsWrong : ChangeSpec := { name := "netFinds", fn := fun _ => fun
  | [d1, d2, d3] => { results := [.lit (.bool false)], args := [d1, d2, d3] }
  | _ => none }
def NetFindsWrongFalsely : Prop := netFindsRow.holds Tryz.pinned (OpenSpec.ofChange netFindsWrong)

/- THE SECOND FORM. 'bulk': how many values and letters a reading holds, each counted each time it is reached (what is shared counts as often as it is met; a slice's spare places count too). A statement '..UptoSaid' is the law's where the arguments, and the package variables that the reading takes, are together of bulk at most 1048576: NARROWER than '..Said'. Prove '..Said' where nothing that the law and all that it calls make is longer than what came in: it says more and counts as full. Else prove '..UptoSaid'. A law counts once. -/
mutual
def uptoBulk {H : Type} : DataW H → Nat
  | .lit (.string bytes) => bytes.length + 1
  | .lit _ => 1
  | .nil => 1
  | .ptr d => uptoBulk d + 1
  | .slice elems spare => uptoBulkAll elems + uptoBulkAll spare + 1
  | .agg parts => uptoBulkAll parts + 1
  | .iface _ d => uptoBulk d + 1
  | .map entries => uptoBulkEntries entries + 1
  | .held _ => 1
def uptoBulkAll {H : Type} : List (DataW H) → Nat
  | [] => 0
  | d :: r => uptoBulk d + uptoBulkAll r
def uptoBulkEntries {H : Type} : List (Lit × DataW H) → Nat
  | [] => 0
  | x :: r => uptoBulkEntry x + uptoBulkEntries r
def uptoBulkEntry {H : Type} : Lit × DataW H → Nat
  | (.string bytes, d) => bytes.length + uptoBulk d + 1
  | (_, d) => uptoBulk d + 1
 end
def uptoSmall : (H : Type) → List (DataW H) → Bool := fun _ ds => decide (uptoBulkAll ds ≤ 1048576)
def OpenSpec.upto (s : _root_.Go.ChangeSpec) : _root_.Go.OpenSpec := { _root_.Go.OpenSpec.ofChange s with cond := some uptoSmall }

/-- 'gromalaw18.RoundsRun', WHERE WHAT IT READS IS OF BULK AT MOST 1048576: true; the input reads as it did. -/
def roundsRunUptoRow : OpenClaim := { program := "ytlkhneiccjhgdaagreat", sum := "60ff9518b53068e64ec05e6c62975a8a93401f7dd8940fa8978eecefca54f994", func := "groma/gromalaw18.RoundsRun", spec := "roundsRun", inPlace := ["math/bits.Add64"], unfollowed := true, recurses := true, apart := false, narrowed := true }
def RoundsRunUptoSaid : Prop := roundsRunUptoRow.holds Tryz.pinned (OpenSpec.upto roundsRunSpec)

/-- 'gromalaw18.RoundsApart', WHERE WHAT IT READS IS OF BULK AT MOST 1048576: true; the input reads as it did. -/
def roundsApartUptoRow : OpenClaim := { program := "ytlkhneiccjhgdaagreat", sum := "60ff9518b53068e64ec05e6c62975a8a93401f7dd8940fa8978eecefca54f994", func := "groma/gromalaw18.RoundsApart", spec := "roundsApart", inPlace := ["math/bits.Add64"], unfollowed := true, recurses := true, apart := false, narrowed := true }
def RoundsApartUptoSaid : Prop := roundsApartUptoRow.holds Tryz.pinned (OpenSpec.upto roundsApartSpec)

/-- 'gromalaw18.RoundsNext', WHERE WHAT IT READS IS OF BULK AT MOST 1048576: true; the input reads as it did. -/
def roundsNextUptoRow : OpenClaim := { program := "ytlkhneiccjhgdaagreat", sum := "60ff9518b53068e64ec05e6c62975a8a93401f7dd8940fa8978eecefca54f994", func := "groma/gromalaw18.RoundsNext", spec := "roundsNext", inPlace := ["math/bits.Add64"], unfollowed := true, recurses := true, apart := false, narrowed := true }
def RoundsNextUptoSaid : Prop := roundsNextUptoRow.holds Tryz.pinned (OpenSpec.upto roundsNextSpec)

/-- 'gromalaw18.RoundsFixed', WHERE WHAT IT READS IS OF BULK AT MOST 1048576: true; the input reads as it did. -/
def roundsFixedUptoRow : OpenClaim := { program := "ytlkhneiccjhgdaagreat", sum := "60ff9518b53068e64ec05e6c62975a8a93401f7dd8940fa8978eecefca54f994", func := "groma/gromalaw18.RoundsFixed", spec := "roundsFixed", inPlace := ["math/bits.Add64"], unfollowed := true, recurses := true, apart := false, narrowed := true }
def RoundsFixedUptoSaid : Prop := roundsFixedUptoRow.holds Tryz.pinned (OpenSpec.upto roundsFixedSpec)

/-- 'gromalaw18.RoundsNear', WHERE WHAT IT READS IS OF BULK AT MOST 1048576: true; the input reads as it did. -/
def roundsNearUptoRow : OpenClaim := { program := "ytlkhneiccjhgdaagreat", sum := "60ff9518b53068e64ec05e6c62975a8a93401f7dd8940fa8978eecefca54f994", func := "groma/gromalaw18.RoundsNear", spec := "roundsNear", inPlace := ["math/bits.Add64"], unfollowed := true, recurses := true, apart := false, narrowed := true }
def RoundsNearUptoSaid : Prop := roundsNearUptoRow.holds Tryz.pinned (OpenSpec.upto roundsNearSpec)

/-- 'gromalaw19.NetTags', WHERE WHAT IT READS IS OF BULK AT MOST 1048576: true; the input reads as it did. -/
def netTagsUptoRow : OpenClaim := { program := "ytlkhneiccjhgdaagreat", sum := "60ff9518b53068e64ec05e6c62975a8a93401f7dd8940fa8978eecefca54f994", func := "groma/gromalaw19.NetTags", spec := "netTags", inPlace := ["math/bits.Add64"], unfollowed := true, recurses := true, apart := false, narrowed := true }
def NetTagsUptoSaid : Prop := netTagsUptoRow.holds Tryz.pinned (OpenSpec.upto netTagsSpec)

/-- 'gromalaw19.NetBuilds', WHERE WHAT IT READS IS OF BULK AT MOST 1048576: true; the input reads as it did. -/
def netBuildsUptoRow : OpenClaim := { program := "ytlkhneiccjhgdaagreat", sum := "60ff9518b53068e64ec05e6c62975a8a93401f7dd8940fa8978eecefca54f994", func := "groma/gromalaw19.NetBuilds", spec := "netBuilds", inPlace := ["math/bits.Add64"], unfollowed := true, recurses := true, apart := false, narrowed := true }
def NetBuildsUptoSaid : Prop := netBuildsUptoRow.holds Tryz.pinned (OpenSpec.upto netBuildsSpec)

/-- 'gromalaw19.NetRight', WHERE WHAT IT READS IS OF BULK AT MOST 1048576: true; the input reads as it did. -/
def netRightUptoRow : OpenClaim := { program := "ytlkhneiccjhgdaagreat", sum := "60ff9518b53068e64ec05e6c62975a8a93401f7dd8940fa8978eecefca54f994", func := "groma/gromalaw19.NetRight", spec := "netRight", inPlace := ["math/bits.Add64"], unfollowed := true, recurses := true, apart := false, narrowed := true }
def NetRightUptoSaid : Prop := netRightUptoRow.holds Tryz.pinned (OpenSpec.upto netRightSpec)

/-- 'gromalaw19.NetPaths', WHERE WHAT IT READS IS OF BULK AT MOST 1048576: true; the input reads as it did. -/
def netPathsUptoRow : OpenClaim := { program := "ytlkhneiccjhgdaagreat", sum := "60ff9518b53068e64ec05e6c62975a8a93401f7dd8940fa8978eecefca54f994", func := "groma/gromalaw19.NetPaths", spec := "netPaths", inPlace := ["math/bits.Add64"], unfollowed := true, recurses := true, apart := false, narrowed := true }
def NetPathsUptoSaid : Prop := netPathsUptoRow.holds Tryz.pinned (OpenSpec.upto netPathsSpec)

/-- 'gromalaw19.NetBack', WHERE WHAT IT READS IS OF BULK AT MOST 1048576: true; the input reads as it did. -/
def netBackUptoRow : OpenClaim := { program := "ytlkhneiccjhgdaagreat", sum := "60ff9518b53068e64ec05e6c62975a8a93401f7dd8940fa8978eecefca54f994", func := "groma/gromalaw19.NetBack", spec := "netBack", inPlace := ["math/bits.Add64"], unfollowed := true, recurses := true, apart := false, narrowed := true }
def NetBackUptoSaid : Prop := netBackUptoRow.holds Tryz.pinned (OpenSpec.upto netBackSpec)

/-- 'gromalaw19.NetCounts', WHERE WHAT IT READS IS OF BULK AT MOST 1048576: true; the input reads as it did. -/
def netCountsUptoRow : OpenClaim := { program := "ytlkhneiccjhgdaagreat", sum := "60ff9518b53068e64ec05e6c62975a8a93401f7dd8940fa8978eecefca54f994", func := "groma/gromalaw19.NetCounts", spec := "netCounts", inPlace := ["math/bits.Add64"], unfollowed := true, recurses := true, apart := false, narrowed := true }
def NetCountsUptoSaid : Prop := netCountsUptoRow.holds Tryz.pinned (OpenSpec.upto netCountsSpec)

/-- 'gromalaw19.NetFinds', WHERE WHAT IT READS IS OF BULK AT MOST 1048576: true; the input reads as it did. -/
def netFindsUptoRow : OpenClaim := { program := "ytlkhneiccjhgdaagreat", sum := "60ff9518b53068e64ec05e6c62975a8a93401f7dd8940fa8978eecefca54f994", func := "groma/gromalaw19.NetFinds", spec := "netFinds", inPlace := ["math/bits.Add64"], unfollowed := true, recurses := true, apart := false, narrowed := true }
def NetFindsUptoSaid : Prop := netFindsUptoRow.holds Tryz.pinned (OpenSpec.upto netFindsSpec)

end Rows
end Go.Proofs.YtlkhneiccjhgdaaGreat
