/-
  No cell of these rows narrows 'for every input' (looked for: loops, veiled, ifaces, maps, wideKeys, modest, calm, conditions, laid).
  DERIVED. THE GIVEN ROWS OF THIS SEAT. 9 by the template 'for every input the law returns true; each argument reads behind the call as it read before'; 0 by the template 'total and deterministic' (their statements: YtkhceimlheginaaTotals.lean).
  GIVEN WITH THE SEED: the statements are not yours to turn. If you find one false, say at which input.
  Laid BY PROGRAM, IN A SANDBOX (cutbox-rows.mjs): the forced cells as the released guide's own fill.sh prints them over the translation 09808abba34d05fc… (all of the seat's roots in one cut). By AI agents, Wed Nov 11 2026. No macro, syntax, notation, axiom, sorry.
-/
import Derived.Test.YtkhceimlheginaaChecked
import GoSem.Claim
import GoSem.ClaimJoined
import GoSem.ClaimMapViews
import Derived.JoinedTies
import Derived.KernelRfl
namespace Go.Proofs.Ytkhceimlheginaa
/- THE CELL 'sum', in the pinned program and in every row, IS THE sha256 OF THE DUMP (.gsa) THAT YtkhceimlheginaaProg.lean LOADS. Nothing in Lean hashes anything: it is a label: what it is worth is what the hold of that sum in a sandbox is worth. -/
noncomputable def Try.pinned : Pinned := { name := "ytkhceimlheginaa", sum := "09808abba34d05fcc315aab6fbb3be8776d8faeb0576d43c120326886120ac91", checked := Try.checked }
namespace Rows
def none {H : Type} : Left H := { results := [], args := [] }

/-- 'gromalaw09.LexTokens': WHATEVER THE INPUT: true; the input reads as it did. -/
def lexTokensSpec : ChangeSpec := { name := "lexTokens", fn := fun _ => fun
  | [d] => { results := [.lit (.bool true)], args := [d] }
  | _ => none }
def lexTokensRow : OpenClaim := { program := "ytkhceimlheginaa", sum := "09808abba34d05fcc315aab6fbb3be8776d8faeb0576d43c120326886120ac91", func := "groma/gromalaw09.LexTokens", spec := "lexTokens", inPlace := ["internal/bytealg.IndexByteString"], unfollowed := true, recurses := true, apart := false }
def LexTokensSaid : Prop := lexTokensRow.holds Try.pinned (OpenSpec.ofChange lexTokensSpec)

/-- ITS FALSE NEIGHBOUR: 'it returns false'. Refute it at one input. -/
def lexTokensWrong : ChangeSpec := { name := "lexTokens", fn := fun _ => fun
  | [d] => { results := [.lit (.bool false)], args := [d] }
  | _ => none }
def LexTokensWrongFalsely : Prop := lexTokensRow.holds Try.pinned (OpenSpec.ofChange lexTokensWrong)

/-- 'gromalaw09.LexNumbers': WHATEVER THE INPUT: true; the input reads as it did. -/
def lexNumbersSpec : ChangeSpec := { name := "lexNumbers", fn := fun _ => fun
  | [d] => { results := [.lit (.bool true)], args := [d] }
  | _ => none }
def lexNumbersRow : OpenClaim := { program := "ytkhceimlheginaa", sum := "09808abba34d05fcc315aab6fbb3be8776d8faeb0576d43c120326886120ac91", func := "groma/gromalaw09.LexNumbers", spec := "lexNumbers", inPlace := ["internal/bytealg.IndexByteString"], unfollowed := true, recurses := true, apart := false }
def LexNumbersSaid : Prop := lexNumbersRow.holds Try.pinned (OpenSpec.ofChange lexNumbersSpec)

/-- ITS FALSE NEIGHBOUR: 'it returns false'. Refute it at one input. -/
def lexNumbersWrong : ChangeSpec := { name := "lexNumbers", fn := fun _ => fun
  | [d] => { results := [.lit (.bool false)], args := [d] }
  | _ => none }
def LexNumbersWrongFalsely : Prop := lexNumbersRow.holds Try.pinned (OpenSpec.ofChange lexNumbersWrong)

/-- 'gromalaw09.LexTexts': WHATEVER THE INPUT: true; the input reads as it did. -/
def lexTextsSpec : ChangeSpec := { name := "lexTexts", fn := fun _ => fun
  | [d1, d2] => { results := [.lit (.bool true)], args := [d1, d2] }
  | _ => none }
def lexTextsRow : OpenClaim := { program := "ytkhceimlheginaa", sum := "09808abba34d05fcc315aab6fbb3be8776d8faeb0576d43c120326886120ac91", func := "groma/gromalaw09.LexTexts", spec := "lexTexts", inPlace := ["internal/bytealg.IndexByteString"], unfollowed := true, recurses := true, apart := false }
def LexTextsSaid : Prop := lexTextsRow.holds Try.pinned (OpenSpec.ofChange lexTextsSpec)

/-- ITS FALSE NEIGHBOUR: 'it returns false'. Refute it at one input. -/
def lexTextsWrong : ChangeSpec := { name := "lexTexts", fn := fun _ => fun
  | [d1, d2] => { results := [.lit (.bool false)], args := [d1, d2] }
  | _ => none }
def LexTextsWrongFalsely : Prop := lexTextsRow.holds Try.pinned (OpenSpec.ofChange lexTextsWrong)

/-- 'gromalaw09.LexAll': WHATEVER THE INPUT: true; the input reads as it did. -/
def lexAllSpec : ChangeSpec := { name := "lexAll", fn := fun _ => fun
  | [d1, d2] => { results := [.lit (.bool true)], args := [d1, d2] }
  | _ => none }
def lexAllRow : OpenClaim := { program := "ytkhceimlheginaa", sum := "09808abba34d05fcc315aab6fbb3be8776d8faeb0576d43c120326886120ac91", func := "groma/gromalaw09.LexAll", spec := "lexAll", inPlace := ["internal/bytealg.IndexByteString"], unfollowed := true, recurses := true, apart := false }
def LexAllSaid : Prop := lexAllRow.holds Try.pinned (OpenSpec.ofChange lexAllSpec)

/-- ITS FALSE NEIGHBOUR: 'it returns false'. Refute it at one input. -/
def lexAllWrong : ChangeSpec := { name := "lexAll", fn := fun _ => fun
  | [d1, d2] => { results := [.lit (.bool false)], args := [d1, d2] }
  | _ => none }
def LexAllWrongFalsely : Prop := lexAllRow.holds Try.pinned (OpenSpec.ofChange lexAllWrong)

/-- 'gromalaw11.WktParses': WHATEVER THE INPUT: true; the input reads as it did. -/
def wktParsesSpec : ChangeSpec := { name := "wktParses", fn := fun _ => fun
  | [d] => { results := [.lit (.bool true)], args := [d] }
  | _ => none }
def wktParsesRow : OpenClaim := { program := "ytkhceimlheginaa", sum := "09808abba34d05fcc315aab6fbb3be8776d8faeb0576d43c120326886120ac91", func := "groma/gromalaw11.WktParses", spec := "wktParses", inPlace := ["internal/bytealg.IndexByteString"], unfollowed := true, recurses := true, apart := false }
def WktParsesSaid : Prop := wktParsesRow.holds Try.pinned (OpenSpec.ofChange wktParsesSpec)

/-- ITS FALSE NEIGHBOUR: 'it returns false'. Refute it at one input. -/
def wktParsesWrong : ChangeSpec := { name := "wktParses", fn := fun _ => fun
  | [d] => { results := [.lit (.bool false)], args := [d] }
  | _ => none }
def WktParsesWrongFalsely : Prop := wktParsesRow.holds Try.pinned (OpenSpec.ofChange wktParsesWrong)

/-- 'gromalaw11.WktFirst': WHATEVER THE INPUT: true; the input reads as it did. -/
def wktFirstSpec : ChangeSpec := { name := "wktFirst", fn := fun _ => fun
  | [d1, d2] => { results := [.lit (.bool true)], args := [d1, d2] }
  | _ => none }
def wktFirstRow : OpenClaim := { program := "ytkhceimlheginaa", sum := "09808abba34d05fcc315aab6fbb3be8776d8faeb0576d43c120326886120ac91", func := "groma/gromalaw11.WktFirst", spec := "wktFirst", inPlace := ["internal/bytealg.IndexByteString"], unfollowed := true, recurses := true, apart := false }
def WktFirstSaid : Prop := wktFirstRow.holds Try.pinned (OpenSpec.ofChange wktFirstSpec)

/-- ITS FALSE NEIGHBOUR: 'it returns false'. Refute it at one input. -/
def wktFirstWrong : ChangeSpec := { name := "wktFirst", fn := fun _ => fun
  | [d1, d2] => { results := [.lit (.bool false)], args := [d1, d2] }
  | _ => none }
def WktFirstWrongFalsely : Prop := wktFirstRow.holds Try.pinned (OpenSpec.ofChange wktFirstWrong)

/-- 'gromalaw11.WktNests': WHATEVER THE INPUT: true; the input reads as it did. -/
def wktNestsSpec : ChangeSpec := { name := "wktNests", fn := fun _ => fun
  | [d] => { results := [.lit (.bool true)], args := [d] }
  | _ => none }
def wktNestsRow : OpenClaim := { program := "ytkhceimlheginaa", sum := "09808abba34d05fcc315aab6fbb3be8776d8faeb0576d43c120326886120ac91", func := "groma/gromalaw11.WktNests", spec := "wktNests", inPlace := ["internal/bytealg.IndexByteString"], unfollowed := true, recurses := true, apart := false }
def WktNestsSaid : Prop := wktNestsRow.holds Try.pinned (OpenSpec.ofChange wktNestsSpec)

/-- ITS FALSE NEIGHBOUR: 'it returns false'. Refute it at one input. -/
def wktNestsWrong : ChangeSpec := { name := "wktNests", fn := fun _ => fun
  | [d] => { results := [.lit (.bool false)], args := [d] }
  | _ => none }
def WktNestsWrongFalsely : Prop := wktNestsRow.holds Try.pinned (OpenSpec.ofChange wktNestsWrong)

/-- 'gromalaw11.WktWords': WHATEVER THE INPUT: true; the input reads as it did. -/
def wktWordsSpec : ChangeSpec := { name := "wktWords", fn := fun _ => fun
  | [d1, d2] => { results := [.lit (.bool true)], args := [d1, d2] }
  | _ => none }
def wktWordsRow : OpenClaim := { program := "ytkhceimlheginaa", sum := "09808abba34d05fcc315aab6fbb3be8776d8faeb0576d43c120326886120ac91", func := "groma/gromalaw11.WktWords", spec := "wktWords", inPlace := ["internal/bytealg.IndexByteString"], unfollowed := true, recurses := true, apart := false }
def WktWordsSaid : Prop := wktWordsRow.holds Try.pinned (OpenSpec.ofChange wktWordsSpec)

/-- ITS FALSE NEIGHBOUR: 'it returns false'. Refute it at one input. -/
def wktWordsWrong : ChangeSpec := { name := "wktWords", fn := fun _ => fun
  | [d1, d2] => { results := [.lit (.bool false)], args := [d1, d2] }
  | _ => none }
def WktWordsWrongFalsely : Prop := wktWordsRow.holds Try.pinned (OpenSpec.ofChange wktWordsWrong)

/-- 'gromalaw11.WktPairs': WHATEVER THE INPUT: true; the input reads as it did. -/
def wktPairsSpec : ChangeSpec := { name := "wktPairs", fn := fun _ => fun
  | [d1, d2] => { results := [.lit (.bool true)], args := [d1, d2] }
  | _ => none }
def wktPairsRow : OpenClaim := { program := "ytkhceimlheginaa", sum := "09808abba34d05fcc315aab6fbb3be8776d8faeb0576d43c120326886120ac91", func := "groma/gromalaw11.WktPairs", spec := "wktPairs", inPlace := ["internal/bytealg.IndexByteString"], unfollowed := true, recurses := true, apart := false }
def WktPairsSaid : Prop := wktPairsRow.holds Try.pinned (OpenSpec.ofChange wktPairsSpec)

/-- ITS FALSE NEIGHBOUR: 'it returns false'. Refute it at one input. -/
def wktPairsWrong : ChangeSpec := { name := "wktPairs", fn := fun _ => fun
  | [d1, d2] => { results := [.lit (.bool false)], args := [d1, d2] }
  | _ => none }
def WktPairsWrongFalsely : Prop := wktPairsRow.holds Try.pinned (OpenSpec.ofChange wktPairsWrong)

/- THE SECOND FORM. 'bulk': how many values and letters a reading holds, each counted each time it is reached (what is shared counts as often as it is met; a slice's spare places count too). A statement '..UptoSaid' is the law's where the arguments, and the package variables that the reading takes, are together of bulk at most 1048576: NARROWER than '..Said'. Prove '..Said' where nothing that the law and all that it calls make is longer than what came in: it says more and counts as full. Else prove '..UptoSaid'. A law counts once. -/
mutual
def uptoBulk {H : Type} : DataW H → Nat
  | .lit (.string bytes) => bytes.length + 1
  | .lit _ => 1
  | .nil => 1
  | .ptr d => uptoBulk d + 1
  | .slice elems spare => uptoBulkAll elems + uptoBulkAll spare + 1
  | .agg parts => uptoBulkAll parts + 1
  | .iface _ d => uptoBulk d + 1
  | .map entries => uptoBulkEntries entries + 1
  | .held _ => 1
def uptoBulkAll {H : Type} : List (DataW H) → Nat
  | [] => 0
  | d :: r => uptoBulk d + uptoBulkAll r
def uptoBulkEntries {H : Type} : List (Lit × DataW H) → Nat
  | [] => 0
  | x :: r => uptoBulkEntry x + uptoBulkEntries r
def uptoBulkEntry {H : Type} : Lit × DataW H → Nat
  | (.string bytes, d) => bytes.length + uptoBulk d + 1
  | (_, d) => uptoBulk d + 1
 end
def uptoSmall : (H : Type) → List (DataW H) → Bool := fun _ ds => decide (uptoBulkAll ds ≤ 1048576)
def OpenSpec.upto (s : _root_.Go.ChangeSpec) : _root_.Go.OpenSpec := { _root_.Go.OpenSpec.ofChange s with cond := some uptoSmall }

/-- 'gromalaw09.LexTokens', WHERE WHAT IT READS IS OF BULK AT MOST 1048576: true; the input reads as it did. -/
def lexTokensUptoRow : OpenClaim := { program := "ytkhceimlheginaa", sum := "09808abba34d05fcc315aab6fbb3be8776d8faeb0576d43c120326886120ac91", func := "groma/gromalaw09.LexTokens", spec := "lexTokens", inPlace := ["internal/bytealg.IndexByteString"], unfollowed := true, recurses := true, apart := false, narrowed := true }
def LexTokensUptoSaid : Prop := lexTokensUptoRow.holds Try.pinned (OpenSpec.upto lexTokensSpec)

/-- 'gromalaw09.LexNumbers', WHERE WHAT IT READS IS OF BULK AT MOST 1048576: true; the input reads as it did. -/
def lexNumbersUptoRow : OpenClaim := { program := "ytkhceimlheginaa", sum := "09808abba34d05fcc315aab6fbb3be8776d8faeb0576d43c120326886120ac91", func := "groma/gromalaw09.LexNumbers", spec := "lexNumbers", inPlace := ["internal/bytealg.IndexByteString"], unfollowed := true, recurses := true, apart := false, narrowed := true }
def LexNumbersUptoSaid : Prop := lexNumbersUptoRow.holds Try.pinned (OpenSpec.upto lexNumbersSpec)

/-- 'gromalaw09.LexTexts', WHERE WHAT IT READS IS OF BULK AT MOST 1048576: true; the input reads as it did. -/
def lexTextsUptoRow : OpenClaim := { program := "ytkhceimlheginaa", sum := "09808abba34d05fcc315aab6fbb3be8776d8faeb0576d43c120326886120ac91", func := "groma/gromalaw09.LexTexts", spec := "lexTexts", inPlace := ["internal/bytealg.IndexByteString"], unfollowed := true, recurses := true, apart := false, narrowed := true }
def LexTextsUptoSaid : Prop := lexTextsUptoRow.holds Try.pinned (OpenSpec.upto lexTextsSpec)

/-- 'gromalaw09.LexAll', WHERE WHAT IT READS IS OF BULK AT MOST 1048576: true; the input reads as it did. -/
def lexAllUptoRow : OpenClaim := { program := "ytkhceimlheginaa", sum := "09808abba34d05fcc315aab6fbb3be8776d8faeb0576d43c120326886120ac91", func := "groma/gromalaw09.LexAll", spec := "lexAll", inPlace := ["internal/bytealg.IndexByteString"], unfollowed := true, recurses := true, apart := false, narrowed := true }
def LexAllUptoSaid : Prop := lexAllUptoRow.holds Try.pinned (OpenSpec.upto lexAllSpec)

/-- 'gromalaw11.WktParses', WHERE WHAT IT READS IS OF BULK AT MOST 1048576: true; the input reads as it did. -/
def wktParsesUptoRow : OpenClaim := { program := "ytkhceimlheginaa", sum := "09808abba34d05fcc315aab6fbb3be8776d8faeb0576d43c120326886120ac91", func := "groma/gromalaw11.WktParses", spec := "wktParses", inPlace := ["internal/bytealg.IndexByteString"], unfollowed := true, recurses := true, apart := false, narrowed := true }
def WktParsesUptoSaid : Prop := wktParsesUptoRow.holds Try.pinned (OpenSpec.upto wktParsesSpec)

/-- 'gromalaw11.WktFirst', WHERE WHAT IT READS IS OF BULK AT MOST 1048576: true; the input reads as it did. -/
def wktFirstUptoRow : OpenClaim := { program := "ytkhceimlheginaa", sum := "09808abba34d05fcc315aab6fbb3be8776d8faeb0576d43c120326886120ac91", func := "groma/gromalaw11.WktFirst", spec := "wktFirst", inPlace := ["internal/bytealg.IndexByteString"], unfollowed := true, recurses := true, apart := false, narrowed := true }
def WktFirstUptoSaid : Prop := wktFirstUptoRow.holds Try.pinned (OpenSpec.upto wktFirstSpec)

/-- 'gromalaw11.WktNests', WHERE WHAT IT READS IS OF BULK AT MOST 1048576: true; the input reads as it did. -/
def wktNestsUptoRow : OpenClaim := { program := "ytkhceimlheginaa", sum := "09808abba34d05fcc315aab6fbb3be8776d8faeb0576d43c120326886120ac91", func := "groma/gromalaw11.WktNests", spec := "wktNests", inPlace := ["internal/bytealg.IndexByteString"], unfollowed := true, recurses := true, apart := false, narrowed := true }
def WktNestsUptoSaid : Prop := wktNestsUptoRow.holds Try.pinned (OpenSpec.upto wktNestsSpec)

/-- 'gromalaw11.WktWords', WHERE WHAT IT READS IS OF BULK AT MOST 1048576: true; the input reads as it did. -/
def wktWordsUptoRow : OpenClaim := { program := "ytkhceimlheginaa", sum := "09808abba34d05fcc315aab6fbb3be8776d8faeb0576d43c120326886120ac91", func := "groma/gromalaw11.WktWords", spec := "wktWords", inPlace := ["internal/bytealg.IndexByteString"], unfollowed := true, recurses := true, apart := false, narrowed := true }
def WktWordsUptoSaid : Prop := wktWordsUptoRow.holds Try.pinned (OpenSpec.upto wktWordsSpec)

/-- 'gromalaw11.WktPairs', WHERE WHAT IT READS IS OF BULK AT MOST 1048576: true; the input reads as it did. -/
def wktPairsUptoRow : OpenClaim := { program := "ytkhceimlheginaa", sum := "09808abba34d05fcc315aab6fbb3be8776d8faeb0576d43c120326886120ac91", func := "groma/gromalaw11.WktPairs", spec := "wktPairs", inPlace := ["internal/bytealg.IndexByteString"], unfollowed := true, recurses := true, apart := false, narrowed := true }
def WktPairsUptoSaid : Prop := wktPairsUptoRow.holds Try.pinned (OpenSpec.upto wktPairsSpec)

end Rows
end Go.Proofs.Ytkhceimlheginaa
