/- Collections that stand one in the other: read as deep as 32, and no deeper. No walk. -/
import Derived.Test.YtkhceimlheginaaWktK
set_option linter.unusedVariables false
set_option linter.unusedSimpArgs false
namespace Go.Proofs.Ytkhceimlheginaa
def coll : Lx.Str := [71, 69, 79, 77, 69, 84, 82, 89, 67, 79, 76, 76, 69, 67, 84, 73, 79, 78, 40]
def nests (n : Nat) : Lx.Str := (List.replicate n coll).flatten ++ [80, 79, 73, 78, 84, 40, 48, 32, 49, 41] ++ List.replicate n 41
def nestOk (n : Nat) : Bool := match Wk.parse (nests n) with
  | .error k => decide (32 < n) && k == 608
  | .ok gs => decide (n ≤ 32) && gs.length == n + 1 && (match gs[n]? with | some g => g.level == n && g.kind == 1 | none => false)
theorem nest0 : nestOk 0 = true := by kernel_rfl
theorem nest1 : nestOk 1 = true := by kernel_rfl
theorem nest2 : nestOk 2 = true := by kernel_rfl
theorem nest3 : nestOk 3 = true := by kernel_rfl
theorem nest4 : nestOk 4 = true := by kernel_rfl
theorem nest5 : nestOk 5 = true := by kernel_rfl
theorem nest6 : nestOk 6 = true := by kernel_rfl
theorem nest7 : nestOk 7 = true := by kernel_rfl
theorem nest8 : nestOk 8 = true := by kernel_rfl
theorem nest9 : nestOk 9 = true := by kernel_rfl
theorem nest10 : nestOk 10 = true := by kernel_rfl
theorem nest11 : nestOk 11 = true := by kernel_rfl
theorem nest12 : nestOk 12 = true := by kernel_rfl
theorem nest13 : nestOk 13 = true := by kernel_rfl
theorem nest14 : nestOk 14 = true := by kernel_rfl
theorem nest15 : nestOk 15 = true := by kernel_rfl
theorem nest16 : nestOk 16 = true := by kernel_rfl
theorem nest17 : nestOk 17 = true := by kernel_rfl
theorem nest18 : nestOk 18 = true := by kernel_rfl
theorem nest19 : nestOk 19 = true := by kernel_rfl
theorem nest20 : nestOk 20 = true := by kernel_rfl
theorem nest21 : nestOk 21 = true := by kernel_rfl
theorem nest22 : nestOk 22 = true := by kernel_rfl
theorem nest23 : nestOk 23 = true := by kernel_rfl
theorem nest24 : nestOk 24 = true := by kernel_rfl
theorem nest25 : nestOk 25 = true := by kernel_rfl
theorem nest26 : nestOk 26 = true := by kernel_rfl
theorem nest27 : nestOk 27 = true := by kernel_rfl
theorem nest28 : nestOk 28 = true := by kernel_rfl
theorem nest29 : nestOk 29 = true := by kernel_rfl
theorem nest30 : nestOk 30 = true := by kernel_rfl
theorem nest31 : nestOk 31 = true := by kernel_rfl
theorem nest32 : nestOk 32 = true := by kernel_rfl
theorem nest33 : nestOk 33 = true := by kernel_rfl
theorem nest34 : nestOk 34 = true := by kernel_rfl
theorem nest35 : nestOk 35 = true := by kernel_rfl
theorem nest36 : nestOk 36 = true := by kernel_rfl
theorem nest37 : nestOk 37 = true := by kernel_rfl
theorem nest38 : nestOk 38 = true := by kernel_rfl
theorem nest39 : nestOk 39 = true := by kernel_rfl
theorem nest40 : nestOk 40 = true := by kernel_rfl
theorem nest41 : nestOk 41 = true := by kernel_rfl
theorem nest42 : nestOk 42 = true := by kernel_rfl
theorem nest43 : nestOk 43 = true := by kernel_rfl
theorem nest44 : nestOk 44 = true := by kernel_rfl
theorem nest45 : nestOk 45 = true := by kernel_rfl
end Go.Proofs.Ytkhceimlheginaa
