/- Collections that stand one in the other: read as deep as 32, and no deeper. No walk. -/
import Derived.Test.YtkhceimlheginaaNests
set_option linter.unusedVariables false
set_option linter.unusedSimpArgs false
namespace Go.Proofs.Ytkhceimlheginaa
theorem nest46 : nestOk 46 = true := by kernel_rfl
theorem nest47 : nestOk 47 = true := by kernel_rfl
theorem nest48 : nestOk 48 = true := by kernel_rfl
theorem nest49 : nestOk 49 = true := by kernel_rfl
theorem nest50 : nestOk 50 = true := by kernel_rfl
theorem nest51 : nestOk 51 = true := by kernel_rfl
theorem nest52 : nestOk 52 = true := by kernel_rfl
theorem nest53 : nestOk 53 = true := by kernel_rfl
theorem nest54 : nestOk 54 = true := by kernel_rfl
theorem nest55 : nestOk 55 = true := by kernel_rfl
theorem nest56 : nestOk 56 = true := by kernel_rfl
theorem nest57 : nestOk 57 = true := by kernel_rfl
theorem nest58 : nestOk 58 = true := by kernel_rfl
theorem nest59 : nestOk 59 = true := by kernel_rfl
theorem nest60 : nestOk 60 = true := by kernel_rfl
theorem nests_ok (n : Nat) (h : n ≤ 60) : nestOk n = true := by
  rcases Nat.lt_or_ge n 31 with h1 | h1
  · rcases Nat.lt_or_ge n 16 with h1 | h1
    · rcases Nat.lt_or_ge n 8 with h1 | h1
      · rcases Nat.lt_or_ge n 4 with h1 | h1
        · rcases Nat.lt_or_ge n 2 with h1 | h1
          · rcases Nat.lt_or_ge n 1 with h1 | h1
            · obtain rfl : n = 0 := by omega
              exact nest0
            · obtain rfl : n = 1 := by omega
              exact nest1
          · rcases Nat.lt_or_ge n 3 with h1 | h1
            · obtain rfl : n = 2 := by omega
              exact nest2
            · obtain rfl : n = 3 := by omega
              exact nest3
        · rcases Nat.lt_or_ge n 6 with h1 | h1
          · rcases Nat.lt_or_ge n 5 with h1 | h1
            · obtain rfl : n = 4 := by omega
              exact nest4
            · obtain rfl : n = 5 := by omega
              exact nest5
          · rcases Nat.lt_or_ge n 7 with h1 | h1
            · obtain rfl : n = 6 := by omega
              exact nest6
            · obtain rfl : n = 7 := by omega
              exact nest7
      · rcases Nat.lt_or_ge n 12 with h1 | h1
        · rcases Nat.lt_or_ge n 10 with h1 | h1
          · rcases Nat.lt_or_ge n 9 with h1 | h1
            · obtain rfl : n = 8 := by omega
              exact nest8
            · obtain rfl : n = 9 := by omega
              exact nest9
          · rcases Nat.lt_or_ge n 11 with h1 | h1
            · obtain rfl : n = 10 := by omega
              exact nest10
            · obtain rfl : n = 11 := by omega
              exact nest11
        · rcases Nat.lt_or_ge n 14 with h1 | h1
          · rcases Nat.lt_or_ge n 13 with h1 | h1
            · obtain rfl : n = 12 := by omega
              exact nest12
            · obtain rfl : n = 13 := by omega
              exact nest13
          · rcases Nat.lt_or_ge n 15 with h1 | h1
            · obtain rfl : n = 14 := by omega
              exact nest14
            · obtain rfl : n = 15 := by omega
              exact nest15
    · rcases Nat.lt_or_ge n 24 with h1 | h1
      · rcases Nat.lt_or_ge n 20 with h1 | h1
        · rcases Nat.lt_or_ge n 18 with h1 | h1
          · rcases Nat.lt_or_ge n 17 with h1 | h1
            · obtain rfl : n = 16 := by omega
              exact nest16
            · obtain rfl : n = 17 := by omega
              exact nest17
          · rcases Nat.lt_or_ge n 19 with h1 | h1
            · obtain rfl : n = 18 := by omega
              exact nest18
            · obtain rfl : n = 19 := by omega
              exact nest19
        · rcases Nat.lt_or_ge n 22 with h1 | h1
          · rcases Nat.lt_or_ge n 21 with h1 | h1
            · obtain rfl : n = 20 := by omega
              exact nest20
            · obtain rfl : n = 21 := by omega
              exact nest21
          · rcases Nat.lt_or_ge n 23 with h1 | h1
            · obtain rfl : n = 22 := by omega
              exact nest22
            · obtain rfl : n = 23 := by omega
              exact nest23
      · rcases Nat.lt_or_ge n 28 with h1 | h1
        · rcases Nat.lt_or_ge n 26 with h1 | h1
          · rcases Nat.lt_or_ge n 25 with h1 | h1
            · obtain rfl : n = 24 := by omega
              exact nest24
            · obtain rfl : n = 25 := by omega
              exact nest25
          · rcases Nat.lt_or_ge n 27 with h1 | h1
            · obtain rfl : n = 26 := by omega
              exact nest26
            · obtain rfl : n = 27 := by omega
              exact nest27
        · rcases Nat.lt_or_ge n 30 with h1 | h1
          · rcases Nat.lt_or_ge n 29 with h1 | h1
            · obtain rfl : n = 28 := by omega
              exact nest28
            · obtain rfl : n = 29 := by omega
              exact nest29
          · obtain rfl : n = 30 := by omega
            exact nest30
  · rcases Nat.lt_or_ge n 46 with h1 | h1
    · rcases Nat.lt_or_ge n 39 with h1 | h1
      · rcases Nat.lt_or_ge n 35 with h1 | h1
        · rcases Nat.lt_or_ge n 33 with h1 | h1
          · rcases Nat.lt_or_ge n 32 with h1 | h1
            · obtain rfl : n = 31 := by omega
              exact nest31
            · obtain rfl : n = 32 := by omega
              exact nest32
          · rcases Nat.lt_or_ge n 34 with h1 | h1
            · obtain rfl : n = 33 := by omega
              exact nest33
            · obtain rfl : n = 34 := by omega
              exact nest34
        · rcases Nat.lt_or_ge n 37 with h1 | h1
          · rcases Nat.lt_or_ge n 36 with h1 | h1
            · obtain rfl : n = 35 := by omega
              exact nest35
            · obtain rfl : n = 36 := by omega
              exact nest36
          · rcases Nat.lt_or_ge n 38 with h1 | h1
            · obtain rfl : n = 37 := by omega
              exact nest37
            · obtain rfl : n = 38 := by omega
              exact nest38
      · rcases Nat.lt_or_ge n 43 with h1 | h1
        · rcases Nat.lt_or_ge n 41 with h1 | h1
          · rcases Nat.lt_or_ge n 40 with h1 | h1
            · obtain rfl : n = 39 := by omega
              exact nest39
            · obtain rfl : n = 40 := by omega
              exact nest40
          · rcases Nat.lt_or_ge n 42 with h1 | h1
            · obtain rfl : n = 41 := by omega
              exact nest41
            · obtain rfl : n = 42 := by omega
              exact nest42
        · rcases Nat.lt_or_ge n 45 with h1 | h1
          · rcases Nat.lt_or_ge n 44 with h1 | h1
            · obtain rfl : n = 43 := by omega
              exact nest43
            · obtain rfl : n = 44 := by omega
              exact nest44
          · obtain rfl : n = 45 := by omega
            exact nest45
    · rcases Nat.lt_or_ge n 54 with h1 | h1
      · rcases Nat.lt_or_ge n 50 with h1 | h1
        · rcases Nat.lt_or_ge n 48 with h1 | h1
          · rcases Nat.lt_or_ge n 47 with h1 | h1
            · obtain rfl : n = 46 := by omega
              exact nest46
            · obtain rfl : n = 47 := by omega
              exact nest47
          · rcases Nat.lt_or_ge n 49 with h1 | h1
            · obtain rfl : n = 48 := by omega
              exact nest48
            · obtain rfl : n = 49 := by omega
              exact nest49
        · rcases Nat.lt_or_ge n 52 with h1 | h1
          · rcases Nat.lt_or_ge n 51 with h1 | h1
            · obtain rfl : n = 50 := by omega
              exact nest50
            · obtain rfl : n = 51 := by omega
              exact nest51
          · rcases Nat.lt_or_ge n 53 with h1 | h1
            · obtain rfl : n = 52 := by omega
              exact nest52
            · obtain rfl : n = 53 := by omega
              exact nest53
      · rcases Nat.lt_or_ge n 58 with h1 | h1
        · rcases Nat.lt_or_ge n 56 with h1 | h1
          · rcases Nat.lt_or_ge n 55 with h1 | h1
            · obtain rfl : n = 54 := by omega
              exact nest54
            · obtain rfl : n = 55 := by omega
              exact nest55
          · rcases Nat.lt_or_ge n 57 with h1 | h1
            · obtain rfl : n = 56 := by omega
              exact nest56
            · obtain rfl : n = 57 := by omega
              exact nest57
        · rcases Nat.lt_or_ge n 60 with h1 | h1
          · rcases Nat.lt_or_ge n 59 with h1 | h1
            · obtain rfl : n = 58 := by omega
              exact nest58
            · obtain rfl : n = 59 := by omega
              exact nest59
          · obtain rfl : n = 60 := by omega
            exact nest60
end Go.Proofs.Ytkhceimlheginaa
