/- What the walk of gromaref10.Number asks. Printed by wip/genum.py. -/
import Derived.Test.YtkhpfdgkmnifcaaDoorBgH
import Derived.Test.YtkhpfdgkmnifcaaDoorDcE
set_option linter.unusedVariables false
set_option linter.unusedSimpArgs false
namespace Go.Proofs.YtkhpfdgkmnifcaaDoor
open Go.RowKit Go.Rg Bg
attribute [local go_sem] Oper.semAt_some

theorem at_len (s : ByteArray) (pre post : List UInt8) (c : UInt8) (h : s.data.toList = pre ++ c :: post) : ∃ h : pre.length < s.size, s[pre.length] = c := by
  have h1 : pre.length < s.data.toList.length := by rw [h]; simp
  have h2 : s.data.toList[pre.length]? = some c := by rw [h]; simp
  refine ⟨by rw [Lib.size_eq]; exact h1, ?_⟩
  have h3 := List.getElem?_eq_getElem h1
  rw [h3] at h2
  exact Option.some.inj h2
theorem at_mid (s : ByteArray) (pre M post : List UInt8) (h : s.data.toList = pre ++ (M ++ post)) (t : Nat) (c : UInt8) (hc : M[t]? = some c) : ∃ h : pre.length + t < s.size, s[pre.length + t] = c := by
  obtain ⟨hlt, he⟩ := List.getElem?_eq_some_iff.1 hc
  have h1 : s.data.toList = (pre ++ M.take t) ++ c :: (M.drop (t + 1) ++ post) := by
    have e2 : M.drop t = c :: M.drop (t + 1) := by rw [List.drop_eq_getElem_cons hlt, he]
    have e3 : M = M.take t ++ (c :: M.drop (t + 1)) := by rw [← e2, List.take_append_drop]
    rw [h, List.append_assoc]
    congr 1
    conv => lhs; rw [e3]
    simp
  obtain ⟨h2, h3⟩ := at_len s _ _ _ h1
  have e : (pre ++ M.take t).length = pre.length + t := by rw [List.length_append, List.length_take]; omega
  simp only [e] at h2 h3
  exact ⟨h2, h3⟩
theorem lim_nat (n k : Nat) (h : n < 10 ^ k) (hk : k ≤ 250) : ((n : Nat) : Int).natAbs < lim := by
  rw [Int.natAbs_natCast]
  have h2 : 10 ^ k ≤ 10 ^ 250 := Nat.pow_le_pow_right (by decide) hk
  have h3 : 10 ^ 250 < lim := by unfold lim; decide +kernel
  omega

end Go.Proofs.YtkhpfdgkmnifcaaDoor
